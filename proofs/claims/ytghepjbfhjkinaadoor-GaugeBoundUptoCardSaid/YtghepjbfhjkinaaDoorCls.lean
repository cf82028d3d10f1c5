/- The classes of characters: their ranges and what is asked of them. Plain laws: no program in sight. -/
import Derived.Test.YtghepjbfhjkinaaDoorUtf
namespace Gim
/-- the ranges of a class, rising -/
def cls (c : Int) : List (Int × Int) :=
  if c = 0 then [(9, 10), (13, 13), (32, 55295), (57344, 65533), (65536, 1114111)]
  else if c = 1 then [(9, 10), (13, 13), (32, 32)]
  else if c = 2 then [(65, 90), (95, 95), (97, 122), (192, 214), (216, 246), (248, 767), (880, 893), (895, 8191), (8204, 8205), (8304, 8591), (11264, 12271), (12289, 55295), (63744, 64975), (65008, 65533), (65536, 983039)]
  else if c = 3 then [(45, 46), (48, 57), (65, 90), (95, 95), (97, 122), (183, 183), (192, 214), (216, 246), (248, 893), (895, 8191), (8204, 8205), (8255, 8256), (8304, 8591), (11264, 12271), (12289, 55295), (63744, 64975), (65008, 65533), (65536, 983039)]
  else if c = 4 then [(48, 57)]
  else if c = 5 then [(48, 57), (65, 70), (97, 102)]
  else []
/-- the pair at a place -/
@[irreducible] def lo (l : List (Int × Int)) (j : Nat) : Int := (l.getD j (0, 0)).1
@[irreducible] def hi (l : List (Int × Int)) (j : Nat) : Int := (l.getD j (0, 0)).2
theorem drop_lohi {l : List (Int × Int)} {k : Nat} (h : k < l.length) : l.drop k = (lo l k, hi l k) :: l.drop (k + 1) := by
  have e : l[k] = (lo l k, hi l k) := by simp [lo, hi, h]
  rw [List.drop_eq_getElem_cons h, e]
/-- rising, within the bounds of a class -/
def rising : Int → List (Int × Int) → Bool
  | _, [] => true
  | b, (x, y) :: t => decide (b < x) && decide (x ≤ y) && decide (y ≤ 1114111) && rising y t
theorem cls_rising (c : Int) : rising 0 (cls c) = true := by
  unfold cls
  repeat' split
  all_goals rfl
theorem rising_mem : ∀ {l : List (Int × Int)} {b : Int}, rising b l = true → ∀ {p}, p ∈ l → b < p.1 ∧ p.1 ≤ p.2 ∧ p.2 ≤ 1114111
  | (x, y) :: t, b, h, p, hp => by
    simp [rising] at h
    rcases List.mem_cons.1 hp with rfl | hp
    · exact ⟨h.1.1.1, h.1.1.2, h.1.2⟩
    · have := rising_mem h.2 hp; omega
theorem lohi_mem {l : List (Int × Int)} {k : Nat} (h : k < l.length) : (lo l k, hi l k) ∈ l := by
  have e : l[k] = (lo l k, hi l k) := by simp [lo, hi, h]
  exact e ▸ List.getElem_mem h
theorem lohi_range {c : Int} {k : Nat} (h : k < (cls c).length) : 0 < lo (cls c) k ∧ lo (cls c) k ≤ hi (cls c) k ∧ hi (cls c) k ≤ 1114111 := rising_mem (cls_rising c) (lohi_mem h)
theorem cls_length (c : Int) : (cls c).length ≤ 18 := by
  unfold cls
  repeat' split
  all_goals simp

/-- Is, as chars has it and as the document -/
def isF : List (Int × Int) → Int → Bool
  | [], _ => false
  | (x, y) :: t, r => if r ≤ y then decide (x ≤ r) else isF t r
def isR : List (Int × Int) → Int → Bool
  | [], _ => false
  | (x, y) :: t, r => if x ≤ r ∧ r ≤ y then true else isR t r
theorem isR_low : ∀ {l : List (Int × Int)} {b r : Int}, rising b l = true → r ≤ b → isR l r = false
  | [], _, _, _, _ => rfl
  | (x, y) :: t, b, r, h, hr => by
    simp [rising] at h
    simp only [isR]
    rw [if_neg (by omega)]
    exact isR_low h.2 (by omega)
theorem is_same : ∀ {l : List (Int × Int)} {b : Int} (r : Int), rising b l = true → isF l r = isR l r
  | [], _, _, _ => rfl
  | (x, y) :: t, b, r, h => by
    simp [rising] at h
    simp only [isF, isR]
    by_cases h1 : r ≤ y
    · by_cases h2 : x ≤ r
      · simp [h1, h2]
      · rw [if_pos h1, if_neg (by omega), isR_low h.2 h1]; simp [h2]
    · rw [if_neg h1, if_neg (by omega)]; exact is_same r h.2
theorem isF_step {l : List (Int × Int)} {k : Nat} (r : Int) (h : k < l.length) : isF (l.drop k) r = if r ≤ hi l k then decide (lo l k ≤ r) else isF (l.drop (k + 1)) r := by rw [drop_lohi h]; rfl
theorem isR_step {l : List (Int × Int)} {k : Nat} (r : Int) (h : k < l.length) : isR (l.drop k) r = if lo l k ≤ r ∧ r ≤ hi l k then true else isR (l.drop (k + 1)) r := by rw [drop_lohi h]; rfl

/-- the least one above r -/
def nextC : List (Int × Int) → Int → Int × Bool
  | [], _ => (0, false)
  | (x, y) :: t, r => if r < y then (if r < x then x else r + 1, true) else nextC t r
theorem nextC_step {l : List (Int × Int)} {k : Nat} (r : Int) (h : k < l.length) : nextC (l.drop k) r = if r < hi l k then (if r < lo l k then lo l k else r + 1, true) else nextC (l.drop (k + 1)) r := by rw [drop_lohi h]; rfl

/-- how many are r or less -/
def countC : List (Int × Int) → Int → Int
  | [], _ => 0
  | (x, y) :: t, r => (if x ≤ r then (if r ≤ y then r else y) - x + 1 else 0) + countC t r
theorem countC_step {l : List (Int × Int)} {k : Nat} (r : Int) (h : k < l.length) : countC (l.drop k) r = (if lo l k ≤ r then (if r ≤ hi l k then r else hi l k) - lo l k + 1 else 0) + countC (l.drop (k + 1)) r := by rw [drop_lohi h]; rfl
theorem countC_range : ∀ {l : List (Int × Int)} {b : Int} (r : Int), rising b l = true → 0 ≤ b → 0 ≤ countC l r ∧ countC l r ≤ 2000000 * l.length
  | [], _, _, _, _ => by simp [countC]
  | (x, y) :: t, b, r, h, hb => by
    simp [rising] at h
    have := countC_range r h.2 (by omega)
    simp only [countC, List.length_cons]
    split
    · split <;> omega
    · omega
theorem nextC_range : ∀ {l : List (Int × Int)} {b : Int} (r : Int), rising b l = true → 0 ≤ b → 0 ≤ (nextC l r).1 ∧ (nextC l r).1 ≤ 1114111
  | [], _, _, _, _ => by simp [nextC]
  | (x, y) :: t, b, r, h, hb => by
    simp [rising] at h
    have := nextC_range r h.2 (by omega)
    simp only [nextC]
    by_cases h1 : r < y
    · rw [if_pos h1]
      by_cases h2 : r < x
      · simp [h2]; omega
      · simp [h2]; omega
    · rw [if_neg h1]; exact this
theorem countC_low : ∀ {l : List (Int × Int)} {b r : Int}, rising b l = true → r ≤ b → countC l r = 0
  | [], _, _, _, _ => rfl
  | (x, y) :: t, b, r, h, hr => by
    simp [rising] at h
    simp only [countC]
    rw [if_neg (by omega), countC_low h.2 (by omega)]
    rfl
/-- Count grows by one just where Is holds -/
theorem countC_grow : ∀ {l : List (Int × Int)} {b : Int} (r : Int), rising b l = true → countC l r - countC l (r - 1) = if isR l r = true then 1 else 0
  | [], _, _, _ => by simp [countC, isR]
  | (x, y) :: t, b, r, h => by
    simp [rising] at h
    have ih := countC_grow r h.2
    simp only [countC]
    by_cases h1 : x ≤ r ∧ r ≤ y
    · have hl := isR_low h.2 h1.2
      have e1 : isR ((x, y) :: t) r = true := by simp only [isR]; rw [if_pos h1]
      rw [hl] at ih
      simp only [Bool.false_eq_true, if_false] at ih
      rw [e1, if_pos rfl, if_pos h1.1, if_pos h1.2]
      by_cases h2 : x ≤ r - 1
      · rw [if_pos h2, if_pos (show r - 1 ≤ y by omega)]; omega
      · rw [if_neg h2]; omega
    · have e1 : isR ((x, y) :: t) r = isR t r := by simp only [isR]; rw [if_neg h1]
      rw [e1, ← ih]
      by_cases h2 : x ≤ r
      · rw [if_pos h2, if_neg (show ¬ r ≤ y by omega), if_pos (show x ≤ r - 1 by omega)]
        by_cases h3 : r - 1 ≤ y
        · rw [if_pos h3]; omega
        · rw [if_neg h3]; omega
      · rw [if_neg h2, if_neg (show ¬ x ≤ r - 1 by omega)]; omega
/-- above the last one none comes -/
theorem nextC_none : ∀ {l : List (Int × Int)} {b : Int} {r : Int}, rising b l = true → (nextC l r).2 = false → (nextC l r).1 = 0 ∧ ∀ m, r ≤ m → countC l m = countC l r
  | [], _, _, _, _ => ⟨rfl, fun _ _ => rfl⟩
  | (x, y) :: t, b, r, h, hn => by
    simp [rising] at h
    simp only [nextC] at hn ⊢
    by_cases h1 : r < y
    · rw [if_pos h1] at hn; simp at hn
    · rw [if_neg h1] at hn ⊢
      obtain ⟨i1, i2⟩ := nextC_none h.2 hn
      refine ⟨i1, fun m hm => ?_⟩
      simp only [countC]
      have e : ∀ m, y ≤ m → (if m ≤ y then m else y) = y := fun m hm => by split <;> omega
      rw [i2 m hm, if_pos (show x ≤ m by omega), if_pos (show x ≤ r by omega), e _ (by omega), e _ (by omega)]
/-- the next one is above, belongs, and none lies between -/
theorem nextC_some : ∀ {l : List (Int × Int)} {b : Int} {r : Int}, rising b l = true → (nextC l r).2 = true →
    r < (nextC l r).1 ∧ b < (nextC l r).1 ∧ isR l (nextC l r).1 = true ∧ countC l (nextC l r).1 = countC l r + 1 ∧ countC l ((nextC l r).1 - 1) = countC l r
  | [], _, _, _, hn => by simp [nextC] at hn
  | (x, y) :: t, b, r, h, hn => by
    simp [rising] at h
    simp only [nextC] at hn ⊢
    by_cases h1 : r < y
    · rw [if_pos h1]
      by_cases h2 : r < x
      · simp only [if_pos h2, countC, isR]
        rw [if_pos (by omega), if_pos (by omega), if_pos (by omega), if_neg (by omega), if_neg (by omega), countC_low h.2 (show x ≤ y by omega), countC_low h.2 (show r ≤ y by omega), countC_low h.2 (show x - 1 ≤ y by omega)]
        refine ⟨h2, by omega, rfl, by omega, rfl⟩
      · simp only [if_neg h2, countC, isR]
        rw [if_pos (by omega), if_pos (by omega), if_pos (by omega), if_pos (by omega), if_pos (by omega), if_pos (by omega), if_pos (by omega), countC_low h.2 (show r + 1 ≤ y by omega), countC_low h.2 (show r ≤ y by omega), countC_low h.2 (show r + 1 - 1 ≤ y by omega)]
        refine ⟨by omega, by omega, rfl, by omega, by omega⟩
    · rw [if_neg h1] at hn ⊢
      obtain ⟨i1, i2, i3, i4, i5⟩ := nextC_some h.2 hn
      have e : ∀ m, y ≤ m → (if m ≤ y then m else y) = y := fun m hm => by split <;> omega
      refine ⟨i1, by omega, ?_, ?_, ?_⟩
      · simp only [isR]; rw [i3]; split <;> rfl
      · simp only [countC]
        rw [i4, if_pos (show x ≤ (nextC t r).1 by omega), if_pos (show x ≤ r by omega), e _ (by omega), e _ (by omega)]; omega
      · simp only [countC]
        rw [i5, if_pos (show x ≤ (nextC t r).1 - 1 by omega), if_pos (show x ≤ r by omega), e _ (by omega), e _ (by omega)]
end Gim
