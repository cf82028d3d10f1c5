/- The walk of words.Reverse. -/
import Derived.Test.YtkhejkfjhddobaaGreatDoorKmpM
import Derived.Test.YtkhejkfjhddobaaGreatDoorUtfM
import Derived.Maps.OwnSet
section
namespace Gim
/-- l with its first i and its last i places exchanged -/
def revT (l : List Int) (i : Nat) : List Int := (List.range l.length).map fun j => if j < i ∨ l.length ≤ j + i then gt l (l.length - 1 - j) else gt l j
theorem revT_length (l : List Int) (i : Nat) : (revT l i).length = l.length := by simp [revT]
theorem revT_get {l : List Int} {i j : Nat} (h : j < l.length) : (revT l i)[j]? = some (if j < i ∨ l.length ≤ j + i then gt l (l.length - 1 - j) else gt l j) := by simp [revT, h]
theorem revT_gt {l : List Int} {i j : Nat} (h : j < l.length) (h1 : i ≤ j) (h2 : j + i < l.length) : gt (revT l i) j = gt l j := by
  unfold gt
  rw [revT_get h, if_neg (by omega)]
  rfl
theorem revT_zero (l : List Int) : revT l 0 = l := by
  refine gt_ext (revT_length l 0) fun j hj => ?_
  rw [revT_length] at hj
  exact revT_gt hj (by omega) (by omega)
theorem revT_step {l : List Int} {i : Nat} (h : i + i + 1 < l.length) : ((revT l i).set i (gt l (l.length - 1 - i))).set (l.length - 1 - i) (gt l i) = revT l (i + 1) := by
  apply List.ext_getElem?
  intro j
  by_cases hj : j < l.length
  · rw [List.getElem?_set, List.getElem?_set, revT_get hj, revT_get hj]
    simp only [List.length_set, revT_length]
    by_cases h1 : l.length - 1 - i = j
    · rw [if_pos h1, if_pos (by omega), if_pos (by omega)]
      rw [show l.length - 1 - j = i by omega]
    · rw [if_neg h1]
      by_cases h2 : i = j
      · subst h2
        rw [if_pos rfl, if_pos (by omega), if_pos (by omega)]
      · rw [if_neg h2]
        by_cases h3 : j < i ∨ l.length ≤ j + i
        · rw [if_pos h3, if_pos (by omega)]
        · rw [if_neg h3, if_neg (by omega)]
  · rw [List.getElem?_eq_none (by simp [revT_length]; omega), List.getElem?_eq_none (by simp [revT_length]; omega)]
theorem revT_done {l : List Int} {i : Nat} (h : l.length ≤ i + i + 1) : revT l i = l.reverse := by
  refine gt_ext (by simp [revT_length]) fun j hj => ?_
  rw [revT_length] at hj
  have hr : gt l.reverse j = gt l (l.length - 1 - j) := by
    unfold gt
    rw [List.getElem?_reverse hj]
  rw [hr]
  unfold gt
  rw [revT_get hj]
  by_cases h3 : j < i ∨ l.length ≤ j + i
  · rw [if_pos h3]; rfl
  · rw [if_neg h3, show l.length - 1 - j = j by omega]; rfl
end Gim
namespace Go.Proofs.YtkhejkfjhddobaaGreatDoor
open Go.RowKit Gim

end Go.Proofs.YtkhejkfjhddobaaGreatDoor

end

section
namespace Gim
open Go Go.Maps

/-- what becomes of the character r -/
def tr1 (f w : List Int) (r : Int) : List Int := if r ∈ f then (if f.idxOf r < w.length then [gt w (f.idxOf r)] else []) else [r]
def trI (l f w : List Int) : List Int := l.flatMap (tr1 f w)
theorem tr1_length (f w : List Int) (r : Int) : (tr1 f w r).length ≤ 1 := by unfold tr1; split <;> (try split) <;> simp
theorem trI_length (f w : List Int) : ∀ l : List Int, (trI l f w).length ≤ l.length
  | [] => by simp [trI]
  | a :: l => by
    have := tr1_length f w a
    have ih := trI_length f w l
    simp only [trI, List.flatMap_cons, List.length_append, List.length_cons] at *
    omega
theorem trI_snoc (l f w : List Int) (r : Int) : trI (l ++ [r]) f w = trI l f w ++ tr1 f w r := by simp [trI]
theorem tr1_out {f w : List Int} {r : Int} (h : r ∉ f) : tr1 f w r = [r] := by simp [tr1, h]
theorem tr1_in {f w : List Int} {r : Int} (h : r ∈ f) (h2 : f.idxOf r < w.length) : tr1 f w r = [gt w (f.idxOf r)] := by simp [tr1, h, h2]
theorem tr1_gone {f w : List Int} {r : Int} (h : r ∈ f) (h2 : ¬ f.idxOf r < w.length) : tr1 f w r = [] := by simp [tr1, h, h2]

theorem take_snoc {l : List Int} {n : Nat} (h : n < l.length) : l.take (n + 1) = l.take n ++ [gt l n] := by
  rw [List.take_succ_eq_append_getElem h, gt_lt h]

/-- the map holds, of each character of f, the number of the first place where it stands -/
def MapIs {H : Type} (D : DataW H) (f : List Int) : Prop :=
  IsMap D ∧ ∀ r : Int, has D (.int .i32 r) = decide (r ∈ f) ∧ (r ∈ f → ∀ z, D.atKey (.int .i32 r) z = .lit (.int .i64 (f.idxOf r : Nat)))
theorem mapIs_nil {H : Type} : MapIs (H := H) (.map []) [] := ⟨isMap_empty, fun r => ⟨by simp [has_eq], fun h => by simp at h⟩⟩
theorem mapIs_old {H : Type} {D : DataW H} {f : List Int} {x : Int} (h : MapIs D f) (hx : x ∈ f) : MapIs D (f ++ [x]) := by
  refine ⟨h.1, fun r => ?_⟩
  obtain ⟨h1, h2⟩ := h.2 r
  have hm : r ∈ f ++ [x] ↔ r ∈ f := by
    simp only [List.mem_append, List.mem_singleton]
    constructor
    · rintro (h | rfl)
      · exact h
      · exact hx
    · exact .inl
  refine ⟨by rw [h1]; simp only [hm], fun hr z => ?_⟩
  have hr' := hm.1 hr
  rw [h2 hr' z, List.idxOf_append, if_pos hr']
theorem mapIs_new {H : Type} {D : DataW H} {f : List Int} {x : Int} (h : MapIs D f) (hx : x ∉ f) : MapIs (D.put (.int .i32 x) (.lit (.int .i64 (f.length : Nat)))) (f ++ [x]) := by
  refine ⟨h.1.put _ _, fun r => ?_⟩
  by_cases hrx : r = x
  · subst hrx
    refine ⟨by rw [has_put_same h.1 (k := .int .i32 r) (show True from trivial)]; simp, fun _ z => ?_⟩
    rw [atKey_put_same h.1 (k := .int .i32 r) (show True from trivial), List.idxOf_append, if_neg hx]
    simp
  · obtain ⟨h1, h2⟩ := h.2 r
    have hne : (Lit.int .i32 r) ≠ (Lit.int .i32 x) := by simpa using hrx
    have hm : r ∈ f ++ [x] ↔ r ∈ f := by simp [hrx]
    refine ⟨by rw [has_put_other hne, h1]; simp only [hm], fun hr z => ?_⟩
    have hr' := hm.1 hr
    rw [atKey_put_other hne, h2 hr' z, List.idxOf_append, if_pos hr']

/-- the last place down to i where r stands, looked for from the end: -1 till found -/
theorem idxOf_eq {f : List Int} {r : Int} {i : Nat} (hi : i < f.length) (he : gt f i = r) (hn : ∀ j, j < i → gt f j ≠ r) : f.idxOf r = i := by
  have h1 : f[i] = r := by rw [← gt_lt hi]; exact he
  have h2 : r ∈ f := h1 ▸ List.getElem_mem hi
  have h3 : f.idxOf r ≤ i := by
    rcases Nat.lt_or_ge i (f.idxOf r) with h | h
    · have h4 := List.not_of_lt_findIdx (p := (· == r)) (xs := f) (i := i) h
      simp [h1] at h4
    · exact h
  have h5 : f.idxOf r < f.length := List.idxOf_lt_length_of_mem h2
  rcases Nat.lt_or_ge (f.idxOf r) i with h | h
  · have := hn _ h
    rw [gt_lt h5, List.getElem_idxOf] at this
    exact absurd rfl this
  · omega
theorem not_mem {f : List Int} {r : Int} (hn : ∀ j, j < f.length → gt f j ≠ r) : r ∉ f := fun h => by
  have h5 : f.idxOf r < f.length := List.idxOf_lt_length_of_mem h
  have := hn _ h5
  rw [gt_lt h5, List.getElem_idxOf] at this
  exact this rfl
end Gim

end

section
namespace Go.Proofs.YtkhejkfjhddobaaGreatDoor
open Go.RowKit Gim Go.Maps

theorem keyLaw : Keyed Tryz.prog 21 := int_keyed Tryz.underlying21
theorem zeroInt (w : World) : (zeroValue 3).run Tryz.prog w = .ok (.int .i64 0) w := by kernel_rfl

/-- the last places, from m on, have been looked through for r: at is the first of them where it stands, or -1 -/
def Sought (f : List Int) (r : Int) (m : Nat) (at' : Int) : Prop :=
  (at' = -1 ∧ ∀ j, m ≤ j → j < f.length → gt f j ≠ r) ∨ ∃ p : Nat, at' = p ∧ m ≤ p ∧ p < f.length ∧ gt f p = r ∧ ∀ j, m ≤ j → j < p → gt f j ≠ r

end Go.Proofs.YtkhejkfjhddobaaGreatDoor

end

