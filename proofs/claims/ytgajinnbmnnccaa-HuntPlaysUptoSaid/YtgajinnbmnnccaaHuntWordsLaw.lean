/- What Truth says of a whole text is what layer 3 says of the two texts: plain. -/
import Derived.Test.YtgajinnbmnnccaaHuntAsked
import Derived.Test.YtgajinnbmnnccaaOrdMath
namespace Gim
theorem same_iff (l T : List Int) : (decide (l.length = T.length) && !offB l T) = decide (l = T) := by
  rw [Bool.eq_iff_iff, Bool.and_eq_true, decide_eq_true_eq, decide_eq_true_eq, Bool.not_eq_true']
  constructor
  · rintro ⟨h1, h2⟩
    refine List.ext_getElem h1 fun j hj hj2 => ?_
    unfold offB at h2
    rw [List.any_eq_false] at h2
    have := h2 j (List.mem_range.2 (by omega))
    rw [bne_iff_ne, ne_eq, Classical.not_not, gt_lt hj, gt_lt hj2] at this
    exact this.symm
  · rintro rfl
    exact ⟨rfl, by unfold offB; simp⟩
theorem begins_iff (l T : List Int) : (!offB l T && decide (T.length ≤ l.length)) = standsB l T 0 := by
  rw [Bool.eq_iff_iff, Bool.and_eq_true, decide_eq_true_eq, Bool.not_eq_true', standsB_iff]
  unfold offB
  rw [List.any_eq_false]
  constructor
  · rintro ⟨h1, h2⟩
    refine ⟨by omega, fun j hj => ?_⟩
    have := h1 j (List.mem_range.2 (by omega))
    rw [bne_iff_ne, ne_eq, Classical.not_not] at this
    rw [Nat.zero_add]
    exact this.symm
  · rintro ⟨h1, h2⟩
    refine ⟨fun j hj => ?_, by omega⟩
    have := h2 j (by have := List.mem_range.1 hj; omega)
    rw [Nat.zero_add] at this
    simp [this]
theorem findFrom_pos (l t : List Int) : ∀ (f n : Nat), (0 ≤ findFrom l t f n) ↔ ∃ q, n ≤ q ∧ q < n + f ∧ standsB l t q = true
  | 0, n => by
    simp only [findFrom]
    constructor
    · intro h; omega
    · rintro ⟨q, h1, h2, _⟩; omega
  | f + 1, n => by
    unfold findFrom
    split
    · rename_i h
      exact ⟨fun _ => ⟨n, by omega, by omega, h⟩, fun _ => by omega⟩
    · rename_i h
      rw [findFrom_pos l t f (n + 1)]
      constructor
      · rintro ⟨q, h1, h2, h3⟩; exact ⟨q, by omega, by omega, h3⟩
      · rintro ⟨q, h1, h2, h3⟩
        exact ⟨q, by
          have : q ≠ n := fun e => h (e ▸ h3)
          omega, by omega, h3⟩
theorem fnd_iff (l T : List Int) : fndB l T = decide (0 ≤ findI l T) := by
  rw [Bool.eq_iff_iff, fndB_iff, decide_eq_true_eq]
  unfold findI
  rw [findFrom_pos]
  constructor
  · rintro ⟨p, hp⟩
    exact ⟨p, by omega, by have := (standsB_iff.1 hp).1; omega, hp⟩
  · rintro ⟨q, _, _, h⟩
    exact ⟨q, h⟩
end Gim
namespace Go.Proofs.Ytgajinnbmnnccaa
open Go.RowKit Gim
/-- what layer 3 says -/
def wantB (c : Int) (N : Nat) (T l : List Int) : Bool :=
  if c = 0 then true
  else if c = 1 then ordI l T == 0
  else if c = 2 then ordI l T != 0
  else if c = 3 then standsB l T 0
  else if c = 4 then endsB l T
  else if c = 5 then decide (0 ≤ findI l T)
  else if c = 6 then decide (l.length = N)
  else if c = 7 then decide (N < l.length)
  else decide (l.length < N)
theorem told_whole (a b : Bool) : toldZ a b true = if a then 2 else 0 := by
  unfold toldZ; cases a <;> cases b <;> rfl
theorem whole_want {c : Int} {N : Nat} {s : ByteArray} {l : List Int} (h0 : 0 ≤ c) (h8 : c ≤ 8) : tB c N (askedT c s) l true = if wantB c N (rs s) l then 2 else 0 := by
  have hord : ∀ T : List Int, (ordI l T == 0) = decide (l = T) := fun T => by
    rw [Bool.eq_iff_iff, beq_iff_eq, decide_eq_true_eq]; exact ordI_zero_iff
  obtain rfl | rfl | rfl | rfl | rfl | rfl | rfl | rfl | rfl : c = 0 ∨ c = 1 ∨ c = 2 ∨ c = 3 ∨ c = 4 ∨ c = 5 ∨ c = 6 ∨ c = 7 ∨ c = 8 := by omega
  · rfl
  · show toldZ (true && decide (l.length = (rs s).length) && !offB l (rs s)) _ true = if ordI l (rs s) == 0 then 2 else 0
    rw [told_whole, Bool.true_and, same_iff, hord]
  · show 2 - toldZ (true && decide (l.length = (rs s).length) && !offB l (rs s)) _ true = if ordI l (rs s) != 0 then 2 else 0
    rw [told_whole, Bool.true_and, same_iff, bne, hord]
    by_cases h : l = rs s <;> simp [h]
  · show toldZ (!offB l (rs s) && decide ((rs s).length ≤ l.length)) _ true = if standsB l (rs s) 0 then 2 else 0
    rw [told_whole, begins_iff]
  · show toldZ (true && endsB l (rs s)) _ true = if endsB l (rs s) then 2 else 0
    rw [told_whole, Bool.true_and]
  · show toldZ (fndB l (rs s)) _ true = if decide (0 ≤ findI l (rs s)) then 2 else 0
    rw [told_whole, fnd_iff]
  · show toldZ (true && decide (l.length = N)) _ true = if decide (l.length = N) then 2 else 0
    rw [told_whole, Bool.true_and]
  · show toldZ (decide (N < l.length)) _ true = if decide (N < l.length) then 2 else 0
    rw [told_whole]
  · show toldZ (true && decide (l.length < N)) _ true = if decide (l.length < N) then 2 else 0
    rw [told_whole, Bool.true_and]
end Go.Proofs.Ytgajinnbmnnccaa
