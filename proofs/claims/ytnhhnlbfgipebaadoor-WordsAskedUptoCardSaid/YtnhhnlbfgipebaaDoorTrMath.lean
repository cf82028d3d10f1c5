/- Plain laws on Translate: no program in sight, but for how a map of numbers reads. -/
import Derived.Test.YtnhhnlbfgipebaaDoorBase
import Derived.Maps.OwnSet
namespace Gim
open Go Go.Maps

/-- what becomes of the character r -/
def tr1 (f w : List Int) (r : Int) : List Int := if r ∈ f then (if f.idxOf r < w.length then [gt w (f.idxOf r)] else []) else [r]
def trI (l f w : List Int) : List Int := l.flatMap (tr1 f w)
theorem tr1_length (f w : List Int) (r : Int) : (tr1 f w r).length ≤ 1 := by unfold tr1; split <;> (try split) <;> simp
theorem trI_length (f w : List Int) : ∀ l : List Int, (trI l f w).length ≤ l.length
  | [] => by simp [trI]
  | a :: l => by
    have := tr1_length f w a
    have ih := trI_length f w l
    simp only [trI, List.flatMap_cons, List.length_append, List.length_cons] at *
    omega
theorem trI_snoc (l f w : List Int) (r : Int) : trI (l ++ [r]) f w = trI l f w ++ tr1 f w r := by simp [trI]
theorem tr1_out {f w : List Int} {r : Int} (h : r ∉ f) : tr1 f w r = [r] := by simp [tr1, h]
theorem tr1_in {f w : List Int} {r : Int} (h : r ∈ f) (h2 : f.idxOf r < w.length) : tr1 f w r = [gt w (f.idxOf r)] := by simp [tr1, h, h2]
theorem tr1_gone {f w : List Int} {r : Int} (h : r ∈ f) (h2 : ¬ f.idxOf r < w.length) : tr1 f w r = [] := by simp [tr1, h, h2]

theorem take_snoc {l : List Int} {n : Nat} (h : n < l.length) : l.take (n + 1) = l.take n ++ [gt l n] := by
  rw [List.take_succ_eq_append_getElem h, gt_lt h]

theorem not_mem {f : List Int} {r : Int} (hn : ∀ j, j < f.length → gt f j ≠ r) : r ∉ f := fun h => by
  have h5 : f.idxOf r < f.length := List.idxOf_lt_length_of_mem h
  have := hn _ h5
  rw [gt_lt h5, List.getElem_idxOf] at this
  exact this rfl
end Gim
