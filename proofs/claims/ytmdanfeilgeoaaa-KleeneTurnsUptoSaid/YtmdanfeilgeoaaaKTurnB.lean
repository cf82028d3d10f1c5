/- What gimletlaw14.KleeneTurns asks of formulas put together: plain laws. -/
import Derived.Test.YtmdanfeilgeoaaaKEvals
namespace Gim
open Go Go.RowKit Go.Sort Go.Proofs Go.Lib
def chkG (vs : List Int) : Int := if goodL vs = true then 0 else 6
theorem chk2_isB {vs : List Int} {f : Fm} (h : isB f = true) : chk2 vs f = chkG vs := by
  unfold chk2 chkE chkG
  rw [if_pos h]
theorem chkG_cases (vs : List Int) : chkG vs = 0 ∨ chkG vs = 6 := by
  unfold chkG
  split
  · exact .inl rfl
  · exact .inr rfl
theorem chkG_good {vs : List Int} (h : chkG vs = 0) : goodB vs := by
  unfold chkG at h
  by_cases k : goodL vs = true
  · exact (goodL_iff vs).1 k
  · rw [if_neg k] at h
    cases h
theorem isB_and {x y z : Fm} (hx : isB x = true) (hy : isB y = true) (hz : isB z = true) : isB (.mk 2 0 0 [x, y, z]) = true := by simp [isB, isL, okB, hx, hy, hz]
theorem isB_two {x y : Fm} (hx : isB x = true) (hy : isB y = true) : isB (.mk 2 0 0 [x, y]) = true := by simp [isB, isL, okB, hx, hy]
theorem isB_not {x : Fm} (hx : isB x = true) : isB (.mk 4 0 0 [x]) = true := by simp [isB, isL, okB, hx]
theorem isB_or {x y z : Fm} (hx : isB x = true) (hy : isB y = true) (hz : isB z = true) : isB (.mk 3 0 0 [x, y, z]) = true := by simp [isB, isL, okB, hx, hy, hz]
theorem and_three (a b c : Int) : andF [andF [c, a], b, a] = andF [a, b, c] := by
  have ha := seenB_range a
  have hb := seenB_range b
  have hc := seenB_range c
  have h1 := and_rng [c, a]
  have g1 := fun k (hk : k ≤ 2) => and_ge_iff [andF [c, a], b, a] k hk
  have g2 := fun k (hk : k ≤ 2) => and_ge_iff [a, b, c] k hk
  have g3 := fun k (hk : k ≤ 2) => and_ge_iff [c, a] k hk
  simp only [List.mem_cons, List.not_mem_nil, or_false, forall_eq_or_imp, forall_eq] at g1 g2 g3
  rw [seen_id h1] at g1
  have r1 := and_rng [andF [c, a], b, a]
  have r2 := and_rng [a, b, c]
  have e1 := (g1 _ r1.2).1 (Int.le_refl _)
  have e2 := (g2 _ r2.2).1 (Int.le_refl _)
  have e3 := (g3 _ (Int.le_trans e1.1 h1.2 |> fun _ => r1.2)).1 e1.1
  have e4 := (g3 _ r2.2).2 ⟨e2.2.2, e2.1⟩
  have f1 := (g2 _ r1.2).2 ⟨e3.2, e1.2.1, e3.1⟩
  have f2 := (g1 _ r2.2).2 ⟨e4, e2.2.1, e2.1⟩
  omega
theorem eval_and (vs : List Int) (gs : List Fm) : evalF vs (.mk 2 0 0 gs) = andF (gs.map (evalF vs)) := by
  unfold evalF
  rw [if_neg (by omega), if_neg (by omega), if_neg (by omega), if_pos rfl, evalL_map]
theorem eval_or (vs : List Int) (gs : List Fm) : evalF vs (.mk 3 0 0 gs) = orF (gs.map (evalF vs)) := by
  unfold evalF
  rw [if_neg (by omega), if_neg (by omega), if_neg (by omega), if_neg (by omega), evalL_map]
theorem eval_neg (vs : List Int) (f : Fm) : evalF vs (.mk 4 0 0 [f]) = 2 - seenB (evalF vs f) := by
  conv => lhs; unfold evalF
  rw [if_neg (by omega), if_neg (by omega), if_pos rfl]
  rfl
theorem eval_grouped (vs : List Int) (x y z : Fm) : evalF vs (.mk 2 0 0 [.mk 2 0 0 [z, x], y, x]) = evalF vs (.mk 2 0 0 [x, y, z]) := by
  rw [eval_and, eval_and]
  simp only [List.map_cons, List.map_nil]
  rw [eval_and]
  exact and_three _ _ _
theorem eval_turned (vs : List Int) (x y z : Fm) : evalF vs (.mk 3 0 0 [.mk 4 0 0 [x], .mk 4 0 0 [y], .mk 4 0 0 [z]]) = 2 - seenB (evalF vs (.mk 2 0 0 [x, y, z])) := by
  rw [eval_or, eval_and]
  simp only [List.map_cons, List.map_nil, eval_neg]
  rw [de_morgan]
  rfl
theorem simp_join {op : Int} (h : op = 2 ∨ op = 3) (vs : List Int) (gs : List Fm) : simpF vs (.mk op 0 0 gs) = joinF op (gs.map (simpF vs)) := by
  unfold simpF
  rw [if_neg (by omega), if_neg (by omega), if_neg (by omega), simpL_map]
theorem simp_grouped {vs : List Int} (hv : goodB vs) {x y z : Fm} (hx : isB x = true) (hy : isB y = true) (hz : isB z = true) : simpF vs (.mk 2 0 0 [.mk 2 0 0 [z, x], y, x]) = simpF vs (.mk 2 0 0 [x, y, z]) := by
  rw [simp_join (.inl rfl), simp_join (.inl rfl)]
  simp only [List.map_cons, List.map_nil]
  rw [simp_join (.inl rfl)]
  exact join_grouped (.inl rfl) (simp_nf hv x hx) (simp_nf hv y hy) (simp_nf hv z hz)
theorem simp_twice {vs : List Int} (hv : goodB vs) {x : Fm} (hx : isB x = true) : simpF vs (.mk 4 0 0 [.mk 4 0 0 [x]]) = simpF vs x := by
  rw [simpF_not, simpF_not]
  exact not_not (simp_nf hv x hx)
end Gim
