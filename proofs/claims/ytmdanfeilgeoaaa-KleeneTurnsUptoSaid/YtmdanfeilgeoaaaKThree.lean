/- A struct of three formulas and a list that was handed in. -/
import Derived.Test.YtmdanfeilgeoaaaKHanded
import Derived.OpenShut
import Derived.ProofKit
namespace Gim
open Go Go.RowKit
theorem array13 {α : Type} {a : Array α} (h : a.size = 13) : ∃ c0 c1 c2 c3 c4 c5 c6 c7 c8 c9 c10 c11 c12, a = #[c0, c1, c2, c3, c4, c5, c6, c7, c8, c9, c10, c11, c12] := by
  obtain ⟨l⟩ := a
  match l, h with
  | [c0, c1, c2, c3, c4, c5, c6, c7, c8, c9, c10, c11, c12], _ => exact ⟨c0, c1, c2, c3, c4, c5, c6, c7, c8, c9, c10, c11, c12, rfl⟩
end Gim
namespace Go.Proofs.Ytmdanfeilgeoaaa
open Go.RowKit Gim Go.WideShapes Go.ChangeShapes Go.ChangeAt
section
variable {H : Type} {enc : TypeId × Value → H} {W : World}
set_option maxRecDepth 100000 in
theorem open_three {r : Reach} {b0 : Nat} {v : Value} {d : DataW H} {p : List MemPlace} (hv : Value.okWide Try.prog W r b0 44 v) (h : DataW.Trod enc Try.prog W 0 (fun _ => true) true 44 v d p) :
    ∃ (op1 v1 x1 : Int) (gs1 : List Fm) (a1 : Option Addr) (n1 cap1 : Nat) (op2 v2 x2 : Int) (gs2 : List Fm) (a2 : Option Addr) (n2 cap2 : Nat) (op3 v3 x3 : Int) (gs3 : List Fm) (a3 : Option Addr) (n3 cap3 : Nat) (va : Option Addr) (vn vc : Nat) (vs : List Int),
      v = .agg #[.int .i64 op1, .int .i64 v1, .int .i64 x1, .slice a1 n1 cap1, .int .i64 op2, .int .i64 v2, .int .i64 x2, .slice a2 n2 cap2, .int .i64 op3, .int .i64 v3, .int .i64 x3, .slice a3 n3 cap3, .slice va vn vc] ∧
      FitS W gs1 a1 n1 cap1 ∧ FitS W gs2 a2 n2 cap2 ∧ FitS W gs3 a3 n3 cap3 ∧ Rd W .i64 va vn vc vs ∧ (va = none → vn = 0 ∧ vc = 0) ∧ (∀ x ∈ vs, (Lit.int .i64 x).wf = true) ∧ (vn = 0 ∨ ∃ d0 d1 d2 es sp, d = .agg [d0, d1, d2, .slice es sp] ∧ vn ≤ es.length + sp.length) := by
  obtain ⟨cs, rfl, hsz⟩ := okWide_struct Try.underlying44 hv
  obtain ⟨c0, c1, c2, c3, c4, c5, c6, c7, c8, c9, c10, c11, c12, rfl⟩ := array13 (hsz.trans (by kernel_rfl))
  obtain ⟨fuel, hf⟩ := h
  obtain ⟨y0, y1, y2, y3, n, hx, _, h0, h1, h2, h3⟩ := Go.Joins.trod_struct4 Try.underlying44 hf
  have e4 : Try.prog.cellsOf 26 = 4 := by kernel_rfl
  have e1 : Try.prog.cellsOf 27 = 1 := by kernel_rfl
  have k0 : DataW.trod enc Try.prog W 0 (fun _ => true) true n 26 [c0, c1, c2, c3] = some y0 := by simpa [e4, Value.cells] using h0
  have k1 : DataW.trod enc Try.prog W 0 (fun _ => true) true n 26 [c4, c5, c6, c7] = some y1 := by simpa [e4, Value.cells] using h1
  have k2 : DataW.trod enc Try.prog W 0 (fun _ => true) true n 26 [c8, c9, c10, c11] = some y2 := by simpa [e4, Value.cells] using h2
  have k3 : DataW.trod enc Try.prog W 0 (fun _ => true) true n 27 [c12] = some y3 := by simpa [e1, Value.cells] using h3
  obtain ⟨_, op1, v1, x1, s1, z1, _, hs1, f1⟩ := form_cells k0 rfl
  obtain ⟨_, op2, v2, x2, s2, z2, _, hs2, f2⟩ := form_cells k1 rfl
  obtain ⟨_, op3, v3, x3, s3, z3, _, hs3, f3⟩ := form_cells k2 rfl
  obtain ⟨gs1, a1, n1, cap1, hc1, F1⟩ := open_forms _ _ _ f1
  obtain ⟨gs2, a2, n2, cap2, hc2, F2⟩ := open_forms _ _ _ f2
  obtain ⟨gs3, a3, n3, cap3, hc3, F3⟩ := open_forms _ _ _ f3
  simp only [List.cons.injEq, and_true] at hs1 hs2 hs3 hc1 hc2 hc3
  obtain ⟨rfl, rfl, rfl, rfl⟩ := hs1
  obtain ⟨rfl, rfl, rfl, rfl⟩ := hs2
  obtain ⟨rfl, rfl, rfl, rfl⟩ := hs3
  subst hc1 hc2 hc3
  simp only [Prod.mk.injEq] at hx
  obtain ⟨va, vn, vc, vs, ef, w1, n0, u1, bk⟩ : ∃ a len cap zs, c12 = .slice a len cap ∧ Rd W .i64 a len cap zs ∧ (a = none → len = 0 ∧ cap = 0) ∧ (∀ x ∈ zs, (Lit.int .i64 x).wf = true) ∧ (len = 0 ∨ ∃ es sp, y3.1 = .slice es sp ∧ len ≤ es.length + sp.length) := by
    rcases open_ints Try.underlying27 Try.underlying23 (by kernel_rfl) k3 with ⟨hcs, _⟩ | ⟨x, l, c, zs, hcs, _, hl, hm, hz, hx, hcell, hwz⟩
    · exact ⟨none, 0, 0, [], by simpa using hcs, ⟨rfl, by omega, by unfold maxLen; omega, fun j hj => by omega⟩, fun _ => ⟨rfl, rfl⟩, fun _ h => (by cases h), .inl rfl⟩
    · simp only [if_true] at hz
      exact ⟨_, l, c, _, by simpa using hcs, rd_of_cells hl hm (by omega) hcell, fun h => (by cases h), fun y hy => hwz y (List.mem_of_mem_take hy), .inr ⟨_, _, by rw [hx], by simp [lits]; omega⟩⟩
  subst ef
  refine ⟨op1, v1, x1, gs1, a1, n1, cap1, op2, v2, x2, gs2, a2, n2, cap2, op3, v3, x3, gs3, a3, n3, cap3, va, vn, vc, vs, rfl, F1, F2, F3, w1, n0, u1, ?_⟩
  rcases bk with h | ⟨es, sp, h, hl⟩
  · exact .inl h
  · exact .inr ⟨_, _, _, es, sp, by rw [hx.1, h], hl⟩
end
end Go.Proofs.Ytmdanfeilgeoaaa
