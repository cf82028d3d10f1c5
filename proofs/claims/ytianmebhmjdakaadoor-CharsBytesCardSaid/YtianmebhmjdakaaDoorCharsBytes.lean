/- gimletlaw02.CharsBytes answers true of whatever it is given, and leaves it as it is. -/
import Derived.Test.YtianmebhmjdakaaDoorCharsBytesWalk
import Derived.Test.YtianmebhmjdakaaDoorLaid
import Derived.Test.YtianmebhmjdakaaDoorCards
import Derived.Test.YtianmebhmjdakaaDoorTie
import Derived.Test.YtianmebhmjdakaaDoorRows
import Derived.ProofKit
import Derived.SizedLaws
import Derived.OpenShut
import Derived.ShutString
import Derived.JoinedCond
import Derived.ChangeOld
import Derived.Lib.SmallJoins
namespace Go.Proofs.YtianmebhmjdakaaDoor.charsBytes
open Go.ChangeShapes Go.WideShapes Go.ChangeAt Go.RowKit Gim
open Go.ChangeMaps (open_string shut_string)
set_option linter.unusedVariables false

theorem own : ownKnob Tryd.prog.godebug = none := by kernel_rfl
theorem laidOut : laidOutB Tryd.prog = true := by kernel_rfl

theorem reads (os : Os) {H : Type} (enc : TypeId × Value → H) : ∃ places, DataW.whole enc Tryd.prog ((laidWorld os).forCall (fun _ _ => 0) ⟨#[], #[.agg #[.int .i64 0, .int .i32 0, .int .i64 0, .slice none 0 0]], []⟩).memory Tryd.f10.params.toList Rows.charsBytesSpec.vars false (#[.agg #[.int .i64 0, .int .i32 0, .int .i64 0, .slice none 0 0]] : Array Value).toList 8 = some ([.agg [.lit (.int .i64 0), .lit (.int .i32 0), .lit (.int .i64 0), .nil]], [], places) :=
  ⟨[], by kernel_rfl⟩
set_option maxRecDepth 100000 in
theorem lifted (os : Os) (started : os.Started) (H : Type) (enc : TypeId × Value → H) (F : Stop.Interp) :
    ReturnsInHanded {} Tryd.checked os 10 .any ((OpenSpec.ofChange Rows.charsBytesSpec).preRow enc Tryd.prog Tryd.f10 Rows.charsBytesRow.domain false Rows.charsBytesRow.laid) (((OpenSpec.ofChange Rows.charsBytesSpec).at F).post enc Tryd.prog Tryd.f10 false true false false) := by
  obtain ⟨places, hx⟩ := reads os enc
  refine returnsInHanded_of_row (C := Tryd.checked) (s := (OpenSpec.ofChange Rows.charsBytesSpec)) own started (by kernel_rfl) Tryd.func10
    (witness_row_atRef (enc := enc) (C := Tryd.checked) false (laidWorld os) #[.agg #[.int .i64 0, .int .i32 0, .int .i64 0, .slice none 0 0]] rfl (by kernel_rfl) (by kernel_rfl) (by kernel_rfl)
      (OpenSpec.preRow_of_cond 8 hx (by kernel_rfl) (fun k hk => by cases hk) (by kernel_rfl) (laid_met os _))) ?_
  intro W base args ds gs before hval0 hW _ hcond hwt hL _ _
  have hT : Laid W := laid_of hL
  have hval : ∀ (j : Nat) t v, Tryd.f10.params[j]? = some t → args[j]? = some v → Value.okWide Tryd.prog W .any base t v := hval0
  have hW' := hW
  obtain ⟨p, q, hA0, hV, rfl, hfz, hnd⟩ := hW
  have hA : DataW.TrodAll enc Tryd.prog W 0 (fun _ => true) true Tryd.f10.params.toList args.toList ds p := hA0
  rw [Tryd.params10] at hA hval
  obtain ⟨v0, vs0, d0, ds0, p0, q0, hargs, rfl, rfl, h0, r0⟩ := trodAll_cons hA
  obtain ⟨rfl, rfl, rfl⟩ := trodAll_nil r0
  obtain rfl : args = #[v0] := by cases args; simp_all
  obtain ⟨rfl, rfl⟩ := trodVars_none hV
  have k0 := h0
  have lt0 : ∀ x ∈ p0, x.block < W.heap.size := by obtain ⟨m, hm⟩ := k0; exact DataW.trod_lt m _ _ _ hm
  obtain ⟨f0_0, f0_1, f0_2, f0_3, y0_0, y0_1, y0_2, y0_3, m0, rfl, ed0, ep0, t0_0, t0_1, t0_2, t0_3⟩ := Go.Joins.open_agg4 Tryd.underlying45 (by kernel_rfl) (by kernel_rfl) (hval 0 45 v0 rfl rfl) h0
  obtain ⟨a0_0, hcs0_0, hx0_0, w0_0⟩ := DataW.trod_int Tryd.underlying3 t0_0
  obtain rfl : f0_0 = _ := by simpa using hcs0_0
  obtain ⟨a0_1, hcs0_1, hx0_1, w0_1⟩ := DataW.trod_int Tryd.underlying21 t0_1
  obtain rfl : f0_1 = _ := by simpa using hcs0_1
  obtain ⟨a0_2, hcs0_2, hx0_2, w0_2⟩ := DataW.trod_int Tryd.underlying3 t0_2
  obtain rfl : f0_2 = _ := by simpa using hcs0_2
  obtain ⟨a0_3, len0_3, cap0_3, z0_3, ef0_3, w0_3, n0_3, u0_3, bk0_3⟩ : ∃ a len cap zs, f0_3 = .slice a len cap ∧ Rd W .u8 a len cap zs ∧ (a = none → len = 0 ∧ cap = 0) ∧ (∀ x ∈ zs, (Lit.int .u8 x).wf = true) ∧ (len = 0 ∨ ∃ es sp, y0_3.1 = .slice es sp ∧ len ≤ es.length + sp.length ∧ cap = es.length + sp.length) := by
    rcases open_ints Tryd.underlying41 Tryd.underlying5 (by kernel_rfl) t0_3 with ⟨hcs, _⟩ | ⟨x, l, c, zs, hcs, _, hl, hm, hz, hx, hcell, hwz⟩
    · exact ⟨none, 0, 0, [], by simpa using hcs, ⟨rfl, by omega, by unfold maxLen; omega, fun j hj => by omega⟩, fun _ => ⟨rfl, rfl⟩, fun _ h => (by cases h), .inl rfl⟩
    · simp only [if_true] at hz
      exact ⟨_, l, c, _, by simpa using hcs, rd_of_cells hl hm (by omega) hcell, fun h => (by cases h), fun y hy => hwz y (List.mem_of_mem_take hy), .inr ⟨_, _, by rw [hx], by simp [lits]; omega, by simp [lits]; omega⟩⟩
  subst ef0_3
  have sz0_3 : len0_3 ≤ 140737488351232 := by
    rcases bk0_3 with h | ⟨es, sp, h, hl, _⟩
    · omega
    · have h1 := List.all_eq_true.1 hwt _ (DataW.weights_mem_each (j := 0) rfl rfl ((es.length + sp.length) * Tryd.checked.prog.bytesOf 5) (by rw [ed0]; simp [DataW.weights, DataW.weightsEach, show Tryd.checked.prog.underlying 45 = _ from Tryd.underlying45, show Tryd.checked.prog.underlying 41 = _ from Tryd.underlying41, hx0_0, hx0_1, hx0_2, h]))
      rw [show Tryd.checked.prog.bytesOf 5 = 1 from by kernel_rfl] at h1
      unfold reachBytes at h1
      simp at h1
      omega
  clear hA0 hval0
  simp only [List.append_nil] at hW'
  refine (charsBytes_walk a0_0 a0_1 a0_2 a0_3 len0_3 cap0_3 z0_3 W w0_0 w0_1 w0_2 w0_3 n0_3 u0_3 sz0_3 hT).mono fun e W' ⟨he, bel⟩ => ?_
  subst he
  exact ⟨_, rfl, _, _, _, [], _, [], hW', trodAll_mk1 (shut_bool Tryd.underlying4 _), (trodAll_cons_mk (Below.trod laidOut (by kernel_rfl) (of_decide_eq_true (by kernel_rfl)) k0 bel lt0) trodAll_mk0), rfl, bel.frame _, fun h => by cases h⟩

theorem over : Rows.charsBytesRow.holds Tryd.pinned (OpenSpec.ofChange Rows.charsBytesSpec) :=
  OpenClaim.holds_of_cond 10 Tryd.f10 rfl rfl rfl rfl rfl rfl rfl ⟨rfl, rfl, rfl, rfl, rfl⟩ rfl rfl rfl rfl rfl (by kernel_rfl) Tryd.func10 (by kernel_rfl)
    (of_decide_eq_true (by kernel_rfl)) (by unfold Func.isWrapper; first | (rw [if_pos (by decide +kernel)]; kernel_rfl) | (rw [if_neg (by decide +kernel)]; exact ⟨rfl, rfl⟩))
    (fun os started H enc _ F => by rw [OpenClaim.pre_eq_preRow]; exact lifted os started H enc F)

theorem plain (f : FuncId) (fn : Func) (hf : Tryd.pinned.checked.prog.funcNamed "gimlet/gimletlaw02.CharsBytes" = some f) (hfn : Tryd.pinned.checked.prog.funcs[f]? = some fn) :
    false = Tryd.pinned.checked.prog.looks [] ∧ ∀ (j : Nat) t, fn.params[j]? = some t → Tryd.pinned.checked.prog.wantsStandIn t = false := by
  obtain rfl : f = 10 := Option.some.inj ((show Tryd.prog.funcNamed "gimlet/gimletlaw02.CharsBytes" = some 10 by kernel_rfl).symm.trans hf) |>.symm
  obtain rfl : fn = Tryd.f10 := (Option.some.inj (Tryd.func10.symm.trans hfn)).symm
  refine ⟨by kernel_rfl, fun j t ht => ?_⟩
  rw [Tryd.params10] at ht
  match j, ht with
  | 0, ht => simp at ht; subst ht; exact (show Tryd.prog.wantsStandIn 45 = false by kernel_rfl)
  | j + 1, ht => simp at ht
theorem proved : Rows.CharsBytesCardSaid :=
  Claim7.holds_tied_plain_at .later [] _ _ _ _ over (fun _ h => by cases h) (by kernel_rfl) (fun _ h => by cases h) charsBytes_row_tie rfl ⟨rfl, rfl⟩ (by kernel_rfl) rfl plain (by kernel_rfl)
end Go.Proofs.YtianmebhmjdakaaDoor.charsBytes
