/- gimletlaw03.WordsAsked answers true of whatever it is given, and leaves it as it is, where what it is given is of bulk at most 1048576. -/
import Derived.Test.YtnhhnlbfgipebaaDoorAskedWalk
import Derived.Test.YtnhhnlbfgipebaaDoorLaidB
import Derived.Test.YtnhhnlbfgipebaaDoorCards
import Derived.Test.YtnhhnlbfgipebaaDoorTie
import Derived.Test.YtnhhnlbfgipebaaDoorRows
import Derived.ProofKit
import Derived.SizedLaws
import Derived.OpenShut
import Derived.ShutString
import Derived.JoinedCond
import Derived.ChangeOld
namespace Go.Proofs.YtnhhnlbfgipebaaDoor.wordsAsked
open Go.ChangeShapes Go.WideShapes Go.ChangeAt Go.RowKit Gim
open Go.ChangeMaps (open_string shut_string)
set_option linter.unusedVariables false

theorem own : ownKnob Tryd.prog.godebug = none := by kernel_rfl
theorem laidOut : laidOutB Tryd.prog = true := by kernel_rfl

theorem reads (os : Os) {H : Type} (enc : TypeId × Value → H) : ∃ places, DataW.whole enc Tryd.prog ((laidWorld os).forCall (fun _ _ => 0) ⟨#[], #[.agg #[.string ByteArray.empty, .string ByteArray.empty, .int .i64 0, .int .i64 0]], []⟩).memory Tryd.f3.params.toList Rows.wordsAskedSpec.vars false (#[.agg #[.string ByteArray.empty, .string ByteArray.empty, .int .i64 0, .int .i64 0]] : Array Value).toList 8 = some ([.agg [.lit (.string []), .lit (.string []), .lit (.int .i64 0), .lit (.int .i64 0)]], [], places) :=
  ⟨[], by kernel_rfl⟩
set_option maxRecDepth 100000 in
theorem lifted (os : Os) (started : os.Started) (H : Type) (enc : TypeId × Value → H) (F : Stop.Interp) :
    ReturnsInHanded {} Tryd.checked os 3 .any ((Rows.OpenSpec.upto Rows.wordsAskedSpec).preRow enc Tryd.prog Tryd.f3 Rows.wordsAskedUptoRow.domain false Rows.wordsAskedUptoRow.laid) (((Rows.OpenSpec.upto Rows.wordsAskedSpec).at F).post enc Tryd.prog Tryd.f3 false true false false) := by
  obtain ⟨places, hx⟩ := reads os enc
  refine returnsInHanded_of_row (C := Tryd.checked) (s := (Rows.OpenSpec.upto Rows.wordsAskedSpec)) own started (by kernel_rfl) Tryd.func3
    (witness_row_atRef (enc := enc) (C := Tryd.checked) false (laidWorld os) #[.agg #[.string ByteArray.empty, .string ByteArray.empty, .int .i64 0, .int .i64 0]] rfl (by kernel_rfl) (by kernel_rfl) (by kernel_rfl)
      (OpenSpec.preRow_of_cond 8 hx (by kernel_rfl) (fun k hk => by cases hk; kernel_rfl) (by kernel_rfl) (laid_met os _))) ?_
  intro W base args ds gs before hval0 hW _ hcond hwt hL _ _
  have hT := laid_of hL
  have hk := hcond _ rfl
  have hval : ∀ (j : Nat) t v, Tryd.f3.params[j]? = some t → args[j]? = some v → Value.okWide Tryd.prog W .any base t v := hval0
  have hW' := hW
  obtain ⟨p, q, hA0, hV, rfl, hfz, hnd⟩ := hW
  have hA : DataW.TrodAll enc Tryd.prog W 0 (fun _ => true) true Tryd.f3.params.toList args.toList ds p := hA0
  rw [Tryd.params3] at hA hval
  obtain ⟨v0, vs0, d0, ds0, p0, q0, hargs, rfl, rfl, h0, r0⟩ := trodAll_cons hA
  obtain ⟨rfl, rfl, rfl⟩ := trodAll_nil r0
  obtain rfl : args = #[v0] := by cases args; simp_all
  obtain ⟨rfl, rfl⟩ := trodVars_none hV
  have k0 := h0
  have lt0 : ∀ x ∈ p0, x.block < W.heap.size := by obtain ⟨m, hm⟩ := k0; exact DataW.trod_lt m _ _ _ hm
  obtain ⟨f0_0, f0_1, f0_2, f0_3, y0_0, y0_1, y0_2, y0_3, m0, rfl, ed0, ep0, t0_0, t0_1, t0_2, t0_3⟩ := Go.Joins.open_agg4 Tryd.underlying23 (by kernel_rfl) (by kernel_rfl) (hval 0 23 v0 rfl rfl) h0
  obtain ⟨a0_0, hcs0_0, hx0_0, w0_0⟩ := DataW.trod_string Tryd.underlying9 t0_0
  obtain rfl : f0_0 = _ := by simpa using hcs0_0
  obtain ⟨a0_1, hcs0_1, hx0_1, w0_1⟩ := DataW.trod_string Tryd.underlying9 t0_1
  obtain rfl : f0_1 = _ := by simpa using hcs0_1
  obtain ⟨a0_2, hcs0_2, hx0_2, w0_2⟩ := DataW.trod_int Tryd.underlying3 t0_2
  obtain rfl : f0_2 = _ := by simpa using hcs0_2
  obtain ⟨a0_3, hcs0_3, hx0_3, w0_3⟩ := DataW.trod_int Tryd.underlying3 t0_3
  obtain rfl : f0_3 = _ := by simpa using hcs0_3
  clear hA0 hval0
  have hb := of_decide_eq_true hk
  simp only [Rows.uptoBulkAll, Rows.uptoBulk, List.append_nil, ed0, hx0_0, hx0_1, hx0_2, hx0_3, Array.length_toList] at hb
  have e0_0 : a0_0.data.size = a0_0.size := rfl
  have e0_1 : a0_1.data.size = a0_1.size := rfl
  simp only [List.append_nil] at hW'
  refine (wordsAsked_walk a0_0 a0_1 a0_2 a0_3 W (by omega) (by omega) w0_2 w0_3 hT).mono fun e W' ⟨he, bel⟩ => ?_
  subst he
  exact ⟨_, rfl, _, _, _, [], _, [], hW', trodAll_mk1 (shut_bool Tryd.underlying4 _), (trodAll_cons_mk (Below.trod laidOut (by kernel_rfl) (of_decide_eq_true (by kernel_rfl)) k0 bel lt0) trodAll_mk0), rfl, bel.frame _, fun h => by cases h⟩

theorem over : Rows.wordsAskedUptoRow.holds Tryd.pinned (Rows.OpenSpec.upto Rows.wordsAskedSpec) :=
  OpenClaim.holds_of_cond 3 Tryd.f3 rfl rfl rfl rfl rfl rfl rfl ⟨rfl, rfl, rfl, rfl, rfl⟩ rfl rfl rfl rfl rfl (by kernel_rfl) Tryd.func3 (by kernel_rfl)
    (of_decide_eq_true (by kernel_rfl)) (by unfold Func.isWrapper; first | (rw [if_pos (by decide +kernel)]; kernel_rfl) | (rw [if_neg (by decide +kernel)]; exact ⟨rfl, rfl⟩))
    (fun os started H enc _ F => by rw [OpenClaim.pre_eq_preRow]; exact lifted os started H enc F)

theorem plain (f : FuncId) (fn : Func) (hf : Tryd.pinned.checked.prog.funcNamed "gimlet/gimletlaw03.WordsAsked" = some f) (hfn : Tryd.pinned.checked.prog.funcs[f]? = some fn) :
    false = Tryd.pinned.checked.prog.looks [] ∧ ∀ (j : Nat) t, fn.params[j]? = some t → Tryd.pinned.checked.prog.wantsStandIn t = false := by
  obtain rfl : f = 3 := Option.some.inj ((show Tryd.prog.funcNamed "gimlet/gimletlaw03.WordsAsked" = some 3 by kernel_rfl).symm.trans hf) |>.symm
  obtain rfl : fn = Tryd.f3 := (Option.some.inj (Tryd.func3.symm.trans hfn)).symm
  refine ⟨by kernel_rfl, fun j t ht => ?_⟩
  rw [Tryd.params3] at ht
  match j, ht with
  | 0, ht => simp at ht; subst ht; exact (show Tryd.prog.wantsStandIn 23 = false by kernel_rfl)
  | j + 1, ht => simp at ht
theorem proved : Rows.WordsAskedUptoCardSaid :=
  Claim7.holds_tied_plain_at .later [] _ _ _ _ over (fun _ h => by cases h) (by kernel_rfl) (fun _ h => by cases h) wordsAskedUpto_row_tie rfl ⟨rfl, rfl⟩ (by kernel_rfl) rfl plain (by kernel_rfl)
end Go.Proofs.YtnhhnlbfgipebaaDoor.wordsAsked
