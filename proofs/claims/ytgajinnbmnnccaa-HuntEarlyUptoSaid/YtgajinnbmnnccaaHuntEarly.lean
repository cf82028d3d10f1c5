/- gimletlaw16.HuntEarly answers true of whatever it is given, and leaves it as it is, where what it is given is of bulk at most 1048576. -/
import Derived.Test.YtgajinnbmnnccaaHuntEarlyWalk
import Derived.Test.YtgajinnbmnnccaaRows
import Derived.ProofKit
import Derived.SizedLaws
import Derived.OpenShut
import Derived.ShutString
import Derived.JoinedCond
import Derived.ChangeOld
import Derived.Lib.SmallJoins
namespace Go.Proofs.Ytgajinnbmnnccaa.huntEarly
open Go.ChangeShapes Go.WideShapes Go.ChangeAt Go.RowKit Gim
open Go.ChangeMaps (open_string shut_string)
set_option linter.unusedVariables false

theorem own : ownKnob Try.prog.godebug = none := by kernel_rfl
theorem laidOut : laidOutB Try.prog = true := by kernel_rfl

set_option maxRecDepth 100000 in
theorem lifted (os : Os) (started : os.Started) (H : Type) (enc : TypeId × Value → H) (F : Stop.Interp) :
    ReturnsInHanded {} Try.checked os 6 .any ((Rows.OpenSpec.upto Rows.huntEarlySpec).pre6 enc Try.prog Try.f6 Rows.huntEarlyUptoRow.domain false) (((Rows.OpenSpec.upto Rows.huntEarlySpec).at F).post enc Try.prog Try.f6 false true false false) := by
  refine returnsInHanded_of_cond (C := Try.checked) (s := Rows.OpenSpec.upto Rows.huntEarlySpec) (k := Rows.uptoSmall) rfl own started (by kernel_rfl) Try.func6
    (OpenSpec.witness (enc := enc) (C := Try.checked) (s := Rows.OpenSpec.upto Rows.huntEarlySpec) (k := Rows.uptoSmall) rfl false ⟨#[], #[.agg #[.int .i64 0, .string ByteArray.empty, .int .i64 0], .string ByteArray.empty, .string ByteArray.empty], []⟩ 8 (by kernel_rfl) (by kernel_rfl) (by kernel_rfl)
      (x := ([.agg [.lit (.int .i64 0), .lit (.string []), .lit (.int .i64 0)], .lit (.string []), .lit (.string [])], [], [])) (by kernel_rfl) rfl (by kernel_rfl)) ?_
  intro W base args ds gs before hval0 hW _ hk _
  have hval : ∀ (j : Nat) t v, Try.f6.params[j]? = some t → args[j]? = some v → Value.okWide Try.prog W .any base t v := hval0
  have hW' := hW
  obtain ⟨p, q, hA0, hV, rfl, hfz, hnd⟩ := hW
  have hA : DataW.TrodAll enc Try.prog W 0 (fun _ => true) true Try.f6.params.toList args.toList ds p := hA0
  rw [Try.params6] at hA hval
  obtain ⟨v0, vs0, d0, ds0, p0, q0, hargs, rfl, rfl, h0, r0⟩ := trodAll_cons hA
  obtain ⟨v1, vs1, d1, ds1, p1, q1, rfl, rfl, rfl, h1, r1⟩ := trodAll_cons r0
  obtain ⟨v2, vs2, d2, ds2, p2, q2, rfl, rfl, rfl, h2, r2⟩ := trodAll_cons r1
  obtain ⟨rfl, rfl, rfl⟩ := trodAll_nil r2
  obtain rfl : args = #[v0, v1, v2] := by cases args; simp_all
  obtain ⟨rfl, rfl⟩ := trodVars_none hV
  have k0 := h0
  have lt0 : ∀ x ∈ p0, x.block < W.heap.size := by obtain ⟨m, hm⟩ := k0; exact DataW.trod_lt m _ _ _ hm
  obtain ⟨f0_0, f0_1, f0_2, y0_0, y0_1, y0_2, m0, rfl, ed0, ep0, t0_0, t0_1, t0_2⟩ := Go.Joins.open_agg3 Try.underlying23 (by kernel_rfl) (by kernel_rfl) (hval 0 23 v0 rfl rfl) h0
  obtain ⟨a0_0, hcs0_0, hx0_0, w0_0⟩ := DataW.trod_int Try.underlying3 t0_0
  obtain rfl : f0_0 = _ := by simpa using hcs0_0
  obtain ⟨a0_1, hcs0_1, hx0_1, w0_1⟩ := DataW.trod_string Try.underlying9 t0_1
  obtain rfl : f0_1 = _ := by simpa using hcs0_1
  obtain ⟨a0_2, hcs0_2, hx0_2, w0_2⟩ := DataW.trod_int Try.underlying3 t0_2
  obtain rfl : f0_2 = _ := by simpa using hcs0_2
  obtain ⟨a1, rfl, rfl, rfl, w1⟩ := open_string Try.underlying9 (hval 1 9 v1 rfl rfl) h1
  obtain ⟨a2, rfl, rfl, rfl, w2⟩ := open_string Try.underlying9 (hval 2 9 v2 rfl rfl) h2
  clear hA0 hval0
  have hb := of_decide_eq_true hk
  simp only [Rows.uptoBulkAll, Rows.uptoBulk, List.append_nil, ed0, hx0_0, hx0_1, hx0_2, Array.length_toList] at hb
  have e0_1 : a0_1.data.size = a0_1.size := rfl
  have e1 : a1.data.size = a1.size := rfl
  have e2 : a2.data.size = a2.size := rfl
  simp only [List.append_nil] at hW'
  refine (huntEarly_walk a0_0 a0_1 a0_2 a1 a2 W w0_0 (by omega) w0_2 (by omega) (by omega)).mono fun e W' ⟨he, bel⟩ => ?_
  subst he
  exact ⟨_, rfl, _, _, _, [], _, [], hW', trodAll_mk1 (shut_bool Try.underlying4 _), (trodAll_cons_mk (Below.trod laidOut (by kernel_rfl) (of_decide_eq_true (by kernel_rfl)) k0 bel lt0) (trodAll_cons_mk (shut_string Try.underlying9 w1) (trodAll_cons_mk (shut_string Try.underlying9 w2) trodAll_mk0))), rfl, bel.frame _, fun h => by cases h⟩

theorem over : Rows.huntEarlyUptoRow.holds Try.pinned (Rows.OpenSpec.upto Rows.huntEarlySpec) :=
  OpenClaim.holds_of_cond 6 Try.f6 rfl rfl rfl rfl rfl rfl rfl ⟨rfl, rfl, rfl, rfl, rfl⟩ rfl rfl rfl rfl rfl (by kernel_rfl) Try.func6 (by kernel_rfl)
    (of_decide_eq_true (by kernel_rfl)) (by unfold Func.isWrapper; first | (rw [if_pos (by decide +kernel)]; kernel_rfl) | (rw [if_neg (by decide +kernel)]; exact ⟨rfl, rfl⟩))
    (fun os started H enc _ F => lifted os started H enc F)

theorem proved : Rows.HuntEarlyUptoSaid := over
end Go.Proofs.Ytgajinnbmnnccaa.huntEarly
