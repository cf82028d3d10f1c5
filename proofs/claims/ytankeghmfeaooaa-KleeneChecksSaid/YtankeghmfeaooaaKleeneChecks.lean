/- gimletlaw14.KleeneChecks answers true of whatever it is given, and leaves it as it is. -/
import Derived.Test.YtankeghmfeaooaaKChecksWalk
import Derived.Test.YtankeghmfeaooaaKHanded
import Derived.Lib.SmallJoins
import Derived.Test.YtankeghmfeaooaaRows
import Derived.ProofKit
import Derived.SizedLaws
import Derived.OpenShut
import Derived.ShutString
import Derived.JoinedCond
import Derived.ChangeOld
namespace Go.Proofs.Ytankeghmfeaooaa.kleeneChecks
open Go.ChangeShapes Go.WideShapes Go.ChangeAt Go.RowKit Gim
open Go.ChangeMaps (open_string shut_string)
set_option linter.unusedVariables false

theorem own : ownKnob Try.prog.godebug = none := by kernel_rfl
theorem laidOut : laidOutB Try.prog = true := by kernel_rfl

set_option maxRecDepth 100000 in
theorem lifted (os : Os) (started : os.Started) (H : Type) (enc : TypeId × Value → H) :
    ReturnsInHanded {} Try.checked os 3 .any (Rows.kleeneChecksSpec.pre6 enc Try.prog Try.f3 Rows.kleeneChecksRow.domain false) (Rows.kleeneChecksSpec.post enc Try.prog Try.f3 false true false false) := by
  refine returnsInHanded_of_change (C := Try.checked) own started (by kernel_rfl) Try.func3
    (ChangeSpec.witness6 (enc := enc) (C := Try.checked) false ⟨#[], #[.agg #[.int .i64 0, .int .i64 0, .int .i64 0, .slice none 0 0]], []⟩ 8 (by kernel_rfl) (by kernel_rfl) (by kernel_rfl) (by kernel_rfl)) ?_
  intro W base args ds gs before hval0 hW _ _
  have hval : ∀ (j : Nat) t v, Try.f3.params[j]? = some t → args[j]? = some v → Value.okWide Try.prog W .any base t v := hval0
  have hW' := hW
  obtain ⟨p, q, hA0, hV, rfl, hfz, hnd⟩ := hW
  have hA : DataW.TrodAll enc Try.prog W 0 (fun _ => true) true Try.f3.params.toList args.toList ds p := hA0
  rw [Try.params3] at hA hval
  obtain ⟨v0, vs0, d0, ds0, p0, q0, hargs, rfl, rfl, h0, r0⟩ := trodAll_cons hA
  obtain ⟨rfl, rfl, rfl⟩ := trodAll_nil r0
  obtain rfl : args = #[v0] := by cases args; simp_all
  obtain ⟨rfl, rfl⟩ := trodVars_none hV
  have k0 := h0
  have lt0 : ∀ x ∈ p0, x.block < W.heap.size := by obtain ⟨m, hm⟩ := k0; exact DataW.trod_lt m _ _ _ hm
  obtain ⟨f0_0, f0_1, f0_2, f0_3, y0_0, y0_1, y0_2, y0_3, m0, rfl, _, _, t0_0, t0_1, t0_2, t0_3⟩ := Go.Joins.open_agg4 Try.underlying26 (by kernel_rfl) (by kernel_rfl) (hval 0 26 v0 rfl rfl) h0
  obtain ⟨a0_0, hcs0_0, _, _⟩ := DataW.trod_int Try.underlying22 t0_0
  obtain rfl : f0_0 = _ := by simpa using hcs0_0
  obtain ⟨a0_1, hcs0_1, _, _⟩ := DataW.trod_int Try.underlying23 t0_1
  obtain rfl : f0_1 = _ := by simpa using hcs0_1
  obtain ⟨a0_2, hcs0_2, _, _⟩ := DataW.trod_int Try.underlying3 t0_2
  obtain rfl : f0_2 = _ := by simpa using hcs0_2
  obtain ⟨z0, a0, len0, cap0, hcs0_3, w0⟩ := open_forms _ _ _ t0_3
  obtain rfl : f0_3 = _ := by simpa using hcs0_3
  clear hA0 hval0
  simp only [List.append_nil] at hW'
  refine (kchecks a0_0 a0_1 a0_2 z0 a0 len0 cap0 W w0).mono fun e W' ⟨he, bel⟩ => ?_
  subst he
  exact ⟨_, rfl, _, _, _, [], _, [], hW', trodAll_mk1 (shut_bool Try.underlying4 _), (trodAll_cons_mk (Below.trod laidOut (by kernel_rfl) (of_decide_eq_true (by kernel_rfl)) k0 bel lt0) trodAll_mk0), rfl, bel.frame _, fun h => by cases h⟩

theorem over : Rows.kleeneChecksRow.holds Try.pinned (OpenSpec.ofChange Rows.kleeneChecksSpec) :=
  OpenClaim.holds_of_wide 3 Try.f3 rfl rfl rfl rfl rfl rfl rfl ⟨rfl, rfl, rfl, rfl, rfl⟩ rfl rfl rfl rfl rfl (by kernel_rfl) Try.func3 (by kernel_rfl)
    (of_decide_eq_true (by kernel_rfl)) (by unfold Func.isWrapper; first | (rw [if_pos (by decide +kernel)]; kernel_rfl) | (rw [if_neg (by decide +kernel)]; exact ⟨rfl, rfl⟩))
    (fun os started H enc _ => lifted os started H enc)

theorem proved : Rows.KleeneChecksSaid := over
end Go.Proofs.Ytankeghmfeaooaa.kleeneChecks
