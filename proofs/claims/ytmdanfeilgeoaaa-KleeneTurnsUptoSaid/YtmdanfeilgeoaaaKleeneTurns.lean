/- gimletlaw14.KleeneTurns answers true of whatever it is given, and leaves it as it is, where what it is given is of bulk at most 1048576. -/
import Derived.Test.YtmdanfeilgeoaaaKTurns
import Derived.Test.YtmdanfeilgeoaaaKThree
import Derived.Lib.SmallJoins
import Derived.Test.YtmdanfeilgeoaaaRows
import Derived.ProofKit
import Derived.SizedLaws
import Derived.OpenShut
import Derived.ShutString
import Derived.JoinedCond
import Derived.ChangeOld
namespace Go.Proofs.Ytmdanfeilgeoaaa.kleeneTurns
open Go.ChangeShapes Go.WideShapes Go.ChangeAt Go.RowKit Gim
open Go.ChangeMaps (open_string shut_string)
set_option linter.unusedVariables false

theorem own : ownKnob Try.prog.godebug = none := by kernel_rfl
theorem laidOut : laidOutB Try.prog = true := by kernel_rfl

theorem bulk_pos {H : Type} (d : DataW H) : 1 ≤ Rows.uptoBulk d := by
  cases d with
  | lit l => cases l <;> simp [Rows.uptoBulk]
  | _ => simp [Rows.uptoBulk]
theorem bulkAll_len {H : Type} : ∀ l : List (DataW H), l.length ≤ Rows.uptoBulkAll l
  | [] => Nat.zero_le _
  | d :: r => by
    have h1 := bulk_pos d
    have h2 := bulkAll_len r
    simp only [Rows.uptoBulkAll, List.length_cons]
    omega

set_option maxRecDepth 100000 in
theorem lifted (os : Os) (started : os.Started) (H : Type) (enc : TypeId × Value → H) (F : Stop.Interp) :
    ReturnsInHanded {} Try.checked os 4 .any ((Rows.OpenSpec.upto Rows.kleeneTurnsSpec).pre6 enc Try.prog Try.f4 Rows.kleeneTurnsUptoRow.domain false) (((Rows.OpenSpec.upto Rows.kleeneTurnsSpec).at F).post enc Try.prog Try.f4 false true false false) := by
  refine returnsInHanded_of_cond (C := Try.checked) (s := Rows.OpenSpec.upto Rows.kleeneTurnsSpec) (k := Rows.uptoSmall) rfl own started (by kernel_rfl) Try.func4
    (OpenSpec.witness (enc := enc) (C := Try.checked) (s := Rows.OpenSpec.upto Rows.kleeneTurnsSpec) (k := Rows.uptoSmall) rfl false ⟨#[], #[.agg #[.int .i64 0, .int .i64 0, .int .i64 0, .slice none 0 0, .int .i64 0, .int .i64 0, .int .i64 0, .slice none 0 0, .int .i64 0, .int .i64 0, .int .i64 0, .slice none 0 0, .slice none 0 0]], []⟩ 8 (by kernel_rfl) (by kernel_rfl) (by kernel_rfl)
      (x := ([.agg [.agg [.lit (.int .i64 0), .lit (.int .i64 0), .lit (.int .i64 0), .nil], .agg [.lit (.int .i64 0), .lit (.int .i64 0), .lit (.int .i64 0), .nil], .agg [.lit (.int .i64 0), .lit (.int .i64 0), .lit (.int .i64 0), .nil], .nil]], [], [])) (by kernel_rfl) rfl (by kernel_rfl)) ?_
  intro W base args ds gs before hval0 hW _ hk _
  have hval : ∀ (j : Nat) t v, Try.f4.params[j]? = some t → args[j]? = some v → Value.okWide Try.prog W .any base t v := hval0
  have hW' := hW
  obtain ⟨p, q, hA0, hV, rfl, hfz, hnd⟩ := hW
  have hA : DataW.TrodAll enc Try.prog W 0 (fun _ => true) true Try.f4.params.toList args.toList ds p := hA0
  rw [Try.params4] at hA hval
  obtain ⟨v0, vs0, d0, ds0, p0, q0, hargs, rfl, rfl, h0, r0⟩ := trodAll_cons hA
  obtain ⟨rfl, rfl, rfl⟩ := trodAll_nil r0
  obtain rfl : args = #[v0] := by cases args; simp_all
  obtain ⟨rfl, rfl⟩ := trodVars_none hV
  have k0 := h0
  have lt0 : ∀ x ∈ p0, x.block < W.heap.size := by obtain ⟨m, hm⟩ := k0; exact DataW.trod_lt m _ _ _ hm
  obtain ⟨op1, v1, x1, gs1, a1, n1, cap1, op2, v2, x2, gs2, a2, n2, cap2, op3, v3, x3, gs3, a3, n3, cap3, va, vn, vc, vs, rfl, F1, F2, F3, w1, n0, u1, bk⟩ := open_three (hval 0 44 v0 rfl rfl) h0
  clear hA0 hval0
  have hb := of_decide_eq_true hk
  have bd : vn ≤ Rows.uptoBulk d0 := by
    rcases bk with h | ⟨e0, e1, e2, es, sp, h, hl⟩
    · omega
    · have h1 := bulkAll_len es
      have h2 := bulkAll_len sp
      rw [h]
      simp only [Rows.uptoBulk, Rows.uptoBulkAll]
      omega
  simp only [Rows.uptoBulkAll, List.append_nil] at hb
  simp only [List.append_nil] at hW'
  refine (turns_walk op1 v1 x1 gs1 a1 n1 cap1 op2 v2 x2 gs2 a2 n2 cap2 op3 v3 x3 gs3 a3 n3 cap3 va vn vc vs W F1 F2 F3 w1 n0 u1 (by omega)).mono fun e W' ⟨he, bel⟩ => ?_
  subst he
  exact ⟨_, rfl, _, _, _, [], _, [], hW', trodAll_mk1 (shut_bool Try.underlying4 _), (trodAll_cons_mk (Below.trod laidOut (by kernel_rfl) (of_decide_eq_true (by kernel_rfl)) k0 bel lt0) trodAll_mk0), rfl, bel.frame _, fun h => by cases h⟩

theorem over : Rows.kleeneTurnsUptoRow.holds Try.pinned (Rows.OpenSpec.upto Rows.kleeneTurnsSpec) :=
  OpenClaim.holds_of_cond 4 Try.f4 rfl rfl rfl rfl rfl rfl rfl ⟨rfl, rfl, rfl, rfl, rfl⟩ rfl rfl rfl rfl rfl (by kernel_rfl) Try.func4 (by kernel_rfl)
    (of_decide_eq_true (by kernel_rfl)) (by unfold Func.isWrapper; first | (rw [if_pos (by decide +kernel)]; kernel_rfl) | (rw [if_neg (by decide +kernel)]; exact ⟨rfl, rfl⟩))
    (fun os started H enc _ F => lifted os started H enc F)

theorem proved : Rows.KleeneTurnsUptoSaid := over
end Go.Proofs.Ytmdanfeilgeoaaa.kleeneTurns
