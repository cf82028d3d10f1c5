/- gimletlaw16.HuntPlays answers true of whatever it is given, and leaves it as it is, where what it is given is of bulk at most 1048576. -/
import Derived.Test.YtgajinnbmnnccaaHuntPlaysWalk
import Derived.Test.YtgajinnbmnnccaaRows
import Derived.ProofKit
import Derived.SizedLaws
import Derived.OpenShut
import Derived.ShutString
import Derived.JoinedCond
import Derived.ChangeOld
import Derived.Lib.SmallJoins
import Derived.Test.YtgajinnbmnnccaaHandedO
namespace Go.Proofs.Ytgajinnbmnnccaa.huntPlays
open Go.ChangeShapes Go.WideShapes Go.ChangeAt Go.RowKit Gim
open Go.ChangeMaps (open_string shut_string)
set_option linter.unusedVariables false

theorem own : ownKnob Try.prog.godebug = none := by kernel_rfl
theorem laidOut : laidOutB Try.prog = true := by kernel_rfl

theorem ops_bulk {H : Type} : ∀ l : List (Int × Bool × ByteArray), l.length ≤ Rows.uptoBulkAll (l.map (opD (H := H))) ∧ (l.map (·.2.2.size)).sum ≤ Rows.uptoBulkAll (l.map (opD (H := H)))
  | [] => ⟨Nat.zero_le _, Nat.zero_le _⟩
  | x :: l => by
    have h := ops_bulk (H := H) l
    have e : x.2.2.data.toList.length = x.2.2.size := rfl
    show l.length + 1 ≤ Rows.uptoBulk (opD (H := H) x) + Rows.uptoBulkAll (l.map (opD (H := H))) ∧ (x.2.2.size + (l.map (·.2.2.size)).sum) ≤ Rows.uptoBulk (opD (H := H) x) + Rows.uptoBulkAll (l.map (opD (H := H)))
    have e2 : Rows.uptoBulk (opD (H := H) x) = 1 + (1 + (x.2.2.data.toList.length + 1 + 0)) + 1 := rfl
    omega

set_option maxRecDepth 100000 in
theorem lifted (os : Os) (started : os.Started) (H : Type) (enc : TypeId × Value → H) (F : Stop.Interp) :
    ReturnsInHanded {} Try.checked os 5 .any ((Rows.OpenSpec.upto Rows.huntPlaysSpec).pre6 enc Try.prog Try.f5 Rows.huntPlaysUptoRow.domain false) (((Rows.OpenSpec.upto Rows.huntPlaysSpec).at F).post enc Try.prog Try.f5 false true false false) := by
  refine returnsInHanded_of_cond (C := Try.checked) (s := Rows.OpenSpec.upto Rows.huntPlaysSpec) (k := Rows.uptoSmall) rfl own started (by kernel_rfl) Try.func5
    (OpenSpec.witness (enc := enc) (C := Try.checked) (s := Rows.OpenSpec.upto Rows.huntPlaysSpec) (k := Rows.uptoSmall) rfl false ⟨#[], #[.agg #[.int .i64 0, .string ByteArray.empty, .int .i64 0], .agg #[.int .i64 0, .string ByteArray.empty, .int .i64 0], .slice none 0 0], []⟩ 8 (by kernel_rfl) (by kernel_rfl) (by kernel_rfl)
      (x := ([.agg [.lit (.int .i64 0), .lit (.string []), .lit (.int .i64 0)], .agg [.lit (.int .i64 0), .lit (.string []), .lit (.int .i64 0)], .nil], [], [])) (by kernel_rfl) rfl (by kernel_rfl)) ?_
  intro W base args ds gs before hval0 hW _ hk _
  have hval : ∀ (j : Nat) t v, Try.f5.params[j]? = some t → args[j]? = some v → Value.okWide Try.prog W .any base t v := hval0
  have hW' := hW
  obtain ⟨p, q, hA0, hV, rfl, hfz, hnd⟩ := hW
  have hA : DataW.TrodAll enc Try.prog W 0 (fun _ => true) true Try.f5.params.toList args.toList ds p := hA0
  rw [Try.params5] at hA hval
  obtain ⟨v0, vs0, d0, ds0, p0, q0, hargs, rfl, rfl, h0, r0⟩ := trodAll_cons hA
  obtain ⟨v1, vs1, d1, ds1, p1, q1, rfl, rfl, rfl, h1, r1⟩ := trodAll_cons r0
  obtain ⟨v2, vs2, d2, ds2, p2, q2, rfl, rfl, rfl, h2, r2⟩ := trodAll_cons r1
  obtain ⟨rfl, rfl, rfl⟩ := trodAll_nil r2
  obtain rfl : args = #[v0, v1, v2] := by cases args; simp_all
  obtain ⟨rfl, rfl⟩ := trodVars_none hV
  have k0 := h0
  have lt0 : ∀ x ∈ p0, x.block < W.heap.size := by obtain ⟨m, hm⟩ := k0; exact DataW.trod_lt m _ _ _ hm
  obtain ⟨f0_0, f0_1, f0_2, y0_0, y0_1, y0_2, m0, rfl, ed0, ep0, t0_0, t0_1, t0_2⟩ := Go.Joins.open_agg3 Try.underlying23 (by kernel_rfl) (by kernel_rfl) (hval 0 23 v0 rfl rfl) h0
  obtain ⟨a0_0, hcs0_0, hx0_0, w0_0⟩ := DataW.trod_int Try.underlying3 t0_0
  obtain rfl : f0_0 = _ := by simpa using hcs0_0
  obtain ⟨a0_1, hcs0_1, hx0_1, w0_1⟩ := DataW.trod_string Try.underlying9 t0_1
  obtain rfl : f0_1 = _ := by simpa using hcs0_1
  obtain ⟨a0_2, hcs0_2, hx0_2, w0_2⟩ := DataW.trod_int Try.underlying3 t0_2
  obtain rfl : f0_2 = _ := by simpa using hcs0_2
  have k1 := h1
  have lt1 : ∀ x ∈ p1, x.block < W.heap.size := by obtain ⟨m, hm⟩ := k1; exact DataW.trod_lt m _ _ _ hm
  obtain ⟨f1_0, f1_1, f1_2, y1_0, y1_1, y1_2, m1, rfl, ed1, ep1, t1_0, t1_1, t1_2⟩ := Go.Joins.open_agg3 Try.underlying23 (by kernel_rfl) (by kernel_rfl) (hval 1 23 v1 rfl rfl) h1
  obtain ⟨a1_0, hcs1_0, hx1_0, w1_0⟩ := DataW.trod_int Try.underlying3 t1_0
  obtain rfl : f1_0 = _ := by simpa using hcs1_0
  obtain ⟨a1_1, hcs1_1, hx1_1, w1_1⟩ := DataW.trod_string Try.underlying9 t1_1
  obtain rfl : f1_1 = _ := by simpa using hcs1_1
  obtain ⟨a1_2, hcs1_2, hx1_2, w1_2⟩ := DataW.trod_int Try.underlying3 t1_2
  obtain rfl : f1_2 = _ := by simpa using hcs1_2
  obtain ⟨a2, len2, cap2, rfl⟩ := okWide_slice Try.underlying46 (hval 2 46 v2 rfl rfl)
  have k2 := h2
  have lt2 : ∀ x ∈ p2, x.block < W.heap.size := by obtain ⟨m, hm⟩ := k2; exact DataW.trod_lt m _ _ _ hm
  obtain ⟨z2, w2, n2, u2⟩ : ∃ zs, Od W a2 len2 cap2 zs ∧ len2 ≤ Rows.uptoBulk d2 ∧ (zs.map (·.2.2.size)).sum ≤ Rows.uptoBulk d2 := by
    obtain ⟨fuel, hf⟩ := h2
    rcases open_ops hf with hcs | ⟨x, l, c, zs, sp, hcs, hl, hm, hz, hx, hcell⟩
    · simp [Value.cells] at hcs
      obtain ⟨rfl, rfl, rfl⟩ := hcs
      exact ⟨[], ⟨rfl, by omega, by unfold maxLen; omega, fun j hj => by omega⟩, by omega, by simp⟩
    · simp [Value.cells] at hcs
      obtain ⟨rfl, rfl, rfl⟩ := hcs
      have hk2 := ops_bulk (H := H) zs
      refine ⟨zs, od_of_cells hl hm hz hcell, ?_, ?_⟩
      · rw [show d2 = _ from hx]; simp only [Rows.uptoBulk]; omega
      · rw [show d2 = _ from hx]; simp only [Rows.uptoBulk]; omega
  clear hA0 hval0
  have hb := of_decide_eq_true hk
  simp only [Rows.uptoBulkAll, Rows.uptoBulk, List.append_nil, ed0, hx0_0, hx0_1, hx0_2, ed1, hx1_0, hx1_1, hx1_2, Array.length_toList] at hb
  have e0_1 : a0_1.data.size = a0_1.size := rfl
  have e1_1 : a1_1.data.size = a1_1.size := rfl
  simp only [List.append_nil] at hW'
  refine (huntPlays_walk a0_0 a0_1 a0_2 a1_0 a1_1 a1_2 a2 len2 cap2 z2 W w0_0 (by omega) w0_2 w1_0 (by omega) w1_2 w2 (by omega) (by omega)).mono fun e W' ⟨he, bel⟩ => ?_
  subst he
  exact ⟨_, rfl, _, _, _, [], _, [], hW', trodAll_mk1 (shut_bool Try.underlying4 _), (trodAll_cons_mk (Below.trod laidOut (by kernel_rfl) (of_decide_eq_true (by kernel_rfl)) k0 bel lt0) (trodAll_cons_mk (Below.trod laidOut (by kernel_rfl) (of_decide_eq_true (by kernel_rfl)) k1 bel lt1) (trodAll_cons_mk (Below.trod laidOut (by kernel_rfl) (of_decide_eq_true (by kernel_rfl)) k2 bel lt2) trodAll_mk0))), rfl, bel.frame _, fun h => by cases h⟩

theorem over : Rows.huntPlaysUptoRow.holds Try.pinned (Rows.OpenSpec.upto Rows.huntPlaysSpec) :=
  OpenClaim.holds_of_cond 5 Try.f5 rfl rfl rfl rfl rfl rfl rfl ⟨rfl, rfl, rfl, rfl, rfl⟩ rfl rfl rfl rfl rfl (by kernel_rfl) Try.func5 (by kernel_rfl)
    (of_decide_eq_true (by kernel_rfl)) (by unfold Func.isWrapper; first | (rw [if_pos (by decide +kernel)]; kernel_rfl) | (rw [if_neg (by decide +kernel)]; exact ⟨rfl, rfl⟩))
    (fun os started H enc _ F => lifted os started H enc F)

theorem proved : Rows.HuntPlaysUptoSaid := over
end Go.Proofs.Ytgajinnbmnnccaa.huntPlays
