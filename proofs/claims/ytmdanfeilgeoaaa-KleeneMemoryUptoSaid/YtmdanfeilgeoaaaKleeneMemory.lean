/- gimletlaw14.KleeneMemory answers true of whatever it is given, and leaves it as it is, where what it is given is of bulk at most 1048576. -/
import Derived.Test.YtmdanfeilgeoaaaKMemory
import Derived.Test.YtmdanfeilgeoaaaKSHanded
import Derived.Lib.SmallJoins
import Derived.Test.YtmdanfeilgeoaaaRows
import Derived.ProofKit
import Derived.SizedLaws
import Derived.OpenShut
import Derived.ShutString
import Derived.JoinedCond
import Derived.ChangeOld
namespace Go.Proofs.Ytmdanfeilgeoaaa.kleeneMemory
open Go.ChangeShapes Go.WideShapes Go.ChangeAt Go.RowKit Gim
open Go.ChangeMaps (open_string shut_string)
set_option linter.unusedVariables false

theorem own : ownKnob Try.prog.godebug = none := by kernel_rfl
theorem laidOut : laidOutB Try.prog = true := by kernel_rfl

theorem bulk_pos {H : Type} (d : DataW H) : 1 ≤ Rows.uptoBulk d := by
  cases d with
  | lit l => cases l <;> simp [Rows.uptoBulk]
  | _ => simp [Rows.uptoBulk]
theorem bulkAll_len {H : Type} : ∀ l : List (DataW H), l.length ≤ Rows.uptoBulkAll l
  | [] => Nat.zero_le _
  | d :: r => by
    have h1 := bulk_pos d
    have h2 := bulkAll_len r
    simp only [Rows.uptoBulkAll, List.length_cons]
    omega

set_option maxRecDepth 100000 in
theorem lifted (os : Os) (started : os.Started) (H : Type) (enc : TypeId × Value → H) (F : Stop.Interp) :
    ReturnsInHanded {} Try.checked os 5 .any ((Rows.OpenSpec.upto Rows.kleeneMemorySpec).pre6 enc Try.prog Try.f5 Rows.kleeneMemoryUptoRow.domain false) (((Rows.OpenSpec.upto Rows.kleeneMemorySpec).at F).post enc Try.prog Try.f5 false true false false) := by
  refine returnsInHanded_of_cond (C := Try.checked) (s := Rows.OpenSpec.upto Rows.kleeneMemorySpec) (k := Rows.uptoSmall) rfl own started (by kernel_rfl) Try.func5
    (OpenSpec.witness (enc := enc) (C := Try.checked) (s := Rows.OpenSpec.upto Rows.kleeneMemorySpec) (k := Rows.uptoSmall) rfl false ⟨#[], #[.agg #[.int .i64 0, .int .i64 0, .int .i64 0, .slice none 0 0], .slice none 0 0], []⟩ 8 (by kernel_rfl) (by kernel_rfl) (by kernel_rfl)
      (x := ([.agg [.lit (.int .i64 0), .lit (.int .i64 0), .lit (.int .i64 0), .nil], .nil], [], [])) (by kernel_rfl) rfl (by kernel_rfl)) ?_
  intro W base args ds gs before hval0 hW _ hk _
  have hval : ∀ (j : Nat) t v, Try.f5.params[j]? = some t → args[j]? = some v → Value.okWide Try.prog W .any base t v := hval0
  have hW' := hW
  obtain ⟨p, q, hA0, hV, rfl, hfz, hnd⟩ := hW
  have hA : DataW.TrodAll enc Try.prog W 0 (fun _ => true) true Try.f5.params.toList args.toList ds p := hA0
  rw [Try.params5] at hA hval
  obtain ⟨v0, vs0, d0, ds0, p0, q0, hargs, rfl, rfl, h0, r0⟩ := trodAll_cons hA
  obtain ⟨v1, vs1, d1, ds1, p1, q1, rfl, rfl, rfl, h1, r1⟩ := trodAll_cons r0
  obtain ⟨rfl, rfl, rfl⟩ := trodAll_nil r1
  obtain rfl : args = #[v0, v1] := by cases args; simp_all
  obtain ⟨rfl, rfl⟩ := trodVars_none hV
  have k0 := h0
  have lt0 : ∀ x ∈ p0, x.block < W.heap.size := by obtain ⟨m, hm⟩ := k0; exact DataW.trod_lt m _ _ _ hm
  obtain ⟨f0_0, f0_1, f0_2, f0_3, y0_0, y0_1, y0_2, y0_3, m0, rfl, _, _, t0_0, t0_1, t0_2, t0_3⟩ := Go.Joins.open_agg4 Try.underlying26 (by kernel_rfl) (by kernel_rfl) (hval 0 26 v0 rfl rfl) h0
  obtain ⟨a0_0, hcs0_0, _, _⟩ := DataW.trod_int Try.underlying22 t0_0
  obtain rfl : f0_0 = _ := by simpa using hcs0_0
  obtain ⟨a0_1, hcs0_1, _, _⟩ := DataW.trod_int Try.underlying23 t0_1
  obtain rfl : f0_1 = _ := by simpa using hcs0_1
  obtain ⟨a0_2, hcs0_2, _, _⟩ := DataW.trod_int Try.underlying3 t0_2
  obtain rfl : f0_2 = _ := by simpa using hcs0_2
  obtain ⟨z0, a0, len0, cap0, hcs0_3, w0⟩ := open_forms _ _ _ t0_3
  obtain rfl : f0_3 = _ := by simpa using hcs0_3
  obtain ⟨a1, len1, cap1, rfl⟩ := okWide_slice Try.underlying27 (hval 1 27 v1 rfl rfl)
  have k1 := h1
  have lt1 : ∀ x ∈ p1, x.block < W.heap.size := by obtain ⟨m, hm⟩ := k1; exact DataW.trod_lt m _ _ _ hm
  obtain ⟨z1, w1, n1, u1, bk1⟩ : ∃ zs, Rd W .i64 a1 len1 cap1 zs ∧ (a1 = none → len1 = 0 ∧ cap1 = 0) ∧ (∀ x ∈ zs, (Lit.int .i64 x).wf = true) ∧ (len1 = 0 ∨ ∃ es sp, d1 = .slice es sp ∧ len1 ≤ es.length + sp.length ∧ cap1 = es.length + sp.length) := by
    obtain ⟨fuel, hf⟩ := h1
    rcases open_ints Try.underlying27 Try.underlying23 (by kernel_rfl) hf with ⟨hcs, _⟩ | ⟨x, l, c, zs, hcs, _, hl, hm, hz, hx, hcell, hwz⟩
    · simp [Value.cells] at hcs
      obtain ⟨rfl, rfl, rfl⟩ := hcs
      exact ⟨[], ⟨rfl, by omega, by unfold maxLen; omega, fun j hj => by omega⟩, fun _ => ⟨rfl, rfl⟩, fun _ h => (by cases h), .inl rfl⟩
    · simp [Value.cells] at hcs
      obtain ⟨rfl, rfl, rfl⟩ := hcs
      simp only [Prod.mk.injEq] at hx
      simp only [if_true] at hz
      exact ⟨_, rd_of_cells hl hm (by omega) hcell, fun h => (by cases h), fun y hy => hwz y (List.mem_of_mem_take hy), .inr ⟨_, _, hx.1, by simp [lits]; omega, by simp [lits]; omega⟩⟩
  clear hA0 hval0
  have hb := of_decide_eq_true hk
  have bd1 : len1 ≤ Rows.uptoBulk d1 := by
    rcases bk1 with h | ⟨es, sp, h, hl, _⟩
    · omega
    · have h1 := bulkAll_len es
      have h2 := bulkAll_len sp
      rw [h]
      simp only [Rows.uptoBulk]
      omega
  simp only [Rows.uptoBulkAll, List.append_nil] at hb
  simp only [List.append_nil] at hW'
  refine (memory_walk a0_0 a0_1 a0_2 z0 a0 len0 cap0 a1 len1 cap1 z1 W w0 w1 n1 u1 (by omega)).mono fun e W' ⟨he, bel⟩ => ?_
  subst he
  exact ⟨_, rfl, _, _, _, [], _, [], hW', trodAll_mk1 (shut_bool Try.underlying4 _), (trodAll_cons_mk (Below.trod laidOut (by kernel_rfl) (of_decide_eq_true (by kernel_rfl)) k0 bel lt0) (trodAll_cons_mk (Below.trod laidOut (by kernel_rfl) (of_decide_eq_true (by kernel_rfl)) k1 bel lt1) trodAll_mk0)), rfl, bel.frame _, fun h => by cases h⟩

theorem over : Rows.kleeneMemoryUptoRow.holds Try.pinned (Rows.OpenSpec.upto Rows.kleeneMemorySpec) :=
  OpenClaim.holds_of_cond 5 Try.f5 rfl rfl rfl rfl rfl rfl rfl ⟨rfl, rfl, rfl, rfl, rfl⟩ rfl rfl rfl rfl rfl (by kernel_rfl) Try.func5 (by kernel_rfl)
    (of_decide_eq_true (by kernel_rfl)) (by unfold Func.isWrapper; first | (rw [if_pos (by decide +kernel)]; kernel_rfl) | (rw [if_neg (by decide +kernel)]; exact ⟨rfl, rfl⟩))
    (fun os started H enc _ F => lifted os started H enc F)

theorem proved : Rows.KleeneMemoryUptoSaid := over
end Go.Proofs.Ytmdanfeilgeoaaa.kleeneMemory
