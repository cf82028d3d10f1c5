/- gimletlaw01.RunesGo answers true of whatever it is given, and leaves it as it is, where what it is given is of bulk at most 1048576. -/
import Derived.Test.YtbbfifaojepjiaaDoorRunesGoWalk
import Derived.Test.YtbbfifaojepjiaaDoorLaidA
import Derived.Test.YtbbfifaojepjiaaDoorCards
import Derived.Test.YtbbfifaojepjiaaDoorTie
import Derived.Test.YtbbfifaojepjiaaDoorRows
import Derived.ProofKit
import Derived.SizedLaws
import Derived.OpenShut
import Derived.ShutString
import Derived.JoinedCond
import Derived.ChangeOld
namespace Go.Proofs.YtbbfifaojepjiaaDoor.runesGo
open Go.ChangeShapes Go.WideShapes Go.ChangeAt Go.RowKit Gim
open Go.ChangeMaps (open_string shut_string)
set_option linter.unusedVariables false

theorem own : ownKnob Tryd.prog.godebug = none := by kernel_rfl
theorem laidOut : laidOutB Tryd.prog = true := by kernel_rfl

theorem bulk_pos {H : Type} (d : DataW H) : 1 ≤ Rows.uptoBulk d := by
  cases d with
  | lit l => cases l <;> simp [Rows.uptoBulk]
  | _ => simp [Rows.uptoBulk]
theorem bulkAll_len {H : Type} : ∀ l : List (DataW H), l.length ≤ Rows.uptoBulkAll l
  | [] => Nat.zero_le _
  | d :: r => by
    have h1 := bulk_pos d
    have h2 := bulkAll_len r
    simp only [Rows.uptoBulkAll, List.length_cons]
    omega

theorem reads (os : Os) {H : Type} (enc : TypeId × Value → H) : ∃ places, DataW.whole enc Tryd.prog ((laidWorld os).forCall (fun _ _ => 0) ⟨#[], #[.string ByteArray.empty, .slice none 0 0], []⟩).memory Tryd.f5.params.toList Rows.runesGoSpec.vars false (#[.string ByteArray.empty, .slice none 0 0] : Array Value).toList 8 = some ([.lit (.string []), .nil], [], places) :=
  ⟨[], by kernel_rfl⟩
set_option maxRecDepth 100000 in
theorem lifted (os : Os) (started : os.Started) (H : Type) (enc : TypeId × Value → H) (F : Stop.Interp) :
    ReturnsInHanded {} Tryd.checked os 5 .any ((Rows.OpenSpec.upto Rows.runesGoSpec).preRow enc Tryd.prog Tryd.f5 Rows.runesGoUptoRow.domain false Rows.runesGoUptoRow.laid) (((Rows.OpenSpec.upto Rows.runesGoSpec).at F).post enc Tryd.prog Tryd.f5 false true false false) := by
  obtain ⟨places, hx⟩ := reads os enc
  refine returnsInHanded_of_row (C := Tryd.checked) (s := (Rows.OpenSpec.upto Rows.runesGoSpec)) own started (by kernel_rfl) Tryd.func5
    (witness_row_atRef (enc := enc) (C := Tryd.checked) false (laidWorld os) #[.string ByteArray.empty, .slice none 0 0] rfl (by kernel_rfl) (by kernel_rfl) (by kernel_rfl)
      (OpenSpec.preRow_of_cond 8 hx (by kernel_rfl) (fun k hk => by cases hk; kernel_rfl) (by kernel_rfl) (laid_met os _))) ?_
  intro W base args ds gs before hval0 hW _ hcond hwt hL _ _
  have hT : U8 W := laid_of hL
  have hk := hcond _ rfl
  have hval : ∀ (j : Nat) t v, Tryd.f5.params[j]? = some t → args[j]? = some v → Value.okWide Tryd.prog W .any base t v := hval0
  have hW' := hW
  obtain ⟨p, q, hA0, hV, rfl, hfz, hnd⟩ := hW
  have hA : DataW.TrodAll enc Tryd.prog W 0 (fun _ => true) true Tryd.f5.params.toList args.toList ds p := hA0
  rw [Tryd.params5] at hA hval
  obtain ⟨v0, vs0, d0, ds0, p0, q0, hargs, rfl, rfl, h0, r0⟩ := trodAll_cons hA
  obtain ⟨v1, vs1, d1, ds1, p1, q1, rfl, rfl, rfl, h1, r1⟩ := trodAll_cons r0
  obtain ⟨rfl, rfl, rfl⟩ := trodAll_nil r1
  obtain rfl : args = #[v0, v1] := by cases args; simp_all
  obtain ⟨rfl, rfl⟩ := trodVars_none hV
  obtain ⟨a0, rfl, rfl, rfl, w0⟩ := open_string Tryd.underlying9 (hval 0 9 v0 rfl rfl) h0
  obtain ⟨a1, len1, cap1, rfl⟩ := okWide_slice Tryd.underlying36 (hval 1 36 v1 rfl rfl)
  have k1 := h1
  have lt1 : ∀ x ∈ p1, x.block < W.heap.size := by obtain ⟨m, hm⟩ := k1; exact DataW.trod_lt m _ _ _ hm
  obtain ⟨z1, w1, n1, u1, bk1⟩ : ∃ zs, Rd W .i32 a1 len1 cap1 zs ∧ (a1 = none → len1 = 0 ∧ cap1 = 0) ∧ (∀ x ∈ zs, (Lit.int .i32 x).wf = true) ∧ (len1 = 0 ∨ ∃ es sp, d1 = .slice es sp ∧ len1 ≤ es.length + sp.length ∧ cap1 = es.length + sp.length) := by
    obtain ⟨fuel, hf⟩ := h1
    rcases open_ints Tryd.underlying36 Tryd.underlying21 (by kernel_rfl) hf with ⟨hcs, _⟩ | ⟨x, l, c, zs, hcs, _, hl, hm, hz, hx, hcell, hwz⟩
    · simp [Value.cells] at hcs
      obtain ⟨rfl, rfl, rfl⟩ := hcs
      exact ⟨[], ⟨rfl, by omega, by unfold maxLen; omega, fun j hj => by omega⟩, fun _ => ⟨rfl, rfl⟩, fun _ h => (by cases h), .inl rfl⟩
    · simp [Value.cells] at hcs
      obtain ⟨rfl, rfl, rfl⟩ := hcs
      simp only [Prod.mk.injEq] at hx
      simp only [if_true] at hz
      exact ⟨_, rd_of_cells hl hm (by omega) hcell, fun h => (by cases h), fun y hy => hwz y (List.mem_of_mem_take hy), .inr ⟨_, _, hx.1, by simp [lits]; omega, by simp [lits]; omega⟩⟩
  clear hA0 hval0
  have hb := of_decide_eq_true hk
  have bd1 : len1 ≤ Rows.uptoBulk d1 := by
    rcases bk1 with h | ⟨es, sp, h, hl, _⟩
    · omega
    · have h1 := bulkAll_len es
      have h2 := bulkAll_len sp
      rw [h]
      simp only [Rows.uptoBulk]
      omega
  simp only [Rows.uptoBulkAll, Rows.uptoBulk, List.append_nil, Array.length_toList] at hb
  have e0 : a0.data.size = a0.size := rfl
  simp only [List.append_nil] at hW'
  refine (runesGo_walk a0 a1 len1 cap1 z1 W (by omega) w1 n1 u1 (by omega) hT).mono fun e W' ⟨he, bel⟩ => ?_
  subst he
  exact ⟨_, rfl, _, _, _, [], _, [], hW', trodAll_mk1 (shut_bool Tryd.underlying4 _), (trodAll_cons_mk (shut_string Tryd.underlying9 w0) (trodAll_cons_mk (Below.trod laidOut (by kernel_rfl) (of_decide_eq_true (by kernel_rfl)) k1 bel lt1) trodAll_mk0)), rfl, bel.frame _, fun h => by cases h⟩

theorem over : Rows.runesGoUptoRow.holds Tryd.pinned (Rows.OpenSpec.upto Rows.runesGoSpec) :=
  OpenClaim.holds_of_cond 5 Tryd.f5 rfl rfl rfl rfl rfl rfl rfl ⟨rfl, rfl, rfl, rfl, rfl⟩ rfl rfl rfl rfl rfl (by kernel_rfl) Tryd.func5 (by kernel_rfl)
    (of_decide_eq_true (by kernel_rfl)) (by unfold Func.isWrapper; first | (rw [if_pos (by decide +kernel)]; kernel_rfl) | (rw [if_neg (by decide +kernel)]; exact ⟨rfl, rfl⟩))
    (fun os started H enc _ F => by rw [OpenClaim.pre_eq_preRow]; exact lifted os started H enc F)

theorem plain (f : FuncId) (fn : Func) (hf : Tryd.pinned.checked.prog.funcNamed "gimlet/gimletlaw01.RunesGo" = some f) (hfn : Tryd.pinned.checked.prog.funcs[f]? = some fn) :
    false = Tryd.pinned.checked.prog.looks [] ∧ ∀ (j : Nat) t, fn.params[j]? = some t → Tryd.pinned.checked.prog.wantsStandIn t = false := by
  obtain rfl : f = 5 := Option.some.inj ((show Tryd.prog.funcNamed "gimlet/gimletlaw01.RunesGo" = some 5 by kernel_rfl).symm.trans hf) |>.symm
  obtain rfl : fn = Tryd.f5 := (Option.some.inj (Tryd.func5.symm.trans hfn)).symm
  refine ⟨by kernel_rfl, fun j t ht => ?_⟩
  rw [Tryd.params5] at ht
  match j, ht with
  | 0, ht => simp at ht; subst ht; exact (show Tryd.prog.wantsStandIn 9 = false by kernel_rfl)
  | 1, ht => simp at ht; subst ht; exact (show Tryd.prog.wantsStandIn 36 = false by kernel_rfl)
  | j + 2, ht => simp at ht
theorem proved : Rows.RunesGoUptoCardSaid :=
  Claim7.holds_tied_plain_at .later [] _ _ _ _ over (fun _ h => by cases h) (by kernel_rfl) (fun _ h => by cases h) runesGoUpto_row_tie rfl ⟨rfl, rfl⟩ (by kernel_rfl) rfl plain (by kernel_rfl)
end Go.Proofs.YtbbfifaojepjiaaDoor.runesGo
