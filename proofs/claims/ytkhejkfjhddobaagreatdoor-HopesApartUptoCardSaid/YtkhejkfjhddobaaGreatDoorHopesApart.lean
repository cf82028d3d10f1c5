/- gimletlaw18.HopesApart answers true of whatever it is given, and leaves it as it is, where what it is given is of bulk at most 1048576. -/
import Derived.Test.YtkhejkfjhddobaaGreatDoorCutWM
import Derived.Test.YtkhejkfjhddobaaGreatDoorBulkM
import Derived.Test.YtkhejkfjhddobaaGreatDoorCards
import Derived.Test.YtkhejkfjhddobaaGreatDoorTie
import Derived.SizedLaws
import Derived.ShutString
import Derived.JoinedCond
import Derived.ChangeOld
set_option maxRecDepth 100000
namespace Go.Proofs.YtkhejkfjhddobaaGreatDoor.hopesApart
open Go.ChangeShapes Go.WideShapes Go.ChangeAt Go.RowKit Gim
open Go.ChangeMaps (open_string shut_string)
set_option linter.unusedVariables false
theorem yTQ (es : List EvD) (ea : Option Addr) (en ec : Nat) (sts : List Gim.St) (pa : Option Addr) (pn pc : Nat) (w : World) (hE : yC4 w es ea en ec) (hz : ∀ x ∈ es, yIn x 1048576) (hn : en ≤ 1048576) (hF : yAH w sts pa pn pc) (hw : wTL sts ≤ 1048576) (hT : yBd w) :
  Calls Tryz.prog 4 #[.slice ea en ec, .agg #[.slice pa pn pc]] w fun e w' => e = .returned (.bool true) ∧ Below w.heap.size w w' :=
 yTP w hE hF hT (fun x hx => (hz x hx).sz (by decide)) (fun x hx => by have := (hz x hx).nm; omega) hw (by omega)
theorem own : ownKnob Tryz.prog.godebug = none := by kernel_rfl
theorem laidOut : laidOutB Tryz.prog = true := by kernel_rfl
theorem reads (os : Os) {H : Type} (enc : TypeId × Value → H) : ∃ places, DataW.whole enc Tryz.prog ((yGJ os).forCall (fun _ _ => 0) ⟨#[], #[.slice none 0 0, .agg #[.slice none 0 0]], []⟩).memory Tryz.f4.params.toList Rows.hopesApartSpec.vars false (#[.slice none 0 0, .agg #[.slice none 0 0]] : Array Value).toList 8 = some ([.nil, .agg [.nil]], [], places) :=
 ⟨[], by kernel_rfl⟩
theorem lifted (os : Os) (started : os.Started) (H : Type) (enc : TypeId × Value → H) (F : Stop.Interp) :
  ReturnsInHanded {} Tryz.checked os 4 .any ((Rows.OpenSpec.upto Rows.hopesApartSpec).preRow enc Tryz.prog Tryz.f4 Rows.hopesApartUptoRow.domain false Rows.hopesApartUptoRow.laid) (((Rows.OpenSpec.upto Rows.hopesApartSpec).at F).post enc Tryz.prog Tryz.f4 false true false false) := by
 obtain ⟨places, hx⟩ := reads os enc; refine returnsInHanded_of_row (C := Tryz.checked) (s := (Rows.OpenSpec.upto Rows.hopesApartSpec)) own started (by kernel_rfl) Tryz.func4
  (witness_row_atRef (enc := enc) (C := Tryz.checked) false (yGJ os) #[.slice none 0 0, .agg #[.slice none 0 0]] rfl (by kernel_rfl) (by kernel_rfl) (by kernel_rfl)
    (OpenSpec.preRow_of_cond 8 hx (by kernel_rfl) (fun k hk => by cases hk; kernel_rfl) (by kernel_rfl) (yRT os _))) ?_
 intro W base args ds gs before hval0 hW _ hcond hwt hL _ _; have hT : yBd W := ySg hL; have hk := hcond _ rfl; have hval : ∀ (j : Nat) t v, Tryz.f4.params[j]? = some t → args[j]? = some v → Value.okWide Tryz.prog W .any base t v := hval0
 have hW' := hW; obtain ⟨p, q, hA0, hV, rfl, hfz, hnd⟩ := hW; have hA : DataW.TrodAll enc Tryz.prog W 0 (fun _ => true) true Tryz.f4.params.toList args.toList ds p := hA0; rw [Tryz.params4] at hA hval; obtain ⟨v0, vs0, d0, ds0, p0, q0, hargs, rfl, rfl, h0, r0⟩ := trodAll_cons hA; obtain ⟨v1, vs1, d1, ds1, p1, q1, rfl, rfl, rfl, h1, r1⟩ := trodAll_cons r0; obtain ⟨rfl, rfl, rfl⟩ := trodAll_nil r1; obtain rfl : args = #[v0, v1] := by cases args; simp_all
 obtain ⟨rfl, rfl⟩ := trodVars_none hV; have k0 := h0; have lt0 : ∀ x ∈ p0, x.block < W.heap.size := by obtain ⟨m, hm⟩ := k0; exact DataW.trod_lt m _ _ _ hm
 obtain ⟨z0, a0, len0, cap0, rfl, w0, bl0, bw0⟩ := yME (hval 0 22 v0 rfl rfl) h0; have k1 := h1; have lt1 : ∀ x ∈ p1, x.block < W.heap.size := by obtain ⟨m, hm⟩ := k1; exact DataW.trod_lt m _ _ _ hm
 obtain ⟨z1, a1, len1, cap1, rfl, w1, bw1⟩ := yQe (hval 1 25 v1 rfl rfl) h1; clear hA0 hval0; have hb := of_decide_eq_true hk; simp only [Rows.uptoBulkAll, List.append_nil] at hb; simp only [List.append_nil] at hW'; refine (yTQ z0 a0 len0 cap0 z1 a1 len1 cap1 W w0 (fun x hx => (bw0 x hx).mono (by omega)) (by omega) w1 (by omega) hT).mono fun e W' ⟨he, bel⟩ => ?_
 subst he; exact ⟨_, rfl, _, _, _, [], _, [], hW', trodAll_mk1 (shut_bool Tryz.underlying4 _), (trodAll_cons_mk (Below.trod laidOut (by kernel_rfl) (of_decide_eq_true (by kernel_rfl)) k0 bel lt0) (trodAll_cons_mk (Below.trod laidOut (by kernel_rfl) (of_decide_eq_true (by kernel_rfl)) k1 bel lt1) trodAll_mk0)), rfl, bel.frame _, fun h => by cases h⟩
theorem over : Rows.hopesApartUptoRow.holds Tryz.pinned (Rows.OpenSpec.upto Rows.hopesApartSpec) :=
 OpenClaim.holds_of_cond 4 Tryz.f4 rfl rfl rfl rfl rfl rfl rfl ⟨rfl, rfl, rfl, rfl, rfl⟩ rfl rfl rfl rfl rfl (by kernel_rfl) Tryz.func4 (by kernel_rfl)
  (of_decide_eq_true (by kernel_rfl)) (by unfold Func.isWrapper; first | (rw [if_pos (by decide +kernel)]; kernel_rfl) | (rw [if_neg (by decide +kernel)]; exact ⟨rfl, rfl⟩))
  (fun os started H enc _ F => by rw [OpenClaim.pre_eq_preRow]; exact lifted os started H enc F)
theorem plain (f : FuncId) (fn : Func) (hf : Tryz.pinned.checked.prog.funcNamed "gimlet/gimletlaw18.HopesApart" = some f) (hfn : Tryz.pinned.checked.prog.funcs[f]? = some fn) :
  false = Tryz.pinned.checked.prog.looks [] ∧ ∀ (j : Nat) t, fn.params[j]? = some t → Tryz.pinned.checked.prog.wantsStandIn t = false := by
 obtain rfl : f = 4 := Option.some.inj ((show Tryz.prog.funcNamed "gimlet/gimletlaw18.HopesApart" = some 4 by kernel_rfl).symm.trans hf) |>.symm
 obtain rfl : fn = Tryz.f4 := (Option.some.inj (Tryz.func4.symm.trans hfn)).symm; refine ⟨by kernel_rfl, fun j t ht => ?_⟩; rw [Tryz.params4] at ht
 match j, ht with
 | 0, ht => simp at ht; subst ht; exact (show Tryz.prog.wantsStandIn 22 = false by kernel_rfl)
 | 1, ht => simp at ht; subst ht; exact (show Tryz.prog.wantsStandIn 25 = false by kernel_rfl)
 | j + 2, ht => simp at ht
theorem proved : Rows.HopesApartUptoCardSaid :=
 Claim7.holds_tied_plain_at .later [] _ _ _ _ over (fun _ h => by cases h) (by kernel_rfl) (fun _ h => by cases h) hopesApartUpto_row_tie rfl ⟨rfl, rfl⟩ (by kernel_rfl) rfl plain (by kernel_rfl)
end Go.Proofs.YtkhejkfjhddobaaGreatDoor.hopesApart
