/- ask.sizePath and sizeExpr of any path and expression. Printed by wip/mkqsize.py. -/
import Derived.Test.YtghepjbfhjkinaaDoorQTree
import Derived.Deep.CutRange
import Derived.Deep.CutBlock
namespace Go.Proofs.YtghepjbfhjkinaaDoor
open Go.RowKit Gim
/-- ask.sizeExpr of the expression, wherever it lies -/
def ZEx (x : Ex) : Prop := ∀ (W : World) (op : Int) (args : List Ex) (sts : List St) (nm : ByteArray) (cmp : Int) (txt : ByteArray) (num : Int) (a1 : Option Addr) (n1 c1 : Nat) (a2 : Option Addr) (n2 c2 : Nat), x = .mk op args sts nm cmp txt num → FitXS W args a1 n1 c1 → FitTS W sts a2 n2 c2 →
  Calls Tryd.prog 16 #[.agg #[.int .i64 op, .slice a1 n1 c1, .slice a2 n2 c2, .string nm, .int .i64 cmp, .string txt, .int .i64 num]] W fun e w' => e = .returned (.int .i64 ((szX x : Nat) : Int)) ∧ Below W.heap.size W w'
def ZSt : St → Prop
  | .mk _ _ _ wh => ∀ x ∈ wh, ZEx x
set_option maxRecDepth 100000 in
set_option maxHeartbeats 4000000 in
theorem sizePath_calls (sts : List St) (a : Option Addr) (n cap : Nat) (w : World) (hF : FitTS w sts a n cap) (hw : wTL sts ≤ 1152921504606846976) (hE : ∀ y ∈ sts, ZSt y) :
    Calls Tryd.prog 12 #[.agg #[.slice a n cap]] w fun e w' => e = .returned (.int .i64 ((sts.length + szIn sts : Nat) : Int)) ∧ Below w.heap.size w w' := by
  have b0 : Below w.heap.size w (w.alloc (.cells #[.slice a n cap] 24)) := (Below.refl _ _).alloc (Nat.le_refl _) _
  have hbx := heap_alloc_new w (.cells #[.slice a n cap] 24)
  obtain ⟨W1, hW1⟩ : ∃ W1, w.alloc (.cells #[.slice a n cap] 24) = W1 := ⟨_, rfl⟩
  rw [hW1] at b0 hbx
  have hcm := hF.cap_le
  have hle := hF.le
  have hnb : n ≤ 9223372036854775807 := by unfold maxLen at hcm; omega
  have HL := Lib.hid hF.len
  have HF := Lib.hid hF
  have HB0 := Lib.hid b0
  have HE := Lib.hid hE
  have HW := Lib.hid hw
  clear hF b0 hE hw
  go_enter Tryd.func12, Tryd.ntmps12
  go_upto_region 1 with fail
  try rw [hW1]
  clear hW1
  have c0 : W1.cell? ⟨w.heap.size, 0, none⟩ = some (.slice a n cap) := by simp [World.cell?, hbx]
  clear hbx
  go_wp2_with fail
  go_loopw [3, 14] (fun s i wr => ∃ (q : Nat) (m : Nat), i = .int .i64 q ∧ q ≤ n ∧ s = .int .i64 m ∧ Below w.heap.size w wr ∧ Hid (m = n + szIn (sts.take q))) (fun _ i _ => n - (RowKit.intOf i).toNat)
  case atStart => exact ⟨0, n, rfl, Nat.zero_le _, rfl, HB0.out, Lib.hid (by simp [szIn])⟩
  case round =>
    obtain ⟨q, m, rfl, hq, rfl, hb, HM⟩ := hrel
    by_cases hqn : q < n
    · have hqn' : (q : Int) < n := by omega
      obtain ⟨b, o, ax, ts, nm, wh, a1, n1, c1, rfl, hbb, hel, d0, d1, d2, d3, hF1⟩ := (HF.out.below hb).elem q hqn
      have hZ := HE.out _ (List.mem_of_getElem? hel)
      have b2 : Below wr.heap.size wr (wr.alloc (.cells #[.int .i64 ax, .int .i64 ts, .string nm, .slice a1 n1 c1] 37)) := (Below.refl _ _).alloc (Nat.le_refl _) _
      have HB2 := Lib.hid (hb.trans (b2.mono hb.size))
      have HF1 := Lib.hid (hF1.below b2)
      have hNX := takeL_next hel
      have hcm1 := hF1.cap_le
      have hle1 := hF1.le
      have hnb1 : n1 ≤ 9223372036854775807 := by unfold maxLen at hcm1; omega
      have HL1 := Lib.hid hF1.len
      have HZ := Lib.hid hZ
      have hwm := wT_mem hel
      have HOUT := Lib.hid (show n + szIn (sts.take (q + 1)) = m + szXL wh by
        rw [hNX, szIn_app, HM.out]
        simp only [szIn, szT]
        omega)
      have HBD := Lib.hid (show m + szXL wh ≤ 1152921504606846976 by
        rw [← HOUT.out]
        have h1 := szIn_app (sts.take (q + 1)) (sts.drop (q + 1))
        rw [List.take_append_drop] at h1
        have h2 := szIn_le sts
        have h3 := HW.out
        have h4 := HL.out
        omega)
      clear hb hF1 hel hNX hcm1 hle1 hZ b2 hwm HM
      go_wp2_with fail
      go_loopw [3, 21] (fun s i wx => ∃ (r : Nat) (m2 : Nat), i = .int .i64 r ∧ r ≤ n1 ∧ s = .int .i64 m2 ∧ Below w.heap.size w wx ∧ FitXS wx wh a1 n1 c1 ∧ Hid (m2 = m + szXL (wh.take r))) (fun _ i _ => n1 - (RowKit.intOf i).toNat)
      case atStart => exact ⟨0, m, rfl, Nat.zero_le _, rfl, HB2.out, HF1.out, Lib.hid (by simp [szXL])⟩
      case round =>
        obtain ⟨r, m2, rfl, hr, rfl, hbx, hFx, HM2⟩ := hrel
        by_cases hrn : r < n1
        · have hrn' : (r : Int) < n1 := by omega
          obtain ⟨bx, ox, op, args, xs, xn, cmp, txt, num, a3, n3, c3, a4, n4, c4, rfl, hbb3, hel, f0, f1, f2, f3, f4, f5, f6, hF3, hF4⟩ := hFx.elem r hrn
          have b3 := (Below.refl wr.heap.size wr).alloc (Nat.le_refl _) (.cells #[.int .i64 op, .slice a3 n3 c3, .slice a4 n4 c4, .string xn, .int .i64 cmp, .string txt, .int .i64 num] 52)
          have hC := HZ.out _ (List.mem_of_getElem? hel) _ op args xs xn cmp txt num a3 n3 c3 a4 n4 c4 rfl (hF3.below b3) (hF4.below b3)
          have HB3 := Lib.hid (hbx.trans (b3.mono hbx.size))
          have HF3 := Lib.hid (hFx.below b3)
          have hNX := takeL_next hel
          have hwm := wX_mem hel
          obtain ⟨x, hx⟩ : ∃ x, Ex.mk op args xs xn cmp txt num = x := ⟨_, rfl⟩
          rw [hx] at hC hNX hwm hel
          have HN := Lib.hid (show m + szXL (wh.take (r + 1)) = m2 + szX x by
            rw [hNX, szXL_app, HM2.out]
            simp only [szXL]
            omega)
          have hbd : m2 + szX x ≤ 1152921504606846976 := by
            rw [← HN.out]
            have h1 := szXL_app (wh.take (r + 1)) (wh.drop (r + 1))
            rw [List.take_append_drop] at h1
            have h2 := HBD.out
            omega
          obtain ⟨s2, hs2⟩ : ∃ s2, szX x = s2 := ⟨_, rfl⟩
          rw [hs2] at hC hbd HN
          have hw : wrap64 ((m2 : Int) + (s2 : Int)) = ((m2 + s2 : Nat) : Int) := by unfold wrap64; omega
          clear hbx hFx hNX hel hwm hx HM2 hF3 hF4 b3 hbd hs2
          go_wp2_with fail
          refine hC.mono ?_
          rintro e w3 ⟨rfl, b4⟩
          have HB4 := Lib.hid (HB3.out.trans (b4.mono HB3.out.size))
          have HF4 := Lib.hid (HF3.out.below b4)
          clear hC b4 f0 f1 f2 f3 f4 f5 f6
          go_wp2_with fail
          go_roundw
          case rel => exact ⟨r + 1, m2 + s2, by go_num, by omega, by first | rfl | (simp only [hw]), HB4.out, HF4.out, Lib.hid HN.out.symm⟩
          case measure => simp [RowKit.intOf]; omega
        · obtain rfl : r = n1 := by omega
          have HE2 := Lib.hid (show m2 = m + szXL wh by rw [HM2.out, List.take_of_length_le (by rw [HL1.out]; exact Nat.le_refl _)])
          have HB4 := Lib.hid hbx
          clear HM2 hbx hFx
          go_wp2_with fail
          go_roundw
          case rel => exact ⟨q + 1, m2, by go_num, by omega, rfl, HB4.out, Lib.hid (HE2.out.trans HOUT.out.symm)⟩
          case measure => simp [RowKit.intOf]; omega
    · obtain rfl : q = n := by omega
      have HE3 := Lib.hid (show m = sts.length + szIn sts by
        have h := HM.out
        rw [List.take_of_length_le (by rw [HL.out]; exact Nat.le_refl _)] at h
        rw [HL.out]; exact h)
      have HB4 := Lib.hid hb
      clear HM hb
      go_wp2_with fail
      go_ret
      exact ⟨by rw [← HE3.out]; rfl, HB4.out⟩
set_option maxRecDepth 100000 in
set_option maxHeartbeats 4000000 in
theorem sizeExpr_calls (op : Int) (args : List Ex) (sts : List St) (nm : ByteArray) (cmp : Int) (txt : ByteArray) (num : Int) (hw : wX (.mk op args sts nm cmp txt num) ≤ 1152921504606846976) (hA : ∀ x ∈ args, ZEx x) (hS : ∀ y ∈ sts, ZSt y) : ZEx (.mk op args sts nm cmp txt num) := by
  intro w op' args' sts' nm' cmp' txt' num' a1 n1 c1 a2 n2 c2 he hF1 hF2
  obtain ⟨rfl, rfl, rfl, rfl, rfl, rfl, rfl⟩ := Ex.mk.inj he
  clear he
  have b0 : Below w.heap.size w (w.alloc (.cells #[.int .i64 op, .slice a1 n1 c1, .slice a2 n2 c2, .string nm, .int .i64 cmp, .string txt, .int .i64 num] 52)) := (Below.refl _ _).alloc (Nat.le_refl _) _
  have hbx := heap_alloc_new w (.cells #[.int .i64 op, .slice a1 n1 c1, .slice a2 n2 c2, .string nm, .int .i64 cmp, .string txt, .int .i64 num] 52)
  obtain ⟨W1, hW1⟩ : ∃ W1, w.alloc (.cells #[.int .i64 op, .slice a1 n1 c1, .slice a2 n2 c2, .string nm, .int .i64 cmp, .string txt, .int .i64 num] 52) = W1 := ⟨_, rfl⟩
  rw [hW1] at b0 hbx
  have hsz := szX_le (.mk op args sts nm cmp txt num)
  have hse : szX (.mk op args sts nm cmp txt num) = 1 + (sts.length + szIn sts) + szXL args := by unfold szX; rfl
  rw [hse] at hsz ⊢
  unfold wX at hw hsz
  have hP := sizePath_calls sts a2 n2 c2 W1 (hF2.below b0) (by omega) hS
  obtain ⟨sp, hsp⟩ : ∃ sp, sts.length + szIn sts = sp := ⟨_, rfl⟩
  rw [hsp] at hP hsz ⊢
  have hcm := hF1.cap_le
  have hle := hF1.le
  have hnb : n1 ≤ 9223372036854775807 := by unfold maxLen at hcm; omega
  have HL := Lib.hid hF1.len
  have HF := Lib.hid hF1
  have HB0 := Lib.hid b0
  have HE := Lib.hid hA
  have HBX := Lib.hid hbx
  have hsb : 1 + sp + szXL args ≤ 1152921504606846976 := by omega
  have hwp : wrap64 ((1 : Int) + (sp : Int)) = ((1 + sp : Nat) : Int) := by unfold wrap64; omega
  have HSB := Lib.hid hsb
  have HWP := Lib.hid hwp
  have c2 : W1.cell? ⟨w.heap.size, 2, none⟩ = some (.slice a2 n2 c2) := by simp [World.cell?, hbx]
  clear hF1 hF2 b0 hA hS hw hsz hse hsp hcm hle hbx hsb hwp
  go_enter Tryd.func16, Tryd.ntmps16
  go_upto_region 1 with fail
  try rw [hW1]
  clear hW1
  go_wp2_with fail
  refine hP.mono ?_
  rintro e w2 ⟨rfl, b2⟩
  have hx := (b2.block _ (Array.getElem?_eq_some_iff.1 HBX.out).1).trans HBX.out
  have c1' : w2.cell? ⟨w.heap.size, 1, none⟩ = some (.slice a1 n1 c1) := by simp [World.cell?, hx]
  have HB2 := Lib.hid (HB0.out.trans (b2.mono HB0.out.size))
  clear hP b2 hx c2
  go_wp2_with fail
  go_loopw [3, 13] (fun s i wr => ∃ (q m : Nat), i = .int .i64 q ∧ q ≤ n1 ∧ s = .int .i64 m ∧ Below w.heap.size w wr ∧ Hid (m = 1 + sp + szXL (args.take q))) (fun _ i _ => n1 - (RowKit.intOf i).toNat)
  case atStart => exact ⟨0, 1 + sp, rfl, Nat.zero_le _, by rw [HWP.out], HB2.out, Lib.hid (by simp [szXL])⟩
  case round =>
    obtain ⟨q, m, rfl, hq, rfl, hb, HM⟩ := hrel
    by_cases hqn : q < n1
    · have hqn' : (q : Int) < n1 := by omega
      obtain ⟨bx, ox, op2, args2, xs, xn, cmp2, txt2, num2, a3, n3, c3, a4, n4, c4, rfl, hbb3, hel, f0, f1, f2, f3, f4, f5, f6, hF3, hF4⟩ := (HF.out.below hb).elem q hqn
      have b3 := (Below.refl wr.heap.size wr).alloc (Nat.le_refl _) (.cells #[.int .i64 op2, .slice a3 n3 c3, .slice a4 n4 c4, .string xn, .int .i64 cmp2, .string txt2, .int .i64 num2] 52)
      have hC := HE.out _ (List.mem_of_getElem? hel) _ op2 args2 xs xn cmp2 txt2 num2 a3 n3 c3 a4 n4 c4 rfl (hF3.below b3) (hF4.below b3)
      have HB3 := Lib.hid (hb.trans (b3.mono hb.size))
      have hNX := takeL_next hel
      obtain ⟨x, hx⟩ : ∃ x, Ex.mk op2 args2 xs xn cmp2 txt2 num2 = x := ⟨_, rfl⟩
      rw [hx] at hC hNX hel
      have HN := Lib.hid (show 1 + sp + szXL (args.take (q + 1)) = m + szX x by
        rw [hNX, szXL_app, HM.out]
        simp only [szXL]
        omega)
      have hbd : m + szX x ≤ 1152921504606846976 := by
        rw [← HN.out]
        have h1 := szXL_app (args.take (q + 1)) (args.drop (q + 1))
        rw [List.take_append_drop] at h1
        have h2 := HSB.out
        omega
      obtain ⟨s2, hs2⟩ : ∃ s2, szX x = s2 := ⟨_, rfl⟩
      rw [hs2] at hC hbd HN
      have hw : wrap64 ((m : Int) + (s2 : Int)) = ((m + s2 : Nat) : Int) := by unfold wrap64; omega
      clear hb hNX hel hx HM hF3 hF4 b3 hbd hs2
      go_wp2_with fail
      refine hC.mono ?_
      rintro e w3 ⟨rfl, b4⟩
      have HB4 := Lib.hid (HB3.out.trans (b4.mono HB3.out.size))
      clear hC b4 f0 f1 f2 f3 f4 f5 f6
      go_wp2_with fail
      go_roundw
      case rel => exact ⟨q + 1, m + s2, by go_num, by omega, by first | rfl | (simp only [hw]), HB4.out, Lib.hid HN.out.symm⟩
      case measure => simp [RowKit.intOf]; omega
    · obtain rfl : q = n1 := by omega
      have HE3 := Lib.hid (show m = 1 + sp + szXL args by
        have h := HM.out
        rw [List.take_of_length_le (by rw [HL.out]; exact Nat.le_refl _)] at h
        exact h)
      have HB4 := Lib.hid hb
      clear HM hb
      go_wp2_with fail
      go_ret
      exact ⟨by rw [← HE3.out]; rfl, HB4.out⟩
theorem size_all : ∀ (k : Nat) (x : Ex), SizeOf.sizeOf x ≤ k → wX x ≤ 1152921504606846976 → ZEx x := by
  intro k
  induction k with
  | zero => intro x hk; cases x; exact absurd hk (by simp)
  | succ k ih =>
    intro x hk hw
    cases x with
    | mk op args sts nm cmp txt num =>
    have hw2 := hw
    unfold wX at hw
    simp only [Ex.mk.sizeOf_spec] at hk
    refine sizeExpr_calls op args sts nm cmp txt num hw2 (fun x hx => ?_) fun y hy => ?_
    · obtain ⟨i, hi⟩ := List.mem_iff_getElem?.1 hx
      have h1 := sizeX_mem hi
      have h2 := wX_mem hi
      exact ih x (by omega) (by omega)
    · obtain ⟨i, hi⟩ := List.mem_iff_getElem?.1 hy
      have h1 := sizeT_mem hi
      have h2 := wT_mem hi
      cases y with
      | mk ax ts nm2 wh =>
      unfold wT at h2
      simp only [St.mk.sizeOf_spec] at h1
      intro z hz
      obtain ⟨j, hj⟩ := List.mem_iff_getElem?.1 hz
      have h3 := sizeX_mem hj
      have h4 := wX_mem hj
      exact ih z (by omega) (by omega)
theorem sizePath_all (sts : List St) (a : Option Addr) (n cap : Nat) (w : World) (hF : FitTS w sts a n cap) (hw : wTL sts ≤ 1152921504606846976) :
    Calls Tryd.prog 12 #[.agg #[.slice a n cap]] w fun e w' => e = .returned (.int .i64 ((sts.length + szIn sts : Nat) : Int)) ∧ Below w.heap.size w w' :=
  sizePath_calls sts a n cap w hF hw fun y hy => by
    obtain ⟨i, hi⟩ := List.mem_iff_getElem?.1 hy
    have h2 := wT_mem hi
    cases y with
    | mk ax ts nm2 wh =>
    unfold wT at h2
    intro z hz
    obtain ⟨j, hj⟩ := List.mem_iff_getElem?.1 hz
    have h4 := wX_mem hj
    exact size_all _ z (Nat.le_refl _) (by omega)
end Go.Proofs.YtghepjbfhjkinaaDoor
