/- Walks of functions that go through a formula: its size, its greatest variable, is a variable in it, what is left of a bound. Printed by wip/mktree.py. -/
import Derived.Test.YtmdanfeilgeoaaaKTree2
import Derived.Test.YtmdanfeilgeoaaaKVals
import Derived.Test.YtmdanfeilgeoaaaKOrder
import Derived.Deep.CutRange
import Derived.Deep.CutBlock
namespace Go.Proofs.Ytmdanfeilgeoaaa
open Go.RowKit Gim Go.Sort
set_option maxRecDepth 100000 in
set_option maxHeartbeats 4000000 in
theorem size_calls : ∀ (k : Nat) (op v x : Int) (gs : List Fm) (a : Option Addr) (n cap : Nat) (w : World), SizeOf.sizeOf (Fm.mk op v x gs) ≤ k → FitS w gs a n cap → szF (.mk op v x gs) ≤ 1099511627776 →
    Calls Try.prog 43 #[.agg #[.int .i64 op, .int .i64 v, .int .i64 x, .slice a n cap]] w fun e w' => e = .returned (.int .i64 (szF (.mk op v x gs) : Nat)) ∧ Grows w w' := by
  intro k
  induction k with
  | zero => intro op v x gs a n cap w hk; exact absurd hk (by simp)
  | succ k ih =>
  intro op v x gs a n cap w hk hF hsz
  have hcm := hF.cap_le
  have hle := hF.le
  have hnb : n ≤ 9223372036854775807 := by unfold maxLen at hcm; omega
  have HL := Lib.hid hF.len
  have HF := Lib.hid hF
  have HK := Lib.hid hk
  have IH := Lib.hid ih
  have hg1 : Grows w (w.alloc (.cells #[.int .i64 op, .int .i64 v, .int .i64 x, .slice a n cap] 26)) := (Grows.refl _).alloc _
  have hbx := heap_alloc_new w (.cells #[.int .i64 op, .int .i64 v, .int .i64 x, .slice a n cap] 26)
  obtain ⟨W1, hW1⟩ : ∃ W1, w.alloc (.cells #[.int .i64 op, .int .i64 v, .int .i64 x, .slice a n cap] 26) = W1 := ⟨_, rfl⟩
  rw [hW1] at hg1 hbx
  have hsz1 : w.heap.size < W1.heap.size := (Array.getElem?_eq_some_iff.1 hbx).1
  have HG1 := Lib.hid hg1
  clear hF hk ih hg1
  have HSZ := Lib.hid (show 1 + szL gs ≤ 1099511627776 by unfold szF at hsz; exact hsz)
  clear hsz
  go_enter Try.func43, Try.ntmps43
  go_upto_region 1 with fail
  try rw [hW1]
  clear hW1
  obtain ⟨B, hB⟩ : ∃ B, w.heap.size = B := ⟨_, rfl⟩
  rw [hB] at hbx hsz1 ⊢
  have c0 : W1.cell? ⟨B, 0, none⟩ = some (.int .i64 op) := by simp [World.cell?, hbx]
  have c2 : W1.cell? ⟨B, 2, none⟩ = some (.int .i64 x) := by simp [World.cell?, hbx]
  have c3 : W1.cell? ⟨B, 3, none⟩ = some (.slice a n cap) := by simp [World.cell?, hbx]
  have HBX := Lib.hid hbx
  clear hbx hB
  go_wp2_with fail
  go_loopw [3, 9] (fun s i wr => ∃ (q m : Nat), i = .int .i64 q ∧ q ≤ n ∧ s = .int .i64 m ∧ Grows W1 wr ∧ Hid (m = 1 + szL (gs.take q))) (fun _ i _ => n - (RowKit.intOf i).toNat)
  case atStart => exact ⟨0, 1, rfl, Nat.zero_le _, rfl, Grows.refl _, Lib.hid rfl⟩
  case round =>
    obtain ⟨q, m, rfl, hq, rfl, hgr, HM⟩ := hrel
    by_cases hqn : q < n
    · have hqn' : (q : Int) < n := by omega
      obtain ⟨b, o, op2, v2, x2, bs, a2, n2, cap2, rfl, hb, hel, d0, d1, d2, d3, hF2⟩ := (HF.out.below (HG1.out.trans hgr).below).elem q hqn
      have hsm := mem_small (op := op) (v := v) (x := x) hel
      have hg2 : Grows wr (wr.alloc (.cells #[.int .i64 op2, .int .i64 v2, .int .i64 x2, .slice a2 n2 cap2] 26)) := (Grows.refl _).alloc _
      have hNX := take_next hel
      have HG2 := Lib.hid (hgr.trans hg2)
      have hN : 1 + szL (gs.take (q + 1)) = m + szF (.mk op2 v2 x2 bs) := by
        rw [hNX, szL_app, HM.out]
        simp only [szL]
        omega
      have hbd := szL_take_le gs (q + 1)
      have hle2 : m + szF (.mk op2 v2 x2 bs) ≤ 1099511627776 := by have := HSZ.out; omega
      have hC := IH.out op2 v2 x2 bs a2 n2 cap2 _ (by have := HK.out; omega) (hF2.below hg2.below) (by omega)
      obtain ⟨s2, hs2⟩ : ∃ s2, szF (.mk op2 v2 x2 bs) = s2 := ⟨_, rfl⟩
      rw [hs2] at hN hle2 hC
      have hw : wrap64 ((m : Int) + (s2 : Int)) = ((m + s2 : Nat) : Int) := by unfold wrap64; omega
      have HN := Lib.hid hN
      clear hel hsm hN hg2 hF2 HM hgr hNX hbd hle2 hs2
      go_wp2_with fail
      refine hC.mono ?_
      rintro e w3 ⟨rfl, hg3⟩
      have HG3 := Lib.hid (HG2.out.trans hg3)
      clear hg3 hC
      go_wp2_with fail
      go_roundw
      case rel => exact ⟨q + 1, m + s2, by go_num, by omega, by first | rfl | (simp only [hw]), HG3.out, Lib.hid HN.out.symm⟩
      case measure => simp [RowKit.intOf]; omega
    · obtain rfl : q = n := by omega
      have HE := Lib.hid (show m = szF (.mk op v x gs) by rw [HM.out, List.take_of_length_le (by rw [HL.out]; exact Nat.le_refl _)]; unfold szF; rfl)
      have HG4 := Lib.hid (HG1.out.trans hgr)
      clear HM hgr
      go_wp2_with fail
      go_ret
      exact ⟨by rw [← HE.out]; rfl, HG4.out⟩
set_option maxRecDepth 100000 in
set_option maxHeartbeats 4000000 in
theorem rest_calls : ∀ (k : Nat) (op v x : Int) (gs : List Fm) (a : Option Addr) (n cap : Nat) (nn : Int) (w : World), SizeOf.sizeOf (Fm.mk op v x gs) ≤ k → FitS w gs a n cap → 0 ≤ nn → nn ≤ 65536 →
    Calls Try.prog 27 #[.agg #[.int .i64 op, .int .i64 v, .int .i64 x, .slice a n cap], .int .i64 nn] w fun e w' => e = .returned (.int .i64 (restF (.mk op v x gs) nn)) ∧ Grows w w' := by
  intro k
  induction k with
  | zero => intro op v x gs a n cap nn w hk; exact absurd hk (by simp)
  | succ k ih =>
  intro op v x gs a n cap nn w hk hF hn0 hn1
  have hcm := hF.cap_le
  have hle := hF.le
  have hnb : n ≤ 9223372036854775807 := by unfold maxLen at hcm; omega
  have HL := Lib.hid hF.len
  have HF := Lib.hid hF
  have HK := Lib.hid hk
  have IH := Lib.hid ih
  have hg1 : Grows w (w.alloc (.cells #[.int .i64 op, .int .i64 v, .int .i64 x, .slice a n cap] 26)) := (Grows.refl _).alloc _
  have hbx := heap_alloc_new w (.cells #[.int .i64 op, .int .i64 v, .int .i64 x, .slice a n cap] 26)
  obtain ⟨W1, hW1⟩ : ∃ W1, w.alloc (.cells #[.int .i64 op, .int .i64 v, .int .i64 x, .slice a n cap] 26) = W1 := ⟨_, rfl⟩
  rw [hW1] at hg1 hbx
  have hsz1 : w.heap.size < W1.heap.size := (Array.getElem?_eq_some_iff.1 hbx).1
  have HG1 := Lib.hid hg1
  clear hF hk ih hg1
  have hw1 : wrap64 (nn - 1) = nn - 1 := by unfold wrap64; omega
  have hr0 : -1 ≤ nn - 1 := by omega
  have hr1 : nn - 1 ≤ 65536 := by omega
  go_enter Try.func27, Try.ntmps27
  go_upto_region 1 with fail
  try rw [hW1]
  clear hW1
  obtain ⟨B, hB⟩ : ∃ B, w.heap.size = B := ⟨_, rfl⟩
  rw [hB] at hbx hsz1 ⊢
  have c0 : W1.cell? ⟨B, 0, none⟩ = some (.int .i64 op) := by simp [World.cell?, hbx]
  have c2 : W1.cell? ⟨B, 2, none⟩ = some (.int .i64 x) := by simp [World.cell?, hbx]
  have c3 : W1.cell? ⟨B, 3, none⟩ = some (.slice a n cap) := by simp [World.cell?, hbx]
  have HBX := Lib.hid hbx
  clear hbx hB
  go_wp2_with fail
  clear hw1 c0 c2 c3 hn0 hn1
  go_loopw [1, 5] (fun s i wr => ∃ (q : Nat) (m : Int), i = .int .i64 q ∧ q ≤ n ∧ s = .int .i64 m ∧ Grows W1 wr ∧ -1 ≤ m ∧ m ≤ 65536 ∧ Hid (m = restL (gs.take q) (nn - 1))) (fun _ i _ => n - (RowKit.intOf i).toNat)
  case atStart => exact ⟨0, nn - 1, rfl, Nat.zero_le _, rfl, Grows.refl _, hr0, hr1, Lib.hid rfl⟩
  case round =>
    obtain ⟨q, m, rfl, hq, rfl, hgr, hm0, hm1, HM⟩ := hrel
    have k3 : wr.cell? ⟨B, 3, none⟩ = some (.slice a n cap) := by
      have h := (hgr.below.block B hsz1).trans HBX.out
      simp [World.cell?, h]
    by_cases hqn : q < n
    · have hqn' : (q : Int) < n := by omega
      by_cases hm : 0 ≤ m
      · skip
        obtain ⟨b, o, op2, v2, x2, bs, a2, n2, cap2, rfl, hb, hel, d0, d1, d2, d3, hF2⟩ := (HF.out.below (HG1.out.trans hgr).below).elem q hqn
        have hsm := mem_small (op := op) (v := v) (x := x) hel
        have hg2 : Grows wr (wr.alloc (.cells #[.int .i64 op2, .int .i64 v2, .int .i64 x2, .slice a2 n2 cap2] 26)) := (Grows.refl _).alloc _
        have hNX := take_next hel
        have HG2 := Lib.hid (hgr.trans hg2)
        have hN : restL (gs.take (q + 1)) (nn - 1) = restF (.mk op2 v2 x2 bs) m := by
          rw [hNX, restL_app, ← HM.out]
          unfold restL
          rw [if_pos hm]
          rfl
        have hC := IH.out op2 v2 x2 bs a2 n2 cap2 m _ (by have := HK.out; omega) hF2 hm hm1
        have hrng := restF_le (.mk op2 v2 x2 bs) m hm
        obtain ⟨s2, hs2⟩ : ∃ s2, restF (.mk op2 v2 x2 bs) m = s2 := ⟨_, rfl⟩
        rw [hs2] at hN hC hrng
        have hs20 : -1 ≤ s2 := hrng.1
        have hs21 : s2 ≤ 65536 := by omega
        have HN := Lib.hid hN
        have HGR := Lib.hid hgr
        clear hel hsm hN hg2 hF2 HM hgr hNX hs2 hrng HG2
        go_wp2_with fail
        refine hC.mono ?_
        rintro e w3 ⟨rfl, hg3⟩
        have HG3 := Lib.hid (HGR.out.trans hg3)
        clear hg3 hC k3 d0 d1 d2 d3
        go_wp2_with fail
        go_roundw
        case rel => exact ⟨q + 1, s2, by go_num, by omega, rfl, HG3.out, hs20, hs21, Lib.hid HN.out.symm⟩
        case measure => simp [RowKit.intOf]; omega
      · have HE := Lib.hid (show m = restF (.mk op v x gs) nn by
          have h1 := restL_app (gs.take q) (gs.drop q) (nn - 1)
          rw [List.take_append_drop, ← HM.out, restL_neg (gs.drop q) m (by omega)] at h1
          unfold restF
          rw [h1])
        have HG4 := Lib.hid (HG1.out.trans hgr)
        have hm' : ¬ 0 ≤ m := hm
        clear HM hgr
        go_wp2_with fail
        go_ret
        exact ⟨by rw [← HE.out]; rfl, HG4.out⟩
    · obtain rfl : q = n := by omega
      have HE := Lib.hid (show m = restF (.mk op v x gs) nn by rw [HM.out, List.take_of_length_le (by rw [HL.out]; exact Nat.le_refl _)]; unfold restF; rfl)
      have HG4 := Lib.hid (HG1.out.trans hgr)
      clear HM hgr
      go_wp2_with fail
      go_ret
      exact ⟨by rw [← HE.out]; rfl, HG4.out⟩
end Go.Proofs.Ytmdanfeilgeoaaa
