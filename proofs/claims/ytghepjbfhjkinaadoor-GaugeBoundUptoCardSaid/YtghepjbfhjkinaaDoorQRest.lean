/- gimletref11.rest, restList and Great of any path. Printed by wip/mkqrest.py. -/
import Derived.Test.YtghepjbfhjkinaaDoorQTree
import Derived.Deep.CutRange
import Derived.Deep.CutBlock
import Derived.BigQuiet
namespace Go.Proofs.YtghepjbfhjkinaaDoor
open Go.RowKit Gim
def RX (k : Nat) : Prop := ∀ (xs : List Ex) (a : Option Addr) (n cap : Nat) (nn : Int) (w : World), SizeOf.sizeOf xs ≤ k → FitXS w xs a n cap → wXL xs ≤ 1152921504606846976 → -2305843009213693952 ≤ nn → nn ≤ 1048576 →
  Calls Tryd.prog 13 #[.slice a n cap, .int .i64 nn] w fun e w' => e = .returned (.int .i64 (restXL xs nn)) ∧ Drew w w'
def RT (k : Nat) : Prop := ∀ (xs : List St) (a : Option Addr) (n cap : Nat) (nn : Int) (w : World), SizeOf.sizeOf xs ≤ k → FitTS w xs a n cap → wTL xs ≤ 1152921504606846976 → -2305843009213693952 ≤ nn → nn ≤ 1048576 →
  Calls Tryd.prog 8 #[.slice a n cap, .int .i64 nn] w fun e w' => e = .returned (.int .i64 (restTL xs nn)) ∧ Drew w w'
set_option maxRecDepth 100000 in
set_option maxHeartbeats 8000000 in
theorem rx_next (k : Nat) (hX : RX k) (hT : RT k) : RX (k + 1) := by
  intro xs a n cap nn w hk hF hw hn0 hn1
  have hcm := hF.cap_le
  have hle := hF.le
  have hnb : n ≤ 9223372036854775807 := by unfold maxLen at hcm; omega
  have HL := Lib.hid hF.len
  have HF := Lib.hid hF
  have HK := Lib.hid hk
  have HW := Lib.hid hw
  have HX := Lib.hid hX
  have HT := Lib.hid hT
  have HN1 := Lib.hid hn1
  clear hF hk hw hX hT hn0 hn1
  go_enter Tryd.func13, Tryd.ntmps13
  go_wp2_with fail
  go_loopw [1, 5] (fun s i wr => ∃ (q : Nat) (m : Int), i = .int .i64 q ∧ q ≤ n ∧ s = .int .i64 m ∧ Drew w wr ∧ Hid (m = restXL (xs.take q) nn)) (fun _ i _ => n - (RowKit.intOf i).toNat)
  case atStart => exact ⟨0, nn, rfl, Nat.zero_le _, rfl, Drew.refl _, Lib.hid (by simp [restXL])⟩
  case round =>
    obtain ⟨q, m, rfl, hq, rfl, hd, HM⟩ := hrel
    by_cases hqn : q < n
    · have hqn' : (q : Int) < n := by omega
      by_cases hm : 0 ≤ m
      · obtain ⟨b, o, op, args, sts, nm, cmp, txt, num, a1, n1, c1, a2, n2, c2, rfl, hbb, hel, f0, f1, f2, f3, f4, f5, f6, hF1, hF2⟩ := (HF.out.below (hd.below _)).elem q hqn
        have hsm := sizeX_mem hel
        have hwm := wX_mem hel
        simp only [Ex.mk.sizeOf_spec] at hsm
        unfold wX at hwm
        have hNX := takeL_next hel
        have HN := Lib.hid (show restXL (xs.take (q + 1)) nn = restTL sts (restXL args (m - 1 - nm.size - txt.size)) by
          rw [hNX, restXL_app, ← HM.out]
          simp only [restXL, restX]
          rw [if_pos hm])
        have hmn : m ≤ 1048576 := by have h1 := (restXL_le (xs.take q) nn).2.1; rw [← HM.out] at h1; have h2 := HN1.out; omega
        have hwt := HW.out
        have hrl := restXL_le args (m - 1 - nm.size - txt.size)
        have HC1 := Lib.hid (fun j => HX.out args a1 n1 c1 (m - 1 - nm.size - txt.size) (wr.drewN j) (by have := HK.out; omega) (hF1.below (((Drew.refl wr).drewN j).below _)) (by omega) (by omega) (by omega))
        have HC2 := Lib.hid (fun j => HT.out sts a2 n2 c2 (restXL args (m - 1 - nm.size - txt.size)) (wr.drewN j) (by have := HK.out; omega) (hF2.below (((Drew.refl wr).drewN j).below _)) (by omega) (by omega) (by omega))
        have hw1 : wrap64 (m - 1) = m - 1 := by unfold wrap64; omega
        have hw2 : wrap64 (m - 1 - (nm.size : Int)) = m - 1 - nm.size := by unfold wrap64; omega
        have hw3 : wrap64 (m - 1 - (nm.size : Int) - (txt.size : Int)) = m - 1 - nm.size - txt.size := by unfold wrap64; omega
        obtain ⟨s1, hs1⟩ : ∃ s1, restXL args (m - 1 - nm.size - txt.size) = s1 := ⟨_, rfl⟩
        rw [hs1] at HN
        simp only [hs1] at HC1 HC2
        obtain ⟨s2, hs2⟩ : ∃ s2, restTL sts s1 = s2 := ⟨_, rfl⟩
        rw [hs2] at HN
        simp only [hs2] at HC2
        clear hel hsm hwm hNX HM hrl hs1 hs2 hF1 hF2 hwt hbb
        go_wp2
        go_quiet (first | (with_reducible exact Calls.quiet_of (HC1.out _)) | (with_reducible exact Calls.quiet_of (HC2.out _)))
        go_wp2
        go_roundw
        case rel => exact ⟨q + 1, s2, by go_num, by omega, rfl, hd.drewN _, Lib.hid HN.out.symm⟩
        case measure => simp [RowKit.intOf]; omega
      · have HE := Lib.hid (show m = restXL xs nn by
          have h1 := restXL_app (xs.take q) (xs.drop q) nn
          rw [List.take_append_drop, ← HM.out, restXL_neg (xs.drop q) m (by omega)] at h1
          exact h1.symm)
        have hm' : ¬ 0 ≤ m := hm
        clear HM
        go_wp2_with fail
        go_ret
        exact ⟨by rw [← HE.out]; rfl, hd⟩
    · obtain rfl : q = n := by omega
      have HE := Lib.hid (show m = restXL xs nn by
        have h := HM.out
        rw [List.take_of_length_le (by rw [HL.out]; exact Nat.le_refl _)] at h
        exact h)
      clear HM
      go_wp2_with fail
      go_ret
      exact ⟨by rw [← HE.out]; rfl, hd⟩
set_option maxRecDepth 100000 in
set_option maxHeartbeats 8000000 in
theorem rt_next (k : Nat) (hX : RX k) (hT : RT k) : RT (k + 1) := by
  intro xs a n cap nn w hk hF hw hn0 hn1
  have hcm := hF.cap_le
  have hle := hF.le
  have hnb : n ≤ 9223372036854775807 := by unfold maxLen at hcm; omega
  have HL := Lib.hid hF.len
  have HF := Lib.hid hF
  have HK := Lib.hid hk
  have HW := Lib.hid hw
  have HX := Lib.hid hX
  have HT := Lib.hid hT
  have HN1 := Lib.hid hn1
  clear hF hk hw hX hT hn0 hn1
  go_enter Tryd.func8, Tryd.ntmps8
  go_wp2_with fail
  go_loopw [1, 5] (fun s i wr => ∃ (q : Nat) (m : Int), i = .int .i64 q ∧ q ≤ n ∧ s = .int .i64 m ∧ Drew w wr ∧ Hid (m = restTL (xs.take q) nn)) (fun _ i _ => n - (RowKit.intOf i).toNat)
  case atStart => exact ⟨0, nn, rfl, Nat.zero_le _, rfl, Drew.refl _, Lib.hid (by simp [restTL])⟩
  case round =>
    obtain ⟨q, m, rfl, hq, rfl, hd, HM⟩ := hrel
    by_cases hqn : q < n
    · have hqn' : (q : Int) < n := by omega
      by_cases hm : 0 ≤ m
      · obtain ⟨b, o, ax, ts, nm, wh, a1, n1, c1, rfl, hbb, hel, d0, d1, d2, d3, hF1⟩ := (HF.out.below (hd.below _)).elem q hqn
        have hsm := sizeT_mem hel
        have hwm := wT_mem hel
        simp only [St.mk.sizeOf_spec] at hsm
        unfold wT at hwm
        have hNX := takeL_next hel
        have HN := Lib.hid (show restTL (xs.take (q + 1)) nn = restXL wh (m - 1 - nm.size) by
          rw [hNX, restTL_app, ← HM.out]
          simp only [restTL, restT]
          rw [if_pos hm])
        have hmn : m ≤ 1048576 := by have h1 := (restTL_le (xs.take q) nn).2.1; rw [← HM.out] at h1; have h2 := HN1.out; omega
        have hwt := HW.out
        have HC1 := Lib.hid (fun j => HX.out wh a1 n1 c1 (m - 1 - nm.size) (wr.drewN j) (by have := HK.out; omega) (hF1.below (((Drew.refl wr).drewN j).below _)) (by omega) (by omega) (by omega))
        have hw1 : wrap64 (m - 1) = m - 1 := by unfold wrap64; omega
        have hw2 : wrap64 (m - 1 - (nm.size : Int)) = m - 1 - nm.size := by unfold wrap64; omega
        obtain ⟨s2, hs2⟩ : ∃ s2, restXL wh (m - 1 - nm.size) = s2 := ⟨_, rfl⟩
        rw [hs2] at HN
        simp only [hs2] at HC1
        clear hel hsm hwm hNX HM hs2 hF1 hwt hbb
        go_wp2
        go_quiet (with_reducible exact Calls.quiet_of (HC1.out _))
        go_wp2
        go_roundw
        case rel => exact ⟨q + 1, s2, by go_num, by omega, rfl, hd.drewN _, Lib.hid HN.out.symm⟩
        case measure => simp [RowKit.intOf]; omega
      · have HE := Lib.hid (show m = restTL xs nn by
          have h1 := restTL_app (xs.take q) (xs.drop q) nn
          rw [List.take_append_drop, ← HM.out, restTL_neg (xs.drop q) m (by omega)] at h1
          exact h1.symm)
        have hm' : ¬ 0 ≤ m := hm
        clear HM
        go_wp2_with fail
        go_ret
        exact ⟨by rw [← HE.out]; rfl, hd⟩
    · obtain rfl : q = n := by omega
      have HE := Lib.hid (show m = restTL xs nn by
        have h := HM.out
        rw [List.take_of_length_le (by rw [HL.out]; exact Nat.le_refl _)] at h
        exact h)
      clear HM
      go_wp2_with fail
      go_ret
      exact ⟨by rw [← HE.out]; rfl, hd⟩
theorem rest_all : ∀ k, RX k ∧ RT k
  | 0 => ⟨fun xs _ _ _ _ _ hk => absurd hk (by cases xs <;> simp), fun xs _ _ _ _ _ hk => absurd hk (by cases xs <;> simp)⟩
  | k + 1 => ⟨rx_next k (rest_all k).1 (rest_all k).2, rt_next k (rest_all k).1 (rest_all k).2⟩
theorem great_calls (sts : List St) (a : Option Addr) (n cap : Nat) (w : World) (hF : FitTS w sts a n cap) (hw : wTL sts ≤ 1152921504606846976) :
    Calls Tryd.prog 4 #[.agg #[.slice a n cap]] w fun e w' => e = .returned (.bool (decide (restTL sts 262144 < 0))) ∧ Below w.heap.size w w' := by
  have b0 : Below w.heap.size w (w.alloc (.cells #[.slice a n cap] 24)) := (Below.refl _ _).alloc (Nat.le_refl _) _
  have hC := (rest_all _).2 sts a n cap 262144 _ (Nat.le_refl _) (hF.below b0) hw (by omega) (by omega)
  obtain ⟨r, hr⟩ : ∃ r, restTL sts 262144 = r := ⟨_, rfl⟩
  rw [hr] at hC ⊢
  have HB := Lib.hid b0
  clear hr hF b0 hw
  go_enter Tryd.func4, Tryd.ntmps4
  go_wp2_with fail
  refine hC.mono ?_
  rintro e w1 ⟨rfl, d1⟩
  have HB1 := Lib.hid (HB.out.trans ((d1.below _).mono HB.out.size))
  clear hC d1
  go_wp2_with fail
  go_ret
  exact ⟨rfl, HB1.out⟩
end Go.Proofs.YtghepjbfhjkinaaDoor
