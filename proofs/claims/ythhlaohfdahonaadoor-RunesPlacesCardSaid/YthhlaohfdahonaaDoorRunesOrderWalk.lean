/- The walk of gimletlaw01.RunesOrder. -/
import Derived.Test.YthhlaohfdahonaaDoorConvR
import Derived.Test.YthhlaohfdahonaaDoorAwakeA
namespace Gim
open Go
theorem encs_size : ∀ {l : List Int}, (∀ r ∈ l, Ch r) → (encs l).length ≤ 4 * l.length
  | [], _ => by simp [encs]
  | r :: l, h => by
    have h1 := encs_size (fun x hx => h x (List.mem_cons_of_mem _ hx))
    have h2 := (enc_len (h r List.mem_cons_self)).2.1
    simp only [encs, List.flatMap_cons, List.length_append, List.length_cons] at h1 ⊢
    omega
theorem mend_size (s : ByteArray) : (runesBytes (rs s)).size ≤ 4 * s.size := by
  have h1 := encs_size (rs_ch s)
  have h2 := rs_length s
  have h3 := Lib.size_eq (runesBytes (rs s))
  rw [runesBytes_list] at h3
  omega
end Gim
namespace Go.Proofs.YthhlaohfdahonaaDoor
open Go.RowKit Gim
set_option maxHeartbeats 4000000 in
theorem runesOrder_walk (s t : ByteArray) (w : World) (hs : s.size ≤ 140737488351232) (ht : t.size ≤ 140737488351232) (hT : U8 w) :
    Calls Tryd.prog 4 #[.string s, .string t] w fun e w' => e = .returned (.bool true) ∧ Below w.heap.size w w' := by
  have hms := mend_size s
  have hmt := mend_size t
  have hlt := Lib.hid (runesBytes_less (rs_ch s) (rs_ch t))
  have heq := Lib.hid (runesBytes_eq (rs_ch s) (rs_ch t))
  have hrs := Lib.hid (rs_mend s)
  have hrt := Lib.hid (rs_mend t)
  have hls := rs_length s
  have hlt2 := rs_length t
  obtain ⟨S, hS⟩ : ∃ S, S = runesBytes (rs s) := ⟨_, rfl⟩
  obtain ⟨T, hTT⟩ : ∃ T, T = runesBytes (rs t) := ⟨_, rfl⟩
  rw [← hS] at hms hlt heq hrs
  rw [← hTT] at hmt hlt heq hrt
  have HS := Lib.hid hS
  have HTT := Lib.hid hTT
  clear hS hTT
  go_enter Tryd.func4, Tryd.ntmps4
  go_wp2_with fail
  refine (awake_calls _ hT).mono ?_
  rintro e w1 ⟨rfl, hb1⟩
  go_wp2_with fail
  refine (mend_calls s _ (by omega)).mono ?_
  rintro e w2 ⟨rfl, hb2⟩
  rw [← HS.out]
  go_wp2_with fail
  refine (mend_calls t _ (by omega)).mono ?_
  rintro e w3 ⟨rfl, hb3⟩
  rw [← HTT.out]
  have h2 := hb1.trans (hb2.mono hb1.size)
  have h3 := h2.trans (hb3.mono h2.size)
  go_wp2_with fail
  refine (runes_calls S _ (by omega)).mono ?_
  rintro e w4 ⟨v4, rfl, hr4, hb4⟩
  rw [hrs.out] at hr4
  obtain ⟨a4, c4, rfl, rd4⟩ := hr4.rd
  go_wp2_with fail
  refine (runes_calls T _ (by omega)).mono ?_
  rintro e w5 ⟨v5, rfl, hr5, hb5⟩
  rw [hrt.out] at hr5
  obtain ⟨a5, c5, rfl, rd5⟩ := hr5.rd
  have h4 := h3.trans (hb4.mono h3.size)
  have h5 := h4.trans (hb5.mono h4.size)
  replace rd4 := rd4.below hb5
  clear hr4 hr5 hb1 hb2 hb3 hb4 hb5 h2 h3 h4
  obtain ⟨x, hx⟩ : ∃ x, x = rs s := ⟨_, rfl⟩
  obtain ⟨y, hy⟩ : ∃ y, y = rs t := ⟨_, rfl⟩
  rw [← hx] at rd4 hlt heq hls ⊢
  rw [← hy] at rd5 hlt heq hlt2 ⊢
  clear hx hy hrs hrt
  obtain ⟨n, hn⟩ : ∃ n, n = x.length := ⟨_, rfl⟩
  obtain ⟨m, hm⟩ : ∃ m, m = y.length := ⟨_, rfl⟩
  rw [← hn] at rd4 hls ⊢
  rw [← hm] at rd5 hlt2 ⊢
  have HN := Lib.hid hn
  have HM := Lib.hid hm
  clear hn hm
  go_wp2
  go_loopw [7] (fun v wr => ∃ k : Nat, v = .int .i64 k ∧ k ≤ n ∧ k ≤ m ∧ Hid (∀ j, j < k → gt x j = gt y j) ∧ Below w5.heap.size w5 wr) (fun v _ => n - (intOf v).toNat)
  case atStart => exact ⟨0, rfl, by omega, by omega, Lib.hid (fun j hj => by omega), Below.refl _ _⟩
  case round =>
    obtain ⟨k, rfl, hkn, hkm, HA, hb⟩ := hrel
    have hbw := h5.trans (hb.mono h5.size)
    by_cases hk : k < n ∧ k < m
    · obtain ⟨hk1, hk2⟩ := hk
      obtain ⟨bx, ox, rfl, hbx, hcx⟩ := (rd4.below hb).cell k hk1
      obtain ⟨by', oy, rfl, hby, hcy⟩ := (rd5.below hb).cell k hk2
      have hx := hcx k hk1
      have hy := hcy k hk2
      have hlex := rd4.le
      have hley := rd5.le
      clear hcx hcy rd4 rd5
      rcases Int.lt_trichotomy (gt x k) (gt y k) with hh | hh | hh
      · have HO := Lib.hid (ordI_less (by rw [← HN.out]; exact hk1) (by rw [← HM.out]; exact hk2) HA.out hh)
        have hB : Op.bytesLess S.toList T.toList = true := by rw [hlt.out, HO.out]; decide
        have hE : (S.toList == T.toList) = false := by rw [heq.out, HO.out]; decide
        have hE2 : (S.toList != T.toList) = true := by rw [bne, hE]; rfl
        have hne : (gt x k != gt y k) = true := by simp; omega
        clear HO HA HN HM hlt heq
        go_wp2
        go_quiet (fail)
        go_wp2
        go_quiet (fail)
        go_wp2
        go_ret
        exact ⟨rfl, (hbw.trans (((Drew.refl _).drewN _).below _)).trans (((Drew.refl _).drewN _).below _)⟩
      · have hne : (gt x k != gt y k) = false := by simp; omega
        have HA2 := Lib.hid (show ∀ j, j < k + 1 → gt x j = gt y j from fun j hj => by
          rcases Nat.lt_or_ge j k with h | h
          · exact HA.out j h
          · rw [show j = k by omega]; exact hh)
        clear HA HN HM hlt heq
        go_wp2
        go_quiet (fail)
        go_wp2
        go_roundw
        case rel => exact ⟨k + 1, by go_num, by omega, by omega, HA2, hb.trans (((Drew.refl _).drewN _).below _)⟩
        case measure => simp [intOf]; omega
      · have HO := Lib.hid (ordI_greater (by rw [← HN.out]; exact hk1) (by rw [← HM.out]; exact hk2) HA.out hh)
        have hB : Op.bytesLess S.toList T.toList = false := by rw [hlt.out, HO.out]; decide
        have hE : (S.toList == T.toList) = false := by rw [heq.out, HO.out]; decide
        have hE2 : (S.toList != T.toList) = true := by rw [bne, hE]; rfl
        have hd : decide (gt x k < gt y k) = false := by simp; omega
        have hne : (gt x k != gt y k) = true := by simp; omega
        clear HO HA HN HM hlt heq
        go_wp2
        go_quiet (fail)
        go_wp2
        go_quiet (fail)
        go_wp2
        go_ret
        exact ⟨rfl, (hbw.trans (((Drew.refl _).drewN _).below _)).trans (((Drew.refl _).drewN _).below _)⟩
    · rcases Nat.lt_trichotomy n m with hh | hh | hh
      · obtain rfl : k = n := by omega
        have HO := Lib.hid (ordI_short (l := x) (t := y) (fun j hj => HA.out j (by rw [← HN.out] at hj; exact hj)) (by rw [← HN.out, ← HM.out]; exact hh))
        have hB : Op.bytesLess S.toList T.toList = true := by rw [hlt.out, HO.out]; decide
        have hE : (S.toList == T.toList) = false := by rw [heq.out, HO.out]; decide
        have hE2 : (S.toList != T.toList) = true := by rw [bne, hE]; rfl
        have hnm : ((k : Int) == (m : Int)) = false := by simp; omega
        clear HO HA HN HM hlt heq
        go_wp2
        go_ret
        exact ⟨rfl, hbw⟩
      · subst hh
        obtain rfl : k = n := by omega
        have HO := Lib.hid (show ordI x y = 0 by
          rw [show x = y from gt_ext (by rw [← HN.out, ← HM.out]) (fun j hj => HA.out j (by rw [← HN.out] at hj; exact hj))]; exact ordI_self _)
        have hB : Op.bytesLess S.toList T.toList = false := by rw [hlt.out, HO.out]; decide
        have hE : (S.toList == T.toList) = true := by rw [heq.out, HO.out]; decide
        have hE2 : (S.toList != T.toList) = false := by rw [bne, hE]; rfl
        clear HO HA HN HM hlt heq
        go_wp2
        go_ret
        exact ⟨rfl, hbw⟩
      · obtain rfl : k = m := by omega
        have HO := Lib.hid (ordI_long (l := x) (t := y) (fun j hj => HA.out j (by rw [← HM.out] at hj; exact hj)) (by rw [← HN.out, ← HM.out]; exact hh))
        have hB : Op.bytesLess S.toList T.toList = false := by rw [hlt.out, HO.out]; decide
        have hE : (S.toList == T.toList) = false := by rw [heq.out, HO.out]; decide
        have hE2 : (S.toList != T.toList) = true := by rw [bne, hE]; rfl
        have hnm : ((n : Int) == (k : Int)) = false := by simp; omega
        have hd : decide ((n : Int) < k) = false := by simp; omega
        have hd2 : decide (n < k) = false := by simp; omega
        clear HO HA HN HM hlt heq
        go_wp2
        go_ret
        exact ⟨rfl, hbw⟩
end Go.Proofs.YthhlaohfdahonaaDoor
