/- The walks of words.borders, words.Border, gimletref03.Border. -/
import Derived.Test.YtgajinnbmnnccaaRunes
import Derived.Test.YtgajinnbmnnccaaStands
namespace Go.Proofs.Ytgajinnbmnnccaa
open Go.RowKit Gim

theorem info_int : (Try.prog.info? 3).map (fun i => (i.zero, i.size, i.bytes)) = some (some (.int .i64 0), 1, 8) := by kernel_rfl

set_option maxHeartbeats 1000000 in
theorem borders (a0 : Option Addr) (n0 c0 : Nat) (t : List Int) (w : World) (h0 : Rd w .i32 a0 n0 c0 t) (hl : n0 ≤ 1099511627776) :
    Calls Try.prog 41 #[.slice a0 n0 c0] w (GivesFull w 3 .i64 (brs t)) := by
  obtain ⟨i0, hi, hz0, hz1, hz2⟩ := info_parts info_int
  have H0 := Lib.hid h0.len
  go_enter Try.func41, Try.ntmps41
  go_wp2_with (at_make; refine wpList_make_full _ rfl _ _ 38 rfl w.heap.size 3 i0 (.int .i64 0) 1 Try.underlying38 hi hz0 hz1 _ _ _ _ n0 rfl rfl rfl rfl (by rw [hz2]; omega) (by unfold maxLen; omega) (Nat.le_refl _) ?_; intro w1 hown1 hgrow1)
  have hb1 : Below w.heap.size w w1 := (Below.refl _ _).grown hgrow1 (Nat.le_refl _) (fun k hk => by cases hk)
  rw [madeInts] at hown1
  have hrow1 : Row w1 w.heap.size 3 .i64 (.slice (some ⟨w.heap.size, 0, none⟩) n0 n0) (brTab t 1) := by
    unfold Row; rw [brTab_length, brTab_zero, H0.out]; exact hown1
  clear hown1 hgrow1
  go_loopw [4] (fun v wr => ∃ m : Nat, v = .int .i64 ((m : Int) + 1) ∧ Row wr w.heap.size 3 .i64 (.slice (some ⟨w.heap.size, 0, none⟩) n0 n0) (brTab t (m + 1)) ∧ Below w.heap.size w wr) (fun v _ => n0 - (intOf v).toNat)
  case atStart => exact ⟨0, rfl, hrow1, hb1⟩
  case round =>
    obtain ⟨m, rfl, hrow, hbw⟩ := hrel
    by_cases hm : m + 1 < n0
    · have hm' : (m : Int) + 1 < n0 := by omega
      have hlen := Lib.hid (brTab_length t (m + 1))
      have hc : wr.cell? ⟨w.heap.size, m, none⟩ = some (.int .i64 (br t (m + 1) : Int)) := by
        rw [hrow.cell (by rw [hlen.out, H0.out]; omega)]
        have := brTab_get (t := t) (n := m + 1) (j := m) (by rw [H0.out]; omega)
        simp [gt, this]
      have hbr := br_lt (t := t) (n := m + 1) (by omega)
      obtain ⟨wo, rfl⟩ : ∃ wo : World, wo = wr := ⟨_, rfl⟩
      obtain ⟨q0, hq0⟩ : ∃ q, q = br t (m + 1) := ⟨_, rfl⟩
      rw [← hq0] at hc hbr
      have HQ := Lib.hid hq0
      clear hq0
      have HC := Lib.hid (show Cand t (m + 1) q0 (gt t (m + 1)) by rw [HQ.out]; exact cand_start _ (by omega))
      go_wp2
      clear hc HQ hbr
      go_loopw [5] (fun v wi => ∃ q : Nat, v = .int .i64 q ∧ Hid (Cand t (m + 1) q (gt t (m + 1))) ∧ Row wi w.heap.size 3 .i64 (.slice (some ⟨w.heap.size, 0, none⟩) n0 n0) (brTab t (m + 1)) ∧ Below w.heap.size w wi) (fun v _ => (intOf v).toNat)
      case atStart => exact ⟨q0, rfl, HC, hrow, hbw⟩
      case round =>
        clear hrow hbw HC
        obtain ⟨q, rfl, HC, hrow, hbw⟩ := hrel
        have hqm : q < m + 1 := HC.out.2.1
        obtain ⟨b0, o0, rfl, hb0, hc0⟩ := (h0.below hbw).cell 0 (by omega)
        have hx := hc0 (m + 1) hm
        have hy := hc0 q (by omega)
        have hfr := hrow.free (m + 1)
        have hold := hrow.cell (j := m + 1) (by rw [hlen.out, H0.out]; omega)
        have hnn : (0 : Int) ≤ m := by omega
        clear hc0
        by_cases heq : gt t q = gt t (m + 1)
        · have he : (gt t q == gt t (m + 1)) = true := by simpa using heq
          have hne : (gt t q != gt t (m + 1)) = false := by simpa using heq
          have HB := Lib.hid (cand_hit HC.out heq)
          have HS : Hid (∀ n, Row ((wr.drewN n).setCell ⟨w.heap.size, m + 1, none⟩ (.int .i64 ((q : Int) + 1))) w.heap.size 3 .i64 (.slice (some ⟨w.heap.size, 0, none⟩) n0 n0) (brTab t (m + 1 + 1))) := fun n => by
            have := (hrow.drewN n).set' (m + 1) ((q : Int) + 1)
            rwa [show (brTab t (m + 1)).set (m + 1) ((q : Int) + 1) = brTab t (m + 1 + 1) from by rw [show ((q : Int) + 1) = ((br t (m + 1 + 1) : Nat) : Int) from by rw [HB.out]; omega]; exact brTab_set (by rw [H0.out]; exact hm)] at this
          clear heq
          by_cases hq : 0 < q
          · have hd : decide ((0 : Int) < (q : Int)) = true := by simpa using hq
            go_wp2
            go_quiet (fail)
            go_wp2
            go_quiet (fail)
            go_wp2
            go_roundw
            case rel => exact ⟨m + 1, by go_num, HS.out _, (below_drewN hbw _).setCell (Nat.le_refl _) _⟩
            case measure => simp [intOf]; omega
          · obtain rfl : q = 0 := by omega
            rw [Nat.add_zero] at hy
            go_wp2
            go_quiet (fail)
            go_wp2
            go_quiet (fail)
            go_wp2
            go_roundw
            case rel => exact ⟨m + 1, by go_num, HS.out _, (below_drewN hbw _).setCell (Nat.le_refl _) _⟩
            case measure => simp [intOf]; omega
        · have he : (gt t q == gt t (m + 1)) = false := by simpa using heq
          have hne : (gt t q != gt t (m + 1)) = true := by simpa using heq
          by_cases hq : 0 < q
          · have hc : wr.cell? ⟨w.heap.size, q - 1, none⟩ = some (.int .i64 (br t q : Int)) := by
              rw [hrow.cell (by rw [hlen.out, H0.out]; omega)]
              have := brTab_get (t := t) (n := m + 1) (j := q - 1) (by rw [H0.out]; omega)
              simp [gt, this, show q - 1 < m + 1 by omega, show q - 1 + 1 = q by omega]
            have HC2 := Lib.hid (cand_down HC.out hq heq)
            have hbl := br_lt (t := t) hq
            have hd : decide ((0 : Int) < (q : Int)) = true := by simpa using hq
            clear heq
            go_wp2
            go_quiet (fail)
            go_wp2
            go_roundw
            case rel => exact ⟨br t q, rfl, HC2, hrow.drewN _, below_drewN hbw _⟩
            case measure => simp [intOf]; omega
          · obtain rfl : q = 0 := by omega
            rw [Nat.add_zero] at hy
            have HB := Lib.hid (cand_miss HC.out heq)
            have HS : Hid (∀ n, Row ((wr.drewN n).setCell ⟨w.heap.size, m + 1, none⟩ (.int .i64 0)) w.heap.size 3 .i64 (.slice (some ⟨w.heap.size, 0, none⟩) n0 n0) (brTab t (m + 1 + 1))) := fun n => by
              have := (hrow.drewN n).set' (m + 1) 0
              rwa [show (brTab t (m + 1)).set (m + 1) 0 = brTab t (m + 1 + 1) from by rw [show (0 : Int) = ((br t (m + 1 + 1) : Nat) : Int) from by rw [HB.out]; rfl]; exact brTab_set (by rw [H0.out]; exact hm)] at this
            clear heq
            go_wp2
            go_quiet (fail)
            go_wp2
            go_quiet (fail)
            go_wp2
            go_roundw
            case rel => exact ⟨m + 1, by go_num, HS.out _, (below_drewN hbw _).setCell (Nat.le_refl _) _⟩
            case measure => simp [intOf]; omega
    · have hm' : ¬ (m : Int) + 1 < n0 := by omega
      have HD := Lib.hid (brTab_done (t := t) (n := m + 1) (by rw [H0.out]; omega))
      go_wp2
      go_ret
      rw [HD.out] at hrow
      have HLN := Lib.hid (show (brs t).length = n0 by rw [brs_length, H0.out])
      exact ⟨w.heap.size, by rw [HLN.out]; rfl, by rw [HLN.out]; exact hrow, hbw⟩

set_option maxHeartbeats 400000 in
theorem border (s : ByteArray) (w : World) (hs : s.size ≤ 1099511627776) :
    Calls Try.prog 27 #[.string s] w (GivesFull w 3 .i64 (brs (rs s))) := by
  have l1 := rs_length s
  go_enter Try.func27, Try.ntmps27
  go_wp2_with fail
  refine (wordsRunes _ _ hs).mono ?_
  rintro e w1 ⟨v1, rfl, hr1, hb1⟩
  obtain ⟨a1, c1, rfl, rd1⟩ := hr1.rd
  go_wp2_with fail
  refine (borders _ _ _ _ _ rd1 (by omega)).mono ?_
  rintro e w2 ⟨g2, rfl, hr2, hb2⟩
  go_wp2_with fail
  go_ret
  exact ⟨g2, rfl, hr2.mono hb1.size, hb1.trans (hb2.mono hb1.size)⟩

end Go.Proofs.Ytgajinnbmnnccaa
