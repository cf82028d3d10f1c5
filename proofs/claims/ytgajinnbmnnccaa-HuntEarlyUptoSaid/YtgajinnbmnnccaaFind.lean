/- The walks of words.Find and gimletref03.Find. -/
import Derived.Test.YtgajinnbmnnccaaBord
namespace Go.Proofs.Ytgajinnbmnnccaa
open Go.RowKit Gim

set_option maxHeartbeats 1000000 in
theorem find (s u : ByteArray) (w : World) (hs : s.size ≤ 1099511627776) (hu : u.size ≤ 1099511627776) :
    Calls Try.prog 26 #[.string s, .string u] w fun e w' => e = .returned (.int .i64 (findI (rs s) (rs u))) ∧ Below w.heap.size w w' := by
  have l1 := rs_length u
  by_cases h0 : (rs u).length = 0
  · have he : (((rs u).length : Int) == 0) = true := by simpa using h0
    have HF := Lib.hid (findI_empty (l := rs s) h0)
    clear h0
    go_enter Try.func26, Try.ntmps26
    go_wp2_with fail
    refine (wordsRunes _ _ hu).mono ?_
    rintro e w1 ⟨v1, rfl, hr1, hb1⟩
    obtain ⟨a1, c1, rfl, rd1⟩ := hr1.rd
    go_wp2
    go_ret
    exact ⟨by rw [HF.out]; rfl, hb1⟩
  · obtain ⟨t, ht⟩ : ∃ t, t = rs u := ⟨_, rfl⟩
    obtain ⟨n0, hn0⟩ : ∃ n, n = (rs u).length := ⟨_, rfl⟩
    have he : ((n0 : Int) == 0) = false := by rw [hn0]; simpa using h0
    rw [← ht]
    go_enter Try.func26, Try.ntmps26
    go_wp2_with fail
    refine (wordsRunes _ _ hu).mono ?_
    rintro e w1 ⟨v1, rfl, hr1, hb1⟩
    obtain ⟨a1, c1, rfl, rd1⟩ := hr1.rd
    rw [← hn0] at rd1 l1 h0 ⊢
    rw [← ht] at rd1
    have H0 := Lib.hid rd1.len
    clear hr1 hn0 ht
    go_wp2_with fail
    refine (borders _ _ _ _ _ rd1 (by omega)).mono ?_
    rintro e w2 hgive
    obtain ⟨v2, rfl, hr2, hb2⟩ := hgive.row
    obtain ⟨a2, c2, rfl, rd2⟩ := hr2.rd
    rw [brs_length, H0.out] at rd2 ⊢
    clear hgive
    have rd1' := rd1.below hb2
    have hbw := hb1.trans (hb2.mono hb1.size)
    clear rd1 hr2 hb1 hb2
    go_wp2
    go_loopw [7, 8] (fun vk vn wr => ∃ (pos k n : Nat), vk = .int .i64 k ∧ vn = .int .i64 n ∧ wr.heap[w2.heap.size]? = some (.stringIter s pos) ∧ Below w2.heap.size w2 wr ∧ Hid ((rs s).drop n = rsAt s pos) ∧ Hid (Best (rs s) t n k) ∧ n ≤ pos) (fun _ _ wr => s.size - wr.iterPos w2.heap.size)
    case atStart => exact ⟨0, 0, 0, rfl, rfl, World.iter_heap w2 s 0, (Below.refl _ _).alloc (Nat.le_refl _) _, rfl, best_start (by rw [H0.out]; omega), by omega⟩
    case round =>
      obtain ⟨pos, k, n, rfl, rfl, hit, hb, HD, HB, hlen⟩ := hrel
      have hpos0 := iterPos_of hit
      by_cases hp : pos < s.size
      · obtain ⟨W1, hnx, hw1⟩ := next_some (P := Try.prog) hit hp
        have hwd := Lib.decode_width_pos s pos hp
        obtain ⟨r, hr⟩ : ∃ r : Int, r = ((Utf8.decode s pos).1 : Int) := ⟨_, rfl⟩
        have hst := rs_step hp HD.out
        rw [← hr] at hnx hst
        obtain ⟨hnl, hgr, hdr⟩ := hst
        have HD2 := Lib.hid hdr
        have HG := Lib.hid hgr
        have hb2 := hw1.below _ _ hb (Nat.le_refl _)
        have HC := Lib.hid (candF_start r HB.out)
        have hk := HB.out.2.1
        rw [H0.out] at hk
        have hls := rs_length s
        clear hit hb HD HB hr hdr hgr
        have hit2 := hw1.it
        have hat := hw1.at_
        go_wp2
        go_loopw [7] (fun v wi => ∃ q : Nat, v = .int .i64 q ∧ Hid (CandF (rs s) t n q r) ∧ wi.heap[w2.heap.size]? = some (.stringIter s (pos + (Utf8.decode s pos).2)) ∧ Below w2.heap.size w2 wi) (fun v _ => (intOf v).toNat)
        case atStart => exact ⟨k, rfl, HC, hit2, hb2⟩
        case round =>
          clear HC hb2 hit2
          obtain ⟨q, rfl, HC, hit2, hb2⟩ := hrel
          have hq := HC.out.2.1
          rw [H0.out] at hq
          obtain ⟨b1, o1, rfl, hx1, hx2⟩ := (rd1'.below hb2).cell 0 (by omega)
          have hx := hx2 q hq
          clear hx2
          by_cases heq : gt t q = r
          · have he1 : (gt t q != r) = false := by simpa using heq
            have he2 : (gt t q == r) = true := by simpa using heq
            by_cases hfull : q + 1 = n0
            · have HR := Lib.hid (candF_full hnl (by rw [HG.out]; exact HC.out) (by rw [HG.out]; exact heq) (by rw [H0.out]; exact hfull))
              have he3 : (((q : Int) + 1) == (n0 : Int)) = true := by simp; omega
              clear heq
              by_cases hq0 : 0 < q
              · have hd : decide ((0 : Int) < (q : Int)) = true := by simpa using hq0
                go_wp2
                go_ret
                exact ⟨by rw [HR.out.1]; rfl, hbw.trans (hb2.mono hbw.size)⟩
              · obtain rfl : q = 0 := by omega
                rw [Nat.add_zero] at hx
                go_wp2
                go_ret
                exact ⟨by rw [HR.out.1]; exact congrArg (fun z => Ending.returned (Value.int .i64 z)) (by omega), hbw.trans (hb2.mono hbw.size)⟩
            · have HB := Lib.hid (candF_hit hnl (by rw [HG.out]; exact HC.out) (by rw [HG.out]; exact heq) (by rw [H0.out]; omega))
              have he3 : (((q : Int) + 1) == (n0 : Int)) = false := by simp; omega
              clear heq
              by_cases hq0 : 0 < q
              · have hd : decide ((0 : Int) < (q : Int)) = true := by simpa using hq0
                go_wp2
                go_roundw
                case rel => exact ⟨_, q + 1, n + 1, by go_num, by go_num, hit2, hb2, HD2, HB, by omega⟩
                case measure => rw [iterPos_of hit2, hpos0]; omega
              · obtain rfl : q = 0 := by omega
                rw [Nat.add_zero] at hx
                go_wp2
                go_roundw
                case rel => exact ⟨_, 0 + 1, n + 1, by go_num, by go_num, hit2, hb2, HD2, HB, by omega⟩
                case measure => rw [iterPos_of hit2, hpos0]; omega
          · have he1 : (gt t q != r) = true := by simpa using heq
            have he2 : (gt t q == r) = false := by simpa using heq
            by_cases hq0 : 0 < q
            · have hd : decide ((0 : Int) < (q : Int)) = true := by simpa using hq0
              have HC2 := Lib.hid (candF_down HC.out hq0 heq)
              have hbl := br_lt (t := t) hq0
              obtain ⟨b2, o2, rfl, hy1, hy2⟩ := (rd2.below hb2).cell 0 (by omega)
              have hy := hy2 (q - 1) (by omega)
              rw [brs_get (by rw [H0.out]; omega), show q - 1 + 1 = q by omega] at hy
              clear hy2 heq
              go_wp2
              go_roundw
              case rel => exact ⟨br t q, rfl, HC2, hit2, hb2⟩
              case measure => simp [intOf]; omega
            · obtain rfl : q = 0 := by omega
              rw [Nat.add_zero] at hx
              have HB := Lib.hid (candF_miss hnl (by rw [HG.out]; exact HC.out) (by rw [HG.out]; exact heq))
              have he3 : ((0 : Int) == (n0 : Int)) = false := by simp; omega
              clear heq
              go_wp2
              go_roundw
              case rel => exact ⟨_, 0, n + 1, rfl, by go_num, hit2, hb2, HD2, HB, by omega⟩
              case measure => rw [iterPos_of hit2, hpos0]; omega
      · have hnx : ∀ ty, (Instr.next (.pointer (some ⟨w2.heap.size, 0, none⟩)) true ty).run Try.prog wr = _ := fun ty => Lib.run_next_end_at wr w2.heap.size s pos ty hit hp
        have HF := Lib.hid (best_end (rs_stop hp HD.out) HB.out)
        go_wp2
        go_ret
        exact ⟨by rw [HF.out]; rfl, hbw.trans (hb.mono hbw.size)⟩

end Go.Proofs.Ytgajinnbmnnccaa
