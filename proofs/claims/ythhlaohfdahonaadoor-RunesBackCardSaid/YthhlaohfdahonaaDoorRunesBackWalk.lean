/- The walk of gimletlaw01.RunesBack. -/
import Derived.Test.YthhlaohfdahonaaDoorTakeWalk
import Derived.Test.YthhlaohfdahonaaDoorPutWalk
import Derived.Test.YthhlaohfdahonaaDoorAwakeA
namespace Go.Proofs.YthhlaohfdahonaaDoor
open Go.RowKit Gim
set_option maxRecDepth 100000 in
set_option maxHeartbeats 40000000 in
theorem runesBack_walk (r : Int) (w : World) (hwf : (Lit.int .i32 r).wf = true) (hT : U8 w) :
    Calls Tryd.prog 12 #[.int .i32 r] w fun e w' => e = .returned (.bool true) ∧ Below w.heap.size w w' := by
  have hr : -2147483648 ≤ r ∧ r ≤ 2147483647 := by
    simp [Lit.wf, IntKind.min, IntKind.max, IntKind.signed, IntKind.bits] at hwf
    omega
  have hZ := z_fix r
  have hch := fix_ch r
  have hW := whole hch
  have hstr := z_str hch
  have hbytes := Lib.encodeRuneZ_byte (fixR r)
  have hfix : fixR r = if r < 0 ∨ 1114111 < r ∨ (55296 ≤ r ∧ r ≤ 57343) then 65533 else r := rfl
  obtain ⟨v, hv⟩ : ∃ v, v = fixR r := ⟨_, rfl⟩
  rw [← hv] at hZ hch hW hstr hbytes hfix
  have hv0 : 0 ≤ v ∧ v ≤ 1114111 := by unfold Ch at hch; omega
  obtain ⟨xs, hxs⟩ : ∃ xs, xs = Lib.encodeRuneZ v := ⟨_, rfl⟩
  rw [← hxs] at hZ hW hstr hbytes
  have hl := hW.len
  obtain ⟨n, hn⟩ : ∃ n, n = xs.length := ⟨_, rfl⟩
  have HN := Lib.hid hn
  rw [← hn] at hl
  have HZ := Lib.hid hZ
  have HS := Lib.hid hstr
  have HF := Lib.hid hfix
  clear hv hxs hn hZ hstr hfix hwf
  obtain ⟨hr0, hr1⟩ := hr
  obtain ⟨hv0, hv1⟩ := hv0
  go_enter Tryd.func12, Tryd.ntmps12
  go_wp2_with fail
  refine (awake_calls _ hT).mono ?_
  rintro e w1 ⟨rfl, hb1⟩
  go_wp2_with fail
  refine (put_calls w1 none 0 0 [] ⟨rfl, by omega, by unfold maxLen; omega, fun j hj => by omega⟩ (fun _ => ⟨rfl, rfl⟩) r hr0 hr1 (by omega)).mono ?_
  rintro e w2 ⟨v2, rfl, hrow2, hb2⟩
  rw [List.nil_append, HZ.out] at hrow2
  obtain ⟨ao, cp, rfl, rd2⟩ := hrow2.rd
  rw [← HN.out] at rd2 ⊢
  have rb2 : Rb w2 ao n cp xs := ⟨rd2, gt_all HN.out.symm (P := fun x => 0 ≤ x ∧ x ≤ 255) (fun x hx => by have := hbytes x hx; omega)⟩
  have h2 := hb1.trans (hb2.mono hb1.size)
  clear hb1 hb2 hrow2
  have hn1 : nextB xs 0 = (v, (n : Int), 0, 0) := by
    have := hW.next (n - 1) (by rw [← HN.out]; omega)
    rw [show n - 1 + 1 = n from by omega, List.take_of_length_le (by rw [← HN.out]; exact Nat.le_refl _), if_neg (by rw [← HN.out]; omega), ← HN.out] at this
    exact this
  have cN := next_calls 0 _ _ _ _ _ rb2 (U8.below hT h2) (by omega)
  rw [hn1] at cN
  have hcv := fun (wx : World) (hb : Below w2.heap.size w2 wx) => (rd2.below hb).convB (P := Tryd.prog) (src := 34) (dst := 9) (e := 5) Tryd.underlying34 Tryd.underlying5 Tryd.underlying9
  rw [HS.out] at hcv
  have HCV := Lib.hid hcv
  clear hcv hn1
  have hcase : (r < 0 ∧ v = 65533) ∨ (1114111 < r ∧ v = 65533) ∨ ((55296 ≤ r ∧ r ≤ 57343) ∧ v = 65533) ∨ ((0 ≤ r ∧ r < 55296) ∧ v = r) ∨ ((57343 < r ∧ r ≤ 1114111) ∧ v = r) := by
    have := HF.out
    split at this <;> omega
  clear HF
  rcases hcase with ⟨hc, hv⟩ | ⟨hc, hv⟩ | ⟨⟨hc, hc2⟩, hv⟩ | ⟨⟨hc, hc2⟩, hv⟩ | ⟨⟨hc, hc2⟩, hv⟩
  all_goals
    have HV := Lib.hid hv
    clear hv
    go_wp2_with fail
    rw [← HV.out]
    refine cN.mono ?_
    rintro e w3 ⟨rfl, hb3⟩
    have hcv := HCV.out w3 hb3
    have rb3 := rb2.below hb3
    have h3 := h2.trans (hb3.mono h2.size)
    clear cN HCV rb2 rd2 hb3 h2
    go_wp2_with fail
    refine (new_calls w3).mono ?_
    rintro e w4 ⟨rfl, hd4, hb4⟩
    obtain ⟨D, hD⟩ : ∃ D, D = w3.heap.size := ⟨_, rfl⟩
    rw [← hD] at hd4
    have HD := Lib.hid hD
    rw [← hD]
    clear hD hcv
    obtain ⟨b, o, rfl, hbz, hcell⟩ := rb3.at_ (by omega)
    have hle := rb3.rd.le
    have hcl0 := rb3.rd.cap_le
    have HC := Lib.hid hcell
    clear hcell
    have hT3 := U8.below hT h3
    have hDw : w3.heap.size ≤ D := by have := HD.out; omega
    go_wp2
    go_loopw [10] (fun y wr => ∃ i : Nat, y = .int .i64 i ∧ i ≤ n ∧ Dec wr D (if i < n then xs.take i else []) ∧ Below w3.heap.size w3 wr) (fun y _ => n - (RowKit.intOf y).toNat)
    case atStart => exact ⟨0, rfl, by omega, by rw [if_pos (by omega)]; exact hd4, hb4⟩
    case round =>
      obtain ⟨i, rfl, hin, hd, hb⟩ := hrel
      by_cases hi : i < n
      · rw [if_pos hi] at hd
        have rbt := (rb3.below hb).take (m := i + 1) (by omega)
        have cN := next_calls 0 _ _ _ _ _ rbt (U8.below hT3 hb) (by omega)
        rw [hW.next i (by rw [← HN.out]; exact hi), ← HN.out] at cN
        have hcl := HC.out i hi
        have hbx := hcl.1
        have HTK := Lib.hid (show xs.take i ++ [((bn xs i : Nat) : Int)] = xs.take (i + 1) by
          rw [List.take_succ_eq_append_getElem (by rw [← HN.out]; exact hi), ← gt_lt, bn_cast (rb3.by_ i hi).1])
        have hbg := hW.begins i (by rw [← HN.out]; exact hi)
        have hgd := hW.good i (by rw [← HN.out]; exact hi)
        have hpl : (xs.take i).length < 1099511627776 := by rw [List.length_take]; omega
        obtain ⟨x, hx⟩ : ∃ x, x = bn xs i := ⟨_, rfl⟩
        rw [← hx] at hbx hcl HTK
        clear hx
        by_cases hl2 : i + 1 < n
        · rw [if_pos hl2] at cN
          have hfl := hW.part i (by rw [← HN.out]; exact hl2)
          go_wp2_with fail
          refine cN.mono ?_
          rintro e w5 ⟨rfl, hb5⟩
          have hd5 := hd.stays hb5
          have hb35 := hb.trans (hb5.mono hb.size)
          have hc5 := hcl.2 w5 hb35
          have cT := take_calls w3 w5 D (xs.take i) x hd5 (by omega) hpl (by rw [HTK.out]; exact hbg) hT3 hb35 hDw
          rw [HTK.out, hfl] at cT
          have HCT := Lib.hid cT
          clear cT cN hd rbt hd5 hcl hb5 hb
          go_wp2_with fail
          refine HCT.out.mono ?_
          rintro e w6 ⟨rfl, hd6, hb6⟩
          have hb36 := hb35.trans (hb6.mono hDw)
          have cG := good_calls _ _ _ _ _ ((rb3.below hb36).take (m := i + 1) (by omega)) (U8.below hT3 hb36) (by omega)
          rw [hgd] at cG
          clear HCT hc5 hb6 hb35
          go_wp2_with fail
          refine cG.mono ?_
          rintro e w7 ⟨rfl, hb7⟩
          have hd7 := hd6.stays hb7
          have hb37 := hb36.trans (hb7.mono hb36.size)
          have cP := pending_calls w7 D _ hd7
          rw [if_neg (by simp), List.length_take, Nat.min_eq_left (by rw [← HN.out]; omega)] at cP
          clear cG hb7 hb36 hd6
          go_wp2_with fail
          refine cP.mono ?_
          rintro e w8 ⟨rfl, rfl⟩
          clear cP
          go_wp2
          go_roundw
          case rel => exact ⟨i + 1, by go_num, by omega, by rw [if_pos hl2]; exact hd7, hb37⟩
          case measure => simp [RowKit.intOf]; omega
        · have hii : (i : Int) + 1 = n := by omega
          have HI := Lib.hid (show i + 1 = n by omega)
          have htn : xs.take (i + 1) = xs := List.take_of_length_le (by rw [← HN.out]; omega)
          rw [if_neg hl2, HI.out] at cN
          rw [htn] at hbg hgd HTK
          rw [HI.out] at hgd
          have hfl := hW.full
          have hdl := hW.dec.1
          go_wp2_with fail
          refine cN.mono ?_
          rintro e w5 ⟨rfl, hb5⟩
          have hd5 := hd.stays hb5
          have hb35 := hb.trans (hb5.mono hb.size)
          have hc5 := hcl.2 w5 hb35
          have cT := take_calls w3 w5 D (xs.take i) x hd5 (by omega) hpl (by rw [HTK.out]; exact hbg) hT3 hb35 hDw
          rw [HTK.out, hfl, if_pos rfl, if_pos rfl, if_pos rfl, hdl] at cT
          have HCT := Lib.hid cT
          clear cT cN hd rbt hd5 hcl hb5 hb hfl hdl htn hbg
          go_wp2_with fail
          refine HCT.out.mono ?_
          rintro e w6 ⟨rfl, hd6, hb6⟩
          have hb36 := hb35.trans (hb6.mono hDw)
          have cG := good_calls _ _ _ _ _ (rb3.below hb36) (U8.below hT3 hb36) (by omega)
          rw [hgd] at cG
          clear HCT hc5 hb6 hb35 hgd
          go_wp2_with fail
          refine cG.mono ?_
          rintro e w7 ⟨rfl, hb7⟩
          have hd7 := hd6.stays hb7
          have hb37 := hb36.trans (hb7.mono hb36.size)
          have cP := pending_calls w7 D _ hd7
          clear cG hb7 hb36 hd6
          go_wp2_with fail
          refine cP.mono ?_
          rintro e w8 ⟨rfl, rfl⟩
          clear cP
          go_wp2
          go_roundw
          case rel => exact ⟨n, by go_num, by omega, by rw [if_neg (by omega)]; exact hd7, hb37⟩
          case measure => simp [RowKit.intOf]; omega
      · obtain rfl : i = n := by omega
        clear hd
        go_wp2
        go_ret
        exact ⟨rfl, h3.trans (hb.mono h3.size)⟩
end Go.Proofs.YthhlaohfdahonaaDoor
