/- The walks of gimletref01.Mend and MendParts. -/
import Derived.Test.YtfmpnfgegcgcaaaDoorRefTextWalk
namespace Gim
open Go Go.Lib Go.RowKit
theorem encs_snoc (l : List Int) (r : Int) : bz (encs (l ++ [r])) = bz (encs l) ++ bz (enc r) := by
  rw [encs_append, bz_append]
  congr 2
  simp [encs]
theorem bz_enc_len {r : Int} (h : Ch r) : (bz (enc r)).length ≤ 4 := by
  rw [bz_length]
  exact (enc_len h).2.1
end Gim
namespace Go.Proofs.YtfmpnfgegcgcaaaDoor
open Go.RowKit Gim
set_option maxRecDepth 20000 in
set_option maxHeartbeats 4000000 in
theorem refMend_calls (w : World) (s : ByteArray) (hs : s.size ≤ 1099511627) :
    Calls Tryd.prog 37 #[.string s] w fun e w' => e = .returned (.string (runesBytes (rs s))) ∧ Below w.heap.size w w' := by
  obtain ⟨cs, hcs⟩ : ∃ cs, cs = chB (bz s.data.toList) := ⟨_, rfl⟩
  have hrs := rs_ch_eq s
  have hinv := chB_inv (bz_by s.data.toList)
  rw [← hcs] at hrs hinv
  have hcv : ∀ wx : World, (convert 9 34 (.string s)).run Tryd.prog wx = _ := fun wx => run_bytes_of_string wx 9 34 5 s Tryd.underlying9 Tryd.underlying34 Tryd.underlying5
  have hge := grownCap_ge w s.size 0 5
  have hrb := rb_str w s 5 (grownCap w s.size 0 5) ((bytesRow s (grownCap w s.size 0 5)).size, (bytesRow s (grownCap w s.size 0 5)).size + 1) hge (grownCap_le_maxLen _ _ _ _ (by unfold maxLen; omega))
  have hcl := chB_length (bz s.data.toList)
  rw [← hcs, bz_length] at hcl
  replace hcl : cs.length ≤ s.size := hcl
  obtain ⟨X, hX⟩ : ∃ X, X = rs s := ⟨_, rfl⟩
  rw [← hX] at hrs ⊢
  have HX := Lib.hid hrs
  have HCS := Lib.hid hcs
  have HI := Lib.hid hinv
  clear hcs hX hrs hinv
  go_enter Tryd.func37, Tryd.ntmps37
  go_wp2_with fail
  obtain ⟨cap, hcap⟩ : ∃ cap, cap = grownCap w s.size 0 5 := ⟨_, rfl⟩
  rw [← hcap] at hrb hge ⊢
  obtain ⟨wb, hwb⟩ : ∃ wb, wb = (w.alloc (.cells (bytesRow s cap) 5 ((bytesRow s cap).size, (bytesRow s cap).size + 1))).drew := ⟨_, rfl⟩
  have hb0 : Below w.heap.size w wb := by rw [hwb]; exact ((Below.refl _ _).alloc (Nat.le_refl _) _).trans (((Drew.refl _).drewN 1).below _)
  rw [← hwb] at hrb ⊢
  clear hwb hcap hcv
  have cC := chars_calls wb _ _ _ _ hrb (bz_by _) (by omega)
  rw [← HCS.out] at cC
  refine cC.mono ?_
  rintro e w1 ⟨v, rfl, hrow, hb1⟩
  obtain ⟨a1, c1, rfl, rd⟩ := hrow.rd
  have hbw := hb0.trans (hb1.mono hb0.size)
  obtain ⟨l, hl⟩ : ∃ l, l = cs.length := ⟨_, rfl⟩
  have HL := Lib.hid hl
  rw [← hl] at rd hcl ⊢
  obtain ⟨B, hB⟩ : ∃ B, B = w1.heap.size := ⟨_, rfl⟩
  have hBw : w.heap.size ≤ B := by rw [hB]; exact hbw.size
  have HB := Lib.hid hB
  clear cC hrow hb0 hb1 hrb hge hl hB
  go_wp2
  go_loopw [4, 5] (fun v u wr => ∃ (i : Nat) (done : List Int), u = .int .i64 i ∧ Row wr B 5 .u8 v done ∧ i ≤ l ∧ done.length ≤ 4 * i ∧ Below B w1 wr ∧ Hid (done = bz (encs ((cs.take i).map (·.2.1))))) (fun _ u wr => l - (intOf u).toNat)
  case atStart => exact ⟨0, [], rfl, World.ownsRow_nil _ _ _ _, by omega, by simp, Below.refl _ _, Lib.hid rfl⟩
  case round =>
    obtain ⟨i, done, rfl, hrow, hil, hdl, hb, H⟩ := hrel
    have hBr : B ≤ wr.heap.size := by have := hb.size; have := HB.out; omega
    by_cases hi : i < l
    · have hci : cs[i]? = some (cs[i]'(by rw [← HL.out]; exact hi)) := List.getElem?_eq_getElem _
      obtain ⟨c, hc⟩ : ∃ c, c = cs[i]'(by rw [← HL.out]; exact hi) := ⟨_, rfl⟩
      rw [← hc] at hci
      have hch := (HI.out c (List.mem_of_getElem? hci)).ch
      obtain ⟨g, rfl, _, hg, hcell⟩ := (rd.below (by rw [← HB.out]; exact hb)).cell (by omega)
      have k1 := (hcell i c hci).2.1
      obtain ⟨r, hr⟩ : ∃ r, r = c.2.1 := ⟨_, rfl⟩
      rw [← hr] at hch k1
      have hN : bz (encs ((cs.take (i + 1)).map (·.2.1))) = done ++ Lib.encodeRuneZ r := by
        rw [List.take_add_one, hci, Option.toList_some, List.map_append, List.map_singleton, encs_snoc, ← H.out, ← hr, z_enc hch]
      obtain ⟨m, rfl⟩ := Int.eq_ofNat_of_zero_le (show 0 ≤ r by unfold Ch at hch; omega)
      have cF := form_calls wr m hch
      have hzl := Lib.encodeRuneZ_length (m : Int)
      obtain ⟨zs, hzs⟩ : ∃ zs, zs = Lib.encodeRuneZ (m : Int) := ⟨_, rfl⟩
      rw [← hzs] at cF hzl hN
      have HN := Lib.hid hN
      clear H hc hci hcell hr hN hzs hch
      go_wp2_with fail
      refine cF.mono ?_
      rintro e w2 ⟨v2, rfl, hrow2, hb2⟩
      obtain ⟨a2, c2, rfl, rd2, hn2⟩ := hrow2.rd2
      have hrow1 := hrow.stays hb2
      have hb2' := hb.trans (hb2.mono hBr)
      have hB2 : B ≤ w2.heap.size := Nat.le_trans hBr hb2.size
      clear cF k1 hrow hb hrow2 hb2
      go_wp2_with (at_builtin; refine append_rd _ rfl _ _ rfl B _ done rfl hrow1 _ _ _ _ rfl rd2 hn2 (by omega) hB2 ?_; intro v3 w3 hrow3 hgrow3)
      go_roundw
      case rel => exact ⟨i + 1, _, by go_num, hrow3, by omega, by simp; omega, hb2'.grown hgrow3 hB2 (fun j hj => (hrow1.lt j hj).1), Lib.hid HN.out.symm⟩
      case measure => simp [RowKit.intOf]; omega
    · obtain rfl : i = l := by omega
      have hd : done = bz (encs X) := by rw [H.out, HX.out, List.take_of_length_le (by rw [← HL.out]; exact Nat.le_refl _)]
      obtain ⟨ao, cp, rfl, rdd⟩ := hrow.rd
      have hcvb := rdd.convB (P := Tryd.prog) (src := 34) (dst := 9) (e := 5) Tryd.underlying34 Tryd.underlying5 Tryd.underlying9
      rw [show strOfNums done = runesBytes X by rw [hd, str_encs]] at hcvb
      have hfin := hbw.trans (hb.mono hBw)
      clear hd H hrow rdd
      go_wp2
      go_ret
      exact ⟨rfl, hfin⟩
set_option maxRecDepth 20000 in
set_option maxHeartbeats 4000000 in
theorem refMendParts_calls (w : World) (s : ByteArray) (hs : s.size ≤ 1099511627) :
    Calls Tryd.prog 39 #[.string s] w fun e w' => e = .returned (.string (runesBytes (parts (bz s.data.toList)))) ∧ Below w.heap.size w w' := by
  have hxs := bz_by s.data.toList
  have hcv : ∀ wx : World, (convert 9 34 (.string s)).run Tryd.prog wx = _ := fun wx => run_bytes_of_string wx 9 34 5 s Tryd.underlying9 Tryd.underlying34 Tryd.underlying5
  have hge := grownCap_ge w s.size 0 5
  have hrb := rb_str w s 5 (grownCap w s.size 0 5) ((bytesRow s (grownCap w s.size 0 5)).size, (bytesRow s (grownCap w s.size 0 5)).size + 1) hge (grownCap_le_maxLen _ _ _ _ (by unfold maxLen; omega))
  obtain ⟨xs, hx⟩ : ∃ xs, xs = bz s.data.toList := ⟨_, rfl⟩
  have HL := Lib.hid (show xs.length = s.size by rw [hx, bz_length]; rfl)
  rw [← hx] at hrb hxs ⊢
  have HXS := Lib.hid hxs
  have HP := Lib.hid (show parts xs = partsAt xs 0 from rfl)
  clear hx hxs
  go_enter Tryd.func39, Tryd.ntmps39
  go_wp2
  obtain ⟨cap, hcap⟩ : ∃ cap, cap = grownCap w s.size 0 5 := ⟨_, rfl⟩
  rw [← hcap] at hrb hge ⊢
  obtain ⟨wb, hwb⟩ : ∃ wb, wb = (w.alloc (.cells (bytesRow s cap) 5 ((bytesRow s cap).size, (bytesRow s cap).size + 1))).drew := ⟨_, rfl⟩
  have hb0 : Below w.heap.size w wb := by rw [hwb]; exact ((Below.refl _ _).alloc (Nat.le_refl _) _).trans (((Drew.refl _).drewN 1).below _)
  rw [← hwb] at hrb ⊢
  clear hwb hcap hcv
  have hcl := hrb.rd.cap_le
  obtain ⟨B, hB⟩ : ∃ B, B = wb.heap.size := ⟨_, rfl⟩
  have hBw : w.heap.size ≤ B := by rw [hB]; exact hb0.size
  have HB := Lib.hid hB
  clear hB
  obtain ⟨N, hN⟩ : ∃ N, N = s.size := ⟨_, rfl⟩
  rw [← hN] at hrb hge hs HL ⊢
  clear hN
  go_loopw [4, 5] (fun v u wr => ∃ (p : Nat) (done : List Int), u = .int .i64 p ∧ Row wr B 5 .u8 v (bz (encs done)) ∧ p ≤ N ∧ (bz (encs done)).length ≤ 4 * p ∧ Below B wb wr ∧ Hid (done ++ partsAt xs p = partsAt xs 0)) (fun _ u wr => N - (intOf u).toNat)
  case atStart => exact ⟨0, [], rfl, World.ownsRow_nil _ _ _ _, by omega, by simp [bz, encs], Below.refl _ _, Lib.hid (by rw [List.nil_append])⟩
  case round =>
    obtain ⟨p, done, rfl, hrow, hps, hdl, hb, H⟩ := hrel
    have hBr : B ≤ wr.heap.size := by have := hb.size; have := HB.out; omega
    by_cases hp : p < N
    · have hst := Gim.step HXS.out (p := p) (by rw [HL.out]; exact hp)
      have hN := H.out
      rw [partsAt_next (by rw [HL.out]; exact hp)] at hN
      have rbr := hrb.below (by rw [← HB.out]; exact hb)
      have cF := front_calls wr _ _ _ _ rbr p (by omega)
      have hdrl : (xs.drop p).length = N - p := by rw [List.length_drop, HL.out]
      have hdb : ∀ x ∈ xs.drop p, 0 ≤ x ∧ x ≤ 255 := fun x hx => HXS.out x (List.mem_of_mem_drop hx)
      have hsh := decB_shape (xs.drop p) (by omega) (bn_lt hdb)
      rcases hst with ⟨m, hF, h1, h4, hlm, hf, hv, hd, hV, hok⟩ | ⟨k, m, hF, hk, hkn, hf, hd, hpc⟩ | ⟨k, m, hF, hk, hkn, hf, hv, hd, hpc⟩
      · rw [HL.out] at hlm
        have hwb := whole_bytes hdb (by omega) (by rw [hd]; exact hok)
        have hpw : partW xs p = m := by unfold partW; rw [if_neg (by rw [hd]; exact hok), hd]
        rw [hpw] at hN
        rw [hd] at hwb
        obtain ⟨r, hr⟩ : ∃ r : Int, r = ((decB (xs.drop p)).1 : Int) := ⟨_, rfl⟩
        rw [← hr] at hN hwb hsh
        have HN := Lib.hid (show (done ++ [r]) ++ partsAt xs (p + m) = partsAt xs 0 by rw [List.append_assoc]; exact hN)
        have HE := Lib.hid (encs_snoc done r)
        have hel := bz_enc_len hsh.1
        have helm : (bz (enc r)).length = m := by rw [← hwb, List.length_take, hdrl]; omega
        rw [hF] at cF
        have rdm := (rbr.mid (p := p) (m := m) hlm (by omega)).rd
        rw [hwb] at rdm
        replace rdm : Rd wr .u8 (some ⟨w.heap.size, p, none⟩) (p + m - p) (cap - p) (bz (enc r)) := by rw [Nat.add_sub_cancel_left]; simpa using rdm
        have hmx : max (m : Int) 1 = m := by omega
        clear hF hf hv hd hV hok hr hN H hpw hwb hsh hdb hdrl
        go_wp2_with fail
        refine cF.mono ?_
        rintro e w1 ⟨rfl, rfl⟩
        clear cF
        go_wp2_with (at_builtin; refine append_rd _ rfl _ _ rfl B _ _ rfl hrow _ _ _ _ rfl rdm (fun hh => by cases hh) (by omega) hBr ?_; intro v3 w3 hrow3 hgrow3)
        rw [← HE.out] at hrow3
        go_roundw
        case rel => exact ⟨p + m, done ++ [r], by go_num, hrow3, by omega, by rw [HE.out, List.length_append]; omega, hb.grown hgrow3 hBr (fun j hj => (hrow.lt j hj).1), HN⟩
        case measure => simp [RowKit.intOf]; omega
      · rw [HL.out] at hk
        have hk1 : 1 ≤ k := by omega
        have hpw : partW xs p = max k 1 := by unfold partW; rw [hd, if_pos ⟨rfl, Nat.le_refl _⟩, hpc]
        rw [hpw, hd] at hN
        have HN := Lib.hid (show (done ++ [(65533 : Int)]) ++ partsAt xs (p + max k 1) = partsAt xs 0 by rw [List.append_assoc]; exact hN)
        have HE := Lib.hid (encs_snoc done 65533)
        obtain ⟨M, hM⟩ : ∃ M, M = max k 1 := ⟨_, rfl⟩
        have hMi : max (k : Int) 1 = (M : Int) := by omega
        have hM1 : 1 ≤ M ∧ p + M ≤ N := by omega
        rw [← hM] at HN
        rw [hF] at cF
        have cG := fun wx => form_calls wx 65533 (by unfold Ch; omega)
        rw [show Lib.encodeRuneZ ((65533 : Nat) : Int) = bz (enc 65533) from z_enc (by unfold Ch; omega)] at cG
        have hel := bz_enc_len (r := 65533) (by unfold Ch; omega)
        obtain ⟨zs, hzs⟩ : ∃ zs, zs = bz (enc 65533) := ⟨_, rfl⟩
        rw [← hzs] at cG HE hel
        replace cG : ∀ wx, Calls Tryd.prog 68 #[.int .i64 65533] wx (GivesForm wx zs) := cG
        obtain ⟨hM1, hMN⟩ := hM1
        clear hF hf hd hpc hN H hpw hM hzs hsh hdb hdrl
        have hkd : ((k : Int) == (m : Int)) = false := by simp; omega
        go_wp2_with fail
        refine cF.mono ?_
        rintro e w1 ⟨rfl, rfl⟩
        clear cF
        go_wp2_with fail
        refine (cG _).mono ?_
        rintro e w2 ⟨v2, rfl, hrow2, hb2⟩
        obtain ⟨a2, c2, rfl, rd2, hn2⟩ := hrow2.rd2
        have hrow1 := hrow.stays hb2
        have hb2' := hb.trans (hb2.mono hBr)
        have hB2 : B ≤ w2.heap.size := Nat.le_trans hBr hb2.size
        clear cG hrow hb hrow2 hb2
        go_wp2_with (at_builtin; refine append_rd _ rfl _ _ rfl B _ _ rfl hrow1 _ _ _ _ rfl rd2 hn2 (by omega) hB2 ?_; intro v3 w3 hrow3 hgrow3)
        rw [← HE.out] at hrow3
        go_roundw
        case rel => exact ⟨p + M, done ++ [65533], by go_num, hrow3, by omega, by rw [HE.out, List.length_append]; omega, hb2'.grown hgrow3 hB2 (fun j hj => (hrow1.lt j hj).1), HN⟩
        case measure => simp [RowKit.intOf]; omega
      · rw [HL.out] at hk
        have hpw : partW xs p = max k 1 := by unfold partW; rw [hd, if_pos ⟨rfl, Nat.le_refl _⟩, hpc]
        rw [hpw, hd] at hN
        have HN := Lib.hid (show (done ++ [(65533 : Int)]) ++ partsAt xs (p + max k 1) = partsAt xs 0 by rw [List.append_assoc]; exact hN)
        have HE := Lib.hid (encs_snoc done 65533)
        obtain ⟨M, hM⟩ : ∃ M, M = max k 1 := ⟨_, rfl⟩
        have hMi : max (k : Int) 1 = (M : Int) := by omega
        have hM1 : 1 ≤ M ∧ p + M ≤ N := by omega
        rw [← hM] at HN
        rw [hF] at cF
        have cG := fun wx => form_calls wx 65533 (by unfold Ch; omega)
        rw [show Lib.encodeRuneZ ((65533 : Nat) : Int) = bz (enc 65533) from z_enc (by unfold Ch; omega)] at cG
        have hel := bz_enc_len (r := 65533) (by unfold Ch; omega)
        obtain ⟨zs, hzs⟩ : ∃ zs, zs = bz (enc 65533) := ⟨_, rfl⟩
        rw [← hzs] at cG HE hel
        replace cG : ∀ wx, Calls Tryd.prog 68 #[.int .i64 65533] wx (GivesForm wx zs) := cG
        obtain ⟨hM1, hMN⟩ := hM1
        clear hF hf hv hd hpc hN H hpw hM hzs hsh hdb hdrl
        rcases (show m = 0 ∨ 0 < m ∧ k ≠ m by omega) with rfl | ⟨hm, hkm⟩
        · go_wp2_with fail
          refine cF.mono ?_
          rintro e w1 ⟨rfl, rfl⟩
          clear cF
          go_wp2_with fail
          refine (cG _).mono ?_
          rintro e w2 ⟨v2, rfl, hrow2, hb2⟩
          obtain ⟨a2, c2, rfl, rd2, hn2⟩ := hrow2.rd2
          have hrow1 := hrow.stays hb2
          have hb2' := hb.trans (hb2.mono hBr)
          have hB2 : B ≤ w2.heap.size := Nat.le_trans hBr hb2.size
          clear cG hrow hb hrow2 hb2
          go_wp2_with (at_builtin; refine append_rd _ rfl _ _ rfl B _ _ rfl hrow1 _ _ _ _ rfl rd2 hn2 (by omega) hB2 ?_; intro v3 w3 hrow3 hgrow3)
          rw [← HE.out] at hrow3
          go_roundw
          case rel => exact ⟨p + M, done ++ [65533], by go_num, hrow3, by omega, by rw [HE.out, List.length_append]; omega, hb2'.grown hgrow3 hB2 (fun j hj => (hrow1.lt j hj).1), HN⟩
          case measure => simp [RowKit.intOf]; omega
        · have hkd : ((k : Int) == (m : Int)) = false := by simp; omega
          go_wp2_with fail
          refine cF.mono ?_
          rintro e w1 ⟨rfl, rfl⟩
          clear cF
          go_wp2_with fail
          refine (cG _).mono ?_
          rintro e w2 ⟨v2, rfl, hrow2, hb2⟩
          obtain ⟨a2, c2, rfl, rd2, hn2⟩ := hrow2.rd2
          have hrow1 := hrow.stays hb2
          have hb2' := hb.trans (hb2.mono hBr)
          have hB2 : B ≤ w2.heap.size := Nat.le_trans hBr hb2.size
          clear cG hrow hb hrow2 hb2
          go_wp2_with (at_builtin; refine append_rd _ rfl _ _ rfl B _ _ rfl hrow1 _ _ _ _ rfl rd2 hn2 (by omega) hB2 ?_; intro v3 w3 hrow3 hgrow3)
          rw [← HE.out] at hrow3
          go_roundw
          case rel => exact ⟨p + M, done ++ [65533], by go_num, hrow3, by omega, by rw [HE.out, List.length_append]; omega, hb2'.grown hgrow3 hB2 (fun j hj => (hrow1.lt j hj).1), HN⟩
          case measure => simp [RowKit.intOf]; omega
    · have hd : partsAt xs 0 = done := by
        have := H.out
        rw [partsAt_end (by rw [HL.out]; omega), List.append_nil] at this
        exact this.symm
      obtain ⟨ao, cp, rfl, rdd⟩ := hrow.rd
      have hcvb := rdd.convB (P := Tryd.prog) (src := 34) (dst := 9) (e := 5) Tryd.underlying34 Tryd.underlying5 Tryd.underlying9
      rw [str_encs] at hcvb
      have hfin := hb0.trans (hb.mono hBw)
      have HD := Lib.hid (HP.out.trans hd)
      clear hd H hrow rdd
      go_wp2
      go_ret
      exact ⟨by rw [HD.out]; rfl, hfin⟩
end Go.Proofs.YtfmpnfgegcgcaaaDoor
