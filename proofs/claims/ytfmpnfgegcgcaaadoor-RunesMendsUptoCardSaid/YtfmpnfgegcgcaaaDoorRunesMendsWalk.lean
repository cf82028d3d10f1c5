/- The walk of gimletlaw01.RunesMends. -/
import Derived.Test.YtfmpnfgegcgcaaaDoorMendsLaw
import Derived.Test.YtfmpnfgegcgcaaaDoorTakeWalk
import Derived.Test.YtfmpnfgegcgcaaaDoorGoodWalk
import Derived.Test.YtfmpnfgegcgcaaaDoorAwakeA
import Derived.Test.YtfmpnfgegcgcaaaDoorConvR
namespace Gim
open Go
theorem toList_inj {a b : ByteArray} (h : a.toList = b.toList) : a = b := by
  rw [ByteArray.toList_eq, ByteArray.toList_eq] at h
  cases a; cases b
  simp only [ByteArray.mk.injEq]
  exact Array.toList_inj.1 h
end Gim
namespace Go.Proofs.YtfmpnfgegcgcaaaDoor
open Go.RowKit Gim
theorem join_calls (w : World) (ao : Option Addr) (n cap : Nat) (xs : List Int) (h : Rd w .i32 ao n cap xs) :
    Calls Tryd.prog 18 #[.slice ao n cap] w fun e w' => e = .returned (.string (runesBytes xs)) ∧ Drew w w' := by
  have hc := h.conv (P := Tryd.prog) (src := 22) (dst := 9) Tryd.underlying22 Tryd.underlying21 Tryd.underlying9
  go_enter Tryd.func18, Tryd.ntmps18
  go_wp2
  go_ret
  exact ⟨rfl, Drew.refl _⟩
set_option maxRecDepth 20000 in
set_option maxHeartbeats 8000000 in
theorem runesMends_walk (s : ByteArray) (w : World) (hs : s.size ≤ 1048576) (hT : U8 w) :
    Calls Tryd.prog 9 #[.string s] w fun e w' => e = .returned (.bool true) ∧ Below w.heap.size w w' := by
  have hxs := bz_by s.data.toList
  have hmi := mend_iff s
  have hpi := parts_iff s
  have hX := rs_ch s
  have hP : ∀ r ∈ parts (bz s.data.toList), Ch r := partsAt_ch (bz_by _) (bz s.data.toList).length 0 (by omega)
  have hXl : (rs s).length ≤ s.size := rs_length s
  have hPl : (parts (bz s.data.toList)).length ≤ (rs s).length := by
    rw [rs_ch_eq, List.length_map]
    exact parts_le (bz_by _) (bz s.data.toList).length 0 (by omega)
  have hlen : (bz s.data.toList).length = s.size := by rw [bz_length]; rfl
  obtain ⟨xs, hx⟩ : ∃ xs, xs = bz s.data.toList := ⟨_, rfl⟩
  obtain ⟨X, hX0⟩ : ∃ X, X = rs s := ⟨_, rfl⟩
  have hPX := Lib.hid (show parts xs = parts (bz s.data.toList) by rw [hx])
  obtain ⟨P, hP0⟩ : ∃ P, P = parts (bz s.data.toList) := ⟨_, rfl⟩
  rw [← hX0] at hX hXl hPl hmi
  rw [← hP0] at hP hPl hpi
  rw [← hx] at hxs hmi hpi hlen
  have HX0 := Lib.hid hX0
  have HP0 := Lib.hid hP0
  have HXB := Lib.hid hx
  have hrm : rs (runesBytes X) = X := read_encs hX (by rw [List.drop_zero]; exact runesBytes_list X)
  have hrp : rs (runesBytes P) = P := read_encs hP (by rw [List.drop_zero]; exact runesBytes_list P)
  have hgm : goodB (bz (runesBytes X).data.toList) = (runesBytes X).size := by rw [runesBytes_list, good_encs hX, bz_length, ← runesBytes_list]; rfl
  have hgp : goodB (bz (runesBytes P).data.toList) = (runesBytes P).size := by rw [runesBytes_list, good_encs hP, bz_length, ← runesBytes_list]; rfl
  have hpm : parts (bz (runesBytes X).data.toList) = X := by rw [runesBytes_list]; exact partsAt_encs (xs := bz (encs X)) (p := 0) hX (by omega) (by rw [List.drop_zero])
  have hms : (runesBytes X).size ≤ 4 * X.length := runesBytes_small hX
  have hps : (runesBytes P).size ≤ 4 * P.length := runesBytes_small hP
  obtain ⟨m, hm⟩ : ∃ m, m = runesBytes X := ⟨_, rfl⟩
  obtain ⟨p, hp⟩ : ∃ p, p = runesBytes P := ⟨_, rfl⟩
  rw [← hm] at hrm hgm hpm hms hmi
  rw [← hp] at hrp hgp hps hpi
  have HM := Lib.hid hm
  have HP := Lib.hid hp
  have HRM := Lib.hid hrm
  have HRP := Lib.hid hrp
  have HGM := Lib.hid hgm
  have HGP := Lib.hid hgp
  have HPM := Lib.hid hpm
  have HMI := Lib.hid hmi
  have HPI := Lib.hid hpi
  have HXS := Lib.hid hxs
  have HL := Lib.hid hlen
  have hm4 : m.size ≤ 4194304 := by omega
  have hp4 : p.size ≤ 4194304 := by omega
  clear hm hp hrm hrp hgm hgp hpm hmi hpi hxs hlen hX0 hP0 hx hX hP hms hps
  have bw := Below.refl w.heap.size w
  go_enter Tryd.func9, Tryd.ntmps9
  go_wp2_with fail
  refine (awake_calls _ hT).mono ?_
  rintro e w1 ⟨rfl, kw1⟩
  have bw1 := bw.trans (kw1.mono bw.size)
  clear kw1 bw
  go_wp2_with fail
  refine (mend_calls s w1 (by omega)).mono ?_
  rintro e w2 ⟨rfl, kw2⟩
  have bw2 := bw1.trans (kw2.mono bw1.size)
  rw [← HX0.out, ← HM.out]
  clear kw2 bw1
  go_wp2_with fail
  refine (mendParts_calls s w2 (by omega) (U8.below hT bw2)).mono ?_
  rintro e w3 ⟨rfl, kw3⟩
  have bw3 := bw2.trans (kw3.mono bw2.size)
  rw [← HP0.out, ← HP.out]
  clear kw3 bw2
  have hcv := run_bytes_of_string (P := Tryd.prog) w3 9 34 5 m Tryd.underlying9 Tryd.underlying34 Tryd.underlying5
  obtain ⟨cap, hcap⟩ : ∃ cap, cap = grownCap w3 m.size 0 5 := ⟨_, rfl⟩
  have hge := grownCap_ge w3 m.size 0 5
  have hle := grownCap_le_maxLen w3 m.size 0 5 (by unfold maxLen; omega)
  rw [← hcap] at hge hle hcv
  clear hcap
  go_wp2_with fail
  have hrb := rb_str w3 m 5 cap ((bytesRow m cap).size, (bytesRow m cap).size + 1) hge hle
  obtain ⟨w4a, hw4⟩ : ∃ x, x = (w3.alloc (.cells (bytesRow m cap) 5 ((bytesRow m cap).size, (bytesRow m cap).size + 1))).drew := ⟨_, rfl⟩
  have kw4 : Below w3.heap.size w3 w4a := by rw [hw4]; exact ((Below.refl _ _).alloc (Nat.le_refl _) _).trans (((Drew.refl _).drewN 1).below _)
  rw [← hw4] at hrb ⊢
  have bw4a := bw3.trans (kw4.mono bw3.size)
  clear hcv hge hle hw4 kw4
  have cG := good_calls w4a _ _ _ _ hrb (U8.below hT bw4a) (by omega)
  rw [HGM.out] at cG
  refine cG.mono ?_
  rintro e w4 ⟨rfl, kw4⟩
  have bw4 := bw4a.trans (kw4.mono bw4a.size)
  clear cG hrb kw4 bw4a bw3
  have hcv := run_bytes_of_string (P := Tryd.prog) w4 9 34 5 p Tryd.underlying9 Tryd.underlying34 Tryd.underlying5
  obtain ⟨cap, hcap⟩ : ∃ cap, cap = grownCap w4 p.size 0 5 := ⟨_, rfl⟩
  have hge := grownCap_ge w4 p.size 0 5
  have hle := grownCap_le_maxLen w4 p.size 0 5 (by unfold maxLen; omega)
  rw [← hcap] at hge hle hcv
  clear hcap
  go_wp2_with fail
  have hrb := rb_str w4 p 5 cap ((bytesRow p cap).size, (bytesRow p cap).size + 1) hge hle
  obtain ⟨w5a, hw5⟩ : ∃ x, x = (w4.alloc (.cells (bytesRow p cap) 5 ((bytesRow p cap).size, (bytesRow p cap).size + 1))).drew := ⟨_, rfl⟩
  have kw5 : Below w4.heap.size w4 w5a := by rw [hw5]; exact ((Below.refl _ _).alloc (Nat.le_refl _) _).trans (((Drew.refl _).drewN 1).below _)
  rw [← hw5] at hrb ⊢
  have bw5a := bw4.trans (kw5.mono bw4.size)
  clear hcv hge hle hw5 kw5
  have cG := good_calls w5a _ _ _ _ hrb (U8.below hT bw5a) (by omega)
  rw [HGP.out] at cG
  refine cG.mono ?_
  rintro e w5 ⟨rfl, kw5⟩
  have bw5 := bw5a.trans (kw5.mono bw5a.size)
  clear cG hrb kw5 bw5a bw4
  go_wp2_with fail
  refine (mend_calls m w5 (by omega)).mono ?_
  rintro e w6 ⟨rfl, kw6⟩
  have bw6 := bw5.trans (kw6.mono bw5.size)
  rw [HRM.out, ← HM.out]
  clear kw6 bw5
  go_wp2_with fail
  refine (mend_calls p w6 (by omega)).mono ?_
  rintro e w7 ⟨rfl, kw7⟩
  have bw7 := bw6.trans (kw7.mono bw6.size)
  rw [HRP.out, ← HP.out]
  clear kw7 bw6
  go_wp2_with fail
  refine (mendParts_calls m w7 (by omega) (U8.below hT bw7)).mono ?_
  rintro e w8 ⟨rfl, kw8⟩
  have bw8 := bw7.trans (kw8.mono bw7.size)
  rw [HPM.out, ← HM.out]
  clear kw8 bw7
  go_wp2_with fail
  refine (runes_calls s w8 (by omega)).mono ?_
  rintro e w9 ⟨v, rfl, hrow, k9⟩
  rw [← HX0.out] at hrow
  obtain ⟨ax, cx, rfl, rdx⟩ := hrow.rd
  have bw9 := bw8.trans (k9.mono bw8.size)
  obtain ⟨l, hl⟩ : ∃ l, l = X.length := ⟨_, rfl⟩
  rw [← hl] at rdx hXl hPl ⊢
  have HLX := Lib.hid hl
  clear hrow k9 bw8 hl
  go_wp2_with fail
  refine (join_calls w9 _ _ _ _ rdx).mono ?_
  rintro e wa ⟨rfl, da⟩
  rw [← HM.out]
  have bwa := bw9.trans (da.below _)
  clear da bw9 rdx
  go_wp2_with fail
  refine (runes_calls m wa (by omega)).mono ?_
  rintro e wb ⟨v, rfl, hrow, kb⟩
  rw [HRM.out] at hrow
  obtain ⟨ay, cy, rfl, _⟩ := hrow.rd
  rw [← HLX.out]
  have bwb := bwa.trans (kb.mono bwa.size)
  clear hrow kb bwa
  go_wp2_with fail
  refine (runes_calls p wb (by omega)).mono ?_
  rintro e wc ⟨v, rfl, hrow, kc⟩
  rw [HRP.out] at hrow
  obtain ⟨az, cz, rfl, _⟩ := hrow.rd
  obtain ⟨q, hq⟩ : ∃ q, q = P.length := ⟨_, rfl⟩
  rw [← hq] at hPl ⊢
  have bwc := bwb.trans (kc.mono bwb.size)
  clear hrow kc bwb hq
  have hcv := run_bytes_of_string (P := Tryd.prog) wc 9 34 5 s Tryd.underlying9 Tryd.underlying34 Tryd.underlying5
  obtain ⟨cap, hcap⟩ : ∃ cap, cap = grownCap wc s.size 0 5 := ⟨_, rfl⟩
  have hge := grownCap_ge wc s.size 0 5
  have hle := grownCap_le_maxLen wc s.size 0 5 (by unfold maxLen; omega)
  rw [← hcap] at hge hle hcv
  clear hcap
  go_wp2_with fail
  have hrb := rb_str wc s 5 cap ((bytesRow s cap).size, (bytesRow s cap).size + 1) hge hle
  obtain ⟨wda, hwd⟩ : ∃ x, x = (wc.alloc (.cells (bytesRow s cap) 5 ((bytesRow s cap).size, (bytesRow s cap).size + 1))).drew := ⟨_, rfl⟩
  have kwd : Below wc.heap.size wc wda := by rw [hwd]; exact ((Below.refl _ _).alloc (Nat.le_refl _) _).trans (((Drew.refl _).drewN 1).below _)
  rw [← hwd] at hrb ⊢
  have bwda := bwc.trans (kwd.mono bwc.size)
  clear hcv hge hle hwd kwd
  have cG := good_calls wda _ _ _ _ hrb (U8.below hT bwda) (by omega)
  rw [← HXB.out] at cG
  refine cG.mono ?_
  rintro e wd ⟨rfl, kwd⟩
  have bwd := bwda.trans (kwd.mono bwda.size)
  clear cG hrb kwd bwda bwc
  obtain ⟨N, hN⟩ : ∃ N, N = s.size := ⟨_, rfl⟩
  have HN := Lib.hid hN
  have hNs : N ≤ 1048576 := by omega
  by_cases hg : goodB xs = s.size
  · rw [hg]
    go_wp2_with fail
    refine (new_calls wd).mono ?_
    rintro e we ⟨rfl, hd, ke⟩
    obtain ⟨D, hD⟩ : ∃ D, D = wd.heap.size := ⟨_, rfl⟩
    rw [← hD] at hd ⊢
    have hDd : wd.heap.size ≤ D := by omega
    have HTD := U8.below hT bwd
    have HG := Lib.hid hg
    clear hD hg
    go_wp2
    go_loopw [9] (fun y wr => ∃ i p0 : Nat, y = .int .i64 i ∧ i ≤ s.size ∧ p0 ≤ i ∧ Dec wr D ((xs.drop p0).take (i - p0)) ∧ Hid (goodAt xs 0 = goodAt xs p0) ∧ Hid (Waits ((xs.drop p0).take (i - p0))) ∧ Below wd.heap.size wd wr) (fun y _ => s.size - (RowKit.intOf y).toNat)
    case atStart => exact ⟨0, 0, rfl, by omega, by omega, by simpa using hd, Lib.hid rfl, Lib.hid (.inl (by simp)), ke⟩
    case round =>
      obtain ⟨i, p0, rfl, hin, hp0, hd, H, HW, hb⟩ := hrel
      by_cases hi : i < s.size
      · have hi2 : i < s.data.size := hi
        have hgx : gt xs i = (s[i].toNat : Int) := by
          rw [HXB.out]
          simp [gt, bz]
          rw [Array.getElem?_eq_getElem hi2]
          rfl
        have hx255 := (s[i]).toNat_lt
        have htk : (xs.drop p0).take (i - p0) ++ [((s[i].toNat : Nat) : Int)] = (xs.drop p0).take (i - p0 + 1) := by
          rw [List.take_succ_eq_append_getElem (by rw [List.length_drop, HL.out]; omega), ← gt_lt, ← hgx]
          congr 2
          unfold gt
          rw [List.getElem?_drop, show p0 + (i - p0) = i by omega]
        have hgb := good_begins HXS.out (by rw [HG.out, HL.out]) H.out (l := i - p0 + 1) (by omega) (by rw [HL.out]; omega)
        have hyb : ∀ y ∈ (xs.drop p0).take (i - p0 + 1), 0 ≤ y ∧ y ≤ 255 := fun y hy => HXS.out y (List.mem_of_mem_drop (List.mem_of_mem_take hy))
        have tk := took HW.out (x := ((s[i].toNat : Nat) : Int)) (by rw [htk]; exact bn_lt hyb)
        have cT := take_calls wd wr D _ ((s[i].toNat : Nat) : Int) hd ⟨by omega, by omega⟩ (by rw [List.length_take]; omega) (by rw [htk]; exact hgb.1) HTD hb hDd
        rw [htk] at cT tk
        have hlt : ((xs.drop p0).take (i - p0 + 1)).length = i - p0 + 1 := by rw [List.length_take, List.length_drop, HL.out]; omega
        have HCT := Lib.hid cT
        rcases tk with ⟨n, hn, n1, n4, hF, hbg, hf, hv⟩ | ⟨k, n, hk, hF, hl, hbg, hf⟩ | ⟨k, n, hF, hl, hbg⟩
        · have cT := HCT.out
          rw [hf, if_pos rfl, if_pos rfl, if_pos rfl] at cT
          have HGN := Lib.hid (show goodAt xs 0 = goodAt xs (i + 1) by
            have := hgb.2 (by rw [hF, ← hn, hlt])
            rw [this]
            congr 1
            omega)
          clear HCT htk hgb hyb hgx hn hF hbg hf hv hlt
          go_wp2_with fail
          refine cT.mono ?_
          rintro e w2 ⟨rfl, hd2, kb⟩
          go_wp2
          go_roundw
          case rel => exact ⟨i + 1, i + 1, by go_num, by omega, by omega, by simpa using hd2, HGN, Lib.hid (.inl (by simp)), hb.trans (kb.mono hDd)⟩
          case measure => simp [RowKit.intOf]; omega
        · have cT := HCT.out
          rw [hf] at cT
          have HWN := Lib.hid (show Waits ((xs.drop p0).take (i + 1 - p0)) by
            rw [show i + 1 - p0 = i - p0 + 1 by omega]
            exact .inr ⟨n, by rw [hF, hk], by omega⟩)
          clear HCT htk hgb hyb hgx hk hF hbg hf hl hlt
          simp only [Bool.false_eq_true, if_false] at cT
          go_wp2_with fail
          refine cT.mono ?_
          rintro e w2 ⟨rfl, hd2, kb⟩
          go_wp2
          go_roundw
          case rel => exact ⟨i + 1, p0, by go_num, by omega, by omega, by rw [show i + 1 - p0 = i - p0 + 1 by omega]; exact hd2, H, HWN, hb.trans (kb.mono hDd)⟩
          case measure => simp [RowKit.intOf]; omega
        · exact absurd (hgb.1.symm.trans hbg) (by simp)
      · obtain rfl : i = s.size := by omega
        have htk : (xs.drop p0).take (s.size - p0) = xs.drop p0 := List.take_of_length_le (by rw [List.length_drop, HL.out]; exact Nat.le_refl _)
        rw [htk] at hd
        have hW := HW.out
        rw [htk] at hW
        have hpend := pend_iff HXS.out H.out (by rw [HL.out]; exact hp0) hW
        have hdl : (xs.drop p0).length = s.size - p0 := by rw [List.length_drop, HL.out]
        have cP := pending_calls wr D _ hd
        rw [hdl] at cP
        have bfin := bwd.trans (hb.mono bwd.size)
        rw [HL.out] at hpend
        have hmi := HMI.out
        have hpi := HPI.out
        rw [HL.out, hpend] at hmi hpi
        clear htk hW hd H HW hpend hdl hb
        by_cases hp : p0 = s.size
        · have hms2 : (m.toList == s.toList) = true := by rw [hmi.2 hp]; simp
          have hps2 : (p.toList == s.toList) = true := by rw [hpi.2 hp]; simp
          have hpd : s.size - p0 = 0 := by omega
          rw [hpd] at cP
          clear hmi hpi hp hpd hp0
          go_wp2_with fail
          refine cP.mono ?_
          rintro e w2 ⟨rfl, rfl⟩
          go_wp2
          go_ret
          exact ⟨rfl, bfin⟩
        · have hms : ¬ m.toList = s.toList := fun h => hp (hmi.1 (toList_inj h))
          have hps : ¬ p.toList = s.toList := fun h => hp (hpi.1 (toList_inj h))
          have hms2 : (m.toList == s.toList) = false := by simpa using hms
          have hps2 : (p.toList == s.toList) = false := by simpa using hps
          obtain ⟨z, hz⟩ : ∃ z, z = s.size - p0 := ⟨_, rfl⟩
          rw [← hz] at cP
          have hz2 : z ≤ 1048576 := by omega
          have hzd : ((z : Int) == 0) = false := by simp; omega
          clear hmi hpi hp hp0 hz
          go_wp2_with fail
          refine cP.mono ?_
          rintro e w2 ⟨rfl, rfl⟩
          go_wp2
          go_ret
          exact ⟨rfl, bfin⟩
  · have hgd : ((goodB xs : Int) == (s.size : Int)) = false := by simp; omega
    have hG : ¬ goodAt xs 0 = xs.length := fun h => hg (by rw [good_of h, HL.out])
    have hms : ¬ m.toList = s.toList := fun h => hG (HMI.out.1 (toList_inj h))
    have hps : ¬ p.toList = s.toList := fun h => hG (HPI.out.1 (toList_inj h))
    have hms2 : (m.toList == s.toList) = false := by simpa using hms
    have hps2 : (p.toList == s.toList) = false := by simpa using hps
    go_wp2
    go_ret
    exact ⟨rfl, bwd⟩
end Go.Proofs.YtfmpnfgegcgcaaaDoor
