/- gimletlaw18.HopesEntries walked. -/
import Derived.Test.YtkhejkfjhddobaaGreatDoorEntMore
import Derived.Deep.RegionHeld3
import Derived.Test.YtkhejkfjhddobaaGreatDoorHoAwakeLawM
import Derived.BigQuiet
namespace Go.Proofs.YtkhejkfjhddobaaGreatDoor
open Go.RowKit Gim
set_option maxRecDepth 100000 in
set_option maxHeartbeats 16000000 in
theorem hopesEntries_calls {es : List EvD} {ea : Option Addr} {en ec : Nat} {sts : List Gim.St} {pa : Option Addr} {pn pc : Nat} (w : World) (hE : FitEs w es ea en ec) (hF : FitTS w sts pa pn pc) (hT : Laid w) (hz : ∀ x ∈ es, EvSz x) (hw : wTL sts ≤ 1099511627775) (hen : en ≤ 1099511627775) :
    Calls Tryz.prog 6 #[.slice ea en ec, .agg #[.slice pa pn pc]] w fun e w' => e = .returned (.bool true) ∧ Below w.heap.size w w' := by
  obtain ⟨W1, hW1⟩ : ∃ W1, w.alloc (.cells #[.slice pa pn pc] 25) = W1 := ⟨_, rfl⟩
  have b1 : Below w.heap.size w W1 := by rw [← hW1]; exact (Below.refl _ _).alloc (Nat.le_refl _) _
  have hX1 : W1.heap[w.heap.size]? = some (.cells #[.slice pa pn pc] 25) := by rw [← hW1]; exact heap_alloc_new _ _
  have hXs : w.heap.size < W1.heap.size := (Array.getElem?_eq_some_iff.1 hX1).1
  have y0 : W1.cell? ⟨w.heap.size, 0, none⟩ = some (.slice pa pn pc) := by simp [World.cell?, hX1]
  have hT1 := hT.below b1
  have hF1 := hF.below b1
  have hE1 := hE.below b1
  have HW1 := Lib.hid hW1
  have HBW : Hid (∀ W', Below W1.heap.size W1 W' → Below w.heap.size w W') := Lib.hid fun W' h => b1.trans (h.mono b1.size)
  have HT1 := Lib.hid hT1
  have HF1 := Lib.hid hF1
  have HE1 := Lib.hid hE1
  have HZ := Lib.hid hz
  have hwG : wTL sts ≤ 1152921504606846976 := by omega
  have HGR := Lib.hid (great_calls sts pa pn pc W1 hF1 hwG)
  clear hW1 hT1 hF1 hE1 b1 hX1 hE hF hT hz
  go_enter Tryz.func6, Tryz.ntmps6
  go_upto_region 1 with fail
  rw [HW1.out]
  go_wp2_with fail
  refine HGR.out.mono ?_
  rintro e w2 ⟨rfl, hb2⟩
  have z0 := (hb2.cell (p := ⟨w.heap.size, 0, none⟩) hXs).trans y0
  have HB2 := Lib.hid hb2
  have HT2 := Lib.hid (HT1.out.below hb2)
  clear y0 hb2
  cases hG : decide (restTL sts 262144 < 0) with
  | true =>
    go_wp2_with fail
    refine (awake_calls w2 HT2.out).mono ?_
    rintro e w3 ⟨rfl, hb3⟩
    go_wp2_with fail
    go_ret
    exact ⟨rfl, HBW.out _ (HB2.out.trans (hb3.mono HB2.out.size))⟩
  | false =>
    go_wp2_with fail
    refine (awake_calls w2 HT2.out).mono ?_
    rintro e w3 ⟨rfl, hb3⟩
    have hb13 := HB2.out.trans (hb3.mono HB2.out.size)
    have z1 := (hb3.cell (p := ⟨w.heap.size, 0, none⟩) (Nat.lt_of_lt_of_le hXs HB2.out.size)).trans z0
    have HB3 := Lib.hid hb13
    have hE3 := HE1.out.below hb13
    clear z0 hb3 hb13
    go_wp2_with fail
    refine (begin_calls w3 hE3 HZ.out hen).mono ?_
    rintro e w4 ⟨⟨d, x, rfl, _⟩, hb4⟩
    have z2 := (hb4.cell (p := ⟨w.heap.size, 0, none⟩) (Nat.lt_of_lt_of_le hXs HB3.out.size)).trans z1
    have HB4 := Lib.hid (HB3.out.trans (hb4.mono HB3.out.size))
    clear z1 hb4 hE3
    cases hBG : begB es with
    | false =>
      go_wp2_with fail
      go_ret
      exact ⟨rfl, HBW.out _ HB4.out⟩
    | true =>
      have HBG := Lib.hid hBG
      by_cases h4 : en ≤ 4000
      · have f1 : (4000 < en) = False := eq_false (by omega)
        have HCK := Lib.hid (askCheck_calls sts pa pn pc w4 (HF1.out.below HB4.out) hwG (HT1.out.below HB4.out))
        go_wp2_with fail
        refine HCK.out.mono ?_
        rintro e w5 ⟨rfl, hb5⟩
        have z3 := (hb5.cell (p := ⟨w.heap.size, 0, none⟩) (Nat.lt_of_lt_of_le hXs HB4.out.size)).trans z2
        have HB5 := Lib.hid (HB4.out.trans (hb5.mono HB4.out.size))
        clear z2 hb5 HCK
        cases hOK : okP sts with
        | false =>
          go_wp2_with fail
          go_ret
          exact ⟨rfl, HBW.out _ HB5.out⟩
        | true =>
          have HOK := Lib.hid hOK
          have HSZ := Lib.hid (great_sz hG)
          have HSW := Lib.hid (great_w hG)
          have HCP := Lib.hid (comp_calls sts pa pn pc w5 (HF1.out.below HB5.out) (HT1.out.below HB5.out) hwG (Nat.le_trans (great_sz hG) (by decide)))
          obtain ⟨nr, hnr⟩ : ∃ nr, (comp sts).rows.length = nr := ⟨_, rfl⟩
          obtain ⟨np, hnp⟩ : ∃ np, (comp sts).preds.length = np := ⟨_, rfl⟩
          obtain ⟨mn, hmn⟩ : ∃ mn : Int, ((sts.length : Nat) : Int) = mn := ⟨_, rfl⟩
          go_wp2_with fail
          refine HCP.out.mono ?_
          rintro e w6 ⟨hb6, h6⟩
          rw [if_pos HOK.out] at h6
          obtain ⟨vr, vp, rfl, hN⟩ := h6
          obtain ⟨ra, rc, pa', pc', rfl, rfl, hR, hP⟩ := hN w6 fun _ _ _ => rfl
          rw [hnr, hnp, hmn]
          have HB6 := Lib.hid (HB5.out.trans (hb6.mono HB5.out.size))
          have hNB : Below w6.heap.size w6 (w6.alloc (.cells #[.int .i64 mn, .slice ra nr rc, .slice pa' np pc'] 36)) := (Below.refl _ _).alloc (Nat.le_refl _) _
          obtain ⟨w7, hw7⟩ : ∃ w7, w6.alloc (.cells #[.int .i64 mn, .slice ra nr rc, .slice pa' np pc'] 36) = w7 := ⟨_, rfl⟩
          have hX7 : w7.heap[w6.heap.size]? = some (.cells #[.int .i64 mn, .slice ra nr rc, .slice pa' np pc'] 36) := by rw [← hw7]; exact heap_alloc_new _ _
          rw [hw7] at hNB
          have HB7 := Lib.hid (HB6.out.trans (hNB.mono HB6.out.size))
          have HT7 := Lib.hid (HT1.out.below HB7.out)
          have hST : Hid (Calls Tryz.prog 15 #[.agg #[.int .i64 mn, .slice ra nr rc, .slice pa' np pc']] w7 fun e w' => Below w7.heap.size w7 w' ∧ NetOk (comp sts) ∧ ∃ H tg, e = .returned (.tuple #[.pointer (some ⟨H, 0, none⟩), .int .i64 0]) ∧ HoX w7.heap.size w' tg H (comp sts) [openF (comp sts) 0 ByteArray.empty []] ck0 none) := by
            have := start_hopes sts w7 HOK.out (Nat.le_trans HSZ.out (by decide)) (Nat.le_trans HSW.out (by decide)) HT7.out ra rc pa' pc' (hR.below hNB) (hP.below hNB)
            rw [hnr, hnp, show (comp sts).main = mn from hmn] at this
            exact Lib.hid this
          have x0 : w7.cell? ⟨w6.heap.size, 0, none⟩ = some (.int .i64 mn) := by simp [World.cell?, hX7]
          have x1 : w7.cell? ⟨w6.heap.size, 1, none⟩ = some (.slice ra nr rc) := by simp [World.cell?, hX7]
          have x2 : w7.cell? ⟨w6.heap.size, 2, none⟩ = some (.slice pa' np pc') := by simp [World.cell?, hX7]
          have HW7 := Lib.hid hw7
          have hN7 : w6.heap.size < w7.heap.size := (Array.getElem?_eq_some_iff.1 hX7).1
          have HNR := Lib.hid hnr
          have HNP := Lib.hid hnp
          clear hNB hX7 hw7 hR hP hN hb6 z3 hnr hnp hmn
          go_upto_region 9 with fail
          rw [HW7.out]
          go_wp2_with fail
          refine hST.out.mono ?_
          rintro e w8 ⟨hb8, hok, H, tg, rfl, hX⟩
          replace x1 := (hb8.cell (p := ⟨w6.heap.size, 1, none⟩) hN7).trans x1
          replace x2 := (hb8.cell (p := ⟨w6.heap.size, 2, none⟩) hN7).trans x2
          have hnrb : nr ≤ 1048576 := by rw [← HNR.out]; exact hok.nr
          have hnpb : np ≤ 1048576 := by rw [← HNP.out]; exact hok.np
          have HOKN := Lib.hid hok
          have hlen4 : es.length ≤ 4000 := by rw [HE1.out.len]; exact h4
          have HR0 := Lib.hid (show EntR w7.heap.size w7 w8 H (comp sts) es 0 ck0 [openF (comp sts) 0 ByteArray.empty []] from ⟨rfl, ⟨tg, none, hX⟩, rfl, fun _ => openF_hunt0 _ _ _ _, hb8⟩)
          obtain ⟨S, hS⟩ : ∃ S, nr + np = S := ⟨_, rfl⟩
          have hSb : S ≤ 2097152 := by omega
          have HS := Lib.hid (show (comp sts).rows.length + (comp sts).preds.length = S by rw [HNR.out, HNP.out]; exact hS)
          have f3 : IntKind.i64.wrap ((nr : Int) + np) = (S : Int) := by rw [IntWalk.i64_in _ (by omega)]; omega
          have HB8 := Lib.hid (HB7.out.trans (hb8.mono HB7.out.size))
          have HEN : Hid (∀ (W : World) (i : Nat) (s : CkS) (fs : List FrS), EntR w7.heap.size w7 W H (comp sts) es i s fs → Calls Tryz.prog 16 #[.pointer (some ⟨H, 0, none⟩)] W fun e w' => e = .returned (.int .i64 ((fs.length * S : Nat) : Int)) ∧ EntR w7.heap.size w7 w' H (comp sts) es i s fs) := Lib.hid fun W i s fs h => by
            have := h.entries hlen4 (by rw [HS.out]; omega)
            rw [HS.out] at this
            exact this
          have HLEN := Lib.hid hlen4
          clear hb8 hok hX hST hlen4 hS hnrb hnpb x0
          have f2 : ¬ (4000 : Int) < (en : Int) := by omega
          by_cases hS2 : S ≤ 2000
          · have f4 : ¬ (2000 : Int) < (S : Int) := by omega
            obtain ⟨P, hP⟩ : ∃ P, S * en = P := ⟨_, rfl⟩
            have hPb : P ≤ 2000 * 4000 := by rw [← hP]; exact Nat.mul_le_mul hS2 h4
            have f5 : IntKind.i64.wrap ((S : Int) * (en : Int)) = (P : Int) := by
              have : (S : Int) * (en : Int) = ((S * en : Nat) : Int) := by push_cast; rfl
              rw [this, hP]
              exact IntWalk.i64_in _ (by omega)
            by_cases hP2 : P ≤ 100000
            · have f6 : ¬ (100000 : Int) < (P : Int) := by omega
              obtain ⟨Q, hQ⟩ : ∃ Q : Int, 8 * (S : Int) * S = Q := ⟨_, rfl⟩
              have g1 : IntKind.i64.wrap (8 * (S : Int)) = 8 * S := IntWalk.i64_in _ (by omega)
              have g2 : IntKind.i64.wrap (8 * (S : Int) * S) = Q := by
                have := (bound_nums (S := S) (d := 0) hS2 (by omega) (by omega)).2.2.2
                rw [show (8 : Int) * (0 + 1) = 8 by decide, hQ] at this
                rw [hQ]
                exact this
              have g4 : ¬ Q < (S : Int) := by
                have := within (F := 1) (S := S) (D := 0) (by omega)
                rw [show (8 : Int) * (0 + 1) = 8 by decide, hQ] at this
                omega
              have g5 : ¬ (S : Int) < 0 := by omega
              have HEN0 : Hid (∀ W, EntR w7.heap.size w7 W H (comp sts) es 0 ck0 [openF (comp sts) 0 ByteArray.empty []] → Calls Tryz.prog 16 #[.pointer (some ⟨H, 0, none⟩)] W fun e w' => e = .returned (.int .i64 (S : Int)) ∧ EntR w7.heap.size w7 w' H (comp sts) es 0 ck0 [openF (comp sts) 0 ByteArray.empty []]) := Lib.hid fun W h => by
                have := HEN.out W 0 ck0 _ h
                rw [show [openF (comp sts) 0 ByteArray.empty []].length * S = S by rw [List.length_singleton, Nat.one_mul]] at this
                exact this
              clear hQ hP hPb
              go_wp2_with fail
              refine (HEN0.out _ HR0.out).mono ?_
              rintro e w9 ⟨rfl, hR9⟩
              have HR9 := Lib.hid hR9
              clear hR9
              go_wp2_with fail
              refine (HEN0.out _ HR9.out).mono ?_
              rintro e w10 ⟨rfl, hR10⟩
              have HR10 := Lib.hid hR10
              clear hR10 HEN0 HR9 HR0 x1 x2 f5 f6
              go_wp2_with fail
              clear g1 g2 g4
              go_loopw [13] (fun v wr => ∃ (i : Nat) (s : CkS) (fs : List FrS), v = .int .i64 i ∧ i ≤ en ∧ EntR w7.heap.size w7 wr H (comp sts) es i s fs) (fun v _ => en - (RowKit.intOf v).toNat)
              case atStart => exact ⟨0, ck0, _, rfl, Nat.zero_le _, HR10.out⟩
              case round =>
                obtain ⟨i, s, fs, rfl, hi, hR⟩ := hrel
                by_cases hin : i < en
                · have hin' : (i : Int) < en := by omega
                  have hE7 := HE1.out.below HB7.out
                  obtain ⟨e, he⟩ : ∃ e, es[i]? = some e := ⟨_, List.getElem?_eq_getElem (by rw [hE7.len]; exact hin)⟩
                  obtain ⟨b, o, rfl, hfit⟩ := hE7.fit i hin
                  have hF := hfit i e he
                  have hz := HZ.out e (List.mem_of_getElem? he)
                  obtain ⟨sE, hall⟩ : ∃ sE, begS ck0 es = some sE := Option.isSome_iff_exists.1 HBG.out
                  obtain ⟨d1, d2, d3⟩ := hR.depth0 he hall HLEN.out
                  obtain ⟨fs', hfs'⟩ : ∃ fs', (takeFs (comp sts) (stp s e).dn fs e).1 = fs' := ⟨_, rfl⟩
                  obtain ⟨s', hs'⟩ : ∃ s', stp s e = s' := ⟨_, rfl⟩
                  obtain ⟨aa, an, ac, hc4, hA⟩ := hF.c4
                  have HTK : Hid (∀ W, EntR w7.heap.size w7 W H (comp sts) es i s fs → Calls Tryz.prog 13 #[.pointer (some ⟨H, 0, none⟩), .agg #[.int .i64 e.kd, .int .i64 e.num, .int .i64 e.dep, .string e.nm, .slice aa an ac, .string e.tx, .int .i64 e.fr, .int .i64 e.tu]] W fun r w' => r = .returned (.int .i64 0) ∧ EntR w7.heap.size w7 w' H (comp sts) es (i + 1) s' fs') := Lib.hid fun W h => by
                    have := h.take HOKN.out (HT1.out.below HB7.out) rfl he hall hz HLEN.out aa an ac hA (fun h0 b2 o2 hb2 => by
                      obtain ⟨b3, o3, e3, l3, _⟩ := hA.fit 0 h0
                      rw [hb2] at e3
                      injection e3 with e3
                      injection e3 with e3 _
                      omega)
                    rw [hfs', hs'] at this
                    exact this
                  rw [hfs'] at d1
                  obtain ⟨F, hF2⟩ : ∃ F, fs'.length = F := ⟨_, rfl⟩
                  rw [hF2] at d1
                  obtain ⟨kd, nu, dp, nm, ats, tx, fr, tu⟩ := e
                  obtain ⟨hbl, c0, c1, c2, c3, _, c5, c6, c7⟩ := hF
                  simp only at d1 d2 d3 c0 c1 c2 c3 c5 c6 c7 hc4
                  have HCL : Hid (∀ (W : World) (i2 : Nat) (s2 : CkS) (f2 : List FrS), EntR w7.heap.size w7 W H (comp sts) es i2 s2 f2 → W.cell? ⟨b, o + i * 8, none⟩ = some (.int .i64 kd) ∧ W.cell? ⟨b, o + i * 8 + 1, none⟩ = some (.int .i64 nu) ∧ W.cell? ⟨b, o + i * 8 + 2, none⟩ = some (.int .i64 dp) ∧ W.cell? ⟨b, o + i * 8 + 3, none⟩ = some (.string nm) ∧ W.cell? ⟨b, o + i * 8 + 4, none⟩ = some (.slice aa an ac) ∧ W.cell? ⟨b, o + i * 8 + 5, none⟩ = some (.string tx) ∧ W.cell? ⟨b, o + i * 8 + 6, none⟩ = some (.int .i64 fr) ∧ W.cell? ⟨b, o + i * 8 + 7, none⟩ = some (.int .i64 tu)) := Lib.hid fun W i2 s2 f2 h => by
                    have hc : ∀ j, W.cell? ⟨b, j, none⟩ = w7.cell? ⟨b, j, none⟩ := fun j => h.low.cell (p := ⟨b, j, none⟩) hbl
                    exact ⟨(hc _).trans c0, (hc _).trans c1, (hc _).trans c2, (hc _).trans c3, (hc _).trans hc4, (hc _).trans c5, (hc _).trans c6, (hc _).trans c7⟩
                  obtain ⟨V, hV⟩ : ∃ V : Int, ((F * S : Nat) : Int) = V := ⟨_, rfl⟩
                  have HEN1 : Hid (∀ W, EntR w7.heap.size w7 W H (comp sts) es (i + 1) s' fs' → Calls Tryz.prog 16 #[.pointer (some ⟨H, 0, none⟩)] W fun e w' => e = .returned (.int .i64 V) ∧ EntR w7.heap.size w7 w' H (comp sts) es (i + 1) s' fs') := Lib.hid fun W h => by
                    have := HEN.out W (i + 1) s' fs' h
                    rw [hF2, hV] at this
                    exact this
                  obtain ⟨n1, n2, n3, n4⟩ := bound_nums (S := S) hS2 d2 d3
                  obtain ⟨R, hRR⟩ : ∃ R : Int, 8 * (dp + 1) * S * S = R := ⟨_, rfl⟩
                  have n5 : ¬ R < V := by
                    have := within (F := F) (S := S) (D := dp) d1
                    omega
                  have n6 : ¬ V < 0 := by omega
                  have n7 : decide (V < 0) = false := decide_eq_false n6
                  have n8 : decide (R < V) = false := decide_eq_false n5
                  replace n4 := n4.trans hRR
                  obtain ⟨y0, y1, y2, y3, y4, y5, y6, y7⟩ := HCL.out _ _ _ _ hR
                  have HR := Lib.hid hR
                  clear hE7 he hfit hz hall hfs' hs' hA hF2 c0 c1 c2 c3 c5 c6 c7 hc4 hV hRR hR d1 d2 d3
                  go_upto_region 20 with fail
                  go_region_held3 (fun W => W.cell? ⟨b, o + i * 8, none⟩ = some (.int .i64 kd) ∧ W.cell? ⟨b, o + i * 8 + 1, none⟩ = some (.int .i64 nu) ∧ W.cell? ⟨b, o + i * 8 + 2, none⟩ = some (.int .i64 dp) ∧ W.cell? ⟨b, o + i * 8 + 3, none⟩ = some (.string nm) ∧ W.cell? ⟨b, o + i * 8 + 4, none⟩ = some (.slice aa an ac) ∧ W.cell? ⟨b, o + i * 8 + 5, none⟩ = some (.string tx) ∧ W.cell? ⟨b, o + i * 8 + 6, none⟩ = some (.int .i64 fr) ∧ W.cell? ⟨b, o + i * 8 + 7, none⟩ = some (.int .i64 tu)) (first | go_keep | exact ⟨by assumption, by assumption, by assumption, by assumption, by assumption, by assumption, by assumption, by assumption⟩) (first
                    | (go_at_call 13; refine (HTK.out _ (by first | exact HR.out | exact HR.out.below ((Below.refl _ _).drew))).mono ?_; rintro r w11 ⟨rfl, hr11⟩; obtain ⟨j0, j1, j2, j3, j4, j5, j6, j7⟩ := HCL.out _ _ _ _ hr11; have HR11 := Lib.hid hr11; clear hr11)
                    | (go_at_call 16; refine (HEN1.out _ (by first | exact HR12.out | exact HR11.out)).mono ?_; rintro r w12 ⟨rfl, hr12⟩; obtain ⟨k0, k1, k2, k3, k4, k5, k6, k7⟩ := HCL.out _ _ _ _ hr12; have HR12 := Lib.hid hr12; clear hr12))
                  all_goals
                    go_wp2_with fail
                    go_roundw
                    case rel => exact ⟨i + 1, s', fs', by go_num, hin, by first | exact HR13.out | exact HR12.out⟩
                    case measure => simp [RowKit.intOf]; omega
                · obtain rfl : i = en := by omega
                  go_wp2_with fail
                  go_ret
                  exact ⟨rfl, HBW.out _ (HB7.out.trans (hR.low.mono HB7.out.size))⟩
            · have f6 : (100000 : Int) < (P : Int) := by omega
              go_wp2_with fail
              go_ret
              exact ⟨rfl, HBW.out _ HB8.out⟩
          · have f4 : (2000 : Int) < (S : Int) := by omega
            go_wp2_with fail
            go_ret
            exact ⟨rfl, HBW.out _ HB8.out⟩
      · have f1 : 4000 < en := by omega
        have f2 : (4000 : Int) < (en : Int) := by omega
        go_wp2_with fail
        go_ret
        exact ⟨rfl, HBW.out _ HB4.out⟩
end Go.Proofs.YtkhejkfjhddobaaGreatDoor

