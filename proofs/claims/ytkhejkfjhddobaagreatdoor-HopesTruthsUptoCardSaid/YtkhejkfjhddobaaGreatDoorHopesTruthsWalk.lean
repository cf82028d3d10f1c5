/- gimletlaw18.HopesTruths walked. -/
import Derived.Test.YtkhejkfjhddobaaGreatDoorExprNetM
import Derived.Test.YtkhejkfjhddobaaGreatDoorRightWalkM
import Derived.Test.YtkhejkfjhddobaaGreatDoorLightM
import Derived.Test.YtkhejkfjhddobaaGreatDoorHoAwk
set_option maxHeartbeats 16000000
set_option linter.unusedSimpArgs false
namespace Go.Proofs.YtkhejkfjhddobaaGreatDoor
open Go.RowKit Gim
theorem lst_xs {nd : NetD} {np : Nat} (h : nd.preds.length = np) (hw : ∀ k, k < nd.preds.length → wX (xN nd k) ≤ 1048576) : ∀ (k : Nat) (x : Ex), ((List.range np).map (xN nd))[k]? = some x → x = xN nd k ∧ wX x ≤ 1048576 := fun k x hx => by
 have hk := (ji.1 hx).1
 rw [List.length_map, List.length_range] at hk
 rw [List.getElem?_map, List.getElem?_range hk] at hx
 injection hx with hx
 subst hx
 exact ⟨rfl, hw k (by omega)⟩
set_option maxRecDepth 100000 in
theorem hopesTruths_calls {es : List EvD} {ea : Option Addr} {en ec : Nat} {sts : List Gim.St} {pa : Option Addr} {pn pc : Nat} (w : World) (hE : FitEs w es ea en ec) (hF : FitTS w sts pa pn pc) (hT : Laid w) (hz : ∀ x ∈ es, EvSz x) (hB : ∀ e ∈ es, e.tx.size ≤ 1048576) (hw : wTL sts ≤ 1048576) (hen : en ≤ 1099511627775) :
  Calls Tryz.prog 3 #[.slice ea en ec, .agg #[.slice pa pn pc]] w fun e w' => e = .returned (.bool true) ∧ Below w.heap.size w w' := by
 obtain ⟨W1, hW1⟩ := je (w.alloc (.cells #[.slice pa pn pc] 25))
 have b1 : Below w.heap.size w W1 := by rw [← hW1]; exact (jf _ _).alloc (jr _) _
 have hX1 : W1.heap[w.heap.size]? = some (.cells #[.slice pa pn pc] 25) := by rw [← hW1]; exact jw _ _
 have hXs : w.heap.size < W1.heap.size := jl hX1
 have y0 := jc hX1 0 rfl
 have hT1 := hT.below b1
 have hF1 := hF.below b1
 have hE1 := hE.below b1
 have HW1 := jh hW1
 have HBW : Hid (∀ W', Below W1.heap.size W1 W' → Below w.heap.size w W') := jh fun W' h => b1.trans (h.mono b1.size)
 have HT1 := jh hT1
 have HF1 := jh hF1
 have HE1 := jh hE1
 have HZ := jh hz
 have HBX := jh hB
 have HWS := jh hw
 clear hW1 hT1 hF1 hE1 b1 hX1 hE hF hT hz hB
 go_enter Tryz.func3, Tryz.ntmps3
 go_upto_region 1 with fail
 rw [HW1.out]
 go_wp2_with fail
 refine (awake_callsk W1 HT1.out).mono ?_
 rintro e w3 ⟨rfl, hb3⟩
 have z1 := (hb3.cell (p := ⟨w.heap.size, 0, none⟩) hXs).trans y0
 have HB3 := jh hb3
 have hE3 := HE1.out.below hb3
 clear y0 hb3
 go_wp2_with fail
 refine (begin_calls w3 hE3 HZ.out hen).mono ?_
 rintro e w4 ⟨⟨d, x, rfl, _⟩, hb4⟩
 have z2 := (hb4.cell (p := ⟨w.heap.size, 0, none⟩) (jt hXs HB3.out.size)).trans z1
 have HB4 := jh (HB3.out.trans (hb4.mono HB3.out.size))
 clear z1 hb4 hE3
 cases hBG : begB es with
 | false =>
  go_wp2_with fail
  go_ret
  exact ⟨rfl, HBW.out _ HB4.out⟩
 | true =>
  have HBG := jh hBG
  clear hBG
  by_cases h4 : en ≤ 60
  ·have f1 : (60 < en) = False := eq_false (by omega)
   have HLI := jh (light_calls sts pa pn pc w4 (HF1.out.below HB4.out))
   go_wp2_with fail
   refine HLI.out.mono ?_
   rintro e w5 ⟨⟨li, rfl⟩, hb5⟩
   have z3 := (hb5.cell (p := ⟨w.heap.size, 0, none⟩) (jt hXs HB4.out.size)).trans z2
   have HB5 := jh (HB4.out.trans (hb5.mono HB4.out.size))
   clear z2 hb5 HLI
   cases li with
   | false =>
    go_wp2_with fail
    go_ret
    exact ⟨rfl, HBW.out _ HB5.out⟩
   | true =>
    have HCK := jh (askCheck_calls sts pa pn pc w5 (HF1.out.below HB5.out) (by have := HWS.out; omega) (HT1.out.below HB5.out))
    go_wp2_with fail
    refine HCK.out.mono ?_
    rintro e w6 ⟨rfl, hb6⟩
    have z4 := (hb6.cell (p := ⟨w.heap.size, 0, none⟩) (jt hXs HB5.out.size)).trans z3
    have HB6 := jh (HB5.out.trans (hb6.mono HB5.out.size))
    clear z3 hb6 HCK
    cases hOK : okP sts with
    | false =>
     go_wp2_with fail
     go_ret
     exact ⟨rfl, HBW.out _ HB6.out⟩
    | true =>
     have HOK := jh hOK
     have hg : gdTL sts = true := by
      have h := hOK
      unfold okP gdP at h
      simp only [jb] at h
      exact h.1.2
     have hszp := ju (szP_le sts) HWS.out
     have HNF : Hid (NetFit2 (comp sts)) := jh (comp_fit hOK (nlim_comp hszp (by have := HWS.out; omega)))
     have HWX : Hid (∀ k, k < (comp sts).preds.length → wX (xN (comp sts) k) ≤ 1048576) := jh fun k hk => ju (wX_pred hg hk) HWS.out
     have HSTC := jh (start_calls sts pa pn pc w6 (HF1.out.below HB6.out) (HT1.out.below HB6.out) hOK hszp (by have := HWS.out; omega))
     clear hOK hg hszp
     go_wp2_with fail
     refine HSTC.out.mono ?_
     rintro e w7 ⟨W0, H, tg, ra, rc, pa', pc', la, lc, rfl, hb0, hFX, hok, hX, hlow⟩
     obtain ⟨nr, hnr⟩ := je ((comp sts).rows.length)
     obtain ⟨np, hnp⟩ := je ((comp sts).preds.length)
     obtain ⟨mn, hmn⟩ := je ((comp sts).main : Int)
     rw [hnp] at hFX
     rw [hnr, hnp, hmn]
     obtain ⟨nd, hnd⟩ := je (comp sts)
     rw [hnd] at hnp hFX hok hX HNF HWX
     have hR0 := TruR.start es HNF.out hX hlow
     have HB0 := jh (HB6.out.trans (hb0.mono HB6.out.size))
     have HXS := jh (lst_xs hnp HWX.out)
     have HFX := jh hFX
     have HOKN := jh hok
     have HNP := jh hnp
     obtain ⟨NB, hNB⟩ := je (w7.heap.size)
     obtain ⟨w8, hw8⟩ := je (w7.alloc (.cells #[.int .i64 mn, .slice ra nr rc, .slice pa' np pc'] 36))
     have hX8 : w8.heap[NB]? = some (.cells #[.int .i64 mn, .slice ra nr rc, .slice pa' np pc'] 36) := by rw [← hw8, ← hNB]; exact jw _ _
     have hb8 : Below w7.heap.size w7 w8 := by rw [← hw8]; exact (jf _ _).alloc (jr _) _
     have hN8 : NB < w8.heap.size := jl hX8
     have HR8 := jh (hR0.more hb8 (K' := fun b => b = NB) fun b hb => .inr ⟨by rw [hb, hNB]; exact jr _, by rw [hb]; exact hN8⟩)
     have HX8 := jh hX8
     have HW8 := jh hw8
     have x0 := jc hX8 0 rfl; have x1 := jc hX8 1 rfl; have x2 := jc hX8 2 rfl
     have hlen6 : es.length ≤ 60 := by rw [HE1.out.len]; exact h4
     have HLEN := jh hlen6
     clear hX8 hw8 hb8 hR0 hX hlow hb0 hFX hok hnr hnp hmn hnd z4 hlen6
     go_upto_region 7 with fail
     rw [HW8.out]
     clear hNB
     have hRC := HR8.out.right (ea := none) (en := 0) (ec := 0) HOKN.out HNF.out rfl (jz _) (by have := HLEN.out; omega) HBX.out HZ.out (fitEs_nil _) HFX.out HNP.out HXS.out (.int .i64 mn) ra nr rc pa' pc'
     have HRC := jh hRC
     clear hRC
     go_wp2_with fail
     refine HRC.out.mono ?_
     rintro e w9 ⟨rfl, hR9⟩
     have HR9 := jh hR9
     clear hR9 HRC HR8 x0 x1 x2
     go_wp2_with fail
     go_loopw [12] (fun v wr => ∃ (i : Nat) (s : CkS) (fs : List FrS) (ex : Option (List Int)), v = .int .i64 i ∧ i ≤ en ∧ TruR W0.heap.size W0 w8 (fun b => b = NB) wr H nd es i s fs ex) (fun v _ => en - (intOf v).toNat)
     case atStart => exact ⟨0, ck0, _, _, rfl, jz _, HR9.out⟩
     case round =>
      obtain ⟨i, s, fs, ex, rfl, hi, hR⟩ := hrel
      by_cases hin : i < en
      ·have hin' : (i : Int) < en := by omega
       have hE7 := HE1.out.below HB0.out
       obtain ⟨e, he⟩ : ∃ e, es[i]? = some e := ⟨_, jk (by rw [hE7.len]; exact hin)⟩
       obtain ⟨b, o, rfl, hfit⟩ := hE7.fit i hin
       have hF := hfit i e he
       have hz := HZ.out e (List.mem_of_getElem? he)
       obtain ⟨sE, hall⟩ : ∃ sE, begS ck0 es = some sE := Option.isSome_iff_exists.1 HBG.out
       obtain ⟨fs', hfs'⟩ := je ((takeFs nd (stp s e).dn fs e).1)
       obtain ⟨ex', hex'⟩ := je ((takeFs nd (stp s e).dn fs e).2)
       obtain ⟨s', hs'⟩ := je (stp s e)
       obtain ⟨aa, an, ac, hc4, hA⟩ := hF.c4
       have HTK : Hid (∀ W, TruR W0.heap.size W0 w8 (fun b => b = NB) W H nd es i s fs ex → Calls Tryz.prog 13 #[.pointer (some ⟨H, 0, none⟩), .agg #[.int .i64 e.kd, .int .i64 e.num, .int .i64 e.dep, .string e.nm, .slice aa an ac, .string e.tx, .int .i64 e.fr, .int .i64 e.tu]] W fun r w' => r = .returned (.int .i64 0) ∧ TruR W0.heap.size W0 w8 (fun b => b = NB) w' H nd es (i + 1) s' fs' ex') := jh fun W h => by
        have := h.take HOKN.out HNF.out (HT1.out.below HB0.out) rfl he hall hz (by have := HLEN.out; omega) aa an ac hA (fun h0 b2 o2 hb2 => by
         obtain ⟨b3, o3, e3, l3, _⟩ := hA.fit 0 h0
         rw [hb2] at e3
         injection e3 with e3
         injection e3 with e3 _
         omega)
        rw [hfs', hex', hs'] at this
        exact this
       have HRT : Hid (∀ W, TruR W0.heap.size W0 w8 (fun b => b = NB) W H nd es (i + 1) s' fs' ex' → Calls Tryz.prog 12 #[.pointer (some ⟨H, 0, none⟩), .agg #[.int .i64 mn, .slice ra nr rc, .slice pa' np pc'], .slice la np lc, .slice (some ⟨b, o, none⟩) (i + 1) ec] W fun r w' => r = .returned (.bool true) ∧ TruR W0.heap.size W0 w8 (fun b => b = NB) w' H nd es (i + 1) s' fs' ex') := jh fun W h =>
        h.right HOKN.out HNF.out rfl (by rw [hE7.len]; exact hin) (by have := HLEN.out; omega) HBX.out HZ.out (FitEs.take hE7 hin) HFX.out HNP.out HXS.out (.int .i64 mn) ra nr rc pa' pc'
       obtain ⟨kd, nu, dp, nm, ats, tx, fr, tu⟩ := e
       obtain ⟨hbl, c0, c1, c2, c3, _, c5, c6, c7⟩ := hF
       simp only at c0 c1 c2 c3 c5 c6 c7 hc4
       have hecle := hE7.le
       have heccl := hE7.cap_le
       have hie : i + 1 ≤ ec := by omega
       have hie' : (i : Int) + 1 ≤ ec := by omega
       have hi0 : (0 : Int) ≤ (i : Int) + 1 := by omega
       have hecm : ec ≤ 9223372036854775807 := by unfold maxLen at heccl; omega
       have f9 : IntKind.i64.wrap ((i : Int) + 1) = (i : Int) + 1 := IntWalk.i64_in _ (by omega)
       have HCL : Hid (∀ (W : World) (i2 : Nat) (s2 : CkS) (f2 : List FrS) (x2 : Option (List Int)), TruR W0.heap.size W0 w8 (fun b => b = NB) W H nd es i2 s2 f2 x2 → W.cell? ⟨b, o + i * 8, none⟩ = some (.int .i64 kd) ∧ W.cell? ⟨b, o + i * 8 + 1, none⟩ = some (.int .i64 nu) ∧ W.cell? ⟨b, o + i * 8 + 2, none⟩ = some (.int .i64 dp) ∧ W.cell? ⟨b, o + i * 8 + 3, none⟩ = some (.string nm) ∧ W.cell? ⟨b, o + i * 8 + 4, none⟩ = some (.slice aa an ac) ∧ W.cell? ⟨b, o + i * 8 + 5, none⟩ = some (.string tx) ∧ W.cell? ⟨b, o + i * 8 + 6, none⟩ = some (.int .i64 fr) ∧ W.cell? ⟨b, o + i * 8 + 7, none⟩ = some (.int .i64 tu) ∧ W.cell? ⟨NB, 0, none⟩ = some (.int .i64 mn) ∧ W.cell? ⟨NB, 1, none⟩ = some (.slice ra nr rc) ∧ W.cell? ⟨NB, 2, none⟩ = some (.slice pa' np pc')) := jh fun W i2 s2 f2 x2 h => by
        have hc : ∀ j, W.cell? ⟨b, j, none⟩ = W0.cell? ⟨b, j, none⟩ := fun j => h.low.cell (p := ⟨b, j, none⟩) hbl
        have hn := (h.kp (b := NB) rfl).trans HX8.out
        exact ⟨(hc _).trans c0, (hc _).trans c1, (hc _).trans c2, (hc _).trans c3, (hc _).trans hc4, (hc _).trans c5, (hc _).trans c6, (hc _).trans c7, by simp [World.cell?, hn], by simp [World.cell?, hn], by simp [World.cell?, hn]⟩
       obtain ⟨y0, y1, y2, y3, y4, y5, y6, y7, y8, y9, y10⟩ := HCL.out _ _ _ _ _ hR
       have HR := jh hR
       clear hE7 he hfit hz hall hfs' hs' hex' hA c0 c1 c2 c3 c5 c6 c7 hc4 hR
       go_upto_region 12 with fail
       go_region_held3 (fun W => W.cell? ⟨b, o + i * 8, none⟩ = some (.int .i64 kd) ∧ W.cell? ⟨b, o + i * 8 + 1, none⟩ = some (.int .i64 nu) ∧ W.cell? ⟨b, o + i * 8 + 2, none⟩ = some (.int .i64 dp) ∧ W.cell? ⟨b, o + i * 8 + 3, none⟩ = some (.string nm) ∧ W.cell? ⟨b, o + i * 8 + 4, none⟩ = some (.slice aa an ac) ∧ W.cell? ⟨b, o + i * 8 + 5, none⟩ = some (.string tx) ∧ W.cell? ⟨b, o + i * 8 + 6, none⟩ = some (.int .i64 fr) ∧ W.cell? ⟨b, o + i * 8 + 7, none⟩ = some (.int .i64 tu) ∧ W.cell? ⟨NB, 0, none⟩ = some (.int .i64 mn) ∧ W.cell? ⟨NB, 1, none⟩ = some (.slice ra nr rc) ∧ W.cell? ⟨NB, 2, none⟩ = some (.slice pa' np pc')) (first | go_keep | exact ⟨by assumption, by assumption, by assumption, by assumption, by assumption, by assumption, by assumption, by assumption, by assumption, by assumption, by assumption⟩) (first
        | (go_at_call 13; refine (HTK.out _ (by first | exact HR.out | exact HR.out.below ((jf _ _).drew))).mono ?_; rintro r w11 ⟨rfl, hr11⟩; obtain ⟨j0, j1, j2, j3, j4, j5, j6, j7, j8, j9, j10⟩ := HCL.out _ _ _ _ _ hr11; have HR11 := jh hr11; clear hr11)
        | (go_at_call 12; refine (HRT.out _ HR11.out).mono ?_; rintro r w12 ⟨rfl, hr12⟩; obtain ⟨k0, k1, k2, k3, k4, k5, k6, k7, k8, k9, k10⟩ := HCL.out _ _ _ _ _ hr12; have HR12 := jh hr12; clear hr12))
       all_goals
        go_wp2_with fail
        go_roundw
        case rel => exact ⟨i + 1, s', fs', ex', by go_num, hin, HR12.out⟩
        case measure => simp [intOf]; omega
      ·obtain rfl : i = en := by omega
       go_wp2_with fail
       go_ret
       exact ⟨rfl, HBW.out _ (HB0.out.trans (hR.low.mono HB0.out.size))⟩
  ·have f1 : 60 < en := by omega
   have f2 : (60 : Int) < (en : Int) := by omega
   go_wp2_with fail
   go_ret
   exact ⟨rfl, HBW.out _ HB4.out⟩
end Go.Proofs.YtkhejkfjhddobaaGreatDoor
