/- (*Hopes).leave walked. -/
import Derived.Test.YtkhejkfjhddobaaGreatDoorHoEvM
import Derived.Deep.RegionLawGrows
set_option maxRecDepth 100000
set_option maxHeartbeats 32000000
namespace Go.Proofs.YtkhejkfjhddobaaGreatDoor
open Go.RowKit Gim
def tgX (tg : Nat → Nat × Nat) (b5 b : Nat) : Nat × Nat := if b = b5 then (5, 0) else tg b
def yR0 (n0 : Nat) (w : World) (tg : Nat → Nat × Nat) (H K : Nat) (nd : yAc) (vF : Value) (r : List FrS × List Int) (ps : List Nat) (vO : Value) (en : Nat) (es : List Value) (num : Int) (tx dn : Bool) (e : Ending) (w' : World) : Prop :=
 e = .returned (.tuple #[]) ∧ ∃ vX tg', HoI n0 w' tg' H K nd vF vX (.slice none 0 0) r.1 ps vO en es num tx dn ∧ ExM w' tg' nd.preds.length vX (some r.2) ∧ Go6 tg tg' w w'
section
variable {n0 : Nat} {W : World} {tg : Nat → Nat × Nat} {H K : Nat} {nd : yAc} {vF vX vK : Value} {fs : List FrS} {ps : List Nat} {vO : Value} {en : Nat} {es : List Value} {num : Int} {tx dn : Bool}
theorem HoI.net (h : HoI n0 W tg H K nd vF vX vK fs ps vO en es num tx dn) : yHI W H nd := by obtain ⟨mn, ra, rc, pa, pc, h1, h2⟩ := h.hH; exact ⟨⟨mn, ra, rc, pa, pc, _, _, _, _, h1, (h2 W fun _ _ _ => rfl).1, (h2 W fun _ _ _ => rfl).2⟩⟩
theorem HoI.c3 (h : HoI n0 W tg H K nd vF vX vK fs ps vO en es num tx dn) : W.cell? ⟨H, 3, none⟩ = some (.pointer (some ⟨K, 0, none⟩)) := by obtain ⟨mn, ra, rc, pa, pc, h1, h2⟩ := h.hH; simp [World.cell?, h1]
theorem HoI.c4 (h : HoI n0 W tg H K nd vF vX vK fs ps vO en es num tx dn) : W.cell? ⟨H, 4, none⟩ = some vF := by obtain ⟨mn, ra, rc, pa, pc, h1, h2⟩ := h.hH; simp [World.cell?, h1]
theorem HoI.c5 (h : HoI n0 W tg H K nd vF vX vK fs ps vO en es num tx dn) : W.cell? ⟨H, 5, none⟩ = some vX := by obtain ⟨mn, ra, rc, pa, pc, h1, h2⟩ := h.hH; simp [World.cell?, h1]
theorem HoI.fz (h : HoI n0 W tg H K nd vF vX vK fs ps vO en es num tx dn) (i : Nat) : W.frozen? ⟨H, i, none⟩ = false := by obtain ⟨mn, ra, rc, pa, pc, h1, h2⟩ := h.hH; exact yAd h1 i
theorem HoI.row (h : HoI n0 W tg H K nd vF vX vK fs ps vO en es num tx dn) (h0 : 0 < fs.length) : ∃ g c, vF = .slice (some ⟨g, 0, none⟩) fs.length c ∧ fs.length ≤ c ∧ g < W.heap.size ∧ ∀ i, i < fs.length → W.cell? ⟨g, i, none⟩ = some (.pointer (some ⟨ps.getD i 0, 0, none⟩)) := by
 obtain ⟨a, c, e, h1, _, h3⟩ := yAb h.fr.row; obtain ⟨g, e2, _, h5⟩ := h3 0 h0; subst e2; refine ⟨g, c, e, h1, h5, fun i hi => ?_⟩; have hr := h.fr.row; rw [e] at hr; have hip : i < ps.length := by rw [h.fr.lp]; exact hi
 refine yAq hr ?_; rw [List.getElem?_map, jg, jk hip]; rfl
theorem HoI.rowAt {g c : Nat} (h : HoI n0 W tg H K nd (.slice (some ⟨g, 0, none⟩) fs.length c) vX vK fs ps vO en es num tx dn) {i : Nat} (hi : i < fs.length) : W.cell? ⟨g, i, none⟩ = some (.pointer (some ⟨ps.getD i 0, 0, none⟩)) := by
 obtain ⟨g', c', e, _, _, h3⟩ := h.row (by omega); injection e with e1 e2 e3
 injection e1 with e1; injection e1 with e1; subst e1; exact h3 i hi
attribute [local go_sem ↓] Go.wp_at_zero Go.wp_at_succ
theorem yHo (F : Nat) (f : FrS) (w : World) (h : HoI n0 w tg H K nd vF vX (.slice none 0 0) fs ps vO en es num tx dn) (hF : FrM w tg (10 + fs.length) F nd.rows.length nd.preds.length f) (hok : yB2 nd) (h0 : 0 < fs.length) (hn : fs.length ≤ 1048576) :
  Calls Tryz.prog 59 #[.pointer (some ⟨H, 0, none⟩), .pointer (some ⟨F, 0, none⟩)] w (yR0 n0 w tg H K nd vF (yAm nd dn fs f) ps vO en es num tx dn) := by
 obtain ⟨tg0, htg0⟩ : ∃ t, tgU tg w.heap.size 6 = t := ⟨_, rfl⟩
 have hb0 := jf w.heap.size w; have h := h.below hb0; have hF := hF.keep (W' := w) (tg' := tgU tg w.heap.size 6) (j' := 10 + fs.length) (fun _ _ _ _ => rfl) (fun b k hb e => by rw [yAl hb]; exact e); have ht1 := yRt tg w.heap.size; have hgo := Go6.new tg hb0 6; rw [htg0] at h hF ht1 hgo; have hnew : ∀ (wx : World), w.heap.size ≤ wx.heap.size → ∀ b, wx.heap.size ≤ b → (tg0 b).1 ≠ 0 := fun wx hs b hb => by rw [ht1 b (by omega)]; decide
 obtain ⟨np, hnp⟩ := je (nd.preds.length); obtain ⟨nr, hnr⟩ := je (nd.rows.length); obtain ⟨p, hfn⟩ : ∃ p, fs.length = p + 1 := ⟨fs.length - 1, by omega⟩
 have hnpl := hok.np; have hnrl := hok.nr; obtain ⟨cB, dB, aB, hB, hp, hF⟩ := hF; have hKK := h.ck.hK; obtain ⟨g, c, hvF, hgc, hgs, _⟩ := h.row h0; subst hvF; obtain ⟨f1, hf1⟩ := je (yBt f); obtain ⟨fs1, hfs1⟩ : ∃ fs1, (if dn = true then yEB yBt fs else fs) = fs1 := ⟨_, rfl⟩
 have hfl1 : fs1.length = p + 1 := by
  rw [← hfs1]; split
  ·rw [yFB]; exact hfn
  ·exact hfn
 obtain ⟨r, hr⟩ := je (yBT nd f1 false none); have hrl := yG0 nd f1 false none; rw [hr] at hrl; have HRES : Hid (yAm nd dn fs f = (yDE (yDy r.2 f1) fs1, r.1)) := jh (by unfold yAm; rw [hf1, hr, hfs1]); rw [HRES.out]; have HS := jh (yIg w hF hnpl); rw [hf1] at HS; have HD1 : Hid (∀ W, HoI n0 W tg0 H K nd (.slice (some ⟨g, 0, none⟩) fs.length c) vX (.slice none 0 0) fs ps vO en es num tx dn → Calls Tryz.prog 67 #[.pointer (some ⟨K, 0, none⟩)] W fun e w' => e = .returned (.bool dn) ∧ w' = W) := jh fun W hW => yIl W K vO num tx dn hW.ck.hK
 have hFs : F < w.heap.size := jl hF.hF; have HOK := jh hok; have HH0 := jh h.old.1; have HH := jh h; have HFF := jh hF; have HGO := jh hgo; have HNEW := jh hnew; have HT1 := jh ht1; have HNP := jh hnp; have HNR := jh hnr; have HFN := jh hfn; have HFL1 := jh hfl1; have HFS1 := jh hfs1; have HF1 := jh hf1; have HR := jh hr; have HRL := jh hrl; have HNPL := jh (And.intro hnpl hnrl); clear h hok hF h0 hb0 htg0 hgo hnew ht1 hnp hnr hfn hKK hfl1 hfs1 hf1 hr hrl hnpl hnrl; go_enter Tryz.func59, Tryz.ntmps59; go_wp2_with fail; refine HS.out.mono ?_; rintro e w2 ⟨rfl, hF2, hf2⟩; have H2 : Hid (HoI n0 w2 tg0 H K nd (.slice (some ⟨g, 0, none⟩) fs.length c) vX (.slice none 0 0) fs ps vO en es num tx dn ∧ FrI w2 tg0 (10 + fs.length) F cB dB aB hB hp nd.rows.length nd.preds.length f1 ∧ Go6 tg tg0 w w2) := jh (by refine ⟨HH.out.off2 hf2 (fun b hb e hu => ?_) (HNEW.out w (jr _)), hF2, HGO.out.trans ⟨hf2.mono fun b hb => by rw [hb]; omega, fun b hb => rfl⟩⟩; unfold yHf at hu; omega); have q3 := H2.out.1.c3; have q4 := H2.out.1.c4; have hHs2 := H2.out.1.lt; clear hF2 hf2; go_upto_if 15 with (go_at_call 67; refine (HD1.out _ H2.out.1).mono ?_; rintro e w3 ⟨rfl, rfl⟩); go_cut [] from 16 to 22 (fun wx => HoI n0 wx tg0 H K nd (.slice (some ⟨g, 0, none⟩) fs.length c) vX (.slice none 0 0) fs1 ps vO en es num tx dn ∧ FrI wx tg0 (10 + fs.length) F cB dB aB hB hp nd.rows.length nd.preds.length f1 ∧ Go6 tg tg0 w wx)
 case first =>
  cases dn with
  | false =>
   have HX := jh (show fs1 = fs from HFS1.out.symm); go_wp2_with fail; go_meet; rw [HX.out]; exact H2.out
  | true =>
   have HX := jh (show fs1 = yEB yBt fs from HFS1.out.symm); have h0 : 0 < fs.length := by rw [HFN.out]; omega
   have hm0 := H2.out.1.fr.fr 0 h0; obtain ⟨c0, d0, a0, e0, hp0, hm0⟩ := hm0; have HS0 := jh (yIg w3 hm0 HNPL.out.1); have x0 := H2.out.1.rowAt h0; have hg3 : g < w3.heap.size := by
    obtain ⟨g', c', e, _, hlt, _⟩ := H2.out.1.row h0; injection e with e1 e2 e3
    injection e1 with e1; injection e1 with e1; rw [e1]; exact hlt
   have hgc0 : 0 < c := by omega
   obtain ⟨F0, hF0⟩ := je (ps.getD 0 0); rw [hF0] at x0 HS0; have HF0 := jh hF0; clear hm0 hF0; go_wp2_with fail; refine HS0.out.mono ?_; rintro e w4 ⟨rfl, hm4, hf4⟩; have HEND : Hid (HoI n0 w4 tg0 H K nd (.slice (some ⟨g, 0, none⟩) fs.length c) vX (.slice none 0 0) fs1 ps vO en es num tx true ∧ FrI w4 tg0 (10 + fs.length) F cB dB aB hB hp nd.rows.length nd.preds.length f1 ∧ Go6 tg tg0 w w4) := jh (by
    have e1 : fs.set 0 (yBt (fs.getD 0 fr0)) = fs1 := by rw [HX.out]; unfold yEB; rw [yI9 yBt h0 fr0]
    have hI := H2.out.1.setFr h0 hf4 (f := yBt (fs.getD 0 fr0)) (by rw [HF0.out]; exact ⟨_, _, _, _, _, hm4⟩) (fun b hb _ => HNEW.out w3 H2.out.2.2.fr.size b hb); rw [e1] at hI; refine ⟨hI, H2.out.2.1.keep (fun b k hb e => hf4.block b hb (by rw [e]; show ¬ 10 + fs.length = 10 + 0; omega)) (fun _ _ _ e => e), H2.out.2.2.trans ⟨hf4.mono fun b hb => ?_, fun _ _ => rfl⟩⟩; rw [hb]; decide)
   clear hm4 hf4 x0; go_wp2_with fail; go_meet; exact HEND.out
 case rest =>
 obtain ⟨hI, hFr, hG⟩ := hcut; have hFC := yI8 nd f1 tg0 (10 + fs.length) F H false (.slice none 0 0) (.slice none 0 0) none wc hI.net HOK.out ⟨_, _, _, _, _, hFr⟩ ⟨rfl, rfl⟩; rw [HR.out, HNP.out, HNR.out] at hFC; have HFC := jh hFC; have HI := jh hI; have HFR := jh hFr; have HG := jh hG; clear hI hFr hG hFC q3 q4 HS HD1 H2 HH HFF hHs2; go_wp2_with fail; refine HFC.out.mono ?_; rintro e w4 ⟨tB, eB, rfl, hfw⟩; have HI4 := jh (HI.out.off2 (p := fun _ => False) (Fr.of hfw.bel) (fun _ _ e => e.elim) (HNEW.out wc HG.out.fr.size)); have HFR4 := jh (HFR.out.below hfw.bel); have HG4 : Hid (Go6 tg tg0 w w4) := jh (HG.out.trans ⟨Fr.of hfw.bel, fun _ _ => rfl⟩); have HFW := jh hfw; have HT4 := jh hfw.t; have HE4 := jh hfw.e; have hB2 : w.heap.size ≤ tB ∧ w.heap.size ≤ eB ∧ tB ≠ eB := ⟨ju HG.out.fr.size hfw.lo.1, ju HG.out.fr.size hfw.lo.2.1, hfw.lo.2.2⟩
 clear hfw; have hp1 : p < fs1.length := by rw [HFL1.out]; omega
 obtain ⟨fn, hfn⟩ := je (fs.length); have hfl : fs1.length = fs.length := by rw [HFL1.out, HFN.out]
 have q4 := HI4.out.c4; rw [hfn] at q4; have hHs4 := HI4.out.lt; have hI4' := HI4.out; rw [← hfl] at hI4'; have x0 := hI4'.rowAt hp1; obtain ⟨cI, dI, aI, hI, hpI, hmI⟩ := HI4.out.fr.fr p hp1; obtain ⟨I, hIe⟩ := je (ps.getD p 0); rw [hIe] at x0 hmI; have hg4 : g < w4.heap.size := (jt hgs HG4.out.fr.size)
 have hfn1 : fn = p + 1 := by rw [← hfn]; exact HFN.out
 have e4 : IntKind.i64.wrap ((fn : Int) - 1) = (p : Int) := by rw [show ((fn : Int) - 1) = (p : Int) by omega]; exact IntWalk.i64_in _ (by omega)
 have hpf : (p : Int) < fn := by omega
 have hpf2 : p < fn := by omega
 have HPI := jh hIe; have HMI := jh hmI; have HL := jh (And.intro hfl (And.intro hfn hfn1)); clear hI4' hmI hIe hfl hfn hfn1; go_wp2_with fail; go_quiet (fail); obtain ⟨fi, hfi⟩ := je (fs1.getD p fr0); have HFI := jh hfi; rw [hfi] at HMI; obtain ⟨nC, hnC⟩ : ∃ nC : Nat → Bool, (fun i => fi.child.getD i false || decide (r.2.getD i 0 = 2)) = nC := ⟨_, rfl⟩
 obtain ⟨nD, hnD⟩ : ∃ nD : Nat → Bool, (fun i => fi.deep.getD i false || decide (r.2.getD i 0 = 2) || f1.deep.getD i false) = nD := ⟨_, rfl⟩
 have HNC := jh hnC; have HND := jh hnD; obtain ⟨oC, hoC⟩ := je ((fun i => fi.child.getD i false) : Nat → Bool); obtain ⟨oD, hoD⟩ := je ((fun i => fi.deep.getD i false) : Nat → Bool); have HOC := jh hoC; have HOD := jh hoD; clear hnC hnD hoC hoD hfi q4 x0 e4 hpf hpf2 HFC HI HFR HG; go_wp2_with fail; go_loopw [43] (fun v wr => ∃ k : Nat, v = .int .i64 k ∧ k ≤ nr ∧ FrI wr tg0 (10 + p) I cI dI aI hI hpI nd.rows.length nd.preds.length { fi with child := yDo nr nC oC k, deep := yDo nr nD oD k } ∧ Fr (fun b => (tg0 b).1 = 10 + p) w4 wr) (fun v _ => nr - (intOf v).toNat)
 case atStart =>
  refine ⟨0, rfl, jz _, ?_, (Fr.refl _ _).drewN _⟩; rw [← HOC.out, ← HOD.out, yJT nC (by rw [HMI.out.lc, HNR.out]), yJT nD (by rw [HMI.out.ld, HNR.out])]; exact HMI.out.below (((yAJ.refl _).drewN _).below _)
 case round =>
  obtain ⟨k, rfl, hk, hm, hf⟩ := hrel; have hm' := hm; rw [HNR.out] at hm'; have hnrl : nr ≤ 1048576 := by have := HNPL.out.2; rw [HNR.out] at this; exact this
  by_cases hkn : k < nr
  ·have hkn' : (k : Int) < nr := by omega
   obtain ⟨e, he⟩ := je (r.2.getD k 0); obtain ⟨cv, hcv⟩ := je (oC k); obtain ⟨dv, hdv⟩ := je (oD k); obtain ⟨fv, hfv⟩ := je (f1.deep.getD k false); obtain ⟨mt, hmt⟩ := je ((e == 2)); have hmt' : decide (e = 2) = mt := hmt; have HN1 : Hid (nC k = (cv || mt)) := jh (by rw [← HNC.out, ← hcv, ← HOC.out]; show (fi.child.getD k false || decide (r.2.getD k 0 = 2)) = _; rw [he, hmt']); have HN2 : Hid (nD k = (dv || mt || fv)) := jh (by rw [← HND.out, ← hdv, ← HOD.out]; show (fi.deep.getD k false || decide (r.2.getD k 0 = 2) || f1.deep.getD k false) = _; rw [he, hfv, hmt']); have heBl := jl HE4.out; have hE := (hf.block eB heBl (by rw [HT1.out eB hB2.2.1]; show ¬ 6 = 10 + p; omega)).trans HE4.out; have g0 : wr.cell? ⟨eB, k, none⟩ = some (.int .i64 e) := by rw [← he]; exact yAy hE (yAi (by rw [HRL.out.2, HNR.out]; exact hkn) 0)
   have heBs : eB < wr.heap.size := jl hE; have g1 := jc hm'.hF 2 rfl; have g2 : wr.cell? ⟨cI, k, none⟩ = some (.bool cv) := by rw [← hcv]; exact yE3 hm'.hc (yO5 nC oC hkn)
   have hIs : I < wr.heap.size := jl hm'.hF; have hcIs : cI < wr.heap.size := jl hm'.hc; have z2 := yAd hm'.hc k; have HM := jh hm; have HF := jh hf; have HCV := jh (And.intro hcv hdv); have HFV := jh hfv; clear hm hm' hf hE heBl he hcv hdv hfv hmt'; go_upto_region 9 with fail; clear hmt; go_cut [8] from 51 to 66 (fun v wx => v = .bool mt ∧ FrI wx tg0 (10 + p) I cI dI aI hI hpI nd.rows.length nd.preds.length { fi with child := yDo nr nC oC (k + 1), deep := yDo nr nD oD k } ∧ Fr (fun b => (tg0 b).1 = 10 + p) w4 wx)
   case first =>
    have HX : Hid (∀ x, x = nC k → FrI (wr.setCell ⟨cI, k, none⟩ (.bool x)).drew tg0 (10 + p) I cI dI aI hI hpI nd.rows.length nd.preds.length { fi with child := yDo nr nC oC (k + 1), deep := yDo nr nD oD k } ∧ Fr (fun b => (tg0 b).1 = 10 + p) w4 (wr.setCell ⟨cI, k, none⟩ (.bool x)).drew) := jh (fun x hx => by have h1 := (HM.out.setC k x).below ((jf _ _).drew); rw [yLK hx] at h1; exact ⟨h1, (HF.out.set cI k _ (by rw [HM.out.tc])).trans (Fr.of ((jf _ _).drew))⟩); cases cv
    all_goals
     go_region
     all_goals
      go_wp2_with fail; go_meet; exact ⟨rfl, HX.out _ (by rw [HN1.out]; simp)⟩
   case rest =>
   obtain ⟨rfl, hm, hf⟩ := hcut; have hm' := hm; rw [HNR.out] at hm'; have hdl := (HFR4.out.keep (W' := wc) (tg' := tg0) (j' := 10 + fs.length) (fun b j hb e => hf.block b hb (by rw [e]; show ¬ 10 + fs.length = 10 + p; rw [HFN.out]; omega)) (fun _ _ _ e => e))
   rw [HNR.out] at hdl; have g1 := jc hm'.hF 3 rfl; have g2 : wc.cell? ⟨dI, k, none⟩ = some (.bool dv) := by rw [← HCV.out.2]; exact yE3 hm'.hd (yO5 nD oD hkn)
   have g3 := jc hdl.hF 3 rfl; have g4 : wc.cell? ⟨dB, k, none⟩ = some (.bool fv) := by rw [← HFV.out]; exact yE3 hdl.hd (yAi (by rw [hdl.ld]; exact hkn) false)
   have hIs : I < wc.heap.size := jl hm'.hF; have hdIs : dI < wc.heap.size := jl hm'.hd; have hFs9 : F < wc.heap.size := jl hdl.hF; have hdBs : dB < wc.heap.size := jl hdl.hd; have z2 := yAd hm'.hd k; have HX : Hid (∀ x, x = nD k → FrI (wc.setCell ⟨dI, k, none⟩ (.bool x)).drew tg0 (10 + p) I cI dI aI hI hpI nd.rows.length nd.preds.length { fi with child := yDo nr nC oC (k + 1), deep := yDo nr nD oD (k + 1) } ∧ Fr (fun b => (tg0 b).1 = 10 + p) w4 (wc.setCell ⟨dI, k, none⟩ (.bool x)).drew) := jh (fun x hx => by have h1 := (hm.setD k x).below ((jf _ _).drew); rw [yLK hx] at h1; exact ⟨h1, (hf.set dI k _ (by rw [hm.td])).trans (Fr.of ((jf _ _).drew))⟩); clear hm hm' hf hdl; go_upto_region 10 with fail; cases dv
   ·cases mt
    ·go_region
     all_goals
      go_wp2_with fail; go_roundw
      case rel => exact ⟨k + 1, by simp, by omega, HX.out _ (by rw [HN2.out]; simp)⟩
      case measure => simp [intOf]; omega
    ·go_region
     all_goals
      go_wp2_with fail; go_roundw
      case rel => exact ⟨k + 1, by simp, by omega, HX.out _ (by rw [HN2.out]; simp)⟩
      case measure => simp [intOf]; omega
   ·go_region
    all_goals
     go_wp2_with fail; go_roundw
     case rel => exact ⟨k + 1, by simp, by omega, HX.out _ (by rw [HN2.out]; simp)⟩
     case measure => simp [intOf]; omega
  ·have e : k = nr := by omega
   subst e; have hc : ({ fi with child := yDo k nC oC k, deep := yDo k nD oD k } : FrS) = yDy r.2 f1 fi := by unfold yDy yPK yP2; rw [yMG, yMG, ← HNC.out, ← HND.out, HMI.out.lc, HMI.out.ld, HNR.out]
   rw [hc] at hm; have hI5 := HI4.out.setFr hp1 hf (f := yDy r.2 f1 fi) (by rw [HPI.out]; exact ⟨_, _, _, _, _, hm⟩) (fun b hb _ => HNEW.out w4 HG4.out.fr.size b hb); have e1 : fs1.set p (yDy r.2 f1 fi) = yDE (yDy r.2 f1) fs1 := by unfold yDE; rw [yI9 (yDy r.2 f1) (show fs1.length - 1 < fs1.length by rw [HFL1.out]; omega) fr0, HFL1.out, Nat.add_sub_cancel, HFI.out]
   rw [e1] at hI5; have hT5 := (hf.block tB (jl HT4.out) (by rw [HT1.out tB hB2.1]; show ¬ 6 = 10 + p; omega)).trans HT4.out; have hHs := hI5.lt; have q5 := hI5.c5; have z5 := hI5.fz 5; have HFIN : Hid (yR0 n0 w tg H K nd (.slice (some ⟨g, 0, none⟩) fs.length c) (yDE (yDy r.2 f1) fs1, r.1) ps vO en es num tx dn (.returned (.tuple #[])) (wr.setCell ⟨H, 5, none⟩ (.slice (some ⟨tB, 0, none⟩) np np))) := jh (by
    have hf9 : Fr (fun b => b = H) wr (wr.setCell ⟨H, 5, none⟩ (.slice (some ⟨tB, 0, none⟩) np np)) := (Fr.refl (fun b => b = H) wr).set H 5 _ rfl; have hI9 := hI5.turn hf9 (vX' := .slice (some ⟨tB, 0, none⟩) np np) (vK' := .slice none 0 0) ⟨_, _, _, rfl⟩ ⟨_, _, _, rfl⟩ (fun m va vb e => by rw [yAu e]; rfl); have hTs := jl hT5; have hws : w.heap.size ≤ wr.heap.size := ju HG4.out.fr.size hf.size; have hneH : tB ≠ H := by intro e; have h1 := HT1.out tB hB2.1; have h2 := hI5.tH; rw [e] at h1; rw [h1] at h2; cases h2
    refine ⟨rfl, .slice (some ⟨tB, 0, none⟩) np np, tgX tg0 tB, hI9.retag (fun b hb hu => ?_) (fun b hb hz => ?_), ⟨by rw [HRL.out.1], tB, by rw [HNP.out], (js wr ⟨H, 5, none⟩ _ tB hneH).trans hT5, by unfold tgX; rw [if_pos rfl]⟩, ?_⟩
    ·rw [jv] at hb; rw [yAl hb] at hu ⊢; unfold tgX; refine if_neg fun e => ?_
     rw [e, HT1.out tB hB2.1] at hu; rcases hu with hu | hu
     ·unfold yHf at hu; omega
     ·have := HH0.out; omega
    ·rw [jv] at hb; rw [yAl hb]; unfold tgX at hz; split at hz
     ·cases hz
     ·exact hz
    ·have hs1 : Go6 tg tg0 w (wr.setCell ⟨H, 5, none⟩ (.slice (some ⟨tB, 0, none⟩) np np)) := (HG4.out.trans (tg'' := tg0) ⟨hf.mono fun b hb => by rw [hb]; omega, fun _ _ => rfl⟩).trans ⟨hf9.mono fun b hb => by rw [hb, hI5.tH]; decide, fun _ _ => rfl⟩; exact ⟨hs1.fr, fun b hb => by unfold tgX; rw [if_neg (by omega)]; exact hs1.tg b hb⟩)
   clear hm hf hI5 hT5; go_wp2_with fail; exact bodyPost_end (results_none rfl _ _ _) rfl HFIN.out
end
theorem yD1 {α : Type} {l r : List α} {i : Nat} {z : α} (h : i < l.length) : (l ++ r).getD i z = l.getD i z := by rw [jg, List.getElem?_append_left h, jg]
theorem yD9 {α : Type} {l : List α} {x z : α} {i : Nat} (h : i = l.length) : (l ++ [x]).getD i z = x := by subst h; rw [jg, List.getElem?_append_right (jr _), Nat.sub_self]; rfl
def yQc (W : World) (tg : Nat → Nat × Nat) (nr np : Nat) (gs : List FrS) (ps : List Nat) : Prop := ∀ k, k < gs.length → FrM W tg (10 + k) (ps.getD k 0) nr np (gs.getD k fr0)
theorem yQc.fr {W W' : World} {tg : Nat → Nat × Nat} {nr np i : Nat} {gs : List FrS} {ps : List Nat} (h : yQc W tg nr np gs ps) (hi : i < gs.length) (hf : Fr (fun b => (tg b).1 = 10 + i) W W') {g : FrS} (hm : FrM W' tg (10 + i) (ps.getD i 0) nr np g) : yQc W' tg nr np (gs.set i g) ps := fun k hk => by
 rw [List.length_set] at hk; by_cases e : i = k
 ·subst e; rw [show (gs.set i g).getD i fr0 = g by rw [jg, List.getElem?_set_self hi]; rfl]; exact hm
 ·rw [show (gs.set i g).getD k fr0 = gs.getD k fr0 by rw [jg, List.getElem?_set_ne e, jg]]; exact (h k hk).keep (fun b x hb hz => hf.block b hb (by rw [hz]; show ¬ 10 + k = 10 + i; omega)) (fun _ _ _ e => e)
section
variable {n0 : Nat} {W : World} {tg : Nat → Nat × Nat} {H K : Nat} {nd : yAc} {vF vX vK : Value} {fs : List FrS} {ps : List Nat} {vO : Value} {en : Nat} {es : List Value} {num : Int} {tx dn : Bool}
theorem HoI.setAll (h : HoI n0 W tg H K nd vF vX vK fs ps vO en es num tx dn) {W' : World} (hf : Fr (fun b => 10 ≤ (tg b).1) W W') {fs' : List FrS} (hl : fs'.length = fs.length) (hm : ∀ k, k < fs'.length → FrM W' tg (10 + k) (ps.getD k 0) nd.rows.length nd.preds.length (fs'.getD k fr0)) (ht : ∀ b, W.heap.size ≤ b → (tg b).1 ≠ 0) :
  HoI n0 W' tg H K nd vF vX vK fs' ps vO en es num tx dn := by
 obtain ⟨mn, ra, rc, pa, pc, h1, h2⟩ := h.hH; have hk : ∀ b, b < W.heap.size → (tg b).1 < 10 → W'.heap[b]? = W.heap[b]? := fun b hb hn => hf.block b hb (by omega)
 refine ⟨⟨mn, ra, rc, pa, pc, (hk H h.lt (by rw [h.tH]; decide)).trans h1, h2.keep hf.size fun b hl e => ⟨hk b hl (by omega), e⟩⟩, h.tH,
  ⟨by rw [hl]; exact yAa h.fr.row fun g hg => hk g (World.ownsRow.lt h.fr.row g hg).2 (by rw [h.fr.tg2 g hg]; decide), h.fr.tg2, by rw [hl]; exact h.fr.lp, hm⟩,
  h.ck.keep fun b hl e => ⟨hk b hl (by omega), rfl⟩, h.xs, h.ks, fun b hb hz => ?_, ⟨ju h.old.1 hf.size, h.old.2⟩⟩
 by_cases hl : b < W.heap.size
 ·exact h.own b hl hz
 ·exact absurd hz (ht b (by omega))
def yEG (t : ByteArray) (f : FrS) : Prop := ∀ (i : Nat) (s : HuS), f.hunts[i]? = some (some s) → s.whole = false ∧ s.l.length + t.size ≤ 2 ^ 62
theorem yIN (nd : yAc) (kind : Int) (name : ByteArray) (ats : List (ByteArray × ByteArray)) (t : ByteArray) (ht : t.size ≤ 2 ^ 62) : yEG t (yAr nd kind name ats) := fun i s hs => by
 have hs : (yCZ nd.preds.length (yDg nd) none nd.preds.length)[i]? = some (some s) := hs; rw [yFX, List.getElem?_map] at hs; cases e : (List.range nd.preds.length)[i]? with
 | none => rw [e] at hs; cases hs
 | some k =>
  rw [e] at hs; injection hs with hs; unfold yDg at hs; split at hs
  ·injection hs with hs; rw [← hs]; exact ⟨rfl, by simpa using ht⟩
  ·cases hs
def tgZ (tg tgo : Nat → Nat × Nat) (n i b : Nat) : Nat × Nat := if b < n then tg b else if (tgo b).1 = 0 then (10 + i, (tgo b).2) else (6, 0)
attribute [local go_sem ↓] Go.wp_at_zero Go.wp_at_succ
theorem yLV (c0 c1 c2 c3 c4 c6 c7 : Value) (t : ByteArray) (w : World) (h : HoI n0 w tg H K nd vF vX (.slice none 0 0) fs ps vO en es num tx dn) (hok : yB2 nd) (h0 : 0 < fs.length) (hn : fs.length ≤ 1048576) (hhu : ∀ f ∈ fs, yEG t f) (ht : t.size ≤ 2 ^ 62) :
  Calls Tryz.prog 32 #[.pointer (some ⟨H, 0, none⟩), .agg #[c0, c1, c2, c3, c4, .string t, c6, c7]] w fun e w' => e = .returned (.tuple #[]) ∧ ∃ vX' tg', HoI n0 w' tg' H K nd vF vX' (.slice none 0 0) (yAm nd dn (fs.map (yAK t)) (yAK t (yAr nd 2 ByteArray.empty []))).1 ps vO en es num tx dn ∧ ExM w' tg' nd.preds.length vX' (some (yAm nd dn (fs.map (yAK t)) (yAK t (yAr nd 2 ByteArray.empty []))).2) ∧ Go6 tg tg' w w' := by
 obtain ⟨W1, hW1⟩ := je (w.alloc (.cells #[c0, c1, c2, c3, c4, .string t, c6, c7] 45)); have b1 : Below w.heap.size w W1 := by rw [← hW1]; exact (jf _ _).alloc (jr _) _
 have hX1 : W1.heap[w.heap.size]? = some (.cells #[c0, c1, c2, c3, c4, .string t, c6, c7] 45) := by rw [← hW1]; exact jw _ _
 have h1 := h.below b1; have hgo1 := Go6.new tg b1 6; obtain ⟨tg1, htg1⟩ : ∃ t, tgU tg w.heap.size 6 = t := ⟨_, rfl⟩
 have htX : tg1 w.heap.size = (6, 0) := by rw [← htg1]; exact yBO (jr _)
 rw [htg1] at h1 hgo1; obtain ⟨g, c, hvF, hgc, hgs, hgr⟩ := h1.row h0; obtain ⟨fn, hfn⟩ := je (fs.length); obtain ⟨f0, hf0⟩ := je (yAr nd 2 ByteArray.empty []); have hu0 := yIN nd 2 ByteArray.empty [] t ht; rw [hf0] at hu0 ⊢; have HOP := jh (yFH nd H 2 ⟨#[]⟩ [] none 0 0 W1 h1.net hok (yAO.nil _) (fun x hx => by cases hx)); have H1 := jh h1; have HGO := jh hgo1; have HOK := jh hok; have HW1 := jh hW1; have HX1 := jh hX1; have HTX := jh htX; have HHU := jh hhu; have HU0 := jh hu0; have HFN := jh hfn; have HF0 := jh hf0; have HVF := jh hvF; have HGR := jh hgr; have hX1s : w.heap.size < W1.heap.size := jl hX1; have HN := jh (And.intro h0 hn); have HTS := jh ht; clear h h1 hgo1 hW1 b1 htg1 hX1 htX hok hhu hu0 hvF hgr ht hf0; go_enter Tryz.func32, Tryz.ntmps32; go_upto_region 1 with fail; rw [HW1.out]; go_wp2_with fail; refine HOP.out.mono ?_; rintro e w2 ⟨F, tgo, rfl, hFM, htg, hb2⟩; have hws := (jt hX1s hb2.size)
 obtain ⟨tg2, htg2⟩ : ∃ t2, tgU (tgZ tg1 tgo W1.heap.size fn) w2.heap.size 6 = t2 := ⟨_, rfl⟩
 have hold : ∀ b, b < W1.heap.size → tg2 b = tg1 b := fun b hb => by rw [← htg2, yAl (jt hb hb2.size)]; exact if_pos hb
 have hnew : ∀ b, w2.heap.size ≤ b → tg2 b = (6, 0) := fun b hb => by rw [← htg2]; exact yBO hb
 have hno : ∀ b, W1.heap.size ≤ b → (tg2 b).1 ≠ 0 := fun b hb => by
  by_cases hb3 : b < w2.heap.size
  ·rw [← htg2, yAl hb3]; unfold tgZ; rw [if_neg (by omega)]; split
   ·show 10 + fn ≠ 0; omega
   ·decide
  ·rw [hnew b (by omega)]; decide
 have hI2 := H1.out.keep (W' := w2) (tg' := tg2) hb2.size (fun b hb _ => ⟨hb2.block b hb, hold b hb⟩) (fun b hb hz => by
  by_cases hb3 : b < W1.heap.size
  ·rw [hold b hb3] at hz; exact H1.out.own b hb3 hz
  ·exact absurd hz (hno b (by omega))) (fun b hb => by rw [hold b (jt hb H1.out.old.1)]; exact H1.out.old.2 b hb)
 have hFM2 := hFM.keep (W' := w2) (tg' := tg2) (j' := 10 + fn) (fun _ _ _ _ => rfl) (fun b k hb hz => by
  have hb3 : ¬ b < W1.heap.size := fun hb3 => htg b hb3 (by rw [hz])
  rw [← htg2, yAl hb]; unfold tgZ; rw [if_neg hb3, hz, if_pos rfl])
 rw [show yAr nd 2 ⟨#[]⟩ [] = f0 from HF0.out] at hFM2; have HI2 := jh hI2; have HFM2 := jh hFM2; have HG2 : Hid (Go6 tg tg2 w w2) := jh (HGO.out.trans ⟨Fr.of hb2, hold⟩); have HNEW2 := jh hnew; have HX2 := jh ((hb2.block _ hX1s).trans HX1.out); have HTX2 : Hid (tg2 w.heap.size = (6, 0)) := jh (by rw [hold _ hX1s]; exact HTX.out); have q4 := hI2.c4; rw [HVF.out, HFN.out] at q4; have hHs2 := hI2.lt; have HGS2 := jh (jt hgs hb2.size); have HOLD : Hid (∀ (j : Nat) (u : Value), (ps.map fun p => Value.pointer (some ⟨p, 0, none⟩))[j]? = some u → w2.cell? ((⟨g, 0, none⟩ : Addr).add j) = some u) := jh fun j u hj => by rw [Addr.add_lit, Nat.zero_add]; have hr := hI2.fr.row; rw [HVF.out] at hr; have := yAq hr hj; exact this
 have HPL := jh hI2.fr.lp; clear hFM htg hb2 htg2 hold hnew hno hI2 hFM2; have hfc : fn ≤ c := by rw [← HFN.out]; exact hgc
 have hfc2 : (fn : Int) ≤ c := by omega
 clear hgc; go_upto_region 2 with fail; go_cut [4, 28, 29, 30] from 11 to 30 (fun v4 v28 v29 v30 wx => ∃ q cq, v4 = .pointer (some ⟨F, 0, none⟩) ∧ v28 = .slice (some ⟨q, 0, none⟩) (fn + 1) cq ∧ v29 = .int .i64 ((fn : Int) + 1) ∧ v30 = .int .i64 0 ∧ fn + 1 ≤ cq ∧ Below w2.heap.size w2 wx ∧ w2.heap.size ≤ q ∧ q < wx.heap.size ∧ ∀ i, i < fn + 1 → wx.cell? ⟨q, i, none⟩ = some (.pointer (some ⟨(ps ++ [F]).getD i 0, 0, none⟩)))
 case first =>
  obtain ⟨i0, hi, hz0, hz1, hz2⟩ := info_parts yPn; have hfnl : fn ≤ 1048576 := by have := HN.out.2; rw [HFN.out] at this; exact this
  have hmx : fn + 1 ≤ maxLen := by unfold maxLen; omega
  have HALL : Hid (∀ (b : Addr), some (⟨g, 0, none⟩ : Addr) = some b → ∀ (j : Nat) (u : Value), (ps.map fun p => Value.pointer (some ⟨p, 0, none⟩))[j]? = some u → (w2.alloc (.cells #[.pointer (some ⟨F, 0, none⟩)] 102)).drew.cell? (b.add j) = some u) := jh fun b e j u hj => by
   injection e with e; subst e; have hgl : ((⟨g, 0, none⟩ : Addr).add j).block < w2.heap.size := by rw [Addr.add_lit]; exact HGS2.out
   exact ((((jf w2.heap.size w2).alloc (jr _) _).cell (p := (⟨g, 0, none⟩ : Addr).add j) hgl)).trans (HOLD.out j u hj)
  have HNW : Hid (∀ (j : Nat) (u : Value), [Value.pointer (some ⟨F, 0, none⟩)][j]? = some u → (w2.alloc (.cells #[.pointer (some ⟨F, 0, none⟩)] 102)).drew.cell? ((⟨w2.heap.size, 0, none⟩ : Addr).add j) = some u) := jh fun j u hj => by rw [Addr.add_lit, Nat.zero_add]; exact yOU w2 _ _ j u hj
  have HLN : Hid ((ps.map fun p => Value.pointer (some ⟨p, 0, none⟩)).length = fn * 1) := jh (by rw [List.length_map, HPL.out, HFN.out, Nat.mul_one]); have HH4 : Hid (w2.cell? ⟨H, 4, none⟩ = some (.slice (some ⟨g, 0, none⟩) fn c)) := jh q4; go_region_held3 (fun W => W.cell? ⟨H, 4, none⟩ = some (.slice (some ⟨g, 0, none⟩) fn c)) (first | go_keep | assumption) ((refine step_append_grows rfl (.tmp 25) (.tmp 27) 83 (by rfl) 102 i0 (.pointer none) 1 8 Tryz.underlying83 hi hz0 hz1 hz2 rfl (by decide) (some ⟨g, 0, none⟩) fn fn (ps.map fun p => Value.pointer (some ⟨p, 0, none⟩)) (by rfl) (fun e => by cases e) HLN.out HALL.out ⟨w2.heap.size, 0, none⟩ 1 1 [.pointer (some ⟨F, 0, none⟩)] (by rfl) rfl HNW.out (fun u hu => by rw [List.mem_singleton.1 hu]; rfl) (by omega) hmx (by omega) ?_; intro v3 w3 own3 grow3; obtain ⟨a3, c3, rfl, hle3, _, hg3⟩ := yAb own3; have hb3 : Below w2.heap.size w2 w3 := (((jf w2.heap.size w2).alloc (jr _) _).drew).trans (⟨grow3.os, grow3.tape, grow3.output, grow3.size, fun j hj => grow3.block j (jt hj (((jf w2.heap.size w2).alloc (jr _) (.cells #[.pointer (some ⟨F, 0, none⟩)] 102)).size)) (fun e => by cases e)⟩); have q43 := (hb3.cell (p := ⟨H, 4, none⟩) hHs2).trans HH4.out; have HO3 := jh own3; have HB3 := jh hb3; have HG3 := jh hg3; clear own3 grow3 hg3 hb3)); go_wp2_with fail; go_meet; obtain ⟨q, hq, hq1, hq2⟩ := HG3.out 0 (Nat.succ_pos _); subst hq; refine ⟨q, c3, rfl, rfl, rfl, rfl, hle3, HB3.out, ju (((jf w2.heap.size w2).alloc (jr _) _).size) hq1, hq2, fun i hi => ?_⟩; have hr := HO3.out; have hpl := HPL.out; refine yAq hr ?_; by_cases hif : i < fn
  ·rw [List.getElem?_append_left (by rw [List.length_map, hpl, HFN.out]; exact hif), List.getElem?_map, jg, List.getElem?_append_left (by rw [hpl, HFN.out]; exact hif), jk (show i < ps.length by rw [hpl, HFN.out]; exact hif)]; rfl
  ·obtain rfl : i = fn := by omega
   rw [List.getElem?_append_right (by rw [List.length_map, hpl, HFN.out]; exact jr _), jg, List.getElem?_append_right (by rw [hpl, HFN.out]; exact jr _), List.length_map, hpl, HFN.out, Nat.sub_self]; rfl
 case rest =>
 obtain ⟨q, cq, rfl, rfl, rfl, rfl, hqc, hb3, hq0, hq1, hcells⟩ := hcut; obtain ⟨np, hnp⟩ := je (nd.preds.length); have hfnl : fn ≤ 1048576 := by have := HN.out.2; rw [HFN.out] at this; exact this
 have hnpl : np ≤ 1048576 := by rw [← hnp]; exact HOK.out.np
 have hI3 := HI2.out.off2 (p := fun _ => False) (Fr.of hb3) (fun _ _ e => e.elim) (fun b hb => by rw [HNEW2.out b hb]; decide); have hlen : (fs ++ [f0]).length = fn + 1 := by rw [jp, HFN.out]; rfl
 have hAM : yQc wc tg2 nd.rows.length nd.preds.length (fs ++ [f0]) (ps ++ [F]) := fun k hk => by
  have hpl := HPL.out; rw [hlen] at hk; by_cases hkf : k < fn
  ·rw [yD1 (by rw [hpl, HFN.out]; exact hkf), yD1 (by rw [HFN.out]; exact hkf)]; exact hI3.fr.fr k (by rw [HFN.out]; exact hkf)
  ·obtain rfl : k = fn := by omega
   rw [yD9 (by rw [hpl, HFN.out]), yD9 HFN.out.symm]; exact HFM2.out.below hb3
 have hHG : ∀ g ∈ fs ++ [f0], yEG t g := fun g hg => by
  rcases List.mem_append.1 hg with h | h
  ·exact HHU.out g h
  ·rw [List.mem_singleton.1 h]; exact HU0.out
 have hqt : (tg2 q).1 = 6 := by rw [HNEW2.out q hq0]
 have hXc := (hb3.block _ hws).trans HX2.out; have hnewc : ∀ b, wc.heap.size ≤ b → (tg2 b).1 ≠ 0 := fun b hb => by rw [HNEW2.out b (ju hb3.size hb)]; decide
 obtain ⟨gs, hgs3⟩ := je (fs ++ [f0]); obtain ⟨qs, hqs3⟩ := je (ps ++ [F]); rw [hgs3] at hAM hHG hlen; rw [hqs3] at hAM hcells; have HG3 : Hid (Go6 tg tg2 w wc) := jh (HG2.out.trans ⟨Fr.of hb3, fun _ _ => rfl⟩); have HI3 := jh hI3; have HAM := jh hAM; have HHG := jh hHG; have HLEN := jh hlen; have HQT := jh hqt; have HXC := jh hXc; have HNEWC := jh hnewc; have HCL := jh hcells; have HGS := jh hgs3; have HQS := jh hqs3; have HNP := jh hnp; have hqcs : q < wc.heap.size := hq1; have hXcs := jl hXc; clear hb3 hI3 hAM hHG hlen hqt hXc hnewc hcells hgs3 hqs3 hnp HI2 HFM2 HOP HNEW2 q4 HOLD hfc hfc2; go_wp2_with fail; go_loopw [30] (fun v wr => ∃ i : Nat, v = .int .i64 i ∧ i ≤ fn + 1 ∧ yQc wr tg2 nd.rows.length nd.preds.length (yBR (yAK t) i gs) qs ∧ Fr (fun b => 10 ≤ (tg2 b).1) wc wr) (fun v _ => fn + 1 - (intOf v).toNat)
 case atStart => exact ⟨0, rfl, jz _, by rw [yFt]; exact HAM.out, Fr.refl _ _⟩
 case round =>
  revert hrel; revert wr; intro wo hrel; obtain ⟨i, rfl, hi, hA, hf⟩ := hrel; by_cases hin : i < fn + 1
  ·have hin' : (i : Int) < (fn : Int) + 1 := by omega
   have hgl : i < gs.length := by rw [HLEN.out]; exact hin
   have x0 : wo.cell? ⟨q, i, none⟩ = some (.pointer (some ⟨qs.getD i 0, 0, none⟩)) := by have := HCL.out i hin; unfold World.cell? at this ⊢; rw [hf.block q hqcs (by rw [HQT.out]; omega)]; exact this
   have hqs' : q < wo.heap.size := jt hqcs hf.size; have hXo := (hf.block _ hXcs (by rw [HTX2.out]; decide)).trans HXC.out; obtain ⟨Fi, hFi⟩ := je (qs.getD i 0); obtain ⟨gi, hgi⟩ := je (gs.getD i fr0); have hgi' : gs[i]? = some gi := by rw [← hgi]; exact yAi hgl fr0
   obtain ⟨cB, dB, aB, hB, hp, hm⟩ := hA i (by rw [yE6]; exact hgl); rw [hFi] at x0 hm; have hgm : (yBR (yAK t) i gs).getD i fr0 = gi := by rw [jg, yCz, if_neg (Nat.lt_irrefl i), hgi']; rfl
   rw [hgm] at hm; have hHo := HHG.out gi (List.mem_of_getElem? hgi'); have hm' := hm; rw [HNP.out] at hm'; have x5 := jc hm'.hF 5 rfl; have hFs : Fi < wo.heap.size := jl hm'.hF; have HMO := jh hm; have HAO := jh hA; have HFO := jh hf; have HXO := jh hXo; have HFI := jh hFi; have HGI := jh hgi'; have HHO := jh hHo; have HHL := jh hm'.lh; have hXos := jl hXo; clear hm hm' hA hf hXo hFi hgi hgi' hgm hHo; go_wp2_with fail; go_loopw [39] (fun v wr => ∃ k : Nat, v = .int .i64 k ∧ k ≤ np ∧ FrI wr tg2 (10 + i) Fi cB dB aB hB hp nd.rows.length nd.preds.length { gi with hunts := yBR (Option.map (yFd t)) k gi.hunts } ∧ Fr (fun b => (tg2 b).1 = 10 + i) wo wr) (fun v _ => np - (intOf v).toNat)
   case atStart => exact ⟨0, rfl, jz _, by rw [yFt]; exact HMO.out, Fr.refl _ _⟩
   case round =>
    obtain ⟨k, rfl, hk, hm, hf⟩ := hrel; by_cases hkn : k < np
    ·have hkn' : (k : Int) < np := by omega
     have hkl : k < gi.hunts.length := by rw [HHL.out]; exact hkn
     have hx := jk hkl; have hx2 : (yBR (Option.map (yFd t)) k gi.hunts)[k]? = some gi.hunts[k] := by rw [yCz, if_neg (Nat.lt_irrefl k)]; exact hx
     have hc : wr.cell? ⟨hB, k, none⟩ = some (yNt gi.hunts[k] (hp k).1) := yEX hm.hh hx2; have hbs : hB < wr.heap.size := jl hm.hh; have hXr := (hf.block _ hXos (by rw [HTX2.out]; show ¬ 6 = 10 + i; omega)).trans HXO.out; have x5 := jc hXr 5 rfl; have hXrs := jl hXr; cases hz : gi.hunts[k] with
     | none =>
      rw [hz] at hc hx
      replace hc : wr.cell? ⟨hB, k, none⟩ = some (.pointer none) := hc
      have HNX := jh (show FrI wr tg2 (10 + i) Fi cB dB aB hB hp nd.rows.length nd.preds.length { gi with hunts := yBR (Option.map (yFd t)) (k + 1) gi.hunts } by rw [← yIi _ hx rfl]; exact hm); have HF := jh hf; clear hm hf hx hx2 hz hXr; go_wp2_with fail; go_roundw
      case rel => exact ⟨k + 1, by simp, by omega, HNX.out, HF.out⟩
      case measure => simp [intOf]; omega
     | some s =>
      rw [hz] at hc hx hx2
      replace hc : wr.cell? ⟨hB, k, none⟩ = some (.pointer (some ⟨(hp k).1, 0, none⟩)) := hc
      obtain ⟨h1, h0, h2, h3, h4⟩ := hm.hu k s hx2; have hso := HHO.out k s hx; rw [hso.1] at h1; have HAD := jh (yJ8 wr _ _ s.c s.N s.T (hp k).2.1 (hp k).2.2 s.l t h1 h0.2.2 hso.2); have HM := jh hm; have HX2' := jh hx2; have HXX := jh hx; have HF := jh hf; have HT2 := jh h2; have HO0 := jh h0; have HSO := jh hso.1; obtain ⟨X, hX⟩ := je ((hp k).1); rw [hX] at hc HAD; have HPX := jh hX; clear hm hf hx hx2 hz h1 h0 h2 h3 h4 hX hXr hso; go_wp2_with fail; refine HAD.out.mono ?_; rintro e w9 ⟨rfl, hf9, hst9⟩; have HNX : Hid (FrI w9 tg2 (10 + i) Fi cB dB aB hB hp nd.rows.length nd.preds.length { gi with hunts := yBR (Option.map (yFd t)) (k + 1) gi.hunts } ∧ Fr (fun b => (tg2 b).1 = 10 + i) wo w9) := jh (by
       have hX := HPX.out; refine ⟨?_, HF.out.trans (hf9.mono fun b hb => ?_)⟩
       ·have := HM.out.turnH (s' := yFd t s) HX2'.out (hf9.mono fun b hb => by rw [hX]; exact hb) (by rw [hX]; show St w9 (X + 1) X s.c s.N s.T (hp k).2.1 (hp k).2.2 (s.l ++ rs t) s.whole; rw [HSO.out]; exact hst9) HO0.out; have e := yEW (Option.map (yFd t)) HXX.out; rw [← e]; exact this
       ·rw [hb, ← hX, HT2.out])
      clear hf9 hst9 hc; go_wp2_with fail; go_roundw
      case rel => exact ⟨k + 1, by simp, by omega, HNX.out⟩
      case measure => simp [intOf]; omega
    ·have e : k = np := by omega
     subst e; have HNX : Hid (yQc wr tg2 nd.rows.length nd.preds.length (yBR (yAK t) (i + 1) gs) qs ∧ Fr (fun b => 10 ≤ (tg2 b).1) wc wr) := jh (by rw [yGS _ (by rw [HHL.out]; exact jr _)] at hm; refine ⟨?_, HFO.out.trans (hf.mono fun b hb => by rw [hb]; omega)⟩; rw [← yEW (yAK t) HGI.out]; exact HAO.out.fr (by rw [yE6]; exact hgl) hf (by rw [HFI.out]; exact ⟨_, _, _, _, _, hm⟩)); clear hm hf; go_wp2_with fail; go_roundw
     case rel => exact ⟨i + 1, by simp, by omega, HNX.out⟩
     case measure => simp [intOf]; omega
  ·have e : i = fn + 1 := by omega
   subst e; have hgl := HLEN.out; rw [yGS _ (by rw [hgl]; exact jr _), ← HGS.out, List.map_append, ← HQS.out] at hA; have hpl := HPL.out; have hI9 := HI3.out.setAll hf (fs' := fs.map (yAK t)) (List.length_map ..) (fun k hk => by rw [List.length_map] at hk; have := hA k (by rw [jp, List.length_map]; omega); rw [yD1 (by rw [hpl]; exact hk), yD1 (by rw [List.length_map]; exact hk)] at this; exact this) HNEWC.out; have hF9 : FrM wo tg2 (10 + (fs.map (yAK t)).length) F nd.rows.length nd.preds.length (yAK t f0) := by have := hA fn (by rw [jp, List.length_map, HFN.out]; exact Nat.lt_succ_self _); rw [yD9 (by rw [hpl, HFN.out]), List.map_singleton, yD9 (by rw [List.length_map, HFN.out])] at this; rw [List.length_map, HFN.out]; exact this
   have hLV := yHo F (yAK t f0) wo hI9 hF9 HOK.out (by rw [List.length_map]; exact HN.out.1) (by rw [List.length_map]; exact HN.out.2); have HLV := jh hLV; have HG9 : Hid (Go6 tg tg2 w wo) := jh (HG3.out.trans ⟨hf.mono fun b hb => by omega, fun _ _ => rfl⟩); clear hLV hI9 hF9 hA hf; go_wp2_with fail; refine HLV.out.mono ?_; rintro e w10 ⟨rfl, vX', tg', hI10, hE10, hG10⟩; have HFIN := jh (show ∃ vX' tg', HoI n0 w10 tg' H K nd vF vX' (.slice none 0 0) (yAm nd dn (fs.map (yAK t)) (yAK t f0)).1 ps vO en es num tx dn ∧ ExM w10 tg' nd.preds.length vX' (some (yAm nd dn (fs.map (yAK t)) (yAK t f0)).2) ∧ Go6 tg tg' w w10 from ⟨_, _, hI10, hE10, HG9.out.trans hG10⟩); clear hI10 hE10 hG10 HLV HG9; go_wp2_with fail; exact bodyPost_end (results_none rfl _ _ _) rfl ⟨rfl, HFIN.out⟩
end
section
variable {n0 : Nat} {W : World} {tg : Nat → Nat × Nat} {H K : Nat} {nd : yAc} {vF vX vK : Value} {fs : List FrS} {ps : List Nat} {vO : Value} {en : Nat} {es : List Value} {num : Int} {tx dn : Bool}
theorem HoI.pop (h : HoI n0 W tg H K nd vF vX vK fs ps vO en es num tx dn) {p g c : Nat} (hp : fs.length = p + 1) (hv : vF = .slice (some ⟨g, 0, none⟩) (p + 1) c) {W' : World} (hf : Fr (fun b => b = H) W W')
  (hH : ∀ mn va vb, W.heap[H]? = some (.cells #[mn, va, vb, .pointer (some ⟨K, 0, none⟩), vF, vX, vK] 87) → W'.heap[H]? = some (.cells #[mn, va, vb, .pointer (some ⟨K, 0, none⟩), .slice (some ⟨g, 0, none⟩) p c, vX, vK] 87)) :
  HoI n0 W' (tgU tg W.heap.size 6) H K nd (.slice (some ⟨g, 0, none⟩) p c) vX vK fs.dropLast ps.dropLast vO en es num tx dn := by
 obtain ⟨mn, ra, rc, pa, pc, h1, h2⟩ := h.hH; have hne : ∀ b, (tg b).1 ≠ 0 → ¬ b = H := by rintro b ht rfl; exact ht h.tH
 have hlp := h.fr.lp; have hdl : fs.dropLast.length = p := by rw [List.length_dropLast, hp]; rfl
 have hrow := h.fr.row; have hpne : ps ≠ [] := by rintro rfl; rw [hp] at hlp; simp at hlp
 have hsp : ps.map (fun p => Value.pointer (some ⟨p, 0, none⟩)) = ps.dropLast.map (fun p => Value.pointer (some ⟨p, 0, none⟩)) ++ [Value.pointer (some ⟨ps.getLast hpne, 0, none⟩)] := by
  conv => lhs; rw [← List.dropLast_concat_getLast hpne]
  rw [List.map_append]; rfl
 rw [hsp, hv, hp] at hrow; have hrow2 := ownsRow_pop (by rw [List.length_map, List.length_dropLast, hlp, hp, Nat.mul_one]; rfl) hrow; have hgt : (tg g).1 = 2 := h.fr.tg2 g (by rw [hv]; rfl); have hgs : g < W.heap.size := (World.ownsRow.lt h.fr.row g (by rw [hv]; rfl)).2; have hrow3 : W'.ownsRow 0 102 1 (.slice (some ⟨g, 0, none⟩) p c) p (ps.dropLast.map fun p => Value.pointer (some ⟨p, 0, none⟩)) := yAa hrow2 fun g' hg => by have hg : some g = some g' := hg; injection hg with hg; subst hg; exact hf.block g hgs (hne g (by rw [hgt]; decide))
 refine ⟨⟨mn, ra, rc, pa, pc, hH _ _ _ h1, h2.keep hf.size fun b hl ht => ⟨hf.block b hl (hne b (by rw [ht]; decide)), by rw [yAl hl]; exact ht⟩⟩, by rw [yAl h.lt]; exact h.tH,
  ⟨by rw [hdl]; exact hrow3, fun g' hg => ?_, by rw [List.length_dropLast, List.length_dropLast, hlp], fun i hi => ?_⟩,
  h.ck.keep fun b hl ht => ⟨hf.block b hl (hne b (by omega)), yAl hl⟩, h.xs, h.ks, fun b hl ht => ?_, ⟨ju h.old.1 hf.size, fun b hl => by rw [yAl (jt hl h.old.1)]; exact h.old.2 b hl⟩⟩
 ·have hg : some g = some g' := hg; injection hg with hg; subst hg; rw [yAl hgs]; exact hgt
 ·rw [hdl] at hi; have e1 : ps.dropLast.getD i 0 = ps.getD i 0 := by rw [jg, List.getElem?_dropLast, if_pos (by rw [hlp, hp]; omega), ← jg]
  have e2 : fs.dropLast.getD i fr0 = fs.getD i fr0 := by rw [jg, List.getElem?_dropLast, if_pos (by rw [hp]; omega), ← jg]
  rw [e1, e2]; exact (h.fr.fr i (by omega)).keep (fun b k hb ht => hf.block b hb (hne b (by rw [ht]; show 10 + i ≠ 0; omega))) (fun b k hb ht => by rw [yAl hb]; exact ht)
 ·by_cases hl2 : b < W.heap.size
  ·rw [yAl hl2] at ht; exact h.own b hl2 ht
  ·rw [yBO (by omega)] at ht; cases ht
attribute [local go_sem ↓] Go.wp_at_zero Go.wp_at_succ
theorem yLa (c0 c1 c2 c3 c4 c5 c6 c7 : Value) (w : World) (p : Nat) (h : HoI n0 w tg H K nd vF vX (.slice none 0 0) fs ps vO en es num tx dn) (hok : yB2 nd) (hp : fs.length = p + 1) (h0 : 0 < p) (hn : p ≤ 1048576) :
  Calls Tryz.prog 33 #[.pointer (some ⟨H, 0, none⟩), .agg #[c0, c1, c2, c3, c4, c5, c6, c7]] w fun e w' => e = .returned (.tuple #[]) ∧ ∃ vF' vX' tg', HoI n0 w' tg' H K nd vF' vX' (.slice none 0 0) (yAm nd dn fs.dropLast (fs.getD p fr0)).1 ps.dropLast vO en es num tx dn ∧ ExM w' tg' nd.preds.length vX' (some (yAm nd dn fs.dropLast (fs.getD p fr0)).2) ∧ Go6 tg tg' w w' := by
 obtain ⟨W1, hW1⟩ := je (w.alloc (.cells #[c0, c1, c2, c3, c4, c5, c6, c7] 45)); have b1 : Below w.heap.size w W1 := by rw [← hW1]; exact (jf _ _).alloc (jr _) _
 have h1 := h.below b1; have hgo1 := Go6.new tg b1 6; obtain ⟨tg1, htg1⟩ : ∃ t, tgU tg w.heap.size 6 = t := ⟨_, rfl⟩
 rw [htg1] at h1 hgo1; obtain ⟨g, c, hvF, hgc, hgs, _⟩ := h1.row (by omega); have q4 := h1.c4; have hrow := hvF; rw [hvF] at h1 q4; have x0 := h1.rowAt (i := p) (by omega); have hHs := h1.lt; have z4 := h1.fz 4; obtain ⟨F, hF⟩ := je (ps.getD p 0); have hFM := h1.fr.fr p (by omega); rw [hF] at x0 hFM; rw [hp] at q4 hgc h1; have e4 : IntKind.i64.wrap ((p : Int) + 1 - 1) = (p : Int) := by rw [show ((p : Int) + 1 - 1) = (p : Int) by omega]; exact IntWalk.i64_in _ (by omega)
 have e6 : IntKind.i64.wrap (p : Int) = (p : Int) := IntWalk.i64_in _ (by omega); have hpc : (p : Int) < (p : Int) + 1 := by omega
 have hpc2 : p ≤ c := by omega
 have hpc3 : (p : Int) ≤ c := by omega
 have H1 := jh h1; have HGO := jh hgo1; have HFM := jh hFM; have HOK := jh hok; have HW1 := jh hW1; have HP := jh hp; have H0 := jh h0; clear h h1 hgo1 hW1 b1 htg1 hrow hFM hok hp hvF hF; go_enter Tryz.func33, Tryz.ntmps33; go_upto_region 1 with fail; rw [HW1.out]; go_quiet (fail); go_wp2_with fail; go_region
 all_goals
  obtain ⟨W2, hW2⟩ := je ((W1.drewN (nq + 1)).setCell ⟨H, 4, none⟩ (.slice (some ⟨g, 0, none⟩) p c)); have hf2 : Fr (fun b => b = H) W1 W2 := by rw [← hW2]; exact ((Fr.refl (fun b => b = H) W1).drewN (nq + 1)).set H 4 _ rfl
  have hI2 := H1.out.pop HP.out rfl hf2 (fun mn va vb e => by rw [← hW2]; rw [yAu (show (W1.drewN (nq + 1)).heap[H]? = _ from e) _]; rfl); have hFM2 := HFM.out.keep (W' := W2) (tg' := tgU tg1 W1.heap.size 6) (j' := 10 + fs.dropLast.length) (fun b k hb ht => hf2.block b hb (by intro e; have h2 := H1.out.tH; rw [← e, ht] at h2; have h3 : 10 + p = 0 := h2; omega)) (fun b k hb ht => by rw [yAl hb, ht, List.length_dropLast, HP.out]; rfl); have hLV := yHo F (fs.getD p fr0) W2 hI2 hFM2 HOK.out (by rw [List.length_dropLast, HP.out]; exact H0.out) (by rw [List.length_dropLast, HP.out]; omega); have HLV := jh hLV; have HG2 : Hid (Go6 tg (tgU tg1 W1.heap.size 6) w W2) := jh (HGO.out.trans ⟨hf2.mono fun b hb => by rw [hb, H1.out.tH]; decide, fun b hb => yAl hb⟩); clear hLV hFM2 hI2 hf2; rw [hW2]; go_wp2_with fail; refine HLV.out.mono ?_; rintro e w3 ⟨rfl, vX', tg', hI3, hE3, hG3⟩; have HFIN := jh (show ∃ vF' vX' tg', HoI n0 w3 tg' H K nd vF' vX' (.slice none 0 0) (yAm nd dn fs.dropLast (fs.getD p fr0)).1 ps.dropLast vO en es num tx dn ∧ ExM w3 tg' nd.preds.length vX' (some (yAm nd dn fs.dropLast (fs.getD p fr0)).2) ∧ Go6 tg tg' w w3 from ⟨_, _, _, hI3, hE3, HG2.out.trans hG3⟩); clear hI3 hE3 hG3 HLV HG2 hW2; go_wp2_with fail; exact bodyPost_end (results_none rfl _ _ _) rfl ⟨rfl, HFIN.out⟩
end
section
attribute [local go_sem ↓] Go.wp_at_zero Go.wp_at_succ
theorem yJp {n0 : Nat} {tg : Nat → Nat × Nat} {H K : Nat} {nd : yAc} {vF vX vK : Value} {fs : List FrS} {ps : List Nat} {vO : Value} {en : Nat} {es : List Value} {num : Int} {tx dn : Bool} (kd n1 dep : Int) (nm : ByteArray) (c5 c6 c7 : Value) (w : World) (ats : List (ByteArray × ByteArray)) (aa : Option Addr) (an ac : Nat)
  (h : HoI n0 w tg H K nd vF vX vK fs ps vO en es num tx dn) (hok : yB2 nd) (hn : fs.length ≤ 1048576) (hA : yAO w ats aa an ac) (hsz : ∀ x ∈ ats, x.2.size ≤ 1099511627776) :
  Calls Tryz.prog 31 #[.pointer (some ⟨H, 0, none⟩), .agg #[.int .i64 kd, .int .i64 n1, .int .i64 dep, .string nm, .slice aa an ac, c5, c6, c7]] w fun e w' => e = .returned (.tuple #[]) ∧ ∃ vP F tgo, yTn w w' H vF vP nd.rows.length nd.preds.length fs ps F (yAr nd 1 nm ats) tgo ∧
   ∀ mn va vb, w.heap[H]? = some (.cells #[mn, va, vb, .pointer (some ⟨K, 0, none⟩), vF, vX, vK] 87) → w'.heap[H]? = some (.cells #[mn, va, vb, .pointer (some ⟨K, 0, none⟩), vP, vX, vK] 87) := by
 obtain ⟨np, hnp⟩ := je (nd.preds.length); obtain ⟨nr, hnr⟩ := je (nd.rows.length); obtain ⟨fn, hfn⟩ := je (fs.length); obtain ⟨mn, ra, rc, pa, pc, h1, h2⟩ := h.hH; obtain ⟨fa, fc, rfl, hfr⟩ := h.fr.r; obtain ⟨xa, xn, xc, rfl⟩ := h.xs; obtain ⟨ka, kn, kc, rfl⟩ := h.ks; obtain ⟨W1, hW1⟩ := je (w.alloc (.cells #[.int .i64 kd, .int .i64 n1, .int .i64 dep, .string nm, .slice aa an ac, c5, c6, c7] 45)); have b1 : Below w.heap.size w W1 := by rw [← hW1]; exact (jf _ _).alloc (jr _) _
 have hX1 : W1.heap[w.heap.size]? = some (.cells #[.int .i64 kd, .int .i64 n1, .int .i64 dep, .string nm, .slice aa an ac, c5, c6, c7] 45) := by rw [← hW1]; exact jw _ _
 have hHs := h.lt; have hH1 := (b1.block H hHs).trans h1; have hNet : yHI W1 H nd := ⟨⟨mn, ra, rc, pa, pc, _, _, _, _, hH1, (h2 W1 fun b hb _ => b1.block b hb).1, (h2 W1 fun b hb _ => b1.block b hb).2⟩⟩
 have HOP : Hid (∀ W, Below W1.heap.size W1 W → Calls Tryz.prog 38 #[.pointer (some ⟨H, 0, none⟩), .int .i64 1, .string nm, .slice aa an ac] W fun e w' => ∃ F tgo, e = .returned (.pointer (some ⟨F, 0, none⟩)) ∧ FrM w' tgo 0 F nr np (yAr nd 1 nm ats) ∧ (∀ b, b < W1.heap.size → (tgo b).1 ≠ 0) ∧ Below W1.heap.size W1 w') := jh fun W hW => by have := yFH nd H 1 nm ats aa an ac W (hNet.below hW) hok (hA.below (b1.trans (hW.mono b1.size))) hsz; rw [hnr, hnp] at this; refine this.mono ?_; rintro e w' ⟨F, tgo, e1, e2, e3, e4⟩; exact ⟨F, tgo, e1, e2, fun b hb => e3 b (jt hb hW.size), hW.trans (e4.mono hW.size)⟩
 have HNE : Hid (some H ≠ (Value.slice fa fs.length fc).ownBlock) := jh fun e => by have h3 := h.fr.tg2 H e.symm; rw [h.tH] at h3; cases h3
 have HROW := jh h.fr.row; have HLTO : Hid (∀ g, (Value.slice fa fs.length fc).ownBlock = some g → g < w.heap.size) := jh fun g hg => (World.ownsRow.lt h.fr.row g hg).2
 have y3 := jc hX1 3 rfl; have y4 := jc hX1 4 rfl; have h1s : w.heap.size < W1.heap.size := jl hX1; have hH1s : H < W1.heap.size := jl hH1; have HP0 := jh h1; rw [hfn] at hH1 HNE HROW HLTO HP0 hn ⊢; have q4 := jc hH1 4 rfl; have z4 := yAd hH1 4; rw [hnr, hnp] at hH1 ⊢; have HH1 := jh hH1; have HB1 := jh b1; have HW1 := jh hW1; have HEN := jh (show fn < 1099511627776 by omega); have HNR := jh (And.intro hnr hnp); have HFN := jh hfn; clear h h1 h2 hfr hX1 b1 hW1 hH1 hNet hok hnr hnp hfn hA hsz; go_enter Tryz.func31, Tryz.ntmps31; go_upto_region 1 with fail; rw [HW1.out]; go_region_law (first
  | (refine yBs _ (by rfl) (.tmp 8) (.tmp 15) 83 102 (by rfl) _ 1 8 yPn Tryz.underlying83 (by rfl) (by decide) (by decide) 0 (.slice fa fn fc) fn (ps.map fun p => Value.pointer (some ⟨p, 0, none⟩)) (by rfl) HROW13.out [.pointer (some ⟨F, 0, none⟩)] (by rfl) (fun u hu => by rw [List.mem_singleton.1 hu]; rfl) w13.heap.size (by rfl) HNEW13.out HEN.out (jz _) ?_; intro v3 w3 own3 grow3 at3; obtain ⟨a3, c3, rfl, _⟩ := yAb own3; have hgr : w13.grownBy w3 (Value.slice fa fn fc).ownBlock := ⟨grow3.os, grow3.tape, grow3.output, ju (Nat.le_of_lt HLT13.out) grow3.size, fun b hb hne => (grow3.block b (Nat.lt_trans hb HLT13.out) hne).trans (heap_alloc_old w13 _ hb)⟩; have hat : (Value.slice a3 (fn + 1) c3).ownBlock = (Value.slice fa fn fc).ownBlock ∨ ∃ j, (Value.slice a3 (fn + 1) c3).ownBlock = some j ∧ w13.heap.size ≤ j := at3.elim .inl fun e => .inr ⟨_, e, Nat.le_of_lt HLT13.out⟩; have hxb3 := (hgr.block H HHS13.out HNE.out).trans HH13.out; have hx3 : w3.cell? ⟨H, 4, none⟩ = some (.slice fa fn fc) := (by simp [World.cell?, hxb3]); have hzf3 : w3.frozen? ⟨H, 4, none⟩ = false := (by simp [World.frozen?, hxb3]); have hxs3 : H < w3.heap.size := jt HHS13.out hgr.size; have HX3 := jh hxb3; have HG3 := jh hgr; have HAT3 := jh hat; have HOW3 := jh own3; clear own3 grow3 at3 hgr hat hxb3)
  | (go_simp; go_at_call 38; refine (HOP.out _ (by first | exact jf _ _ | exact (jf _ _).drew)).mono ?_; rintro e w13 ⟨F, tgo, rfl, hFM, htg, hb13⟩; have hH13 := (hb13.block H hH1s).trans HH1.out; have hrow13 := yAa HROW.out fun g hg => ((HB1.out.trans (hb13.mono HB1.out.size)).block g (HLTO.out g hg)); have HROW13 : Hid ((w13.alloc (.cells #[.pointer (some ⟨F, 0, none⟩)] 102)).drew.ownsRow 0 102 1 (.slice fa fn fc) fn (ps.map fun p => Value.pointer (some ⟨p, 0, none⟩))) := jh (yAa (World.ownsRow.alloc hrow13 _) fun _ _ => rfl); have HNEW13 : Hid (∀ (j : Nat) (u : Value), [Value.pointer (some ⟨F, 0, none⟩)][j]? = some u → (w13.alloc (.cells #[.pointer (some ⟨F, 0, none⟩)] 102)).drew.cell? ⟨w13.heap.size, j, none⟩ = some u) := jh (yOU w13 _ 102); have HLT13 : Hid (w13.heap.size < (w13.alloc (.cells #[.pointer (some ⟨F, 0, none⟩)] 102)).drew.heap.size) := jh (by show _ < (w13.alloc _).heap.size; rw [World.size_alloc]; exact Nat.lt_succ_self _); have q4b : w13.cell? ⟨H, 4, none⟩ = some (.slice fa fn fc) := (by simp [World.cell?, hH13]); have hhs13 : H < w13.heap.size := (jl hH13); have HHS13 : Hid (H < w13.heap.size) := jh (jl hH13); have HH13 := jh hH13; have HFM13 := jh hFM; have HTG13 := jh htg; have HB13 := jh hb13; clear hH13 hrow13 hFM htg hb13))
 all_goals
  have HFIN : Hid (∃ vP F tgo, yTn w (w3.setCell ⟨H, 4, none⟩ (.slice a3 (fn + 1) c3)) H (.slice fa fn fc) vP nr np fs ps F (yAr nd 1 nm ats) tgo ∧ ∀ mn va vb, w.heap[H]? = some (.cells #[mn, va, vb, .pointer (some ⟨K, 0, none⟩), .slice fa fn fc, .slice xa xn xc, .slice ka kn kc] 87) → (w3.setCell ⟨H, 4, none⟩ (.slice a3 (fn + 1) c3)).heap[H]? = some (.cells #[mn, va, vb, .pointer (some ⟨K, 0, none⟩), vP, .slice xa xn xc, .slice ka kn kc] 87)) := jh (by
   have hb13 := HB1.out.trans (HB13.out.mono HB1.out.size); have hown : ∀ g, (Value.slice a3 (fn + 1) c3).ownBlock = some g → g ≠ H := by
    rintro g hg rfl; rcases HAT3.out with e | ⟨j, e1, e2⟩
    ·exact HNE.out (hg.symm.trans e)
    ·rw [e1] at hg; injection hg with hg; have := HHS13.out; omega
   refine ⟨.slice a3 (fn + 1) c3, F, (fun b => if b < w13.heap.size then tgo b else (1, 0)), ⟨(yOI (Fr.of hb13) HG3.out fun g hg => .inr hg).set H 4 _ (.inl rfl), ?_, ?_, ?_, fun b hb => ?_⟩, fun mn' va' vb' e => ?_⟩
   ·rw [HFN.out, List.map_append]; exact yAa HOW3.out fun g hg => js w3 ⟨H, 4, none⟩ _ g (hown g hg)
   ·refine HAT3.out.imp id fun e => ?_
    obtain ⟨j, e1, e2⟩ := e; exact ⟨j, e1, ju hb13.size e2, by show (if j < w13.heap.size then tgo j else ((1 : Nat), (0 : Nat))).1 ≠ 0; rw [if_neg (by omega)]; decide⟩
   ·refine HFM13.out.keep (fun b k hb ht => ?_) (fun b k hb ht => by show (if b < w13.heap.size then tgo b else ((1 : Nat), (0 : Nat))) = _; rw [if_pos hb]; exact ht); have hb1 : ¬ b < W1.heap.size := fun hb => HTG13.out b hb (by rw [ht])
    have hbH : b ≠ H := by omega
    refine (js w3 ⟨H, 4, none⟩ _ b hbH).trans (HG3.out.block b hb fun e => ?_); have := HLTO.out b e.symm; omega
   ·show (if b < w13.heap.size then tgo b else ((1 : Nat), (0 : Nat))).1 ≠ 0; rw [if_pos (jt hb hb13.size)]; exact HTG13.out b (jt hb HB1.out.size)
   ·have e2 := (hb13.block H hHs).trans e; have e3 := (HG3.out.block H HHS13.out HNE.out).trans e2; rw [yAu e3]; rfl)
  go_wp2_with fail; exact bodyPost_end (results_none rfl _ _ _) rfl ⟨rfl, HFIN.out⟩
end
end Go.Proofs.YtkhejkfjhddobaaGreatDoor
