/- gimletlaw18.right walked. -/
import Derived.Test.YtkhejkfjhddobaaGreatDoorHoTruth2M
import Derived.Test.YtkhejkfjhddobaaGreatDoorEntLawM
set_option maxRecDepth 100000
set_option maxHeartbeats 32000000
namespace Go.Proofs.YtkhejkfjhddobaaGreatDoor
open Go.RowKit Gim
structure yRP (nd : yAc) (fs : List FrS) (s : CkS) (ex : Option (List Int)) (es : List EvD) (en : Nat) (xs : List Ex) (np : Nat) : Prop where
 ans : ∀ d k : Nat, d < (yA0 es en).length → k < np → yHL nd fs s.dn ex d k = (exD (yAk (yAg es en) s.dn) (xN nd k) ((yA0 es en).getD d 0), 0)
 out : ∀ d k : Int, (k < 0 ∨ np ≤ k ∨ d < 0 ∨ (yA0 es en).length ≤ d) → yHL nd fs s.dn ex d k = (0, 2)
 st : ∀ m ∈ yA0 es en, -1 ≤ m ∧ m < (yAg es en).nodes.length
 last : ∀ m : Int, -1 ≤ m → m < (yAg es en).nodes.length → yAY (yAk (yAg es en) s.dn) m < (yAg es en).nodes.length ∧ m ≤ yAY (yAk (yAg es en) s.dn) m
 xs : ∀ k x, xs[k]? = some x → x = xN nd k ∧ wX x ≤ 1048576
theorem yMD {n0 : Nat} {tg : Nat → Nat × Nat} {H : Nat} {nd : yAc} {fs : List FrS} {s : CkS} {ex : Option (List Int)} {es : List EvD} {ea : Option Addr} {en ec : Nat} {xs : List Ex} {la : Option Addr} {np lc : Nat} (mn : Value) (ra : Option Addr) (rn rc : Nat) (pa : Option Addr) (pc : Nat) (w : World) {W0 : World}
  (hX : HoX n0 w tg H nd fs s ex) (hn0 : W0.heap.size = n0) (hb0 : Below W0.heap.size W0 w) (hok : yB2 nd) (hfl : fs.length ≤ 1048576) (hE : yDl w W0 es ea en ec) (hall : yA6 ck0 es = some s) (hB : ∀ e ∈ es, e.tx.size ≤ 1048576) (hsz : ∀ x ∈ es, yEg x) (hen : en ≤ 4096)
  (hF : yAM W0 xs la np lc) (hnp : nd.preds.length = np) (hnpl : np ≤ 1048576) (hR : yRP nd fs s ex es en xs np) :
  Calls Tryz.prog 12 #[.pointer (some ⟨H, 0, none⟩), .agg #[mn, .slice ra rn rc, .slice pa np pc], .slice la np lc, .slice ea en ec] w fun e w' => e = .returned (.bool true) ∧ ∃ tg', HoX n0 w' tg' H nd fs s ex ∧ Go6 tg tg' w w' := by
 have HX := jh hX; have HN0 := jh hn0; have HB0 := jh hb0; have HOK := jh hok; have HFL := jh hfl; have HE := jh hE; have HL := jh hE.len; have HALL := jh hall; have HTX := jh hB; have HSZ := jh hsz; have HF := jh hF; have HR := jh hR; have HNP := jh hnp; have hle := hF.le; have hcl := hF.cap_le; obtain ⟨W1, hW1⟩ := je (w.alloc (.cells #[mn, .slice ra rn rc, .slice pa np pc] 36)); obtain ⟨B, hBB⟩ := je (w.heap.size); have hx1 : W1.heap[B]? = some (.cells #[mn, .slice ra rn rc, .slice pa np pc] 36) := by rw [← hW1, ← hBB]; exact jw _ _
 have hb1 : Below w.heap.size w W1 := by rw [← hW1]; exact (jf _ _).alloc (jr _) _
 have hBs : B < W1.heap.size := jl hx1; have HW1 := jh hW1; have HB1 := jh hb1; have HX1 := jh hx1; have HBB := jh hBB; clear hX hn0 hb0 hok hfl hE hall hB hsz hF hR hnp hW1 hx1 hb1; go_enter Tryz.func12, Tryz.ntmps12; go_wp2_with fail; rw [HW1.out]; clear hBB; refine (yL3 W1 (HE.out.below HB1.out) (HB0.out.trans (HB1.out.mono HB0.out.size)) HALL.out HTX.out HSZ.out hen).mono ?_; rintro e w2 ⟨da, N, dc, rfl, hdoc, hNe, hb2⟩; obtain ⟨cl, hcl2⟩ := je (s.dn); rw [hcl2] at hdoc ⊢; obtain ⟨D9, hD9⟩ := je (w2.heap.size); obtain ⟨W3, hW3⟩ := je (w2.alloc (.cells #[.slice da N dc, .bool cl] 78)); have hx3 : W3.heap[D9]? = some (.cells #[.slice da N dc, .bool cl] 78) := by rw [← hW3, ← hD9]; exact jw _ _
 have hb3 : Below w2.heap.size w2 W3 := by rw [← hW3]; exact (jf _ _).alloc (jr _) _
 have HW3 := jh hW3; have HDC := jh hdoc; have HB2 := jh (HB1.out.trans (hb2.mono HB1.out.size)); have HB3 := jh (HB2.out.trans (hb3.mono HB2.out.size)); have HX3 := jh hx3; have HB23 := jh hb3; have HB12 := jh hb2; have HCL := jh hcl2; have HD9 : Hid (w.heap.size ≤ D9) := jh (by rw [← hD9]; exact HB2.out.size); clear hW3 hx3 hb3 hb2 hdoc hcl2; go_wp2_with fail; rw [HW3.out]; clear hD9; refine (yH5 W3 ((HE.out.below HB3.out).now (HB0.out.trans (HB3.out.mono HB0.out.size))) HALL.out hen).mono ?_; rintro e w4 ⟨va, rfl, hrow, hb4⟩; have hB4 := HB3.out.trans (hb4.mono HB3.out.size); obtain ⟨tg1, htg1⟩ := je (tgU tg w.heap.size 6); have HG1 : Hid (HoX n0 w4 tg1 H nd fs s ex ∧ Go6 tg tg1 w w4) := jh (by rw [← htg1]; exact ⟨HX.out.below hB4, Go6.new tg hB4 6⟩); have HT6 : Hid (∀ b, w.heap.size ≤ b → (tg1 b).1 = 6) := jh fun b hb => by rw [← htg1, yBO hb]
 obtain ⟨sl, hsl⟩ := je ((yA0 es en).length); obtain ⟨aa, ac, rfl, ha1, ha2, ha3⟩ := yAb (show w4.ownsRow W3.heap.size 3 1 va (yA0 es en).length ((yA0 es en).map (Value.int .i64)) from hrow); have hsl1 := (yIv es en).1; have hslb := (yIv es en).2; obtain ⟨g4, rfl, hg4, hg4s⟩ := ha3 0 hsl1; rw [hsl] at ha1 ha3 hsl1 hslb ⊢; have HROW := jh hrow; have HB4 := jh hB4; have HB34 := jh hb4; have HSL := jh hsl; clear hrow hB4 hb4 htg1 ha3 hsl; have HKEEP : Hid (∀ tg' wr, Go6 tg1 tg' w4 wr → (∀ b, w.heap.size ≤ b → b < w4.heap.size → wr.heap[b]? = w4.heap[b]?) ∧ Below W0.heap.size W0 wr) := jh fun tg' wr h => by refine ⟨fun b h1 h2 => h.fr.block b h2 (fun h3 => h3 (HT6.out b h1)), ?_⟩; have hlo := HG1.out.1.low; have hb := h.below hlo.2 hlo.1; rw [HN0.out]; refine Below.trans ?_ hb; rw [← HN0.out]; exact HB0.out.trans (HB4.out.mono HB0.out.size)
 have hNl : (yAg es en).nodes.length = N := by have := HDC.out w2 (fun _ _ _ => rfl) (HB0.out.trans (HB2.out.mono HB0.out.size)); exact this.ns.len
 have HNL := jh hNl; have HDD : Hid (∀ wr, (∀ b, w.heap.size ≤ b → b < w4.heap.size → wr.heap[b]? = w4.heap[b]?) → Below W0.heap.size W0 wr → yDH wr (yAk (yAg es en) cl) da N dc) := jh fun wr h1 h2 => by refine HDC.out wr (fun b b1 b2 => ?_) h2; have hs34 := HB34.out.size; have hs23 := HB23.out.size; rw [h1 b (ju HB1.out.size b1) (by omega), HB34.out.block b (by omega), HB23.out.block b b2]
 have HOKX : Hid (∀ k x, xs[k]? = some x → yQz (yAk (yAg es en) cl) da N dc x) := jh fun k x hx => by have hz := yTi HALL.out HTX.out HSZ.out (by rw [HL.out]; exact hen); rw [HL.out, HCL.out] at hz; have hlast := HR.out.last; rw [HNL.out, HCL.out] at hlast; exact yOi hz hlast (SizeOf.sizeOf x + 1) x (Nat.lt_succ_self _) (HR.out.xs k x hx).2
 clear hNl; go_wp2_with fail; go_loopw [11] (fun v11 wr => ∃ (k : Nat) (tg' : Nat → Nat × Nat), v11 = .int .i64 k ∧ k ≤ np ∧ HoX n0 wr tg' H nd fs s ex ∧ Go6 tg1 tg' w4 wr) (fun v11 _ => np - (intOf v11).toNat)
 case atStart => exact ⟨0, tg1, rfl, jz _, HG1.out.1, Go6.refl _ _⟩
 case round =>
  obtain ⟨k, tgk, rfl, hk, hxr, hgo⟩ := hrel; obtain ⟨hke, hk0⟩ := HKEEP.out tgk wr hgo; have HXR := jh hxr; have HGO := jh hgo; have HKE := jh hke; have HK0 := jh hk0; clear hxr hgo hke hk0; by_cases hkn : k < np
  ·have hkn' : (k : Int) < np := by omega
   obtain ⟨b, o, op, args, sts, nm, cmp, txt, num, a1, n1, c1, a2, n2, c2, rfl, hbb, hel, f0, f1, f2, f3, f4, f5, f6, hF1, hF2⟩ := (HF.out.below HK0.out).elem k hkn; have hD9s : D9 < w4.heap.size := by have h1 := (jl HX3.out); have := HB34.out.size; omega
   have hD9w : w.heap.size ≤ D9 := HD9.out; have y0 : wr.heap[D9]? = some (.cells #[.slice da N dc, .bool cl] 78) := (HKE.out D9 hD9w hD9s).trans ((HB34.out.block D9 (jl HX3.out)).trans HX3.out); have y1 := jc y0 0 rfl; have y2 := jc y0 1 rfl; obtain ⟨M, hM⟩ := je ((fun m => exD (yAk (yAg es en) cl) (.mk op args sts nm cmp txt num) m) : Int → Int); have hC := HOKX.out k _ hel wr.drew a1 n1 c1 a2 n2 c2 ((HDD.out wr HKE.out HK0.out).below (jf _ _).drew) (hF1.below (jf _ _).drew) (hF2.below (jf _ _).drew); rw [hM] at hC; have HC := jh hC; have HM := jh hM; have HEL := jh (HR.out.xs k _ hel).1; clear hC hM hel hF1 hF2 y0; go_upto_region 6 with fail; go_cut [12] from 34 to 39 (fun v12 wx => ∃ g, v12 = .slice (some ⟨g, 0, none⟩) (N + 1) (N + 1) ∧ wx.heap[g]? = some (.cells (il (yCk M N)) 3) ∧ wr.heap.size ≤ g ∧ Below wr.heap.size wr wx)
   case first =>
    go_region_law (go_simp; go_at_call 29; refine HC.out.mono ?_; rintro e w5 ⟨g, rfl, hg1, hg2, hg3⟩; have HG5 := jh (And.intro hg1 (And.intro hg2 hg3)); clear hg1 hg2 hg3)
    all_goals
     go_wp2_with fail; go_meet; exact ⟨g, rfl, HG5.out.1, HG5.out.2.1, ((jf wr.heap.size wr).drew).trans HG5.out.2.2⟩
   case rest =>
   obtain ⟨g, rfl, hg1, hg2, hg3⟩ := hcut; have hgs : g < wc.heap.size := jl hg1; obtain ⟨tg5, htg5⟩ := je (tgU tgk wr.heap.size 6); have HG5 : Hid (HoX n0 wc tg5 H nd fs s ex ∧ Go6 tg1 tg5 w4 wc) := jh (by rw [← htg5]; exact ⟨HXR.out.below hg3, HGO.out.trans (Go6.new tgk hg3 6)⟩); have HT5 : Hid ((tg5 g).1 = 6) := jh (by rw [← htg5, yBO hg2]); have HG := jh hg1; have HGS := jh hgs; clear hg1 hg2 hg3 hgs htg5 y1 y2 f0 f1 f2 f3 f4 f5 f6; go_wp2_with fail; go_loopw [13] (fun v13 wq => ∃ (d : Nat) (tg' : Nat → Nat × Nat), v13 = .int .i64 d ∧ d ≤ sl ∧ HoX n0 wq tg' H nd fs s ex ∧ Go6 tg5 tg' wc wq) (fun v13 _ => sl - (intOf v13).toNat)
   case atStart => exact ⟨0, tg5, rfl, jz _, HG5.out.1, Go6.refl _ _⟩
   case round =>
    revert hrel; revert wr; intro wq hrel; obtain ⟨d, tgd, rfl, hd, hxq, hgq⟩ := hrel; by_cases hds : d < sl
    ·have hds' : (d : Int) < sl := by omega
     obtain ⟨ad, had⟩ := je ((yA0 es en).getD d 0); have hga : (yA0 es en)[d]? = some ad := by rw [← had]; exact yAi (by rw [HSL.out]; exact hds) 0
     obtain ⟨m1, m2⟩ := HR.out.st ad (List.mem_of_getElem? hga); rw [HNL.out] at m2; obtain ⟨j, hj⟩ := Int.eq_ofNat_of_zero_le (show 0 ≤ ad + 1 by omega); obtain ⟨z, hz⟩ := je (M ad); have hans : yHL nd fs s.dn ex d k = (z, 0) := by rw [HR.out.ans d k (by rw [HSL.out]; exact hds) hkn, had, ← HEL.out, ← hz, ← HM.out, HCL.out]
     have hT := yBA wq hxq HOK.out d k HFL.out; rw [hans] at hT; have HTC := jh hT; have HGQ := jh hgq; have HGA := jh hga; have HZ := jh hz; have hjn : j < N + 1 := by omega
     have hjn' : (j : Int) < (N : Int) + 1 := by omega
     have hmx : (N : Int) + 1 < 9223372036854775807 := by omega
     have f1 : IntKind.i64.wrap (ad + 1) = (j : Int) := by rw [hj]; exact IntWalk.i64_in _ (by omega)
     have f2 : IntKind.i64.wrap ((d : Int) + 1) = (d : Int) + 1 := IntWalk.i64_in _ (by omega); have HJ := jh hj; clear hT hans hxq hgq had hga m1 m2 hz hj; go_wp2_with fail; refine HTC.out.mono ?_; rintro e w6 ⟨rfl, tg6, hx6, hg6⟩; have hk6 := (HKEEP.out tg6 w6 ((HG5.out.2.trans HGQ.out).trans hg6)).1; have e1 : w6.cell? ⟨g4, d, none⟩ = some (.int .i64 ad) := (World.cell?_of_block (a := ⟨g4, d, none⟩) (hk6 g4 (ju HB3.out.size hg4) hg4s)).trans (yAq (show w4.ownsRow W3.heap.size 3 1 (.slice (some ⟨g4, 0, none⟩) (yA0 es en).length ac) (yA0 es en).length ((yA0 es en).map (Value.int .i64)) from HROW.out) (by rw [List.getElem?_map, HGA.out]; rfl)); have e2 : w6.cell? ⟨g, j, none⟩ = some (.int .i64 z) := (World.cell?_of_block (a := ⟨g, j, none⟩) ((HGQ.out.trans hg6).fr.block g HGS.out (fun h => h HT5.out))).trans (by rw [← HZ.out]; exact yAy HG.out (yGl M (by omega) HJ.out)); have HX6 := jh hx6; have HG6 := jh (HGQ.out.trans hg6); clear hx6 hg6 hk6; go_wp2_with fail; go_roundw
     case rel => exact ⟨d + 1, tg6, by go_num, hds, HX6.out, HG6.out⟩
     case measure => simp [intOf]; omega
    ·obtain rfl : d = sl := by omega
     have hk0 : (k : Int) < 0 ∨ (np : Int) ≤ k ∨ ((d : Nat) : Int) < 0 ∨ ((yA0 es en).length : Int) ≤ d := .inr (.inr (.inr (by rw [HSL.out]; exact Int.le_refl _))); have hk1 : (k : Int) < 0 ∨ (np : Int) ≤ k ∨ (-1 : Int) < 0 ∨ ((yA0 es en).length : Int) ≤ -1 := .inr (.inr (.inl (by omega))); have hT := yBA wq hxq HOK.out d k HFL.out; rw [HR.out.out _ _ hk0] at hT; have HTC := jh hT; have HGQ := jh hgq; have HO1 := jh (HR.out.out _ _ hk1); have f2 : IntKind.i64.wrap ((k : Int) + 1) = (k : Int) + 1 := IntWalk.i64_in _ (by omega); clear hT hxq hgq hk0 hk1; go_wp2_with fail; refine HTC.out.mono ?_; rintro e w6 ⟨rfl, tg6, hx6, hg6⟩; have hT := yBA w6 hx6 HOK.out (-1) k HFL.out; rw [HO1.out] at hT; have HT2 := jh hT; have HG6 := jh (HGQ.out.trans hg6); clear hT hx6 hg6; go_wp2_with fail; refine HT2.out.mono ?_; rintro e w7 ⟨rfl, tg7, hx7, hg7⟩; have HX7 := jh hx7; have HG7 := jh ((HG5.out.2.trans HG6.out).trans hg7); clear hx7 hg7; go_wp2_with fail; go_roundw
     case rel => exact ⟨k + 1, tg7, by go_num, hkn, HX7.out, HG7.out⟩
     case measure => simp [intOf]; omega
  ·obtain rfl : k = np := by omega
   have hk1 : (((k : Nat) : Int) < 0 ∨ ((k : Nat) : Int) ≤ k ∨ (0 : Int) < 0 ∨ ((yA0 es en).length : Int) ≤ 0) := .inr (.inl (Int.le_refl _)); have hk2 : ((-1 : Int) < 0 ∨ ((k : Nat) : Int) ≤ -1 ∨ (0 : Int) < 0 ∨ ((yA0 es en).length : Int) ≤ 0) := .inl (by omega); have hT := yBA wr HXR.out HOK.out 0 k HFL.out; rw [HR.out.out _ _ hk1] at hT; have HTC := jh hT; have HO2 := jh (HR.out.out _ _ hk2); have hBk : wr.heap[B]? = some (.cells #[mn, .slice ra rn rc, .slice pa k pc] 36) := by have hb13 : Below W1.heap.size W1 W3 := HB12.out.trans (HB23.out.mono HB12.out.size); have hb14 : Below W1.heap.size W1 w4 := hb13.trans (HB34.out.mono hb13.size); exact (HKE.out B (by rw [HBB.out]; exact jr _) (jt hBs hb14.size)).trans ((hb14.block B hBs).trans HX1.out)
   have y2 := jc hBk 2 rfl; clear hT hk1 hk2 hBk; go_wp2_with fail; refine HTC.out.mono ?_; rintro e w6 ⟨rfl, tg6, hx6, hg6⟩; have hT := yBA w6 hx6 HOK.out 0 (-1) HFL.out; rw [HO2.out] at hT; have HT2 := jh hT; have HG6 := jh (HGO.out.trans hg6); clear hT hx6 hg6; go_wp2_with fail; refine HT2.out.mono ?_; rintro e w7 ⟨rfl, tg7, hx7, hg7⟩; have HX7 := jh hx7; have HG7 := jh ((HG1.out.2.trans HG6.out).trans hg7); clear hx7 hg7; go_wp2_with fail; go_ret; exact ⟨rfl, tg7, HX7.out, HG7.out⟩
theorem ySs {es : List EvD} {s : CkS} (hall : yA6 ck0 es = some s) : ∀ i, i ≤ es.length → ∀ m ∈ yA0 es i, -1 ≤ m ∧ m < (yAg es i).nodes.length := by
 intro i hi m hm; unfold yA0 at hm; obtain ⟨s1, fs1, _, hr1⟩ := yEY hall i hi; rcases List.mem_append.1 hm with hm | hm
 ·rcases List.mem_cons.1 hm with rfl | hm
  ·omega
  ·have := hr1.ok.rng m hm; have h1 : (yAk (yAg es i) s1.dn).nodes.length = (yAg es i).nodes.length := rfl; omega
 ·cases i with
  | zero => cases hm
  | succ i =>
   obtain ⟨e, he⟩ : ∃ e, es[i]? = some e := ⟨_, jk (by omega)⟩
   obtain ⟨s2, fs2, hbg, hr2⟩ := yEY hall i (by omega); obtain ⟨t, t1, hnx, _⟩ := yCC hall he; rw [hbg] at t1; injection t1 with t1
   subst t1; have hg : es.getD i ze = e := by rw [jg, he]; rfl
   have hm2 : m ∈ (if e.kd = 0 then ([] : List Int) else [e.num]) := by rw [← hg]; exact hm
   split at hm2
   ·cases hm2
   ·next h0 =>
    rw [List.mem_singleton] at hm2; subst hm2; have en := yBY he; by_cases h2 : e.kd = 2
    ·obtain ⟨q0, q1, _⟩ := yHw hr2 hnx h2; rw [en]; unfold yBJ; rw [if_pos h2]; show -1 ≤ e.num ∧ e.num < ((yAg es i).nodes.modify e.num.toNat (yAP i)).length; rw [List.length_modify]; omega
    ·obtain ⟨q0, _, _⟩ := yH1 hr2 hnx h2; rw [en]; unfold yBJ; rw [if_neg h2, if_neg h0]; show -1 ≤ e.num ∧ e.num < ((yBK e.num e.tx (yAg es i).op ((yAg es i).nodes ++ [yBF e i (yAg es i).op])).modify e.num.toNat (yAP i)).length; rw [List.length_modify, yDI, jp]; simp only [List.length_cons, List.length_nil]; omega
theorem yP9 {nd : yAc} {es : List EvD} {s : CkS} {fs : List FrS} {ex : Option (List Int)} {xs : List Ex} {np en : Nat} (hN : yAD nd) (hall : yA6 ck0 es = some s) (hen : es.length = en) (hr : yCV nd es en s fs) (hx : ExR nd es en s ex) (hnp : nd.preds.length = np) (hxs : ∀ k x, xs[k]? = some x → x = xN nd k ∧ wX x ≤ 1048576) : yRP nd fs s ex es en xs np := by subst hnp hen; exact ⟨fun d k hd hk => yPY hN hr hx hd hk, fun d k ho => yPF hr hx ho, ySs hall _ (jr _), fun m h1 h2 => yRs hr.ok m h1 h2, hxs⟩
structure yBn (n0 : Nat) (w0 wK : World) (K : Nat → Prop) (wr : World) (H : Nat) (nd : yAc) (es : List EvD) (i : Nat) (s : CkS) (fs : List FrS) (ex : Option (List Int)) : Prop where
 beg : yA6 ck0 (es.take i) = some s
 ho : ∃ tg, HoX n0 wr tg H nd fs s ex ∧ ∀ b, K b → (tg b).1 = 6 ∧ b < wr.heap.size ∧ wr.heap[b]? = wK.heap[b]?
 len : fs.length = s.os.length + 1
 hb : s.dn = false → HB (i * 1099511627776) fs
 low : Below n0 w0 wr
 run : yCV nd es i s fs
 exr : ExR nd es i s ex
theorem kpG {wK w w' : World} {K : Nat → Prop} {tg tg' : Nat → Nat × Nat} (h : ∀ b, K b → (tg b).1 = 6 ∧ b < w.heap.size ∧ w.heap[b]? = wK.heap[b]?) (g : Go6 tg tg' w w') : ∀ b, K b → (tg' b).1 = 6 ∧ b < w'.heap.size ∧ w'.heap[b]? = wK.heap[b]? := fun b hb => by obtain ⟨h1, h2, h3⟩ := h b hb; exact ⟨by rw [g.tg b h2]; exact h1, jt h2 g.fr.size, (g.fr.block b h2 fun e => e h1).trans h3⟩
theorem yBn.kp {n0 : Nat} {w0 wK : World} {K : Nat → Prop} {wr : World} {H : Nat} {nd : yAc} {es : List EvD} {i : Nat} {s : CkS} {fs : List FrS} {ex : Option (List Int)} (h : yBn n0 w0 wK K wr H nd es i s fs ex) {b : Nat} (hb : K b) : wr.heap[b]? = wK.heap[b]? := by obtain ⟨_, _, hk⟩ := h.ho; exact (hk b hb).2.2
theorem yBn.more {n0 : Nat} {w0 wK : World} {K : Nat → Prop} {wr w' : World} {H : Nat} {nd : yAc} {es : List EvD} {i : Nat} {s : CkS} {fs : List FrS} {ex : Option (List Int)} (h : yBn n0 w0 wK K wr H nd es i s fs ex) (hb : Below wr.heap.size wr w') {K' : Nat → Prop} (hk : ∀ b, K' b → K b ∨ wr.heap.size ≤ b ∧ b < w'.heap.size) : yBn n0 w0 w' K' w' H nd es i s fs ex := by
 obtain ⟨hbg, ⟨tg, hx, hkp⟩, hlen, hhb, hlow, hrun, hexr⟩ := h; have hlo := hx.low; refine ⟨hbg, ⟨_, hx.below hb, fun b h1 => ?_⟩, hlen, hhb, hlow.trans (hb.mono hlo.1), hrun, hexr⟩; rcases hk b h1 with h2 | ⟨h2, h3⟩
 ·obtain ⟨e1, e2, _⟩ := kpG hkp (Go6.new tg hb 6) b h2; exact ⟨e1, e2, rfl⟩
 ·exact ⟨by rw [yBO h2], h3, rfl⟩
theorem yBn.takeK {n0 : Nat} {w0 wK : World} {K : Nat → Prop} {wr : World} {H : Nat} {nd : yAc} {es : List EvD} {i : Nat} {s s' : CkS} {fs : List FrS} {ex : Option (List Int)} (h : yBn n0 w0 wK K wr H nd es i s fs ex) (hok : yB2 nd) (hN : yAD nd) (hT : yBd w0) (h0 : w0.heap.size = n0) {e : EvD} (he : es[i]? = some e) (hall : yA6 ck0 es = some s') (hz : yEg e) (hn : es.length ≤ 4000)
  (aa : Option Addr) (an ac : Nat) (hA : yAO wr e.ats aa an ac) (hA6 : 0 < an → ∀ b o, aa = some ⟨b, o, none⟩ → b < n0 ∨ K b) :
  Calls Tryz.prog 13 #[.pointer (some ⟨H, 0, none⟩), .agg #[.int .i64 e.kd, .int .i64 e.num, .int .i64 e.dep, .string e.nm, .slice aa an ac, .string e.tx, .int .i64 e.fr, .int .i64 e.tu]] wr fun r w' => r = .returned (.int .i64 0) ∧ yBn n0 w0 wK K w' H nd es (i + 1) (stp s e) (yAA nd (stp s e).dn fs e).1 (yAA nd (stp s e).dn fs e).2 := by
 obtain ⟨hbg, ⟨tg, hx, hkp⟩, hlen, hhb, hlow, hrun, hexr⟩ := h; have hi := (ji.1 he).1; obtain ⟨t, t1, t2, t3⟩ := yCC hall he; rw [hbg] at t1; injection t1 with t1
 subst t1; have hck := yEO _ yIT hbg; have hsz := yFV _ _ _ hbg; have hsz1 : s.os.length ≤ 0 + (es.take i).length := hsz.1; have hsz2 : s.num ≤ 0 + ((es.take i).length : Int) := hsz.2; rw [List.length_take] at hsz1 hsz2; have hd : s.dn = false := by have t2' := t2; unfold yAI at t2'; rw [jb] at t2'; simpa using t2'.1
 have hB := hhb hd; have hlo := hx.low; have hlow' : Below w0.heap.size w0 wr := by rw [h0]; exact hlow
 have htx := hz.tx; have hmul : i * 1099511627776 + e.tx.size ≤ 2 ^ 62 := by
  have hi2 : i ≤ 4000 := by omega
  clear hsz hsz1 hsz2 hlen hi hn; have : (2 : Nat) ^ 62 = 4611686018427387904 := by decide
  rw [this]; omega
 refine (yHd wr hx hok (hT.below hlow') e t2 hz hck hlen (by omega) (by omega) aa an ac hA (fun h0 b o hb => (hA6 h0 b o hb).elim (hlo.2 b) fun hk => (hkp b hk).1) (hB.huns hmul)).mono ?_; rintro r w' ⟨rfl, tg', g1, g2⟩; refine ⟨rfl, t3, ⟨tg', g1, kpG hkp g2⟩, ?_, fun hd2 => (HB.next hB hd2).mono (by omega), hlow.trans (g2.below hlo.2 hlo.1), (yI6 hN hrun he t2).1, yRb hN hrun he t2⟩; exact yN1 nd s fs e t2 hlen
theorem yBn.take {n0 : Nat} {w0 wK : World} {K : Nat → Prop} {wr : World} {H : Nat} {nd : yAc} {es : List EvD} {i : Nat} {s s' : CkS} {fs : List FrS} {ex : Option (List Int)} (h : yBn n0 w0 wK K wr H nd es i s fs ex) (hok : yB2 nd) (hN : yAD nd) (hT : yBd w0) (h0 : w0.heap.size = n0) {e : EvD} (he : es[i]? = some e) (hall : yA6 ck0 es = some s') (hz : yEg e) (hn : es.length ≤ 4000)
  (aa : Option Addr) (an ac : Nat) (hA : yAO w0 e.ats aa an ac) (hA6 : 0 < an → ∀ b o, aa = some ⟨b, o, none⟩ → b < n0) :
  Calls Tryz.prog 13 #[.pointer (some ⟨H, 0, none⟩), .agg #[.int .i64 e.kd, .int .i64 e.num, .int .i64 e.dep, .string e.nm, .slice aa an ac, .string e.tx, .int .i64 e.fr, .int .i64 e.tu]] wr fun r w' => r = .returned (.int .i64 0) ∧ yBn n0 w0 wK K w' H nd es (i + 1) (stp s e) (yAA nd (stp s e).dn fs e).1 (yAA nd (stp s e).dn fs e).2 :=
 h.takeK hok hN hT h0 he hall hz hn aa an ac (hA.below (by have := h.low; rwa [← h0] at this)) fun h1 b o hb => .inl (hA6 h1 b o hb)
theorem yFo (es : List EvD) : ∀ i, yEd (es.take i) i = yEd es i
 | 0 => rfl
 | i + 1 => by
  show (if ((es.take (i + 1)).getD i ze).kd = 0 then ([] : List Int) else [((es.take (i + 1)).getD i ze).num]) = if (es.getD i ze).kd = 0 then [] else [(es.getD i ze).num]
  rw [jg, List.getElem?_take_of_lt (by omega), ← jg]
theorem yCV.take {nd : yAc} {es : List EvD} {i : Nat} {s : CkS} {fs : List FrS} (h : yCV nd es i s fs) : yCV nd (es.take i) i s fs := by have e := yDS es i i (jr _); exact ⟨by rw [e]; exact h.ok, by rw [e]; exact h.num, by rw [e]; exact h.os, by rw [e]; exact h.root, by rw [e]; exact h.chs, by rw [e]; exact h.frs⟩
theorem ExR.take {nd : yAc} {es : List EvD} {i : Nat} {s : CkS} {ex : Option (List Int)} (h : ExR nd es i s ex) : ExR nd (es.take i) i s ex := by unfold ExR at h ⊢; rw [yFo, yDS es i i (jr _)]; exact h
theorem yBn.right2 {n0 : Nat} {w0 wK : World} {K : Nat → Prop} {wr : World} {H : Nat} {nd : yAc} {es : List EvD} {i : Nat} {s : CkS} {fs : List FrS} {ex : Option (List Int)} (h : yBn n0 w0 wK K wr H nd es i s fs ex) (hok : yB2 nd) (hN : yAD nd) (h0 : w0.heap.size = n0) (hi : i ≤ es.length) (hn : es.length ≤ 4000)
  (hB : ∀ e ∈ es, e.tx.size ≤ 1048576) (hsz : ∀ x ∈ es, yEg x) {ea : Option Addr} {en ec : Nat} (hE : yDl wr w0 (es.take i) ea en ec) {xs : List Ex} {la : Option Addr} {np lc : Nat} (hF : yAM w0 xs la np lc) (hnp : nd.preds.length = np) (hxs : ∀ k x, xs[k]? = some x → x = xN nd k ∧ wX x ≤ 1048576)
  (mn : Value) (ra : Option Addr) (rn rc : Nat) (pa : Option Addr) (pc : Nat) :
  Calls Tryz.prog 12 #[.pointer (some ⟨H, 0, none⟩), .agg #[mn, .slice ra rn rc, .slice pa np pc], .slice la np lc, .slice ea en ec] wr fun r w' => r = .returned (.bool true) ∧ yBn n0 w0 wK K w' H nd es i s fs ex := by
 obtain ⟨hbg, ⟨tg, hx, hkp⟩, hlen, hhb, hlow, hrun, hexr⟩ := h; have hlow' : Below w0.heap.size w0 wr := by rw [h0]; exact hlow
 have hel : (es.take i).length = i := by rw [List.length_take]; omega
 have hen : en = i := by rw [← hE.len, hel]
 subst hen; have hsz1 : s.os.length ≤ 0 + (es.take en).length := (yFV _ _ _ hbg).1; rw [hel] at hsz1; have hnpb := hok.np; refine (yMD mn ra rn rc pa pc wr hx h0 hlow' hok (by omega) hE hbg (fun e he => hB e (List.mem_of_mem_take he)) (fun e he => hsz e (List.mem_of_mem_take he)) (by omega) hF hnp (by omega) (yP9 hN hbg hel hrun.take hexr.take hnp hxs)).mono ?_; rintro r w' ⟨rfl, tg', g1, g2⟩; have hlo := hx.low; exact ⟨rfl, hbg, ⟨tg', g1, kpG hkp g2⟩, hlen, hhb, hlow.trans (g2.below hlo.2 hlo.1), hrun, hexr⟩
theorem yBn.right {n0 : Nat} {w0 wK : World} {K : Nat → Prop} {wr : World} {H : Nat} {nd : yAc} {es : List EvD} {i : Nat} {s : CkS} {fs : List FrS} {ex : Option (List Int)} (h : yBn n0 w0 wK K wr H nd es i s fs ex) (hok : yB2 nd) (hN : yAD nd) (h0 : w0.heap.size = n0) (hi : i ≤ es.length) (hn : es.length ≤ 4000)
  (hB : ∀ e ∈ es, e.tx.size ≤ 1048576) (hsz : ∀ x ∈ es, yEg x) {ea : Option Addr} {en ec : Nat} (hE : yC4 w0 (es.take i) ea en ec) {xs : List Ex} {la : Option Addr} {np lc : Nat} (hF : yAM w0 xs la np lc) (hnp : nd.preds.length = np) (hxs : ∀ k x, xs[k]? = some x → x = xN nd k ∧ wX x ≤ 1048576)
  (mn : Value) (ra : Option Addr) (rn rc : Nat) (pa : Option Addr) (pc : Nat) :
  Calls Tryz.prog 12 #[.pointer (some ⟨H, 0, none⟩), .agg #[mn, .slice ra rn rc, .slice pa np pc], .slice la np lc, .slice ea en ec] wr fun r w' => r = .returned (.bool true) ∧ yBn n0 w0 wK K w' H nd es i s fs ex :=
 h.right2 hok hN h0 hi hn hB hsz (yPB hE (by rw [h0]; exact h.low)) hF hnp hxs mn ra rn rc pa pc
theorem yBn.below {n0 : Nat} {w0 wK : World} {K : Nat → Prop} {wr w' : World} {H : Nat} {nd : yAc} {es : List EvD} {i : Nat} {s : CkS} {fs : List FrS} {ex : Option (List Int)} (h : yBn n0 w0 wK K wr H nd es i s fs ex) (hb : Below wr.heap.size wr w') : yBn n0 w0 wK K w' H nd es i s fs ex := by obtain ⟨hbg, ⟨tg, hx, hkp⟩, hlen, hhb, hlow, hrun, hexr⟩ := h; have hlo := hx.low; exact ⟨hbg, ⟨_, hx.below hb, kpG hkp (Go6.new tg hb 6)⟩, hlen, hhb, hlow.trans (hb.mono hlo.1), hrun, hexr⟩
theorem yC4.take {W : World} {es : List EvD} {a : Option Addr} {n cap : Nat} (h : yC4 W es a n cap) {i : Nat} (hi : i ≤ n) : yC4 W (es.take i) a i cap :=
 ⟨by rw [List.length_take, h.len]; omega, by have := h.le; omega, h.cap_le, fun j hj => by obtain ⟨b, o, e, k⟩ := h.fit j (by omega); refine ⟨b, o, e, fun m x hx => k m x ?_⟩; have := (ji.1 hx).1; rw [List.length_take] at this; rw [List.getElem?_take_of_lt (by omega)] at hx; exact hx⟩
theorem yS2 {nd : yAc} {np : Nat} (h : nd.preds.length = np) (hw : ∀ k, k < nd.preds.length → wX (xN nd k) ≤ 1048576) : ∀ (k : Nat) (x : Ex), ((List.range np).map (xN nd))[k]? = some x → x = xN nd k ∧ wX x ≤ 1048576 := fun k x hx => by have hk := (ji.1 hx).1; rw [List.length_map, List.length_range] at hk; rw [List.getElem?_map, List.getElem?_range hk] at hx; injection hx with hx; subst hx; exact ⟨rfl, hw k (by omega)⟩
theorem yBn.start {w0 w' : World} {H : Nat} {nd : yAc} (es : List EvD) {tg : Nat → Nat × Nat} (hN : yAD nd) (hX : HoX w0.heap.size w' tg H nd [yAr nd 0 ByteArray.empty []] ck0 none) (hb : Below w0.heap.size w0 w') : yBn w0.heap.size w0 w' (fun _ => False) w' H nd es 0 ck0 [yAr nd 0 ByteArray.empty []] none :=
 ⟨rfl, ⟨tg, hX, fun _ h => h.elim⟩, rfl, fun _ => yDz _ _ _ _, hb, yCV.start hN es, yTG nd es ck0⟩
end Go.Proofs.YtkhejkfjhddobaaGreatDoor
