/- (gimletref15.Doc).Expr: what is known of an expression at each node. (Printed by wip/mkexpr.py.) -/
import Derived.Test.YtkhejkfjhddobaaGreatDoorExprVecM
set_option maxRecDepth 100000
set_option maxHeartbeats 16000000
namespace Go.Proofs.YtkhejkfjhddobaaGreatDoor
open Go.RowKit Gim
def yLi (op a e : Int) : Int := if op = 0 then yB6 a e else if op = 1 then orD a e else 2 - e
section
variable {D : yAn} {a : Option Addr} {n cap : Nat}
theorem ySi (w : World) (h : yDH w D a n cap) (hz : yJK D) (hlast : ∀ m : Int, -1 ≤ m → m < n → yAY D m < n ∧ m ≤ yAY D m) (args : List Ex) (sts : List Gim.St) (nm : ByteArray) (cmp : Int) (txt : ByteArray) (num : Int) (xa : Option Addr) (xn xc : Nat) (ya : Option Addr) (yn yc : Nat) (hS : yAH w sts ya yn yc) (hyn : yn ≤ 1048576) (ht : txt.size ≤ 1099511627776)
  (hx : ∀ ax ts tn wh, Gim.St.mk ax ts tn wh ∈ sts → wh.length ≤ 1048576 ∧ ∀ x ∈ wh, yQz D a n cap x) :
  Calls Tryz.prog 29 #[.agg #[.slice a n cap, .bool D.closed], .agg #[.int .i64 3, .slice xa xn xc, .slice ya yn yc, .string nm, .int .i64 cmp, .string txt, .int .i64 num]] w (yHN w (fun m => exD D (.mk 3 args sts nm cmp txt num) m) n) := by
 have hns := h.small; obtain ⟨c, hc⟩ := je (D.closed); obtain ⟨N, hN⟩ := je (n + 1); obtain ⟨W1, hW1⟩ := je ((w.alloc (.cells #[.slice a n cap, .bool c] 78)).alloc (.cells #[.int .i64 3, .slice xa xn xc, .slice ya yn yc, .string nm, .int .i64 cmp, .string txt, .int .i64 num] 66)); obtain ⟨hX1, hY1, hsz1, b1⟩ := yDj w (.cells #[.slice a n cap, .bool c] 78) (.cells #[.int .i64 3, .slice xa xn xc, .slice ya yn yc, .string nm, .int .i64 cmp, .string txt, .int .i64 num] 66); rw [hW1] at hX1 hY1 hsz1 b1; have hXs : w.heap.size < W1.heap.size := by omega
 have hYs : w.heap.size + 1 < W1.heap.size := by omega
 obtain ⟨W2, hW2⟩ := je (W1.alloc (.cells (madeCells #[.int .i64 0] N) 3)); have b2 : Below W1.heap.size W1 W2 := by rw [← hW2]; exact (jf _ _).alloc (jr _) _
 have hG2 : W2.heap[W1.heap.size]? = some (.cells (il (yCu (fun m => yC2 D nm cmp txt num m) (fun _ => 0) n 0)) 3) := by rw [← hW2, jw, yDr, ← hN, yES, yGO]
 have HK : Hid (∀ W, Below W1.heap.size W1 W → W.cell? ⟨w.heap.size, 0, none⟩ = some (.slice a n cap) ∧ W.cell? ⟨w.heap.size, 1, none⟩ = some (.bool c) ∧ W.cell? ⟨w.heap.size + 1, 0, none⟩ = some (.int .i64 3) ∧ W.cell? ⟨w.heap.size + 1, 1, none⟩ = some (.slice xa xn xc) ∧ W.cell? ⟨w.heap.size + 1, 2, none⟩ = some (.slice ya yn yc) ∧ W.cell? ⟨w.heap.size + 1, 3, none⟩ = some (.string nm) ∧ W.cell? ⟨w.heap.size + 1, 4, none⟩ = some (.int .i64 cmp) ∧ W.cell? ⟨w.heap.size + 1, 5, none⟩ = some (.string txt) ∧ W.cell? ⟨w.heap.size + 1, 6, none⟩ = some (.int .i64 num) ∧ w.heap.size < W.heap.size ∧ w.heap.size + 1 < W.heap.size) := jh fun W hW => by have e1 := (hW.block _ hXs).trans hX1; have e2 := (hW.block _ hYs).trans hY1; have := hW.size; exact ⟨by simp [World.cell?, e1], by simp [World.cell?, e1], by simp [World.cell?, e2], by simp [World.cell?, e2], by simp [World.cell?, e2], by simp [World.cell?, e2], by simp [World.cell?, e2], by simp [World.cell?, e2], by simp [World.cell?, e2], by omega, by omega⟩
 have HD : Hid (∀ W, Below W1.heap.size W1 W → yDH W D a n cap) := jh fun W hW => (h.below b1).below hW
 have HB1 := jh b1; have HB2 := jh b2; have HG2 := jh hG2; have HW1 := jh hW1; have HW2 := jh hW2; have HN := jh hN; have HC := jh hc; have hNb : N ≤ 1048577 := by omega
 have hnN : (n : Int) + 1 = N := by omega
 obtain ⟨y0, y1, z0, z1, z2, z3, z4, z5, z6, _, _⟩ := HK.out W1 (jf _ _); have e0 : IntKind.i64.wrap ((n : Int) + 1) = (N : Int) := by rw [hnN]; exact IntWalk.i64_in _ (by omega)
 have hmk := fun W => run_make_row' (P := Tryz.prog) 53 3 (.int .i64 0) 8 Tryz.underlying53 (by kernel_rfl) rfl .i64 .i64 N (by omega) (by omega) W
 have hg2s : W1.heap.size < W2.heap.size := jl hG2; have HS : Hid (∀ W, Below W1.heap.size W1 W → yAH W sts ya yn yc) := jh fun W hW => (hS.below b1).below hW
 have HZ := jh hz; have HX := jh hx; have HLA := jh hlast; have HLN := jh hS.len; have hyle := hS.le; have hycl := hS.cap_le; have hgoal : (fun m => exD D (.mk 3 args sts nm cmp txt num) m) = fun m => stD D sts (fun u => yC2 D nm cmp txt num u) m := by
  funext m
  unfold exD; rw [if_pos rfl]
 rw [hc, hgoal]; unfold yHN; rw [hN]; clear h b1 b2 hX1 hY1 hG2 hW1 hW2 hx hS hc hsz1 hN hz hlast hgoal; go_enter Tryz.func29, Tryz.ntmps29; go_upto_region 1 with fail; rw [HW1.out]; go_upto_region 2 with fail; rw [HW2.out]; clear hmk e0 y0 y1 z0 z1 z2 z3 z4 z5 z6; obtain ⟨y0, y1, z0, z1, z2, z3, z4, z5, z6, _, _⟩ := HK.out W2 HB2.out; go_wp2_with fail; clear y0 y1 z0 z1 z2 z3 z4 z5 z6; go_loopw [6] (fun v wr => ∃ (k : Nat) (m : Int), v = .int .i64 m ∧ Hid (m + 1 = k) ∧ k ≤ N ∧ Below W1.heap.size W1 wr ∧ wr.heap[W1.heap.size]? = some (.cells (il (yCu (fun m => yC2 D nm cmp txt num m) (fun _ => 0) n k)) 3)) (fun v _ => ((n : Int) - intOf v).toNat)
 case atStart => exact ⟨0, -1, rfl, jh (by decide), jz _, HB2.out, HG2.out⟩
 case round =>
  obtain ⟨k, m, rfl, HM, hk, hb9, hg9⟩ := hrel; have hm := HM.out; obtain ⟨y0, y1, z0, z1, z2, z3, z4, z5, z6, hs0, hs1⟩ := HK.out wr hb9; have hgs : W1.heap.size < wr.heap.size := jl hg9; by_cases hin : m < n
  ·have hkN : k < N := by omega
   have hkN' : (k : Int) < N := by omega
   have hm1 : -1 ≤ m := by omega
   have e1 : IntKind.i64.wrap (m + 1) = (k : Int) := by rw [hm]; exact IntWalk.i64_in _ (by omega)
   have hkn : k ≤ n := by omega
   have HCM : Hid (Calls Tryz.prog 50 #[.agg #[.slice a n cap, .bool c], .int .i64 m, .agg #[.int .i64 3, .slice xa xn xc, .slice ya yn yc, .string nm, .int .i64 cmp, .string txt, .int .i64 num]] wr fun e w' => e = .returned (.int .i64 (yC2 D nm cmp txt num m)) ∧ Below wr.heap.size wr w') := jh (by have := yIj (D := D) wr (HD.out wr hb9) HZ.out hm1 hin 3 xa xn xc ya yn yc nm cmp txt num ht; rw [HC.out] at this; exact this); have HG9 := jh hg9; have HB9 := jh hb9; clear hg9 hb9 hm; go_wp2_with fail; refine HCM.out.mono ?_; rintro e w3 ⟨rfl, hb3⟩; have hg3 := (hb3.block _ hgs).trans HG9.out; have HB3 := jh (HB9.out.trans (hb3.mono HB9.out.size)); obtain ⟨v, hv⟩ := je (yC2 D nm cmp txt num m); have HV := jh hv; rw [hv]; have k5 : w3.cell? ⟨W1.heap.size, k, none⟩ = some (.int .i64 0) := yAy hg3 (yET _ _ hkn HM.out); have zf := yAd hg3 k; have hst := yBB (i := k) hg3 v; rw [yCX _ _ HM.out (by rw [← HV.out])] at hst; have HST := jh hst; have hgs4 : W1.heap.size < w3.heap.size := jl hg3; clear hv hb3 y0 y1 z0 z1 z2 z3 z4 z5 z6 hg3 hst; go_wp2_with fail; go_roundw
   case rel => exact ⟨k + 1, (k : Int), rfl, jh (by push_cast; rfl), hkN, HB3.out.setCell (p := ⟨W1.heap.size, k, none⟩) (jr _) _, HST.out⟩
   case measure => simp [intOf]; have := HM.out; omega
  ·have hkN : k = N := by omega
   subst hkN; have HGF := jh (show wr.heap[W1.heap.size]? = some (.cells (il (yCk (stD D (sts.drop yn) (fun u => yC2 D nm cmp txt num u)) n)) 3) by rw [hg9, ← HN.out, yDP, List.drop_of_length_le (by rw [HLN.out]; omega)]; rfl); have HB9 := jh hb9; have ey : IntKind.i64.wrap ((yn : Int) - 1) = (yn : Int) - 1 := IntWalk.i64_in _ (by omega); clear hg9 hb9 hm; go_wp2_with fail; clear y0 y1 z0 z1 z2 z3 z4 z5 z6 ey; go_loopw [5, 7] (fun v5 v7 wq => ∃ (q : Nat) (j : Int) (gg : Nat), v5 = .slice (some ⟨gg, 0, none⟩) k k ∧ v7 = .int .i64 j ∧ Hid (j + 1 = q) ∧ q ≤ yn ∧ Below W1.heap.size W1 wq ∧ W1.heap.size ≤ gg ∧ wq.heap[gg]? = some (.cells (il (yCk (stD D (sts.drop q) (fun u => yC2 D nm cmp txt num u)) n)) 3)) (fun _ v7 _ => (intOf v7 + 1).toNat)
   case atStart => exact ⟨yn, (yn : Int) - 1, W1.heap.size, rfl, rfl, jh (by omega), jr _, HB9.out, jr _, HGF.out⟩
   case round =>
    revert hrel; revert wr; intro wq hrel; obtain ⟨q, j, gg, rfl, rfl, HJ, hq, hb, hgl, hg⟩ := hrel; have hj := HJ.out; obtain ⟨y0, y1, z0, z1, z2, z3, z4, z5, z6, hs0, hs1⟩ := HK.out wq hb; by_cases hj0 : 0 ≤ j
    ·obtain ⟨p, rfl⟩ := Int.eq_ofNat_of_zero_le hj0; have hpn : p < yn := by omega
     have hpn' : (p : Int) < yn := by omega
     have ej : IntKind.i64.wrap ((p : Int) - 1) = (p : Int) - 1 := IntWalk.i64_in _ (by omega); obtain ⟨b, o, ax, ts, tn, wh, a1, n1, c1, e5, hbs, hel, d0, d1, d2, d3, hA⟩ := (HS.out wq hb).elem p hpn; subst e5; have hqp : q = p + 1 := by omega
     subst hqp; obtain ⟨hwl, hex⟩ := HX.out ax ts tn wh (List.mem_of_getElem? hel); have hdr : sts.drop p = Gim.St.mk ax ts tn wh :: sts.drop (p + 1) := by
      have hp2 := (ji.1 hel)
      rw [List.drop_eq_getElem_cons hp2.1, hp2.2]
     have HEX : Hid (∀ W, Below wq.heap.size wq W → Calls Tryz.prog 51 #[.agg #[.slice a n cap, .bool c], .agg #[.int .i64 ax, .int .i64 ts, .string tn, .slice a1 n1 c1], .slice (some ⟨gg, 0, none⟩) k k] W fun e w' => ∃ g, e = .returned (.slice (some ⟨g, 0, none⟩) k k) ∧ w'.heap[g]? = some (.cells (il (yCk (stD D (sts.drop p) (fun u => yC2 D nm cmp txt num u)) n)) 3) ∧ W.heap.size ≤ g ∧ Below W.heap.size W w') := jh fun W hW => by have := yKt (D := D) W (HD.out W (hb.trans (hW.mono hb.size))) HLA.out ax ts tn wh a1 n1 c1 (hA.below hW) (by have := hA.len; omega) hex (stD D (sts.drop (p + 1)) (fun u => yC2 D nm cmp txt num u)) gg ((hW.block gg (jl hg)).trans hg); rw [HC.out] at this; have hk := HN.out; unfold yHN at this; rw [hk] at this; rw [hdr]; exact this
     have HSS : Hid (∀ W, Below wq.heap.size wq W → W.cell? ⟨w.heap.size, 0, none⟩ = some (.slice a n cap) ∧ W.cell? ⟨w.heap.size, 1, none⟩ = some (.bool c) ∧ W.cell? ⟨w.heap.size + 1, 2, none⟩ = some (.slice (some ⟨b, o, none⟩) yn yc) ∧ W.cell? ⟨b, o + p * 4, none⟩ = some (.int .i64 ax) ∧ W.cell? ⟨b, o + p * 4 + 1, none⟩ = some (.int .i64 ts) ∧ W.cell? ⟨b, o + p * 4 + 2, none⟩ = some (.string tn) ∧ W.cell? ⟨b, o + p * 4 + 3, none⟩ = some (.slice a1 n1 c1)) := jh fun W hW => by
      obtain ⟨y0, y1, _, _, z2, _⟩ := HK.out W (hb.trans (hW.mono hb.size)); have hc : ∀ j, W.cell? ⟨b, j, none⟩ = wq.cell? ⟨b, j, none⟩ := fun j => hW.cell (p := ⟨b, j, none⟩) hbs
      exact ⟨y0, y1, z2, (hc _).trans d0, (hc _).trans d1, (hc _).trans d2, (hc _).trans d3⟩
     have HB := jh hb; clear hA hel hb hg hex hdr z0 z1 z3 z4 z5 z6 hj HJ; go_upto_region 10 with fail; go_region_held3 (fun W => W.cell? ⟨w.heap.size, 0, none⟩ = some (.slice a n cap) ∧ W.cell? ⟨w.heap.size, 1, none⟩ = some (.bool c) ∧ W.cell? ⟨w.heap.size + 1, 2, none⟩ = some (.slice (some ⟨b, o, none⟩) yn yc) ∧ W.cell? ⟨b, o + p * 4, none⟩ = some (.int .i64 ax) ∧ W.cell? ⟨b, o + p * 4 + 1, none⟩ = some (.int .i64 ts) ∧ W.cell? ⟨b, o + p * 4 + 2, none⟩ = some (.string tn) ∧ W.cell? ⟨b, o + p * 4 + 3, none⟩ = some (.slice a1 n1 c1)) (first | go_keep | exact ⟨by assumption, by assumption, by assumption, by assumption, by assumption, by assumption, by assumption⟩ | exact HSS.out _ (by assumption)) (first
      | (go_at_call 51; refine (HEX.out _ (by first | exact jf _ _ | exact (jf _ _).drew)).mono ?_; rintro e w5 ⟨ga, rfl, hga, hgl5, hb5⟩; have hbq : Below wq.heap.size wq w5 := (by first | exact hb5 | exact ((jf _ _).drew).trans hb5); have hgl2 : wq.heap.size ≤ ga := (by first | exact hgl5 | simpa using hgl5); have HGA := jh hga; have HBQ := jh hbq; have HGL := jh hgl2; clear hga hgl5 hb5 hgl2))
     all_goals
      clear hbq; go_wp2_with fail; go_roundw
      case rel => exact ⟨p, (p : Int) - 1, ga, rfl, rfl, jh (by omega), by omega, HB.out.trans (HBQ.out.mono HB.out.size), ju HB.out.size HGL.out, HGA.out⟩
      case measure => simp [intOf]
    ·have hq0 : q = 0 := by omega
     subst hq0; have HG := jh hg; have HBF := jh (HB1.out.trans (hb.mono HB1.out.size)); have HGL : Hid (w.heap.size ≤ gg) := jh (ju HB1.out.size hgl); clear hg hb hgl hj; go_wp2_with fail; go_ret; exact ⟨gg, rfl, HG.out, HGL.out, HBF.out⟩
end
section
variable {D : yAn} {a : Option Addr} {n cap : Nat}
theorem ySe (w : World) (h : yDH w D a n cap) (op : Int) (hop : op ≠ 3) (args : List Ex) (sts : List Gim.St) (nm : ByteArray) (cmp : Int) (txt : ByteArray) (num : Int) (xa : Option Addr) (xn xc : Nat) (ya : Option Addr) (yn yc : Nat) (hF : yAM w args xa xn xc) (hxn : xn ≤ 1048576)
  (hx : ∀ x ∈ args, yQz D a n cap x) :
  Calls Tryz.prog 29 #[.agg #[.slice a n cap, .bool D.closed], .agg #[.int .i64 op, .slice xa xn xc, .slice ya yn yc, .string nm, .int .i64 cmp, .string txt, .int .i64 num]] w (yHN w (fun m => exD D (.mk op args sts nm cmp txt num) m) n) := by
 obtain ⟨I, hI⟩ := je (trD (op == 0)); have hns := h.small; obtain ⟨c, hc⟩ := je (D.closed); obtain ⟨N, hN⟩ := je (n + 1); obtain ⟨W1, hW1⟩ := je ((w.alloc (.cells #[.slice a n cap, .bool c] 78)).alloc (.cells #[.int .i64 op, .slice xa xn xc, .slice ya yn yc, .string nm, .int .i64 cmp, .string txt, .int .i64 num] 66)); obtain ⟨hX1, hY1, hsz1, b1⟩ := yDj w (.cells #[.slice a n cap, .bool c] 78) (.cells #[.int .i64 op, .slice xa xn xc, .slice ya yn yc, .string nm, .int .i64 cmp, .string txt, .int .i64 num] 66); rw [hW1] at hX1 hY1 hsz1 b1; have hXs : w.heap.size < W1.heap.size := by omega
 have hYs : w.heap.size + 1 < W1.heap.size := by omega
 obtain ⟨W2, hW2⟩ := je (W1.alloc (.cells (madeCells #[.int .i64 0] N) 3)); have b2 : Below W1.heap.size W1 W2 := by rw [← hW2]; exact (jf _ _).alloc (jr _) _
 have hG2 : W2.heap[W1.heap.size]? = some (.cells (il (yCu (fun _ => I) (fun _ => 0) n 0)) 3) := by rw [← hW2, jw, yDr, ← hN, yES, yGO]
 have HK : Hid (∀ W, Below W1.heap.size W1 W → W.cell? ⟨w.heap.size, 0, none⟩ = some (.slice a n cap) ∧ W.cell? ⟨w.heap.size, 1, none⟩ = some (.bool c) ∧ W.cell? ⟨w.heap.size + 1, 0, none⟩ = some (.int .i64 op) ∧ W.cell? ⟨w.heap.size + 1, 1, none⟩ = some (.slice xa xn xc) ∧ W.cell? ⟨w.heap.size + 1, 2, none⟩ = some (.slice ya yn yc) ∧ W.cell? ⟨w.heap.size + 1, 3, none⟩ = some (.string nm) ∧ W.cell? ⟨w.heap.size + 1, 4, none⟩ = some (.int .i64 cmp) ∧ W.cell? ⟨w.heap.size + 1, 5, none⟩ = some (.string txt) ∧ W.cell? ⟨w.heap.size + 1, 6, none⟩ = some (.int .i64 num) ∧ w.heap.size < W.heap.size ∧ w.heap.size + 1 < W.heap.size) := jh fun W hW => by have e1 := (hW.block _ hXs).trans hX1; have e2 := (hW.block _ hYs).trans hY1; have := hW.size; exact ⟨by simp [World.cell?, e1], by simp [World.cell?, e1], by simp [World.cell?, e2], by simp [World.cell?, e2], by simp [World.cell?, e2], by simp [World.cell?, e2], by simp [World.cell?, e2], by simp [World.cell?, e2], by simp [World.cell?, e2], by omega, by omega⟩
 have HD : Hid (∀ W, Below W1.heap.size W1 W → yDH W D a n cap) := jh fun W hW => (h.below b1).below hW
 have HB1 := jh b1; have HB2 := jh b2; have HG2 := jh hG2; have HW1 := jh hW1; have HW2 := jh hW2; have HN := jh hN; have HC := jh hc; have hNb : N ≤ 1048577 := by omega
 have hnN : (n : Int) + 1 = N := by omega
 obtain ⟨y0, y1, z0, z1, z2, z3, z4, z5, z6, _, _⟩ := HK.out W1 (jf _ _); have e0 : IntKind.i64.wrap ((n : Int) + 1) = (N : Int) := by rw [hnN]; exact IntWalk.i64_in _ (by omega)
 have hmk := fun W => run_make_row' (P := Tryz.prog) 53 3 (.int .i64 0) 8 Tryz.underlying53 (by kernel_rfl) rfl .i64 .i64 N (by omega) (by omega) W
 have hg2s : W1.heap.size < W2.heap.size := jl hG2; have HF : Hid (∀ W, Below W1.heap.size W1 W → yAM W args xa xn xc) := jh fun W hW => (hF.below b1).below hW
 have HX := jh hx; have HLN := jh hF.len; have HI := jh hI; have hxle := hF.le; have hxcl := hF.cap_le; have q3 : (op == 3) = false := jn.2 hop; have hgoal : (fun m => exD D (.mk op args sts nm cmp txt num) m) = fun m => yBG D op args m I := by
  funext m
  unfold exD; rw [if_neg hop, ← hI]; congr 1; by_cases h0 : op = 0
  ·simp [h0, trD]
  ·simp [h0, trD]
 rw [hc, hgoal]; unfold yHN; rw [hN]; clear h b1 b2 hX1 hY1 hG2 hW1 hW2 hx hF hc hsz1 hN hgoal hop hI; go_enter Tryz.func29, Tryz.ntmps29; go_upto_region 1 with fail; rw [HW1.out]; go_upto_region 2 with fail; rw [HW2.out]; clear hmk e0 y0 y1 z0 z1 z2 z3 z4 z5 z6; obtain ⟨y0, y1, z0, z1, z2, z3, z4, z5, z6, _, _⟩ := HK.out W2 HB2.out; go_wp2_with fail; clear y0 y1 z0 z1 z2 z3 z4 z5 z6; go_loopw [8] (fun v wr => ∃ i : Nat, v = .int .i64 i ∧ i ≤ N ∧ Below W1.heap.size W1 wr ∧ wr.heap[W1.heap.size]? = some (.cells (il (yCu (fun _ => I) (fun _ => 0) n i)) 3)) (fun v _ => N - (intOf v).toNat)
 case atStart => exact ⟨0, rfl, jz _, HB2.out, HG2.out⟩
 case round =>
  obtain ⟨k, rfl, hk, hb9, hg9⟩ := hrel; obtain ⟨y0, y1, z0, z1, z2, z3, z4, z5, z6, hs0, hs1⟩ := HK.out wr hb9; have hgs : W1.heap.size < wr.heap.size := jl hg9; by_cases hin : k < N
  ·have hkN' : (k : Int) < N := by omega
   have hkn : k ≤ n := by omega
   obtain ⟨m, hm⟩ : ∃ m : Int, m + 1 = k := ⟨(k : Int) - 1, by omega⟩
   obtain ⟨bz, hbz⟩ := je ((op == 0)); have HIB : Hid (trD bz = I) := jh (by rw [← hbz]; exact HI.out); have k5 : wr.cell? ⟨W1.heap.size, k, none⟩ = some (.int .i64 0) := yAy hg9 (yET _ _ hkn hm); have zf := yAd hg9 k; have hst := yBB (i := k) hg9 I; rw [yCX _ _ hm rfl] at hst; have HST := jh hst; have HBS := jh (hb9.setCell (p := ⟨W1.heap.size, k, none⟩) (jr _) (.int .i64 I)); clear hg9 hb9 hst hm; obtain ⟨op3, hop3⟩ : ∃ op3, op3 = op := ⟨_, rfl⟩
   rw [← hop3] at z0 hbz; have qz : (op3 == 0) = bz := hbz; clear hop3 hbz; go_wp2_with (first
    | (go_at_call 52; refine (yCM _ _).mono ?_; rintro e w' ⟨rfl, rfl⟩; rw [HIB.out]))
   go_roundw
   case rel => exact ⟨k + 1, by go_num, hin, HBS.out, HST.out⟩
   case measure => simp [intOf]; omega
  ·have hkN : k = N := by omega
   subst hkN; have HGF := jh (show wr.heap[W1.heap.size]? = some (.cells (il (yCk (fun u => yBG D op (args.take 0) u I) n)) 3) by rw [hg9, ← HN.out, yDP]; rfl); have HB9 := jh hb9; clear hg9 hb9; go_wp2_with fail; clear y0 y1 z0 z1 z2 z3 z4 z5 z6; go_loopw [9] (fun v wq => ∃ q : Nat, v = .int .i64 q ∧ q ≤ xn ∧ Below W1.heap.size W1 wq ∧ wq.heap[W1.heap.size]? = some (.cells (il (yCk (fun u => yBG D op (args.take q) u I) n)) 3)) (fun v _ => xn - (intOf v).toNat)
   case atStart => exact ⟨0, rfl, jz _, HB9.out, HGF.out⟩
   case round =>
    revert hrel; revert wr; intro wq hrel; obtain ⟨q, rfl, hq, hb, hg⟩ := hrel; obtain ⟨y0, y1, z0, z1, z2, z3, z4, z5, z6, hs0, hs1⟩ := HK.out wq hb; have hgs : W1.heap.size < wq.heap.size := jl hg; by_cases hqn : q < xn
    ·have hqn' : (q : Int) < xn := by omega
     obtain ⟨b, o, op2, args2, sts2, nm2, cmp2, txt2, num2, a1, n1, c1, a2, n2, c2, e5, hbs, hel, d0, d1, d2, d3, d4, d5, d6, hA, hS⟩ := (HF.out wq hb).elem q hqn; subst e5; obtain ⟨x, hxe⟩ := je (Gim.Ex.mk op2 args2 sts2 nm2 cmp2 txt2 num2); have HEX : Hid (∀ W, Below wq.heap.size wq W → Calls Tryz.prog 29 #[.agg #[.slice a n cap, .bool c], .agg #[.int .i64 op2, .slice a1 n1 c1, .slice a2 n2 c2, .string nm2, .int .i64 cmp2, .string txt2, .int .i64 num2]] W fun e w' => ∃ g, e = .returned (.slice (some ⟨g, 0, none⟩) k k) ∧ w'.heap[g]? = some (.cells (il (yCk (fun u => exD D x u) n)) 3) ∧ W.heap.size ≤ g ∧ Below W.heap.size W w') := jh fun W hW => by have := HX.out _ (List.mem_of_getElem? hel) W a1 n1 c1 a2 n2 c2 (HD.out W (hb.trans (hW.mono hb.size))) (hA.below hW) (hS.below hW); rw [HC.out, hxe] at this; have hk := HN.out; unfold yHN at this; rw [hk] at this; exact this
     have HSS : Hid (∀ W, Below wq.heap.size wq W → W.cell? ⟨w.heap.size, 0, none⟩ = some (.slice a n cap) ∧ W.cell? ⟨w.heap.size, 1, none⟩ = some (.bool c) ∧ W.cell? ⟨w.heap.size + 1, 1, none⟩ = some (.slice (some ⟨b, o, none⟩) xn xc) ∧ W.cell? ⟨b, o + q * 7, none⟩ = some (.int .i64 op2) ∧ W.cell? ⟨b, o + q * 7 + 1, none⟩ = some (.slice a1 n1 c1) ∧ W.cell? ⟨b, o + q * 7 + 2, none⟩ = some (.slice a2 n2 c2) ∧ W.cell? ⟨b, o + q * 7 + 3, none⟩ = some (.string nm2) ∧ W.cell? ⟨b, o + q * 7 + 4, none⟩ = some (.int .i64 cmp2) ∧ W.cell? ⟨b, o + q * 7 + 5, none⟩ = some (.string txt2) ∧ W.cell? ⟨b, o + q * 7 + 6, none⟩ = some (.int .i64 num2)) := jh fun W hW => by
      obtain ⟨y0, y1, _, z1, _⟩ := HK.out W (hb.trans (hW.mono hb.size)); have hc : ∀ j, W.cell? ⟨b, j, none⟩ = wq.cell? ⟨b, j, none⟩ := fun j => hW.cell (p := ⟨b, j, none⟩) hbs
      exact ⟨y0, y1, z1, (hc _).trans d0, (hc _).trans d1, (hc _).trans d2, (hc _).trans d3, (hc _).trans d4, (hc _).trans d5, (hc _).trans d6⟩
     rw [hxe] at hel; have HNX : Hid (args.take (q + 1) = args.take q ++ [x]) := jh (yAT hel); have HG := jh hg; have HB := jh hb; clear hA hS hel hg hb hxe z0 z2 z3 z4 z5 z6; go_upto_region 19 with fail; go_region_held3 (fun W => W.cell? ⟨w.heap.size, 0, none⟩ = some (.slice a n cap) ∧ W.cell? ⟨w.heap.size, 1, none⟩ = some (.bool c) ∧ W.cell? ⟨w.heap.size + 1, 1, none⟩ = some (.slice (some ⟨b, o, none⟩) xn xc) ∧ W.cell? ⟨b, o + q * 7, none⟩ = some (.int .i64 op2) ∧ W.cell? ⟨b, o + q * 7 + 1, none⟩ = some (.slice a1 n1 c1) ∧ W.cell? ⟨b, o + q * 7 + 2, none⟩ = some (.slice a2 n2 c2) ∧ W.cell? ⟨b, o + q * 7 + 3, none⟩ = some (.string nm2) ∧ W.cell? ⟨b, o + q * 7 + 4, none⟩ = some (.int .i64 cmp2) ∧ W.cell? ⟨b, o + q * 7 + 5, none⟩ = some (.string txt2) ∧ W.cell? ⟨b, o + q * 7 + 6, none⟩ = some (.int .i64 num2)) (first | go_keep | exact ⟨by assumption, by assumption, by assumption, by assumption, by assumption, by assumption, by assumption, by assumption, by assumption, by assumption⟩ | exact HSS.out _ (by assumption)) (first
      | (go_at_call 29; refine (HEX.out _ (by first | exact jf _ _ | exact (jf _ _).drew)).mono ?_; rintro e w5 ⟨ga, rfl, hga, hgl, hb5⟩; have hbq : Below wq.heap.size wq w5 := (by first | exact hb5 | exact ((jf _ _).drew).trans hb5); have hgl2 : wq.heap.size ≤ ga := (by first | exact hgl | simpa using hgl); have HGA := jh hga; have HBQ := jh hbq; have HGL := jh hgl2; clear hga hgl hb5 hgl2))
     all_goals
      have HG5 := jh ((HBQ.out.block _ hgs).trans HG.out); have HB5 := jh (HB.out.trans (HBQ.out.mono HB.out.size)); have hgne : W1.heap.size ≠ ga := by have := HGL.out; omega
      clear hbq d0 d1 d2 d3 d4 d5 d6 y0 y1 z1 hbs hs0 hs1; go_wp2_with fail; go_loopw [11] (fun v wz => ∃ i : Nat, v = .int .i64 i ∧ i ≤ k ∧ Below W1.heap.size W1 wz ∧ wz.heap[W1.heap.size]? = some (.cells (il (yCu (fun u => yLi op (yBG D op (args.take q) u I) (exD D x u)) (fun u => yBG D op (args.take q) u I) n i)) 3) ∧ wz.heap[ga]? = some (.cells (il (yCk (fun u => exD D x u) n)) 3)) (fun v _ => k - (intOf v).toNat)
      case atStart => exact ⟨0, rfl, jz _, HB5.out, by rw [yGO]; exact HG5.out, HGA.out⟩
      case round =>
       revert hrel; revert wr; intro wz hrel; obtain ⟨i, rfl, hi, hbz, hgz, haz⟩ := hrel; obtain ⟨y0, y1, z0, z1, z2, z3, z4, z5, z6, hs0, hs1⟩ := HK.out wz hbz; by_cases hin : i < k
       ·have hin' : (i : Int) < k := by omega
        have hin2 : i ≤ n := by have := HN.out; omega
        obtain ⟨u, hu⟩ : ∃ u : Int, u + 1 = i := ⟨(i : Int) - 1, by omega⟩
        have k1 := yAy hgz (yET (fun u => yLi op (yBG D op (args.take q) u I) (exD D x u)) (fun u => yBG D op (args.take q) u I) hin2 hu); have k2 := yAy haz (yGl (fun u => exD D x u) hin2 hu); have zf := yAd hgz i; have hrg := yC8 D x u; obtain ⟨p1, hp1⟩ := je (yBG D op (args.take q) u I); obtain ⟨p2, hp2⟩ := je (exD D x u); obtain ⟨op3, hop3⟩ : ∃ op3, op3 = op := ⟨_, rfl⟩
        obtain ⟨V, hV⟩ := je (yLi op3 p1 p2); have hV2 : yLi op (yBG D op (args.take q) u I) (exD D x u) = V := by rw [hp1, hp2, ← hop3]; exact hV
        have hst := yBB (i := i) hgz V; rw [yCX _ _ hu hV2.symm] at hst; have HST := jh hst; have HST2 := jh ((js wz ⟨W1.heap.size, i, none⟩ (.int .i64 V) ga (Ne.symm hgne)).trans haz); have HBS := jh (hbz.setCell (p := ⟨W1.heap.size, i, none⟩) (jr _) (.int .i64 V)); have hgz1 : W1.heap.size < wz.heap.size := jl hgz; have hgz2 : ga < wz.heap.size := jl haz; simp only [hp1] at k1; simp only [hp2] at k2; rw [hp2] at hrg; rw [← hop3] at z0; clear hp1 hp2 hgz haz hst hbz hu hV2 hop3 z1 z2 z3 z4 z5 z6 y0 y1; by_cases h0 : op3 = 0
        ·subst h0; have hV : yB6 p1 p2 = V := hV; have HV := jh hV; clear hV; go_upto_region 26 with fail; go_region_with (first
          | (go_at_call 53; refine (yEM _ _ _).mono ?_; rintro e w' ⟨rfl, rfl⟩; rw [HV.out]))
         all_goals
          go_wp2_with fail; go_roundw
          case rel => exact ⟨i + 1, by go_num, hin, by first | exact HBS.out | exact HBS.out.drew, HST.out, HST2.out⟩
          case measure => simp [intOf]; omega
        ·by_cases h1 : op3 = 1
         ·subst h1; have hV : orD p1 p2 = V := hV; have HV := jh hV; clear hV h0; go_upto_region 28 with fail; go_region_with (first
           | (go_at_call 54; refine (yFF _ _ _).mono ?_; rintro e w' ⟨rfl, rfl⟩; rw [HV.out]))
          all_goals
           go_wp2_with fail; go_roundw
           case rel => exact ⟨i + 1, by go_num, hin, by first | exact HBS.out | exact HBS.out.drew, HST.out, HST2.out⟩
           case measure => simp [intOf]; omega
         ·have hV : 2 - p2 = V := by rw [← hV]; unfold yLi; rw [if_neg h0, if_neg h1]
          have qa : (op3 == 0) = false := jn.2 h0; have qb : (op3 == 1) = false := jn.2 h1; have ev : IntKind.i64.wrap (2 - p2) = V := by rw [hV]; exact IntWalk.i64_in _ (by omega)
          clear hV h0 h1; go_wp2_with fail; go_roundw
          case rel => exact ⟨i + 1, by go_num, hin, by first | exact HBS.out | exact HBS.out.drew, HST.out, HST2.out⟩
          case measure => simp [intOf]; omega
       ·have hik : i = k := by omega
        subst hik; have hgz' : wz.heap[W1.heap.size]? = some (.cells (il (yCk (fun u => yBG D op (args.take (q + 1)) u I) n)) 3) := by rw [hgz, ← HN.out, yDP, HNX.out]; simp only [yKq]; rfl
        have HGZ := jh hgz'; have HBZ := jh hbz; clear hgz hgz' haz hbz; go_wp2_with fail; go_roundw
        case rel => exact ⟨q + 1, by go_num, hqn, HBZ.out, HGZ.out⟩
        case measure => simp [intOf]; omega
    ·have hqe : q = xn := by omega
     have hfin : wq.heap[W1.heap.size]? = some (.cells (il (yCk (fun m => yBG D op args m I) n)) 3) := by rw [hg, hqe, jm (by rw [HLN.out]; omega)]
     have HFI := jh hfin; have HBF := jh (HB1.out.trans (hb.mono HB1.out.size)); have HB1S := jh HB1.out.size; subst hqe; clear hg hb hfin; go_wp2_with fail; go_ret; exact ⟨W1.heap.size, rfl, HFI.out, HB1S.out, HBF.out⟩
end
theorem yOi {D : yAn} {a : Option Addr} {n cap : Nat} (hz : yJK D) (hlast : ∀ m : Int, -1 ≤ m → m < n → yAY D m < n ∧ m ≤ yAY D m) : ∀ (N : Nat) (x : Ex), SizeOf.sizeOf x < N → wX x ≤ 1048576 → yQz D a n cap x
 | 0, _, h, _ => absurd h (Nat.not_lt_zero _)
 | N + 1, .mk op args sts nm cmp txt num, hN, hw => by
  have e : wX (.mk op args sts nm cmp txt num) = 1 + nm.size + txt.size + wXL args + wTL sts := by
   conv => lhs; unfold wX
  rw [e] at hw; have e2 := Gim.Ex.mk.sizeOf_spec op args sts nm cmp txt num; intro W xa xn xc ya yn yc hD hA hS; by_cases h3 : op = 3
  ·subst h3; have hl := yOS sts; refine ySi W hD hz hlast args sts nm cmp txt num xa xn xc ya yn yc hS (by have := hS.len; omega) (by omega) fun ax ts tn wh hm => ?_
   obtain ⟨i, hi⟩ := List.mem_iff_getElem?.1 hm; have h1 := yFq hi; have h2 := yDa hi; have e3 : wT (.mk ax ts tn wh) = 1 + tn.size + wXL wh := by
    conv => lhs; unfold wT
   have e4 := Gim.St.mk.sizeOf_spec ax ts tn wh; have hl2 := yKU wh; refine ⟨by omega, fun x hx => ?_⟩; obtain ⟨j, hj⟩ := List.mem_iff_getElem?.1 hx; have h4 := yDn hj; have h5 := yB0 hj; exact yOi hz hlast N x (by omega) (by omega)
  ·have hl := yKU args; refine ySe W hD op h3 args sts nm cmp txt num xa xn xc ya yn yc hA (by have := hA.len; omega) fun x hx => ?_
   obtain ⟨j, hj⟩ := List.mem_iff_getElem?.1 hx; have h4 := yDn hj; have h5 := yB0 hj; exact yOi hz hlast N x (by omega) (by omega)
end Go.Proofs.YtkhejkfjhddobaaGreatDoor
