/- Lists of truths, one for each node. -/
import Derived.Test.YtkhejkfjhddobaaGreatDoorFindM
set_option maxRecDepth 100000
set_option maxHeartbeats 16000000
namespace Go.Proofs.YtkhejkfjhddobaaGreatDoor
open Go.RowKit Gim
def yCu (f g : Int → Int) (n i : Nat) : List Int := (List.range (n + 1)).map fun j : Nat => if j < i then f ((j : Int) - 1) else g ((j : Int) - 1)
def yCk (f : Int → Int) (n : Nat) : List Int := (List.range (n + 1)).map fun j : Nat => f ((j : Int) - 1)
theorem yGO (f g : Int → Int) (n : Nat) : yCu f g n 0 = yCk g n := by simp [yCu, yCk]
theorem yDP (f g : Int → Int) (n : Nat) : yCu f g n (n + 1) = yCk f n := by
 unfold yCu yCk; refine List.map_congr_left fun j hj => ?_
 rw [if_pos (List.mem_range.1 hj)]
theorem yI2 (f g : Int → Int) (n i : Nat) : (yCu f g n i).length = n + 1 := by simp [yCu]
theorem yET (f g : Int → Int) {n i : Nat} (h : i ≤ n) {m : Int} (hm : m + 1 = i) : (yCu f g n i)[i]? = some (g m) := by
 obtain rfl : m = (i : Int) - 1 := by omega
 unfold yCu; rw [List.getElem?_map, List.getElem?_range (by omega)]; simp
theorem yGl (f : Int → Int) {n i : Nat} (h : i ≤ n) {m : Int} (hm : m + 1 = i) : (yCk f n)[i]? = some (f m) := by
 obtain rfl : m = (i : Int) - 1 := by omega
 unfold yCk; rw [List.getElem?_map, List.getElem?_range (by omega)]; rfl
theorem yCX (f g : Int → Int) {n i : Nat} {m x : Int} (hm : m + 1 = i) (hx : x = f m) : (yCu f g n i).set i x = yCu f g n (i + 1) := by
 obtain rfl : m = (i : Int) - 1 := by omega
 subst hx; refine List.ext_getElem? fun j => ?_
 rw [List.getElem?_set, yI2]; unfold yCu; rw [List.getElem?_map, List.getElem?_map]; by_cases e : i = j
 ·subst e; by_cases hi : i < n + 1
  ·rw [if_pos rfl, if_pos hi, List.getElem?_range hi]; simp
  ·rw [if_pos rfl, if_neg hi, List.getElem?_eq_none (by rw [List.length_range]; omega)]; rfl
 ·rw [if_neg e]; by_cases hj : j < n + 1
  ·rw [List.getElem?_range hj]; simp only [Option.map_some]; by_cases e2 : j < i
   ·rw [if_pos e2, if_pos (by omega)]
   ·rw [if_neg e2, if_neg (by omega)]
  ·rw [List.getElem?_eq_none (by rw [List.length_range]; omega)]; rfl
theorem yES (n : Nat) : List.replicate (n + 1) (0 : Int) = yCk (fun _ => 0) n := by
 refine List.ext_getElem? fun j => ?_
 unfold yCk; rw [List.getElem?_replicate, List.getElem?_map]; by_cases h : j < n + 1
 ·rw [if_pos h, List.getElem?_range h]; rfl
 ·rw [if_neg h, List.getElem?_eq_none (by rw [List.length_range]; omega)]; rfl
def yHN (W : World) (f : Int → Int) (n : Nat) (e : Ending) (W' : World) : Prop := ∃ g, e = .returned (.slice (some ⟨g, 0, none⟩) (n + 1) (n + 1)) ∧ W'.heap[g]? = some (.cells (il (yCk f n)) 3) ∧ W.heap.size ≤ g ∧ Below W.heap.size W W'
def yQz (D : yAn) (a : Option Addr) (n cap : Nat) : Ex → Prop
 | .mk op args sts nm cmp txt num => ∀ (W : World) (xa : Option Addr) (xn xc : Nat) (ya : Option Addr) (yn yc : Nat), yDH W D a n cap → yAM W args xa xn xc → yAH W sts ya yn yc →
  Calls Tryz.prog 29 #[.agg #[.slice a n cap, .bool D.closed], .agg #[.int .i64 op, .slice xa xn xc, .slice ya yn yc, .string nm, .int .i64 cmp, .string txt, .int .i64 num]] W (yHN W (fun m => exD D (.mk op args sts nm cmp txt num) m) n)
theorem yLE (D : yAn) : ∀ (l : List Ex) (x : Ex) (m a : Int), whD D (l ++ [x]) m a = yB6 (whD D l m a) (exD D x m)
 | [], x, m, a => by show whD D [x] m a = _; unfold whD; rfl
 | y :: r, x, m, a => by show whD D (y :: (r ++ [x])) m a = _; unfold whD; exact yLE D r x m _
theorem yKq (D : yAn) (op : Int) : ∀ (l : List Ex) (x : Ex) (m a : Int), yBG D op (l ++ [x]) m a = if op = 0 then yB6 (yBG D op l m a) (exD D x m) else if op = 1 then orD (yBG D op l m a) (exD D x m) else 2 - exD D x m
 | [], x, m, a => by show yBG D op [x] m a = _; unfold yBG; rfl
 | y :: r, x, m, a => by show yBG D op (y :: (r ++ [x])) m a = _; unfold yBG; exact yKq D op r x m _
section
variable {D : yAn} {a : Option Addr} {n cap : Nat}
theorem yPs (w : World) (h : yDH w D a n cap) (ax ts : Int) (nm : ByteArray) (wh : List Ex) (xa : Option Addr) (xn xc : Nat) (hF : yAM w wh xa xn xc) (hxn : xn ≤ 1048576) (hx : ∀ x ∈ wh, yQz D a n cap x) :
  Calls Tryz.prog 85 #[.agg #[.slice a n cap, .bool D.closed], .agg #[.int .i64 ax, .int .i64 ts, .string nm, .slice xa xn xc]] w (yHN w (fun m => yI5 D (.mk ax ts nm wh) m) n) := by
 have hns := h.small; obtain ⟨c, hc⟩ := je (D.closed); obtain ⟨N, hN⟩ := je (n + 1); obtain ⟨W1, hW1⟩ := je ((w.alloc (.cells #[.slice a n cap, .bool c] 78)).alloc (.cells #[.int .i64 ax, .int .i64 ts, .string nm, .slice xa xn xc] 64)); obtain ⟨hX1, hY1, hsz1, b1⟩ := yDj w (.cells #[.slice a n cap, .bool c] 78) (.cells #[.int .i64 ax, .int .i64 ts, .string nm, .slice xa xn xc] 64); rw [hW1] at hX1 hY1 hsz1 b1; have hXs : w.heap.size < W1.heap.size := by omega
 have hYs : w.heap.size + 1 < W1.heap.size := by omega
 obtain ⟨W2, hW2⟩ := je (W1.alloc (.cells (madeCells #[.int .i64 0] N) 3)); have b2 : Below W1.heap.size W1 W2 := by rw [← hW2]; exact (jf _ _).alloc (jr _) _
 have hG2 : W2.heap[W1.heap.size]? = some (.cells (il (yCu (fun m => trD (yAZ D ts nm m)) (fun _ => 0) n 0)) 3) := by rw [← hW2, jw, yDr, ← hN, yES, yGO]
 have HK : Hid (∀ W, Below W1.heap.size W1 W → W.cell? ⟨w.heap.size, 0, none⟩ = some (.slice a n cap) ∧ W.cell? ⟨w.heap.size, 1, none⟩ = some (.bool c) ∧ W.cell? ⟨w.heap.size + 1, 0, none⟩ = some (.int .i64 ax) ∧ W.cell? ⟨w.heap.size + 1, 1, none⟩ = some (.int .i64 ts) ∧ W.cell? ⟨w.heap.size + 1, 2, none⟩ = some (.string nm) ∧ W.cell? ⟨w.heap.size + 1, 3, none⟩ = some (.slice xa xn xc) ∧ w.heap.size < W.heap.size ∧ w.heap.size + 1 < W.heap.size) := jh fun W hW => by have e1 := (hW.block _ hXs).trans hX1; have e2 := (hW.block _ hYs).trans hY1; have := hW.size; exact ⟨by simp [World.cell?, e1], by simp [World.cell?, e1], by simp [World.cell?, e2], by simp [World.cell?, e2], by simp [World.cell?, e2], by simp [World.cell?, e2], by omega, by omega⟩
 have HD : Hid (∀ W, Below W1.heap.size W1 W → yDH W D a n cap) := jh fun W hW => (h.below b1).below hW
 have HF : Hid (∀ W, Below W1.heap.size W1 W → yAM W wh xa xn xc) := jh fun W hW => (hF.below b1).below hW
 have HB1 := jh b1; have HB2 := jh b2; have HG2 := jh hG2; have HW1 := jh hW1; have HW2 := jh hW2; have HX := jh hx; have HLN := jh hF.len; have HN := jh hN; have HC := jh hc; have hxle := hF.le; have hxcl := hF.cap_le; have hNb : N ≤ 1048577 := by omega
 have hnN : (n : Int) + 1 = N := by omega
 obtain ⟨y0, y1, z0, z1, z2, z3, _, _⟩ := HK.out W1 (jf _ _); have e0 : IntKind.i64.wrap ((n : Int) + 1) = (N : Int) := by rw [hnN]; exact IntWalk.i64_in _ (by omega)
 have hmk := fun W => run_make_row' (P := Tryz.prog) 53 3 (.int .i64 0) 8 Tryz.underlying53 (by kernel_rfl) rfl .i64 .i64 N (by omega) (by omega) W
 have hg2s : W1.heap.size < W2.heap.size := jl hG2; rw [hc]; clear h b1 b2 hX1 hY1 hG2 hW1 hW2 hx hF hc hsz1; go_enter Tryz.func85, Tryz.ntmps85; go_upto_region 1 with fail; rw [HW1.out]; go_upto_region 2 with fail; rw [HW2.out]; clear hmk e0 y0 y1 z0 z1 z2 z3; go_wp2_with fail; go_loopw [6] (fun v wr => ∃ (k : Nat) (m : Int), v = .int .i64 m ∧ Hid (m + 1 = k) ∧ k ≤ N ∧ Below W1.heap.size W1 wr ∧ wr.heap[W1.heap.size]? = some (.cells (il (yCu (fun m => trD (yAZ D ts nm m)) (fun _ => 0) n k)) 3)) (fun v _ => ((n : Int) - intOf v).toNat)
 case atStart => exact ⟨0, -1, rfl, jh (by decide), jz _, HB2.out, HG2.out⟩
 case round =>
  obtain ⟨k, m, rfl, HM, hk, hb9, hg9⟩ := hrel; have hm := HM.out; obtain ⟨y0, y1, z0, z1, z2, z3, hs0, hs1⟩ := HK.out wr hb9; have hgs : W1.heap.size < wr.heap.size := jl hg9; by_cases hin : m < n
  ·have hkN : k < N := by omega
   have hkN' : (k : Int) < N := by omega
   have e1 : IntKind.i64.wrap (m + 1) = (k : Int) := by rw [hm]; exact IntWalk.i64_in _ (by omega)
   have hkn : k ≤ n := by omega
   have HG9 := jh hg9; have HB9 := jh hb9; clear hg9 hb9 hm; go_wp2_with fail; refine (yMP (D := D) wr (HD.out wr HB9.out) hin ax ts nm xa xn xc).mono ?_; rintro e w3 ⟨rfl, hb3⟩; have hg3 := (hb3.block _ hgs).trans HG9.out; have HB3 := jh (HB9.out.trans (hb3.mono HB9.out.size)); obtain ⟨v, hv⟩ := je (yAZ D ts nm m); have HV := jh hv; rw [hv]; clear hv hb3 y0 y1 z0 z1 z2 z3; go_wp2_with fail; refine (yCM v w3).mono ?_; rintro e w4 ⟨rfl, rfl⟩; have k5 : w4.cell? ⟨W1.heap.size, k, none⟩ = some (.int .i64 0) := yAy hg3 (yET _ _ hkn HM.out); have zf := yAd hg3 k; have hst := yBB (i := k) hg3 (trD v); rw [yCX _ _ HM.out (by rw [← HV.out])] at hst; have HST := jh hst; have hgs4 : W1.heap.size < w4.heap.size := jl hg3; clear hg3 hst; go_wp2_with fail; go_roundw
   case rel => exact ⟨k + 1, (k : Int), rfl, jh (by push_cast; rfl), hkN, HB3.out.setCell (p := ⟨W1.heap.size, k, none⟩) (jr _) _, HST.out⟩
   case measure => simp [intOf]; have := HM.out; omega
  ·have hkN : k = N := by omega
   subst hkN; have hgF : wr.heap[W1.heap.size]? = some (.cells (il (yCk (fun u => whD D (wh.take 0) u (trD (yAZ D ts nm u))) n)) 3) := by rw [hg9, ← HN.out, yDP]; rfl
   have HB9 := jh hb9; have HGF := jh hgF; clear hg9 hb9 hgF hm; go_wp2_with fail; clear y0 y1 z0 z1 z2 z3; go_loopw [7] (fun v wq => ∃ q : Nat, v = .int .i64 q ∧ q ≤ xn ∧ Below W1.heap.size W1 wq ∧ wq.heap[W1.heap.size]? = some (.cells (il (yCk (fun u => whD D (wh.take q) u (trD (yAZ D ts nm u))) n)) 3)) (fun v _ => xn - (intOf v).toNat)
   case atStart => exact ⟨0, rfl, jz _, HB9.out, HGF.out⟩
   case round =>
    revert hrel; revert wr; intro wq hrel; obtain ⟨q, rfl, hq, hb, hg⟩ := hrel; obtain ⟨y0, y1, z0, z1, z2, z3, hs0, hs1⟩ := HK.out wq hb; have hgs : W1.heap.size < wq.heap.size := jl hg; by_cases hqn : q < xn
    ·have hqn' : (q : Int) < xn := by omega
     obtain ⟨b, o, op, args, sts, nm2, cmp, txt, num, a1, n1, c1, a2, n2, c2, e5, hbs, hel, d0, d1, d2, d3, d4, d5, d6, hA, hS⟩ := (HF.out wq hb).elem q hqn; subst e5; obtain ⟨x, hxe⟩ := je (Gim.Ex.mk op args sts nm2 cmp txt num); have HEX : Hid (∀ W, Below wq.heap.size wq W → Calls Tryz.prog 29 #[.agg #[.slice a n cap, .bool c], .agg #[.int .i64 op, .slice a1 n1 c1, .slice a2 n2 c2, .string nm2, .int .i64 cmp, .string txt, .int .i64 num]] W fun e w' => ∃ g, e = .returned (.slice (some ⟨g, 0, none⟩) k k) ∧ w'.heap[g]? = some (.cells (il (yCk (fun u => exD D x u) n)) 3) ∧ W.heap.size ≤ g ∧ Below W.heap.size W w') := jh fun W hW => by have := HX.out _ (List.mem_of_getElem? hel) W a1 n1 c1 a2 n2 c2 (HD.out W (hb.trans (hW.mono hb.size))) (hA.below hW) (hS.below hW); rw [HC.out, hxe] at this; have hk := HN.out; unfold yHN at this; rw [hk] at this; exact this
     have HSS : Hid (∀ W, Below wq.heap.size wq W → W.cell? ⟨w.heap.size, 0, none⟩ = some (.slice a n cap) ∧ W.cell? ⟨w.heap.size, 1, none⟩ = some (.bool c) ∧ W.cell? ⟨w.heap.size + 1, 3, none⟩ = some (.slice (some ⟨b, o, none⟩) xn xc) ∧ W.cell? ⟨b, o + q * 7, none⟩ = some (.int .i64 op) ∧ W.cell? ⟨b, o + q * 7 + 1, none⟩ = some (.slice a1 n1 c1) ∧ W.cell? ⟨b, o + q * 7 + 2, none⟩ = some (.slice a2 n2 c2) ∧ W.cell? ⟨b, o + q * 7 + 3, none⟩ = some (.string nm2) ∧ W.cell? ⟨b, o + q * 7 + 4, none⟩ = some (.int .i64 cmp) ∧ W.cell? ⟨b, o + q * 7 + 5, none⟩ = some (.string txt) ∧ W.cell? ⟨b, o + q * 7 + 6, none⟩ = some (.int .i64 num)) := jh fun W hW => by
      obtain ⟨y0, y1, _, _, _, z3, _, _⟩ := HK.out W (hb.trans (hW.mono hb.size)); have hc : ∀ j, W.cell? ⟨b, j, none⟩ = wq.cell? ⟨b, j, none⟩ := fun j => hW.cell (p := ⟨b, j, none⟩) hbs
      exact ⟨y0, y1, z3, (hc _).trans d0, (hc _).trans d1, (hc _).trans d2, (hc _).trans d3, (hc _).trans d4, (hc _).trans d5, (hc _).trans d6⟩
     rw [hxe] at hel; have HNX : Hid (wh.take (q + 1) = wh.take q ++ [x]) := jh (yAT hel); have HG := jh hg; have HB := jh hb; clear hA hS hel hg hb hxe; go_upto_region 9 with fail; go_region_held3 (fun W => W.cell? ⟨w.heap.size, 0, none⟩ = some (.slice a n cap) ∧ W.cell? ⟨w.heap.size, 1, none⟩ = some (.bool c) ∧ W.cell? ⟨w.heap.size + 1, 3, none⟩ = some (.slice (some ⟨b, o, none⟩) xn xc) ∧ W.cell? ⟨b, o + q * 7, none⟩ = some (.int .i64 op) ∧ W.cell? ⟨b, o + q * 7 + 1, none⟩ = some (.slice a1 n1 c1) ∧ W.cell? ⟨b, o + q * 7 + 2, none⟩ = some (.slice a2 n2 c2) ∧ W.cell? ⟨b, o + q * 7 + 3, none⟩ = some (.string nm2) ∧ W.cell? ⟨b, o + q * 7 + 4, none⟩ = some (.int .i64 cmp) ∧ W.cell? ⟨b, o + q * 7 + 5, none⟩ = some (.string txt) ∧ W.cell? ⟨b, o + q * 7 + 6, none⟩ = some (.int .i64 num)) (first | go_keep | exact ⟨by assumption, by assumption, by assumption, by assumption, by assumption, by assumption, by assumption, by assumption, by assumption, by assumption⟩ | exact HSS.out _ (by assumption)) (first
      | (go_at_call 29; refine (HEX.out _ (by first | exact jf _ _ | exact (jf _ _).drew)).mono ?_; rintro e w5 ⟨ga, rfl, hga, hgl, hb5⟩; have hbq : Below wq.heap.size wq w5 := (by first | exact hb5 | exact ((jf _ _).drew).trans hb5); have hgl2 : wq.heap.size ≤ ga := (by first | exact hgl | simpa using hgl); have HGA := jh hga; have HBQ := jh hbq; have HGL := jh hgl2; clear hga hgl hb5 hgl2))
     all_goals
      have HG5 := jh ((HBQ.out.block _ hgs).trans HG.out); have HB5 := jh (HB.out.trans (HBQ.out.mono HB.out.size)); have hgne : W1.heap.size ≠ ga := by have := HGL.out; omega
      clear hbq d0 d1 d2 d3 d4 d5 d6 y0 y1 z0 z1 z2 z3 hbs hs0 hs1; go_wp2_with fail; go_loopw [9] (fun v wz => ∃ i : Nat, v = .int .i64 i ∧ i ≤ k ∧ Below W1.heap.size W1 wz ∧ wz.heap[W1.heap.size]? = some (.cells (il (yCu (fun u => yB6 (whD D (wh.take q) u (trD (yAZ D ts nm u))) (exD D x u)) (fun u => whD D (wh.take q) u (trD (yAZ D ts nm u))) n i)) 3) ∧ wz.heap[ga]? = some (.cells (il (yCk (fun u => exD D x u) n)) 3)) (fun v _ => k - (intOf v).toNat)
      case atStart => exact ⟨0, rfl, jz _, HB5.out, by rw [yGO]; exact HG5.out, HGA.out⟩
      case round =>
       revert hrel; revert wr; intro wz hrel; obtain ⟨i, rfl, hi, hbz, hgz, haz⟩ := hrel; by_cases hin : i < k
       ·have hin' : (i : Int) < k := by omega
        have hin2 : i ≤ n := by have := HN.out; omega
        obtain ⟨u, hu⟩ : ∃ u : Int, u + 1 = i := ⟨(i : Int) - 1, by omega⟩
        have k1 := yAy hgz (yET (fun u => yB6 (whD D (wh.take q) u (trD (yAZ D ts nm u))) (exD D x u)) (fun u => whD D (wh.take q) u (trD (yAZ D ts nm u))) hin2 hu); have k2 := yAy haz (yGl (fun u => exD D x u) hin2 hu); have zf := yAd hgz i; have hst := yBB (i := i) hgz (yB6 (whD D (wh.take q) u (trD (yAZ D ts nm u))) (exD D x u)); rw [yCX _ _ hu rfl] at hst; have HST := jh hst; have HST2 := jh ((js wz ⟨W1.heap.size, i, none⟩ (.int .i64 (yB6 (whD D (wh.take q) u (trD (yAZ D ts nm u))) (exD D x u))) ga (Ne.symm hgne)).trans haz); have HBS := jh (hbz.setCell (p := ⟨W1.heap.size, i, none⟩) (jr _) (.int .i64 (yB6 (whD D (wh.take q) u (trD (yAZ D ts nm u))) (exD D x u)))); have hgz1 : W1.heap.size < wz.heap.size := jl hgz; have hgz2 : ga < wz.heap.size := jl haz; obtain ⟨p1, hp1⟩ := je (whD D (wh.take q) u (trD (yAZ D ts nm u))); obtain ⟨p2, hp2⟩ := je (exD D x u); rw [hp1, hp2] at HST HST2 HBS; simp only [hp1] at k1; simp only [hp2] at k2; clear hp1 hp2 hgz haz hst hbz hu; go_upto_region 13 with fail; go_region_with (first
         | (go_at_call 53; refine (yEM _ _ _).mono ?_; rintro e w' ⟨rfl, rfl⟩))
        all_goals
         go_wp2_with fail; go_roundw
         case rel => exact ⟨i + 1, by go_num, hin, by first | exact HBS.out | exact HBS.out.drew, HST.out, HST2.out⟩
         case measure => simp [intOf]; omega
       ·have hik : i = k := by omega
        subst hik; have hgz' : wz.heap[W1.heap.size]? = some (.cells (il (yCk (fun u => whD D (wh.take (q + 1)) u (trD (yAZ D ts nm u))) n)) 3) := by rw [hgz, ← HN.out, yDP, HNX.out]; simp only [yLE]
        have HGZ := jh hgz'; have HBZ := jh hbz; clear hgz hgz' haz hbz; go_wp2_with fail; go_roundw
        case rel => exact ⟨q + 1, by go_num, hqn, HBZ.out, HGZ.out⟩
        case measure => simp [intOf]; omega
    ·have hqe : q = xn := by omega
     have hfin : wq.heap[W1.heap.size]? = some (.cells (il (yCk (fun u => yI5 D (.mk ax ts nm wh) u) n)) 3) := by rw [hg, hqe, jm (by rw [HLN.out]; omega)]; rfl
     have HFI := jh hfin; have HBF := jh (HB1.out.trans (hb.mono HB1.out.size)); have HB1S := jh HB1.out.size; have HNE := jh HN.out; subst hqe; clear hg hb hfin; go_wp2_with fail; go_ret; exact ⟨W1.heap.size, by rw [HNE.out]; first | done | rfl, HFI.out, HB1S.out, HBF.out⟩
end
theorem set_self {l : List Int} {k : Nat} {x : Int} (h : l[k]? = some x) : l.set k x = l := by
 refine List.ext_getElem? fun j => ?_
 rw [List.getElem?_set]; by_cases e : k = j
 ·subst e; rw [if_pos rfl, if_pos (ji.1 h).1, h]
 ·rw [if_neg e]
def yC3 (E : Int → Int) (l : List Int) : Int := l.foldl (fun a u => orD a (E u)) 0
theorem yNN (E : Int → Int) (l : List Int) (u : Int) : yC3 E (l ++ [u]) = orD (yC3 E l) (E u) := by simp [yC3]
theorem ySQ {l : List Int} {i : Nat} (h : i < l.length) : l.take (i + 1) = l.take i ++ [gt l i] := by rw [yFf h, List.take_append_getElem h]
section
attribute [local go_sem ↓] Go.wp_at_zero Go.wp_at_succ
variable {D : yAn} {a : Option Addr} {n cap : Nat}
theorem yKt (w : World) (h : yDH w D a n cap) (hlast : ∀ m : Int, -1 ≤ m → m < n → yAY D m < n ∧ m ≤ yAY D m) (ax ts : Int) (nm : ByteArray) (wh : List Ex) (xa : Option Addr) (xn xc : Nat) (hF : yAM w wh xa xn xc) (hxn : xn ≤ 1048576) (hx : ∀ x ∈ wh, yQz D a n cap x) (G : Int → Int) (r : Nat) (hr : w.heap[r]? = some (.cells (il (yCk G n)) 3)) :
  Calls Tryz.prog 51 #[.agg #[.slice a n cap, .bool D.closed], .agg #[.int .i64 ax, .int .i64 ts, .string nm, .slice xa xn xc], .slice (some ⟨r, 0, none⟩) (n + 1) (n + 1)] w (yHN w (fun m => yCv D ax (fun u => yB6 (yI5 D (.mk ax ts nm wh) u) (G u)) m) n) := by
 have hns := h.small; obtain ⟨c, hc⟩ := je (D.closed); obtain ⟨N, hN⟩ := je (n + 1); obtain ⟨M, hM⟩ := je ((fun m => yI5 D (.mk ax ts nm wh) m)); obtain ⟨E, hE⟩ := je ((fun u => yB6 (M u) (G u))); obtain ⟨S, hS⟩ := je ((fun m => yCv D ax E m)); obtain ⟨W1, hW1⟩ := je ((w.alloc (.cells #[.slice a n cap, .bool c] 78)).alloc (.cells #[.int .i64 ax, .int .i64 ts, .string nm, .slice xa xn xc] 64)); obtain ⟨hX1, hY1, hsz1, b1⟩ := yDj w (.cells #[.slice a n cap, .bool c] 78) (.cells #[.int .i64 ax, .int .i64 ts, .string nm, .slice xa xn xc] 64); rw [hW1] at hX1 hY1 hsz1 b1; have hXs : w.heap.size < W1.heap.size := by omega
 have hYs : w.heap.size + 1 < W1.heap.size := by omega
 have hrs : r < w.heap.size := jl hr; have hr1 := (b1.block r hrs).trans hr; have hrs1 : r < W1.heap.size := by omega
 have HK : Hid (∀ W, Below W1.heap.size W1 W → W.cell? ⟨w.heap.size, 0, none⟩ = some (.slice a n cap) ∧ W.cell? ⟨w.heap.size, 1, none⟩ = some (.bool c) ∧ W.cell? ⟨w.heap.size + 1, 0, none⟩ = some (.int .i64 ax) ∧ W.cell? ⟨w.heap.size + 1, 1, none⟩ = some (.int .i64 ts) ∧ W.cell? ⟨w.heap.size + 1, 2, none⟩ = some (.string nm) ∧ W.cell? ⟨w.heap.size + 1, 3, none⟩ = some (.slice xa xn xc) ∧ w.heap.size < W.heap.size ∧ w.heap.size + 1 < W.heap.size) := jh fun W hW => by have e1 := (hW.block _ hXs).trans hX1; have e2 := (hW.block _ hYs).trans hY1; have := hW.size; exact ⟨by simp [World.cell?, e1], by simp [World.cell?, e1], by simp [World.cell?, e2], by simp [World.cell?, e2], by simp [World.cell?, e2], by simp [World.cell?, e2], by omega, by omega⟩
 have HR : Hid (∀ W, Below W1.heap.size W1 W → W.heap[r]? = some (.cells (il (yCk G n)) 3)) := jh fun W hW => (hW.block r hrs1).trans hr1
 have HD : Hid (∀ W, Below W1.heap.size W1 W → yDH W D a n cap) := jh fun W hW => (h.below b1).below hW
 have HMT : Hid (Calls Tryz.prog 85 #[.agg #[.slice a n cap, .bool c], .agg #[.int .i64 ax, .int .i64 ts, .string nm, .slice xa xn xc]] W1 fun e w' => ∃ g, e = .returned (.slice (some ⟨g, 0, none⟩) N N) ∧ w'.heap[g]? = some (.cells (il (yCk M n)) 3) ∧ W1.heap.size ≤ g ∧ Below W1.heap.size W1 w') := jh (by have := yPs (D := D) W1 (h.below b1) ax ts nm wh xa xn xc (hF.below b1) hxn hx; rw [hc, hM] at this; unfold yHN at this; rw [hN] at this; exact this); have HLA := jh hlast; have HO : Hid (∀ W, Below W1.heap.size W1 W → ∀ m : Int, -1 ≤ m → m < n → Calls Tryz.prog 83 #[.agg #[.slice a n cap, .bool c], .int .i64 m] W fun e w' => e = .returned (.bool (yB7 D m)) ∧ Below W.heap.size W w') := jh fun W hW m h1 h2 => by have := yHp (D := D) W ((h.below b1).below hW) h1 h2; rw [hc] at this; exact this
 have HS1 : Hid (∀ m, S m = if ax ≠ 3 ∧ yB7 D m = true then orD (yC3 E (yBS D m ax)) 1 else yC3 E (yBS D m ax)) := jh fun m => by rw [← hS]; rfl
 have HEE : Hid (∀ u, E u = yB6 (M u) (G u)) := jh fun u => by rw [← hE]
 have hmk := fun W => run_make_row' (P := Tryz.prog) 53 3 (.int .i64 0) 8 Tryz.underlying53 (by kernel_rfl) rfl .i64 .i64 N (by omega) (by omega) W
 have HB1 := jh b1; have HW1 := jh hW1; have hNb : N ≤ 1048577 := by omega
 have hnN : (n : Int) + 1 = N := by omega
 have HN := jh hN; obtain ⟨y0, y1, z0, z1, z2, z3, _, _⟩ := HK.out W1 (jf _ _); have hgoal : (fun m => yCv D ax (fun u => yB6 (yI5 D (.mk ax ts nm wh) u) (G u)) m) = S := by rw [← hS, ← hE, ← hM]
 rw [hc, hgoal]; unfold yHN; rw [hN]; clear h b1 hX1 hY1 hW1 hx hF hc hsz1 hr hr1 hlast hN hM hE hS hrs hgoal; go_enter Tryz.func51, Tryz.ntmps51; go_upto_region 1 with fail; rw [HW1.out]; go_wp2_with fail; refine HMT.out.mono ?_; rintro e w2 ⟨gm, rfl, hgm, hgml, hb2⟩; obtain ⟨W3, hW3⟩ := je (w2.alloc (.cells (madeCells #[.int .i64 0] N) 3)); have b3 : Below w2.heap.size w2 W3 := by rw [← hW3]; exact (jf _ _).alloc (jr _) _
 have hG3 : W3.heap[w2.heap.size]? = some (.cells (il (yCu S (fun _ => 0) n 0)) 3) := by rw [← hW3, jw, yDr, ← HN.out, yES, yGO]
 have hgms : gm < w2.heap.size := jl hgm; have HGM : Hid (∀ W, Below w2.heap.size w2 W → W.heap[gm]? = some (.cells (il (yCk M n)) 3)) := jh fun W hW => (hW.block gm hgms).trans hgm
 have HB2 := jh hb2; have HB3 := jh b3; have HG3 := jh hG3; have HW3 := jh hW3; clear y0 y1 z0 z1 z2 z3 hgm hb2 b3 hG3 hW3; go_upto_region 3 with fail; rw [HW3.out]; go_wp2_with fail; clear hmk; go_loopw [9] (fun v wr => ∃ (k : Nat) (m : Int), v = .int .i64 m ∧ Hid (m + 1 = k) ∧ k ≤ N ∧ Below w2.heap.size w2 wr ∧ wr.heap[w2.heap.size]? = some (.cells (il (yCu S (fun _ => 0) n k)) 3)) (fun v _ => ((n : Int) - intOf v).toNat)
 case atStart => exact ⟨0, -1, rfl, jh (by decide), jz _, HB3.out, HG3.out⟩
 case round =>
  obtain ⟨k, m, rfl, HM, hk, hb9, hg9⟩ := hrel; have hm := HM.out; have hb91 := HB2.out.trans (hb9.mono HB2.out.size); obtain ⟨y0, y1, z0, z1, z2, z3, hs0, hs1⟩ := HK.out wr hb91; have hgs : w2.heap.size < wr.heap.size := jl hg9; by_cases hin : m < n
  ·have hkN : k < N := by omega
   have hkN' : (k : Int) < N := by omega
   have hm1 : -1 ≤ m := by omega
   have e1 : IntKind.i64.wrap (m + 1) = (k : Int) := by rw [hm]; exact IntWalk.i64_in _ (by omega)
   have hkn : k ≤ n := by omega
   obtain ⟨hl1, hl2⟩ := HLA.out m hm1 hin; have HG9 := jh hg9; have HB9 := jh hb9; have HB91 := jh hb91; clear hg9 hb9 hb91 hm; go_wp2_with fail; refine (yKW (D := D) wr (HD.out wr HB91.out) hm1 hin hl1 hl2).mono ?_; rintro e w5 ⟨v5, rfl, hrow5, hb5⟩; obtain ⟨L, hL⟩ := je (yBS D m ax); have hmem : ∀ i, i < L.length → -1 ≤ gt L i ∧ gt L i < n := fun i hi => by
    have hu : gt L i ∈ yBS D m ax := by rw [hL]; exact yS7 hi
    rw [yBj] at hu; rcases hu with ⟨_, e⟩ | ⟨u1, u2, _⟩ <;> omega
   rw [hL] at hrow5; obtain ⟨ta, tc, e5, hrd5⟩ := hrow5.rd; have hlt5 := hrow5.lt; subst e5; obtain ⟨tn, htn⟩ := je (L.length); rw [htn] at hrd5 hmem; have HTL : Hid (∀ W : World, w5.heap.size ≤ W.heap.size → (∀ b, b ≠ w2.heap.size → b < w5.heap.size → W.heap[b]? = w5.heap[b]?) → ∀ i, i < tn → ∃ b o, ta = some ⟨b, o, none⟩ ∧ b < W.heap.size ∧ W.cell? ⟨b, o + i, none⟩ = some (.int .i64 (gt L i))) := jh fun W hs hW i hi => by obtain ⟨b, o, e, hb, hcell⟩ := hrd5.cell i hi; have hbb := (hlt5 b (by rw [e]; rfl)).1; have hbk := hW b (by omega) hb; refine ⟨b, o, e, by omega, ?_⟩; have := hcell i hi; unfold World.cell? at this ⊢; rw [hbk]; exact this
   have htle := hrd5.le; have htcl := hrd5.cap_le; have htb : tn ≤ 1048578 := by rw [← htn, ← hL]; have := yKh D m ax (yAY D m - m).toNat; rw [yJF] at this; omega
   have HMEM := jh hmem; have HTN := jh htn; have HLL := jh hL; have hg5 := (hb5.block _ hgs).trans HG9.out; have hg5' : w5.heap[w2.heap.size]? = some (.cells (il ((yCu S (fun _ => 0) n k).set k (yC3 E (L.take 0)))) 3) := by
    have h0 : yC3 E (L.take 0) = 0 := by simp [yC3]
    rw [h0, set_self (x := 0) (yET S (fun _ => 0) hkn HM.out)]; exact hg5
   have HG5 := jh hg5'; have HB5 := jh (HB9.out.trans (hb5.mono HB9.out.size)); rw [htn]; clear hrow5 hlt5 hrd5 hmem hb5 hg5 hg5' htn hL y0 y1 z0 z1 z2 z3; go_wp2_with fail; go_loopw [11] (fun v wz => ∃ i : Nat, v = .int .i64 i ∧ i ≤ tn ∧ Below w2.heap.size w2 wz ∧ w5.heap.size ≤ wz.heap.size ∧ (∀ b, b ≠ w2.heap.size → b < w5.heap.size → wz.heap[b]? = w5.heap[b]?) ∧ wz.heap[w2.heap.size]? = some (.cells (il ((yCu S (fun _ => 0) n k).set k (yC3 E (L.take i)))) 3)) (fun v _ => tn - (intOf v).toNat)
   case atStart => exact ⟨0, rfl, jz _, HB5.out, jr _, fun _ _ _ => rfl, HG5.out⟩
   case round =>
    revert hrel; revert wr; intro wz hrel; obtain ⟨i, rfl, hi, hbz, hsz, hoz, hgz⟩ := hrel; have hbz1 := HB2.out.trans (hbz.mono HB2.out.size); have hgzs : w2.heap.size < wz.heap.size := jl hgz; have zf := yAd hgz k; by_cases hit : i < tn
    ·have hit' : (i : Int) < tn := by omega
     obtain ⟨b, o, e6, hbs6, cu⟩ := HTL.out wz hsz hoz i hit; subst e6; obtain ⟨u1, u2⟩ := HMEM.out i hit; obtain ⟨u, hu⟩ := je (gt L i); rw [hu] at cu u1 u2; obtain ⟨q, hq⟩ := Int.eq_ofNat_of_zero_le (show 0 ≤ u + 1 by omega); have e2 : IntKind.i64.wrap (u + 1) = (q : Int) := by rw [hq]; exact IntWalk.i64_in _ (by omega)
     have hqN' : (q : Int) < N := by omega
     have hqn : q ≤ n := by omega
     have k0 := yAy hgz (List.getElem?_set_self (by rw [yI2]; omega)); have k1 := yAy (HGM.out wz hbz) (yGl M hqn hq); have k2 := yAy (HR.out wz hbz1) (yGl G hqn hq); obtain ⟨A, hA⟩ := je (yC3 E (L.take i)); obtain ⟨p1, hp1⟩ := je (M u); obtain ⟨p2, hp2⟩ := je (G u); have hB : yC3 E (L.take (i + 1)) = orD A (yB6 p1 p2) := by rw [ySQ (by rw [HTN.out]; exact hit), yNN, hu, HEE.out, hA, hp1, hp2]
     have HST := jh (show (wz.setCell ⟨w2.heap.size, k, none⟩ (.int .i64 (orD A (yB6 p1 p2)))).heap[w2.heap.size]? = some (.cells (il ((yCu S (fun _ => 0) n k).set k (yC3 E (L.take (i + 1))))) 3) by rw [yBB hgz, List.set_set, hB]); have HBS := jh (hbz.setCell (p := ⟨w2.heap.size, k, none⟩) (jr _) (.int .i64 (orD A (yB6 p1 p2)))); have HOS : Hid (∀ b, b ≠ w2.heap.size → b < w5.heap.size → (wz.setCell ⟨w2.heap.size, k, none⟩ (.int .i64 (orD A (yB6 p1 p2)))).heap[b]? = w5.heap[b]?) := jh fun b h1 h2 => (js _ _ _ _ h1).trans (hoz b h1 h2)
     have HSZ : Hid (w5.heap.size ≤ (wz.setCell ⟨w2.heap.size, k, none⟩ (.int .i64 (orD A (yB6 p1 p2)))).heap.size) := jh (by rw [jv]; exact hsz); have hgm2 : gm < wz.heap.size := Nat.lt_trans hgms hgzs; have hr2 : r < wz.heap.size := by have := HB2.out.size; omega
     rw [hA] at k0; rw [hp1] at k1; rw [hp2] at k2; clear hbz hsz hoz hgz hbz1 hA hp1 hp2 hB hu hq u1 u2; go_upto_region 10 with fail; go_region_with (first
      | (go_at_call 53; refine (yEM _ _ _).mono ?_; rintro e w' ⟨rfl, rfl⟩)
      | (go_at_call 54; refine (yFF _ _ _).mono ?_; rintro e w' ⟨rfl, rfl⟩))
     all_goals
      go_wp2_with fail; go_roundw
      case rel => exact ⟨i + 1, by go_num, hit, by first | exact HBS.out | exact HBS.out.drew, HSZ.out, HOS.out, HST.out⟩
      case measure => simp [intOf]; omega
    ·have hie : i = tn := by omega
     have hgf : wz.heap[w2.heap.size]? = some (.cells (il ((yCu S (fun _ => 0) n k).set k (yC3 E L))) 3) := by rw [hgz, hie, jm (by rw [HTN.out]; omega)]
     obtain ⟨ax3, hax3⟩ : ∃ ax3, ax3 = ax := ⟨_, rfl⟩
     obtain ⟨y0, y1, z0, z1, z2, z3, hs0, hs1⟩ := HK.out wz hbz1; rw [← hax3] at z0; have hSm := HS1.out m; rw [HLL.out, ← hax3] at hSm; have HO2 := jh (HO.out wz hbz1 m hm1 hin); have hbz0 := hbz; subst hie; clear hgz hsz hoz hbz1 hit hax3; by_cases h3 : ax3 = 3
     ·subst h3; have HFIN := jh (show wz.heap[w2.heap.size]? = some (.cells (il (yCu S (fun _ => 0) n (k + 1))) 3) by rw [hgf, yCX S (fun _ => 0) HM.out (by rw [hSm, if_neg (fun h => h.1 rfl)])]); have HBF := jh hbz; clear hgf hSm hbz hbz0; go_wp2_with fail; go_roundw
      case rel => exact ⟨k + 1, (k : Int), rfl, jh (by push_cast; rfl), hkN, HBF.out, HFIN.out⟩
      case measure => simp [intOf]; have := HM.out; omega
     ·have q3 : (ax3 != 3) = true := by simpa using h3
      have q4 : (ax3 == 3) = false := jn.2 h3; obtain ⟨op, hop⟩ := je (yB7 D m); rw [hop] at hSm HO2; have HGF := jh hgf; have HBF := jh hbz; cases op with
      | false =>
       have HSM := jh (show yC3 E L = S m by rw [hSm, if_neg (fun h => by cases h.2)]); clear hgf hSm hbz hop hbz0 h3; go_wp2_with fail; refine HO2.out.mono ?_; rintro e w7 ⟨rfl, hb7⟩; have HFIN := jh (show w7.heap[w2.heap.size]? = some (.cells (il (yCu S (fun _ => 0) n (k + 1))) 3) by rw [hb7.block _ hgzs, HGF.out, yCX S (fun _ => 0) HM.out HSM.out]); have HB7 := jh (HBF.out.trans (hb7.mono HBF.out.size)); clear hb7; go_wp2_with fail; go_roundw
       case rel => exact ⟨k + 1, (k : Int), rfl, jh (by push_cast; rfl), hkN, HB7.out, HFIN.out⟩
       case measure => simp [intOf]; have := HM.out; omega
      | true =>
       have HSM := jh (show orD (yC3 E L) 1 = S m by rw [hSm, if_pos ⟨h3, rfl⟩]); clear hgf hSm hbz hop hbz0 h3; go_wp2_with fail; refine HO2.out.mono ?_; rintro e w7 ⟨rfl, hb7⟩; have hg7 := (hb7.block _ hgzs).trans HGF.out; have k0 := yAy hg7 (List.getElem?_set_self (by rw [yI2]; omega)); have zf7 := yAd hg7 k; obtain ⟨A, hA⟩ := je (yC3 E L); have HFIN := jh (show (w7.setCell ⟨w2.heap.size, k, none⟩ (.int .i64 (orD A 1))).heap[w2.heap.size]? = some (.cells (il (yCu S (fun _ => 0) n (k + 1))) 3) by rw [yBB hg7, List.set_set, yCX S (fun _ => 0) HM.out (by rw [← hA]; exact HSM.out)]); have HB7 := jh ((HBF.out.trans (hb7.mono HBF.out.size)).setCell (p := ⟨w2.heap.size, k, none⟩) (jr _) (.int .i64 (orD A 1))); have hg7s : w2.heap.size < w7.heap.size := jl hg7; rw [hA] at k0; clear hb7 hg7 hA; go_wp2_with (first
        | (go_at_call 54; refine (yFF _ _ _).mono ?_; rintro e w' ⟨rfl, rfl⟩))
       go_roundw
       case rel => exact ⟨k + 1, (k : Int), rfl, jh (by push_cast; rfl), hkN, HB7.out, HFIN.out⟩
       case measure => simp [intOf]; have := HM.out; omega
  ·have hkN : k = N := by omega
   subst hkN; have HFI := jh (show wr.heap[w2.heap.size]? = some (.cells (il (yCk S n)) 3) by rw [hg9, ← HN.out, yDP]); have HBF := jh (HB1.out.trans (hb91.mono HB1.out.size)); have HL2 : Hid (w.heap.size ≤ w2.heap.size) := jh (ju HB1.out.size HB2.out.size); clear hg9 hb9 hb91 hm; go_wp2_with fail; go_ret; exact ⟨w2.heap.size, rfl, HFI.out, HL2.out, HBF.out⟩
end
end Go.Proofs.YtkhejkfjhddobaaGreatDoor
