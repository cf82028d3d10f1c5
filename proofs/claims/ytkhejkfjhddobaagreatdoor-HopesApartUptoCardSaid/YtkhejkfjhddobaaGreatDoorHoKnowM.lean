/- (*Hopes).know in plain terms. -/
import Derived.Test.YtkhejkfjhddobaaGreatDoorHoFindWalk
import Derived.Deep.DrawnRows
set_option maxRecDepth 100000
set_option maxHeartbeats 64000000
namespace Go.Proofs.YtkhejkfjhddobaaGreatDoor
open Go.RowKit Gim
def yIy (f : FrS) (ib : Option (List Int × List Int)) (i : Nat) : Int :=
 match ib with
 | none => if f.deep.getD i false then 2 else 0
 | some p => orF [if f.deep.getD i false then 2 else 0, p.1.getD i 0, p.2.getD i 0]
def yI0 (nr : Nat) (f : FrS) (ib : Option (List Int × List Int)) : List Int := (List.range nr).map (yIy f ib)
def fr0 : FrS := ⟨0, ByteArray.empty, [], [], [], []⟩
def yBg (nd : yAc) (fs : List FrS) (done : Bool) : Nat → (List (List Int) × Option (List Int × List Int))
 | 0 => ([], none)
 | d + 1 =>
  ((yBT nd (fs.getD (fs.length - (d + 1)) fr0) (decide (0 < fs.length - (d + 1)) || !done) (yBg nd fs done d).2).1 :: (yBg nd fs done d).1,
   some ((yBT nd (fs.getD (fs.length - (d + 1)) fr0) (decide (0 < fs.length - (d + 1)) || !done) (yBg nd fs done d).2).2, yI0 nd.rows.length (fs.getD (fs.length - (d + 1)) fr0) (yBg nd fs done d).2))
def yCY (nd : yAc) (fs : List FrS) (done : Bool) : List (List Int) := (yBg nd fs done fs.length).1
theorem yDW (nd : yAc) (fs : List FrS) (done : Bool) : ∀ d, (yBg nd fs done d).1.length = d
 | 0 => rfl
 | d + 1 => by unfold yBg; rw [List.length_cons, yDW nd fs done d]
theorem yD4 (nd : yAc) (fs : List FrS) (done : Bool) {p : Nat} (hp : p < fs.length) : yBg nd fs done (fs.length - p) =
  ((yBT nd (fs.getD p fr0) (decide (0 < p) || !done) (yBg nd fs done (fs.length - (p + 1))).2).1 :: (yBg nd fs done (fs.length - (p + 1))).1,
   some ((yBT nd (fs.getD p fr0) (decide (0 < p) || !done) (yBg nd fs done (fs.length - (p + 1))).2).2, yI0 nd.rows.length (fs.getD p fr0) (yBg nd fs done (fs.length - (p + 1))).2)) := by
 obtain ⟨d, hd⟩ := je (fs.length - (p + 1)); rw [hd, show fs.length - p = d + 1 by omega]; show ((yBT nd (fs.getD (fs.length - (d + 1)) fr0) (decide (0 < fs.length - (d + 1)) || !done) (yBg nd fs done d).2).1 :: (yBg nd fs done d).1, _) = _; rw [show fs.length - (d + 1) = p by omega]
def FrsR (W : World) (a : Option Addr) (n cap nr np : Nat) (fs : List FrS) (ps : List Nat) : Prop := fs.length = n ∧ n ≤ cap ∧ ∀ i, i < n → ∃ b o tg j, a = some ⟨b, o, none⟩ ∧ b < W.heap.size ∧ W.cell? ⟨b, o + i, none⟩ = some (.pointer (some ⟨ps.getD i 0, 0, none⟩)) ∧ FrM W tg j (ps.getD i 0) nr np (fs.getD i fr0)
structure KnM (w wx : World) (kB np k : Nat) (ks : List (List Int)) : Prop where
 kb : ∃ vl : List Value, wx.heap[kB]? = some (.cells vl.toArray 84) ∧ vl.length = k + ks.length ∧ ∀ i l, ks[i]? = some l → ∃ t, vl[k + i]? = some (.slice (some ⟨t, 0, none⟩) np np) ∧ wx.heap[t]? = some (.cells (il l) 67) ∧ w.heap.size ≤ t ∧ t ≠ kB
 lo : w.heap.size ≤ kB
theorem KnM.keep {w wx wy : World} {kB np k : Nat} {ks : List (List Int)} (h : KnM w wx kB np k ks) (hb : Below wx.heap.size wx wy) : KnM w wy kB np k ks := by obtain ⟨vl, h1, h2, h3⟩ := h.kb; refine ⟨⟨vl, (hb.block kB (jl h1)).trans h1, h2, fun i l hl => ?_⟩, h.lo⟩; obtain ⟨t, e1, e2, e3, e4⟩ := h3 i l hl; exact ⟨t, e1, (hb.block t (jl e2)).trans e2, e3, e4⟩
theorem KnM.store {w wx : World} {kB np k t : Nat} {ks : List (List Int)} (h : KnM w wx kB np (k + 1) ks) {l : List Int} (ht : wx.heap[t]? = some (.cells (il l) 67)) (hlo : w.heap.size ≤ t) (hne : t ≠ kB) : KnM w (wx.setCell ⟨kB, k, none⟩ (.slice (some ⟨t, 0, none⟩) np np)) kB np k (l :: ks) := by
 obtain ⟨vl, h1, h2, h3⟩ := h.kb; refine ⟨⟨vl.set k (.slice (some ⟨t, 0, none⟩) np np), ?_, by rw [List.length_set, h2, List.length_cons]; omega, fun i l' hl => ?_⟩, h.lo⟩
 ·rw [yAu h1]; simp
 ·cases i with
  | zero =>
   simp only [List.getElem?_cons_zero, Option.some.injEq] at hl; subst hl; refine ⟨t, ?_, (js wx ⟨kB, k, none⟩ _ t hne).trans ht, hlo, hne⟩; rw [Nat.add_zero, List.getElem?_set_self (by omega)]
  | succ i =>
   rw [List.getElem?_cons_succ] at hl; obtain ⟨t', e1, e2, e3, e4⟩ := h3 i l' hl; refine ⟨t', ?_, (js wx ⟨kB, k, none⟩ _ t' e4).trans e2, e3, e4⟩; rw [List.getElem?_set_ne (by omega), show k + (i + 1) = k + 1 + i by omega]; exact e1
theorem KnM.cell {w wx : World} {kB np k : Nat} {ks : List (List Int)} (h : KnM w wx kB np k ks) {i : Nat} {l : List Int} (hl : ks[i]? = some l) : ∃ t, wx.cell? ⟨kB, k + i, none⟩ = some (.slice (some ⟨t, 0, none⟩) np np) ∧ wx.heap[t]? = some (.cells (il l) 67) ∧ w.heap.size ≤ t ∧ t ≠ kB := by obtain ⟨vl, h1, h2, h3⟩ := h.kb; obtain ⟨t, e1, e2, e3⟩ := h3 i l hl; refine ⟨t, ?_, e2, e3⟩; simp [World.cell?, h1, e1]
theorem KnM.some {w wx : World} {kB np k : Nat} {ks : List (List Int)} (h : KnM w wx kB np k ks) {i : Nat} (hi : i < k + ks.length) : ∃ v, wx.cell? ⟨kB, i, none⟩ = some v ∧ wx.frozen? ⟨kB, i, none⟩ = false := by
 obtain ⟨vl, h1, h2, h3⟩ := h.kb; have hi' : i < vl.length := by rw [h2]; exact hi
 exact ⟨vl[i], by simp [World.cell?, h1, hi'], yAd h1 i⟩
end Go.Proofs.YtkhejkfjhddobaaGreatDoor
namespace Gim
open Go Go.RowKit
def Off (H : Nat) (w : World) (P : World → Prop) : Prop := ∀ W', Fr (fun b => b = H) w W' → P W'
theorem yLk (wx : World) (x y z : Int) (t : TypeId) : Rd (wx.alloc (.cells #[.int .i64 x, .int .i64 y, .int .i64 z] t)) .i64 (some ⟨wx.heap.size, 0, none⟩) 3 3 [x, y, z] :=
 ⟨rfl, jr _, by unfold maxLen; omega, fun j hj => ⟨wx.heap.size, 0, rfl, by simp, fun i hi => by
  have hn := jw wx (.cells #[.int .i64 x, .int .i64 y, .int .i64 z] t); rcases i with _ | _ | _ | i
  ·unfold World.cell?; simp only [hn]; rfl
  ·unfold World.cell?; simp only [hn]; rfl
  ·unfold World.cell?; simp only [hn]; rfl
  ·omega⟩⟩
theorem Fr.setNew {p : Nat → Prop} {a b : World} (h : Fr p a b) (D i : Nat) (v : Value) (hD : a.heap.size ≤ D) : Fr p a (b.setCell ⟨D, i, none⟩ v) :=
 ⟨h.os, h.tape, h.output, by rw [jv]; exact h.size, fun j hj hp => (js b ⟨D, i, none⟩ v j (by show j ≠ D; omega)).trans (h.block j hj hp)⟩
def yDt (n : Nat) (g : Nat → Int) (i : Nat) : List Int := (List.range n).map fun j => if j < i then g j else 0
theorem yDc (n : Nat) (g : Nat → Int) (i : Nat) : (yDt n g i).length = n := by simp [yDt]
theorem yNv (n : Nat) (g : Nat → Int) : yDt n g 0 = List.replicate n 0 := by
 refine List.ext_getElem? fun i => ?_
 by_cases h : i < n <;> simp [yDt, h]
theorem yQf (n : Nat) (g : Nat → Int) : yDt n g n = (List.range n).map g := by
 refine List.ext_getElem? fun i => ?_
 by_cases h : i < n <;> simp [yDt, h]
theorem yPO (n : Nat) (g : Nat → Int) {i : Nat} (x : Int) (hx : x = g i) : (yDt n g i).set i x = yDt n g (i + 1) := by
 subst hx; refine List.ext_getElem? fun j => ?_
 by_cases hj : i = j
 ·subst hj; by_cases h : i < n
  ·rw [List.getElem?_set_self (by rw [yDc]; exact h)]; simp [yDt, h]
  ·rw [List.getElem?_eq_none (by rw [List.length_set, yDc]; omega), List.getElem?_eq_none (by rw [yDc]; omega)]
 ·rw [List.getElem?_set_ne hj]; by_cases h : j < n
  ·have e : (j < i + 1) ↔ j < i := by omega
   simp [yDt, h, e]
  ·rw [List.getElem?_eq_none (by rw [yDc]; omega), List.getElem?_eq_none (by rw [yDc]; omega)]
end Gim
namespace Go.Proofs.YtkhejkfjhddobaaGreatDoor
open Go.RowKit Gim
theorem yIl (w : World) (K : Nat) (vo : Value) (n : Int) (tx dn : Bool) (h : w.heap[K]? = some (.cells #[vo, .int .i64 n, .bool tx, .bool dn] 101)) : Calls Tryz.prog 67 #[.pointer (some ⟨K, 0, none⟩)] w fun e w' => e = .returned (.bool dn) ∧ w' = w := by have k3 := jc h 3 rfl; go_enter Tryz.func67, Tryz.ntmps67; go_wp2_with fail; go_ret; exact ⟨rfl, rfl⟩
def yTb (dv : Bool) (ib : Option (List Int × List Int)) (i : Nat) : Int :=
 match ib with
 | none => if dv then 2 else 0
 | some p => orF [if dv then 2 else 0, p.1.getD i 0, p.2.getD i 0]
theorem ySH {f : FrS} {i : Nat} {dv : Bool} (h : f.deep.getD i false = dv) (ib : Option (List Int × List Int)) : yIy f ib i = yTb dv ib i := by unfold yIy yTb; cases ib <;> simp only [h]
def IBn (w wx : World) (kB : Nat) (vi vb : Value) (nr : Nat) : Option (List Int × List Int) → Prop
 | none => vi = .slice none 0 0 ∧ vb = .slice none 0 0
 | some p => ∃ b b2, vi = .slice (some ⟨b, 0, none⟩) nr nr ∧ vb = .slice (some ⟨b2, 0, none⟩) nr nr ∧ p.1.length = nr ∧ p.2.length = nr ∧ wx.heap[b]? = some (.cells (il p.1) 67) ∧ wx.heap[b2]? = some (.cells (il p.2) 67) ∧ w.heap.size ≤ b ∧ w.heap.size ≤ b2 ∧ b ≠ kB ∧ b2 ≠ kB
theorem IBn.ib {w wx : World} {kB : Nat} {vi vb : Value} {nr : Nat} {ib : Option (List Int × List Int)} (h : IBn w wx kB vi vb nr ib) : IB wx vi vb nr ib := by
 cases ib with
 | none => exact h
 | some p =>
  obtain ⟨b, b2, h1, h2, h3, h4, h5, h6, _⟩ := h; exact ⟨b, b2, h1, h2, h3, h4, h5, h6⟩
def yOH (w : World) (H np fn : Nat) (c0 c1 c2 c3 c4 c5 : Value) (ks : List (List Int)) (e : Ending) (w' : World) : Prop :=
 e = .returned (.tuple #[]) ∧ Fr (fun b => b = H) w w' ∧ ∃ kB, w'.heap[H]? = some (.cells #[c0, c1, c2, c3, c4, c5, .slice (some ⟨kB, 0, none⟩) fn fn] 87) ∧ KnM w w' kB np 0 ks
attribute [local go_sem ↓] Go.wp_at_zero Go.wp_at_succ
theorem yOm (nd : yAc) (fs : List FrS) (ps : List Nat) (H K : Nat) (mn : Int) (ra : Option Addr) (rc : Nat) (pa : Option Addr) (pc : Nat) (fa : Option Addr) (fn fc : Nat) (vx vk vo : Value) (cn : Int) (tx dn : Bool) (w : World) (hok : yB2 nd)
  (hH : w.heap[H]? = some (.cells #[.int .i64 mn, .slice ra nd.rows.length rc, .slice pa nd.preds.length pc, .pointer (some ⟨K, 0, none⟩), .slice fa fn fc, vx, vk] 87))
  (hN : Off H w fun W => yA2 W nd.rows ra nd.rows.length rc ∧ yAR W nd.preds pa nd.preds.length pc) (hfs : Off H w fun W => FrsR W fa fn fc nd.rows.length nd.preds.length fs ps) (hn : fn ≤ 1048576)
  (hK : Off H w fun W => W.heap[K]? = some (.cells #[vo, .int .i64 cn, .bool tx, .bool dn] 101)) (hvx : ∃ a n c, vx = .slice a n c) (hvk : ∃ a n c, vk = .slice a n c) :
  Calls Tryz.prog 40 #[.pointer (some ⟨H, 0, none⟩)] w (yOH w H nd.preds.length fn (.int .i64 mn) (.slice ra nd.rows.length rc) (.slice pa nd.preds.length pc) (.pointer (some ⟨K, 0, none⟩)) (.slice fa fn fc) vx (yCY nd fs dn)) := by
 obtain ⟨xa, xn, xc, rfl⟩ := hvx; obtain ⟨ka, kn, kc, rfl⟩ := hvk; obtain ⟨np, hnp⟩ := je (nd.preds.length); obtain ⟨nr, hnr⟩ := je (nd.rows.length); have hnpl := hok.np; have hnrl := hok.nr; rw [hnp] at hH hN hfs hnpl ⊢; rw [hnr] at hH hN hfs hnrl ⊢; have hlen := (hfs w (Fr.refl _ w)).1; have hmk1 := fun w => run_make_row' (P := Tryz.prog) 85 84 (.slice none 0 0) 24 Tryz.underlying85 (by kernel_rfl) rfl .i64 .i64 fn (by omega) (by omega) w
 have hmk2 := fun w => run_make_row' (P := Tryz.prog) 84 67 (.int .i64 0) 8 Tryz.underlying84 (by kernel_rfl) rfl .i64 .i64 nr (by omega) (by omega) w
 have h4 := jc hH 4 rfl; have h6 := jc hH 6 rfl; have z6 := yAd hH 6; have hHs : H < w.heap.size := jl hH; obtain ⟨W1, hW1⟩ := je ((w.setCell ⟨H, 6, none⟩ (.slice (some ⟨w.heap.size, 0, none⟩) fn fn)).alloc (.cells (madeCells #[.slice none 0 0] fn) 84)); have hFr1 : Fr (fun b => b = H) w W1 := by rw [← hW1]; exact ((Fr.refl (fun b => b = H) w).set H 6 _ rfl).trans (Fr.of ((jf _ _).alloc (jr _) _))
 have hH1 : W1.heap[H]? = some (.cells #[.int .i64 mn, .slice ra nr rc, .slice pa np pc, .pointer (some ⟨K, 0, none⟩), .slice fa fn fc, .slice xa xn xc, .slice (some ⟨w.heap.size, 0, none⟩) fn fn] 87) := by rw [← hW1, heap_alloc_old _ _ (by rw [jv]; exact hHs), yAu hH]; rfl
 have hK1 : KnM w W1 w.heap.size np fn [] := by
  refine ⟨⟨List.replicate fn (.slice none 0 0), ?_, by simp, fun i l h => by simp at h⟩, jr _⟩; have := jw (w.setCell ⟨H, 6, none⟩ (.slice (some ⟨w.heap.size, 0, none⟩) fn fn)) (.cells (madeCells #[.slice none 0 0] fn) 84); rw [jv, hW1] at this; rw [this]; congr 2; apply Array.ext
  ·simp [madeCells]
  ·intro i h1 h2; simp [madeCells] at h1 ⊢; simp [Nat.mod_one]
 have HF1 := jh hFr1; have HH1 := jh hH1; have HK1 := jh hK1; have HOK := jh hok; have HN := jh hN; have HFS := jh hfs; have HK := jh hK; have HNP := jh hnp; have HNR := jh hnr; have HLE := jh hlen; have HW1 := jh hW1; have HWQ := jh (show yOH w H np fn (.int .i64 mn) (.slice ra nr rc) (.slice pa np pc) (.pointer (some ⟨K, 0, none⟩)) (.slice fa fn fc) (.slice xa xn xc) (yBg nd fs dn fn).1 = yOH w H np fn (.int .i64 mn) (.slice ra nr rc) (.slice pa np pc) (.pointer (some ⟨K, 0, none⟩)) (.slice fa fn fc) (.slice xa xn xc) (yCY nd fs dn) by unfold yCY; rw [hlen]); rw [← HWQ.out]; clear hFr1 hH1 hK1 hok hN hfs hK hnp hnr hlen hW1 HWQ hH; go_enter Tryz.func40, Tryz.ntmps40; go_upto_region 1 with fail; rw [HW1.out]; have k4 := jc HH1.out 4 rfl; have hHs1 : H < W1.heap.size := jl HH1.out; go_wp2_with fail; clear h4 h6 z6 hmk1 k4; go_loopw [2, 3, 4] (fun v2 v3 i wr => ∃ k : Nat, i = .int .i64 ((k : Int) - 1) ∧ k ≤ fn ∧ IBn w wr w.heap.size v2 v3 nr (yBg nd fs dn (fn - k)).2 ∧ KnM w wr w.heap.size np k (yBg nd fs dn (fn - k)).1 ∧ Fr (fun b => b = H) w wr ∧ wr.heap[H]? = W1.heap[H]?) (fun _ _ i _ => (intOf i + 1).toNat)
 case atStart => exact ⟨fn, rfl, jr _, by rw [Nat.sub_self]; exact ⟨rfl, rfl⟩, by rw [Nat.sub_self]; exact HK1.out, HF1.out, rfl⟩
 case round =>
  revert hrel; revert wr; intro wo hrel; obtain ⟨k, rfl, hk, hib, hkn, hfr, hHo⟩ := hrel; rw [HH1.out] at hHo; cases k with
  | zero =>
   have HFIN := jh (show yOH w H np fn (.int .i64 mn) (.slice ra nr rc) (.slice pa np pc) (.pointer (some ⟨K, 0, none⟩)) (.slice fa fn fc) (.slice xa xn xc) (yBg nd fs dn fn).1 (.returned (.tuple #[])) wo from ⟨rfl, hfr, w.heap.size, hHo, hkn⟩); clear hib hkn hfr hHo; go_wp2_with fail; exact bodyPost_end (results_none rfl _ _ _) rfl HFIN.out
  | succ p =>
   have hpn : p < fn := by omega
   rw [show (((p + 1 : Nat) : Int) - 1) = p by omega]; have hnx := yD4 nd fs dn (p := p) (by rw [HLE.out]; exact hpn); rw [HLE.out, HNR.out] at hnx; obtain ⟨S, hS⟩ := je (yBg nd fs dn (fn - (p + 1))); rw [hS] at hib hkn hnx; obtain ⟨ks, ib⟩ := S; have hib : IBn w wo w.heap.size u2 u3 nr ib := hib; have hkn : KnM w wo w.heap.size np (p + 1) ks := hkn; obtain ⟨f, hf⟩ := je (fs.getD p fr0); rw [hf] at hnx; obtain ⟨opn, hopn⟩ := je ((decide (0 < p) || !dn)); rw [hopn] at hnx; obtain ⟨_, hfc, hfp⟩ := HFS.out wo hfr; obtain ⟨b, o, tg, j, hfa, hbs, hcell, hfm⟩ := hfp p hpn; rw [hf] at hfm; subst hfa; obtain ⟨F, hF⟩ := je (ps.getD p 0); rw [hF] at hcell hfm; have HPF := jh hF; clear hF; have hN := HN.out wo hfr; have hNet : yHI wo H nd := ⟨mn, ra, rc, pa, pc, _, _, _, _, by rw [HNR.out, HNP.out]; exact hHo, by rw [HNR.out]; exact hN.1, by rw [HNP.out]; exact hN.2⟩
   have hFC := yI8 nd f tg j F H opn u2 u3 ib wo hNet HOK.out (by rw [HNR.out, HNP.out]; exact hfm) (by rw [HNR.out]; exact hib.ib); rw [HNP.out, HNR.out] at hFC; have hDC := yIl wo K vo cn tx dn (HK.out wo hfr); obtain ⟨r, hr⟩ := je (yBT nd f opn ib); rw [hr] at hFC hnx; have hrl := yG0 nd f opn ib; rw [hr, HNP.out, HNR.out] at hrl; have g3 := jc hHo 3 rfl; have g4 := jc hHo 4 rfl; have hHs' : H < wo.heap.size := jl hHo; have hp' : (p : Int) < fn := by omega
   have hpf : (p : Int) < fc := by omega
   have hkBs : w.heap.size < wo.heap.size := by obtain ⟨vl, e1, _⟩ := hkn.kb; exact (jl e1)
   have HFC := jh hFC; have HDC := jh hDC; have HNX := jh hnx; have HIB := jh hib; have HKN := jh hkn; have HFR := jh hfr; have HHO := jh hHo; have HOPN := jh hopn; have HFE := jh hf; have HRL := jh hrl; clear hFC hDC hnx hib hkn hfr hHo hS hf hfp hfm hN hNet hr hrl hopn; go_upto_region 6 with fail; go_cut [6, 7] from 36 to 53 (fun u6 u7 wx => ∃ b6 b7, u6 = .slice (some ⟨b6, 0, none⟩) np np ∧ u7 = .slice (some ⟨b7, 0, none⟩) nr nr ∧ FW wo wx b6 b7 r.1 r.2)
   case first =>
    have hcomp := HOPN.out; by_cases hp0 : p = 0
    ·subst hp0; have hop2 : opn = !dn := by rw [← hcomp]; simp
     subst hop2; clear hcomp; cases dn
     all_goals
      go_wp2_with (first
       | (go_at_call 67; refine HDC.out.mono ?_; rintro e w' ⟨rfl, rfl⟩)
       | (go_at_call 66; refine HFC.out.mono ?_; rintro e w6 ⟨b6, b7, rfl, hfw⟩; have HFW := jh hfw; clear hfw))
      go_meet; exact ⟨b6, b7, rfl, rfl, HFW.out⟩
    ·have hop2 : opn = true := by rw [← hcomp]; simp; omega
     subst hop2; have hpp : (0 : Int) < p := by omega
     clear hcomp hp0; go_wp2_with (first
       | (go_at_call 66; refine HFC.out.mono ?_; rintro e w6 ⟨b6, b7, rfl, hfw⟩; have HFW := jh hfw; clear hfw))
     go_meet; exact ⟨b6, b7, rfl, rfl, HFW.out⟩
   case rest =>
   obtain ⟨b6, b7, rfl, rfl, hfw⟩ := hcut; obtain ⟨W6, hW6⟩ := je (wc); rw [hW6] at hfw ⊢; clear hW6 g3 g4 hcell; have hH6 := (hfw.bel.block H hHs').trans HHO.out; have g6 := jc hH6 6 rfl; have hHs6 : H < W6.heap.size := jt hHs' hfw.bel.size; have hkn6 := HKN.out.keep hfw.bel; obtain ⟨kv, hkv, hkz⟩ := hkn6.some (i := p) (by have := yDW nd fs dn 0; omega); have hkBs6 : w.heap.size < W6.heap.size := jt hkBs hfw.bel.size; have hkn7 := hkn6.store hfw.t (by have := HFR.out.size; have := hfw.lo; omega) (by have := hfw.lo; omega); have hfr7 := (HFR.out.trans (Fr.of hfw.bel)).setNew w.heap.size p (.slice (some ⟨b6, 0, none⟩) np np) (jr _); have hb7 := (js W6 ⟨w.heap.size, p, none⟩ (.slice (some ⟨b6, 0, none⟩) np np) b7 (by show b7 ≠ w.heap.size; have := hfw.lo; omega)).trans hfw.e; have hH7 := (js W6 ⟨w.heap.size, p, none⟩ (.slice (some ⟨b6, 0, none⟩) np np) H (by show H ≠ w.heap.size; omega)).trans hH6; have hib7 : IBn w (W6.setCell ⟨w.heap.size, p, none⟩ (.slice (some ⟨b6, 0, none⟩) np np)) w.heap.size u2 u3 nr ib := by
    have := HIB.out; cases ib with
    | none => exact this
    | some q =>
     obtain ⟨c1, c2, e1, e2, e3, e4, e5, e6, e7, e8, e9, e10⟩ := this; exact ⟨c1, c2, e1, e2, e3, e4, (js W6 ⟨w.heap.size, p, none⟩ _ c1 e9).trans ((hfw.bel.block c1 (jl e5)).trans e5), (js W6 ⟨w.heap.size, p, none⟩ _ c2 e10).trans ((hfw.bel.block c2 (jl e6)).trans e6), e7, e8, e9, e10⟩
   have hb7lo := hfw.lo; have hwos := HFR.out.size; obtain ⟨W7, hW7⟩ := je (W6.setCell ⟨w.heap.size, p, none⟩ (.slice (some ⟨b6, 0, none⟩) np np)); rw [hW7] at hkn7 hfr7 hb7 hH7 hib7; have HW7 := jh hW7; have HKN7 := jh hkn7; have HFR7 := jh hfr7; have HB7 := jh hb7; have HH7 := jh hH7; have HIB7 := jh hib7; have HLO := jh hb7lo; obtain ⟨cB, dB, aB, hB, hpp, tg7, j7, hFI7⟩ : ∃ cB dB aB hB hpp tg7 j7, FrI W7 tg7 j7 F cB dB aB hB hpp nr np f := by obtain ⟨_, _, hfp7⟩ := HFS.out W7 hfr7; obtain ⟨_, _, tg7, j7, _, _, _, hfm7⟩ := hfp7 p hpn; rw [HFE.out, HPF.out] at hfm7; obtain ⟨cB, dB, aB, hB, hpp, h⟩ := hfm7; exact ⟨cB, dB, aB, hB, hpp, tg7, j7, h⟩
   have hFs7 := jl hFI7.hF; have hds7 := jl hFI7.hd; have HFI7 := jh hFI7; have HWS := jh hwos; clear hFI7 hfw hH6 hkn6 hkn7 hfr7 hb7 hH7 hib7 hW7 hb7lo hwos; go_upto_region 8 with fail; rw [HW7.out]; have hA0 : Below W7.heap.size W7 (W7.alloc (.cells (madeCells #[.int .i64 0] nr) 67)) ∧ (W7.alloc (.cells (madeCells #[.int .i64 0] nr) 67)).heap[W7.heap.size]? = some (.cells (il (yDt nr (yIy f ib) 0)) 67) :=
    ⟨(jf _ _).alloc (jr _) _, by rw [yNv, ← yDr]; exact jw _ _⟩
   have HA0 := jh hA0; clear hA0; go_wp2_with fail; clear g6 hkv hkz hmk2; go_loopw [66] (fun i wr => ∃ q : Nat, i = .int .i64 q ∧ q ≤ nr ∧ Below W7.heap.size W7 wr ∧ wr.heap[W7.heap.size]? = some (.cells (il (yDt nr (yIy f ib) q)) 67)) (fun i _ => nr - (intOf i).toNat)
   case atStart => exact ⟨0, rfl, jz _, HA0.out⟩
   case round =>
    obtain ⟨q, rfl, hq, hbel, hal⟩ := hrel; have HBL := jh hbel; have HAL := jh hal; by_cases hqn : q < nr
    ·have hqn' : (q : Int) < nr := by omega
     obtain ⟨L, hL⟩ := je (yDt nr (yIy f ib) q); have hLl : L.length = nr := by rw [← hL, yDc]
     rw [hL] at hal HAL; have ka : wr.cell? ⟨W7.heap.size, q, none⟩ = some (.int .i64 (L.getD q 0)) := yAy hal (yAi (by rw [hLl]; exact hqn) 0); have za := yAd hal q; have has : W7.heap.size < wr.heap.size := jl hal; have hFI := HFI7.out.below hbel; obtain ⟨dv, hdv⟩ := je (f.deep.getD q false); have kF := jc hFI.hF 3 rfl; have kd : wr.cell? ⟨dB, q, none⟩ = some (.bool dv) := by rw [← hdv]; exact yE3 hFI.hd (yAi (by rw [hFI.ld]; exact hqn) false)
     have hFlt := jl hFI.hF; have hdlt := jl hFI.hd; have HST : Hid (∀ x, x = yIy f ib q → (L.set q x) = yDt nr (yIy f ib) (q + 1)) := jh fun x hx => by rw [← hL]; exact yPO nr _ x hx
     have hib := HIB7.out; have HAV : Hid (yIy f ib q = yTb dv ib q) := jh (ySH hdv ib); clear hFI hdv hL; have hFne : F ≠ W7.heap.size := by omega
     have hdne : dB ≠ W7.heap.size := by omega
     have hFne2 : W7.heap.size ≠ F := by omega
     have hdne2 : W7.heap.size ≠ dB := by omega
     cases ib with
     | none =>
      obtain ⟨rfl, rfl⟩ := hib; cases dv
      ·have HR0 := jh (yBB (i := q) hal 0); rw [HST.out 0 (by rw [HAV.out]; rfl)] at HR0; go_wp2_with fail; go_roundw
       case rel => exact ⟨q + 1, by go_num, by omega, HBL.out.setCell (p := ⟨W7.heap.size, q, none⟩) (jr _) _, HR0.out⟩
       case measure => simp [intOf]; omega
      ·have HR0 := jh (yBB (i := q) (yBB (i := q) hal 0) 2); rw [List.set_set, HST.out 2 (by rw [HAV.out]; rfl)] at HR0; go_wp2_with fail; go_roundw
       case rel =>
        first
        | exact ⟨q + 1, by go_num, by omega, (HBL.out.setCell (p := ⟨W7.heap.size, q, none⟩) (jr _) _).setCell (p := ⟨W7.heap.size, q, none⟩) (jr _) _, HR0.out⟩
        | (have HR1 := yBB (i := q) HAL.out 2; rw [HST.out 2 (by rw [HAV.out]; rfl)] at HR1; exact ⟨q + 1, by go_num, by omega, HBL.out.setCell (p := ⟨W7.heap.size, q, none⟩) (jr _) _, HR1⟩)
       case measure => simp [intOf]; omega
     | some pr =>
      obtain ⟨c1, c2, rfl, rfl, e3, e4, e5, e6, e7, e8, e9, e10⟩ := hib; have hc1 := jl e5; have hc2 := jl e6; have ki : wr.cell? ⟨c1, q, none⟩ = some (.int .i64 (pr.1.getD q 0)) := yAy ((hbel.block c1 hc1).trans e5) (yAi (by rw [e3]; exact hqn) 0); have kb : wr.cell? ⟨c2, q, none⟩ = some (.int .i64 (pr.2.getD q 0)) := yAy ((hbel.block c2 hc2).trans e6) (yAi (by rw [e4]; exact hqn) 0); have hc1n : W7.heap.size ≠ c1 := by omega
      have hc2n : W7.heap.size ≠ c2 := by omega
      clear e3 e4 e5 e6 e7 e8 e9 e10; obtain ⟨i1, hi1⟩ := je (pr.1.getD q 0); obtain ⟨i2, hi2⟩ := je (pr.2.getD q 0); rw [hi1] at ki; rw [hi2] at kb; have HI1 := jh hi1; have HI2 := jh hi2; clear hi1 hi2; cases dv
      ·go_upto_region 16 with fail; obtain ⟨Wb, hWb⟩ := je (wr.setCell ⟨W7.heap.size, q, none⟩ (.int .i64 0)); rw [hWb]; have hbb : Below W7.heap.size W7 Wb := by rw [← hWb]; exact HBL.out.setCell (p := ⟨W7.heap.size, q, none⟩) (jr _) _
       have hxb : Wb.heap[W7.heap.size]? = some (.cells (il (L.set q 0)) 67) := by rw [← hWb]; exact yBB hal 0
       have kab : Wb.cell? ⟨W7.heap.size, q, none⟩ = some (.int .i64 0) := yAy hxb (by rw [List.getElem?_set_self (by omega)]); have zab := yAd hxb q; have kib : Wb.cell? ⟨c1, q, none⟩ = some (.int .i64 i1) := (World.cell?_of_block (w := wr) (by rw [← hWb]; exact js _ _ _ _ (by first | exact (Ne.symm hc1n) | exact (Ne.symm hc2n)))).trans ki; have kbb : Wb.cell? ⟨c2, q, none⟩ = some (.int .i64 i2) := (World.cell?_of_block (w := wr) (by rw [← hWb]; exact js _ _ _ _ (by first | exact (Ne.symm hc1n) | exact (Ne.symm hc2n)))).trans kb; have hsb : W7.heap.size < Wb.heap.size := jl hxb; have hc1b : c1 < Wb.heap.size := lt_of_cell kib; have hc2b : c2 < Wb.heap.size := lt_of_cell kbb; have HXB := jh (yBB (i := q) hxb (orF [0, i1, i2])); rw [List.set_set, HST.out _ (by rw [HAV.out, ← HI1.out, ← HI2.out]; rfl)] at HXB; have HBB := jh hbb; have HOR : Hid (∀ W, Rd W .i64 (some ⟨Wb.heap.size, 0, none⟩) 3 3 [0, i1, i2] → Calls Tryz.prog 68 #[.slice (some ⟨Wb.heap.size, 0, none⟩) 3 3] W fun e w' => e = .returned (.int .i64 (orF [0, i1, i2])) ∧ w' = W) := jh fun W h => yCq _ _ _ _ W h
       obtain ⟨ov, hov⟩ := je (orF [0, i1, i2]); rw [hov] at HXB HOR; clear hbb hxb hWb ka za ki kb kd kF hov hal; go_region_with (first
        | (go_at_call 68; refine (HOR.out _ ((yLk _ _ _ _ _).below ((jf _ _).drew))).mono ?_; rintro e w' ⟨rfl, rfl⟩))
       all_goals
        go_wp2_with fail; go_roundw
        case rel =>
         have hxa : ∀ o, ((Wb.setCell ⟨W7.heap.size, q, none⟩ (.int .i64 ov)).alloc o).heap[W7.heap.size]? = _ := fun o => (heap_alloc_old (Wb.setCell ⟨W7.heap.size, q, none⟩ (.int .i64 ov)) o (by rw [jv]; exact hsb)).trans HXB.out
         have hba := fun o => ((HBB.out.setCell (p := ⟨W7.heap.size, q, none⟩) (jr _) (.int .i64 ov)).alloc (by rw [jv]; exact Nat.le_of_lt hsb) o).drew
         exact ⟨q + 1, by go_num, by omega, hba _, hxa _⟩
        case measure => simp [intOf]; omega
      ·go_upto_region 16 with fail; obtain ⟨Wb, hWb⟩ := je ((wr.setCell ⟨W7.heap.size, q, none⟩ (.int .i64 0)).setCell ⟨W7.heap.size, q, none⟩ (.int .i64 2)); rw [hWb]; have hbb : Below W7.heap.size W7 Wb := by rw [← hWb]; exact (HBL.out.setCell (p := ⟨W7.heap.size, q, none⟩) (jr _) _).setCell (p := ⟨W7.heap.size, q, none⟩) (jr _) _
       have hxb : Wb.heap[W7.heap.size]? = some (.cells (il (L.set q 2)) 67) := by rw [← hWb]; have := yBB (i := q) (yBB (i := q) hal 0) 2; rw [List.set_set] at this; exact this
       have kab : Wb.cell? ⟨W7.heap.size, q, none⟩ = some (.int .i64 2) := yAy hxb (by rw [List.getElem?_set_self (by omega)]); have zab := yAd hxb q; have kib : Wb.cell? ⟨c1, q, none⟩ = some (.int .i64 i1) := (World.cell?_of_block (w := wr) (by rw [← hWb]; exact (js _ _ _ _ (by first | exact (Ne.symm hc1n) | exact (Ne.symm hc2n))).trans (js _ _ _ _ (by first | exact (Ne.symm hc1n) | exact (Ne.symm hc2n))))).trans ki; have kbb : Wb.cell? ⟨c2, q, none⟩ = some (.int .i64 i2) := (World.cell?_of_block (w := wr) (by rw [← hWb]; exact (js _ _ _ _ (by first | exact (Ne.symm hc1n) | exact (Ne.symm hc2n))).trans (js _ _ _ _ (by first | exact (Ne.symm hc1n) | exact (Ne.symm hc2n))))).trans kb; have hsb : W7.heap.size < Wb.heap.size := jl hxb; have hc1b : c1 < Wb.heap.size := lt_of_cell kib; have hc2b : c2 < Wb.heap.size := lt_of_cell kbb; have HXB := jh (yBB (i := q) hxb (orF [2, i1, i2])); rw [List.set_set, HST.out _ (by rw [HAV.out, ← HI1.out, ← HI2.out]; rfl)] at HXB; have HBB := jh hbb; have HOR : Hid (∀ W, Rd W .i64 (some ⟨Wb.heap.size, 0, none⟩) 3 3 [2, i1, i2] → Calls Tryz.prog 68 #[.slice (some ⟨Wb.heap.size, 0, none⟩) 3 3] W fun e w' => e = .returned (.int .i64 (orF [2, i1, i2])) ∧ w' = W) := jh fun W h => yCq _ _ _ _ W h
       obtain ⟨ov, hov⟩ := je (orF [2, i1, i2]); rw [hov] at HXB HOR; clear hbb hxb hWb ka za ki kb kd kF hov hal; go_region_with (first
        | (go_at_call 68; refine (HOR.out _ ((yLk _ _ _ _ _).below ((jf _ _).drew))).mono ?_; rintro e w' ⟨rfl, rfl⟩))
       all_goals
        go_wp2_with fail; go_roundw
        case rel =>
         have hxa : ∀ o, ((Wb.setCell ⟨W7.heap.size, q, none⟩ (.int .i64 ov)).alloc o).heap[W7.heap.size]? = _ := fun o => (heap_alloc_old (Wb.setCell ⟨W7.heap.size, q, none⟩ (.int .i64 ov)) o (by rw [jv]; exact hsb)).trans HXB.out
         have hba := fun o => ((HBB.out.setCell (p := ⟨W7.heap.size, q, none⟩) (jr _) (.int .i64 ov)).alloc (by rw [jv]; exact Nat.le_of_lt hsb) o).drew
         exact ⟨q + 1, by go_num, by omega, hba _, hxa _⟩
        case measure => simp [intOf]; omega
    ·obtain rfl : q = nr := by omega
     have hfrz := HFR7.out.trans (Fr.of hbel); have hHz := (hbel.block H (jl HH7.out)).trans HH7.out; have hknz := HKN7.out.keep hbel; have hbz := (hbel.block b7 (jl HB7.out)).trans HB7.out; rw [yQf] at hal; have hkB7 : w.heap.size < W7.heap.size := by obtain ⟨vl, e1, _⟩ := HKN7.out.kb; exact (jl e1)
     have HFIN : Hid (IBn w wr w.heap.size (.slice (some ⟨b7, 0, none⟩) q q) (.slice (some ⟨W7.heap.size, 0, none⟩) q q) q (yBg nd fs dn (fn - p)).2 ∧ KnM w wr w.heap.size np p (yBg nd fs dn (fn - p)).1 ∧ Fr (fun b => b = H) w wr ∧ wr.heap[H]? = W1.heap[H]?) := jh (by rw [HNX.out, HH1.out]; have hlo := HLO.out; have hws := HWS.out; exact ⟨⟨b7, W7.heap.size, rfl, rfl, HRL.out.2, by simp [yI0], hbz, hal, by omega, by omega, by omega, by omega⟩, hknz, hfrz, hHz⟩); clear hfrz hHz hknz hbz hal hbel; go_wp2_with fail; go_roundw
     case rel => exact ⟨p, by go_num, by omega, HFIN.out.1, HFIN.out.2.1, HFIN.out.2.2.1, HFIN.out.2.2.2⟩
     case measure => first | (simp [intOf]; done) | (simp [intOf]; omega)
end Go.Proofs.YtkhejkfjhddobaaGreatDoor
