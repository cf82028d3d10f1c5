/- A predicate's cells are written in the maker's own row; compilers of gimlet/net, its second closure. -/
import Derived.Test.YtkhejkfjhddobaaGreatDoorQLayM
import Derived.BigRegion
set_option maxRecDepth 100000
set_option maxHeartbeats 8000000
namespace Gim
open Go Go.RowKit
theorem yBH {α : Type} (l : List α) (k : Nat) (f g : α → α) : (l.modify k f).modify k g = l.modify k fun x => g (f x) := by
 refine List.ext_getElem? fun i => ?_
 by_cases h : k = i
 ·subst h; rw [List.getElem?_modify_eq, List.getElem?_modify_eq, List.getElem?_modify_eq]; cases l[k]? <;> rfl
 ·rw [List.getElem?_modify_ne _ _ h, List.getElem?_modify_ne _ _ h, List.getElem?_modify_ne _ _ h]
end Gim
namespace Go.Proofs.YtkhejkfjhddobaaGreatDoor
open Go.RowKit Gim
section
variable {W0 : World} {M : Nat} {W : World} {main : Int} {st : Cst} {tg : Nat → Nat} {vr vp vw : Value} {cr : List NR} {cp : List NP} {cw : List NW}
theorem Mw.setP (h : Mw W0 M W main st tg vr vp vw cr cp cw) {k : Nat} {c : NP} {r : yAG} (hc : cp[k]? = some c) (hr : st.preds[k]? = some r) {g cap : Nat} (hv : vp = .slice (some ⟨g, 0, none⟩) cp.length cap)
  {j : Nat} {u : Value} (hj : j < 8) (c' : NP) (hc' : yBy c' = (yBy c).set j u) (f : yAG → yAG) (hcv : c'.v = c.v) (hfa : (f r).args = r.args)
  (hE : c'.op = (f r).op ∧ c'.first = (f r).first ∧ c'.count = (f r).count ∧ c'.attr = (f r).attr ∧ c'.cmp = (f r).cmp ∧ c'.txt = (f r).txt ∧ c'.num = (f r).num) :
  Mw W0 M (W.setCell ⟨g, k * 8 + j, none⟩ u) main ⟨st.rows, st.wh, st.preds.modify k f⟩ tg vr vp vw cr (cp.set k c') cw := by
 have hg2 : tg g = 2 := h.t2 g (by rw [hv]; rfl); have hgl := h.own2 g (by rw [hv]; rfl); have hk : k < cp.length := (ji.1 hc).1; have hkeep : ∀ b, tg b ≠ 2 → (W.setCell ⟨g, k * 8 + j, none⟩ u).heap[b]? = W.heap[b]? := fun b hb => js W ⟨g, k * 8 + j, none⟩ u b (by rintro rfl; exact hb hg2)
 refine ⟨h.bel.setCell hgl.1 _, h.lo, (hkeep M (by rw [h.t0]; omega)).trans h.hM, h.t0, ?_, h.t1, ?_, h.t2, ?_, h.t3, h.lr, ?_, ?_, ?_, h.lw, h.ew⟩
 ·exact yAa h.row fun b hb => hkeep b (by rw [h.t1 b hb]; omega)
 ·rw [List.length_set, yE5 yBy 8 (fun _ => rfl) hc hj hc', hv]; have := h.pre; rw [hv] at this; exact yEL this _ u
 ·exact yAa h.whr fun b hb => hkeep b (by rw [h.t3 b hb]; omega)
 ·intro i d r' hd hr'; obtain ⟨a1, a2, a3, a4, a5⟩ := h.er i d r' hd hr'; exact ⟨a1, a2, a3, yBq a4 fun b hb => hkeep b (by rw [a5 b hb]; omega), a5⟩
 ·show _ = (st.preds.modify k f).length; rw [List.length_set, List.length_modify, h.lp]
 ·intro i d r' hd hr'; have hr' : (st.preds.modify k f)[i]? = some r' := hr'; by_cases hi : k = i
  ·subst hi; rw [List.getElem?_set_self hk] at hd; rw [List.getElem?_modify_eq, hr] at hr'; injection hd with hd; injection hr' with hr'; subst hd hr'; obtain ⟨_, _, _, _, _, _, _, e8, e9⟩ := h.ep k c r hc hr; obtain ⟨b1, b2, b3, b4, b5, b6, b7⟩ := hE; refine ⟨b1, b2, b3, b4, b5, b6, b7, ?_, fun b hb => e9 b (by rw [← hcv]; exact hb)⟩; rw [hcv, hfa]; exact yBq e8 fun b hb => hkeep b (by rw [e9 b hb]; omega)
  ·rw [List.getElem?_set_ne hi] at hd; rw [List.getElem?_modify_ne _ _ hi] at hr'; obtain ⟨b1, b2, b3, b4, b5, b6, b7, e8, e9⟩ := h.ep i d r' hd hr'; exact ⟨b1, b2, b3, b4, b5, b6, b7, yBq e8 fun b hb => hkeep b (by rw [e9 b hb]; omega), e9⟩
theorem Mw.setQ (h : Mw W0 M W main st tg vr vp vw cr cp cw) {k : Nat} {c : NP} {r : yAG} (hc : cp[k]? = some c) (hr : st.preds[k]? = some r) {g cap np : Nat} (hv : vp = .slice (some ⟨g, 0, none⟩) np cap) (hn : cp.length = np)
  {j : Nat} {u : Value} (hj : j < 8) (c' : NP) (hc' : yBy c' = (yBy c).set j u) (f : yAG → yAG) (hcv : c'.v = c.v) (hfa : (f r).args = r.args)
  (hE : c'.op = (f r).op ∧ c'.first = (f r).first ∧ c'.count = (f r).count ∧ c'.attr = (f r).attr ∧ c'.cmp = (f r).cmp ∧ c'.txt = (f r).txt ∧ c'.num = (f r).num) :
  Mw W0 M (W.setCell ⟨g, k * 8 + j, none⟩ u) main ⟨st.rows, st.wh, st.preds.modify k f⟩ tg vr vp vw cr (cp.set k c') cw ∧ (cp.set k c')[k]? = some c' ∧ (st.preds.modify k f)[k]? = some (f r) ∧ (cp.set k c').length = np := by subst hn; refine ⟨h.setP hc hr hv hj c' hc' f hcv hfa hE, List.getElem?_set_self (ji.1 hc).1, ?_, List.length_set⟩; rw [List.getElem?_modify_eq, hr]; rfl
theorem Mw.elem (h : Mw W0 M W main st tg vr vp vw cr cp cw) {k : Nat} {c : NP} {r : yAG} (hc : cp[k]? = some c) (hr : st.preds[k]? = some r) : c = ⟨r.op, c.v, r.first, r.count, r.attr, r.cmp, r.txt, r.num⟩ := by obtain ⟨a1, a2, a3, a4, a5, a6, a7, _⟩ := h.ep k c r hc hr; cases c; simp only at a1 a2 a3 a4 a5 a6 a7; subst a1 a2 a3 a4 a5 a6 a7; rfl
theorem Mw.some1 (h : Mw W0 M W main st tg vr vp vw cr cp cw) {k : Nat} {c : NP} {r : yAG} (hc : cp[k]? = some c) (hr : st.preds[k]? = some r) {g cap np : Nat} (hv : vp = .slice (some ⟨g, 0, none⟩) np cap) (hn : cp.length = np) (x y : Int) :
  ∃ cp' c', Mw W0 M ((W.setCell ⟨g, k * 8 + 2, none⟩ (.int .i64 x)).setCell ⟨g, k * 8 + 3, none⟩ (.int .i64 y)) main ⟨st.rows, st.wh, st.preds.modify k fun p => { p with first := x, count := y }⟩ tg vr vp vw cr cp' cw ∧ cp'[k]? = some c' ∧ (st.preds.modify k fun p => { p with first := x, count := y })[k]? = some { r with first := x, count := y } ∧ cp'.length = np := by have hE := h.elem hc hr; obtain ⟨h1, e1, f1, n1⟩ := h.setQ hc hr hv hn (j := 2) (u := .int .i64 x) (by omega) ⟨c.op, c.v, x, c.count, c.attr, c.cmp, c.txt, c.num⟩ rfl (fun p => { p with first := x }) rfl rfl (by rw [hE]; exact ⟨rfl, rfl, rfl, rfl, rfl, rfl, rfl⟩); obtain ⟨h2, e2, f2, n2⟩ := h1.setQ e1 f1 hv n1 (j := 3) (u := .int .i64 y) (by omega) ⟨c.op, c.v, x, y, c.attr, c.cmp, c.txt, c.num⟩ rfl (fun p => { p with count := y }) rfl rfl (by rw [hE]; exact ⟨rfl, rfl, rfl, rfl, rfl, rfl, rfl⟩); rw [yBH] at f2; have h2' : Mw _ _ _ _ ⟨st.rows, st.wh, (st.preds.modify k fun p => { p with first := x }).modify k fun p => { p with count := y }⟩ _ _ _ _ _ _ _ := h2; rw [yBH] at h2'; exact ⟨_, _, h2', e2, f2, n2⟩
theorem Mw.some2 (h : Mw W0 M W main st tg vr vp vw cr cp cw) {k : Nat} {c : NP} {r : yAG} (hc : cp[k]? = some c) (hr : st.preds[k]? = some r) {g cap np : Nat} (hv : vp = .slice (some ⟨g, 0, none⟩) np cap) (hn : cp.length = np) (x : ByteArray) (y : Int) (z : ByteArray) (u : Int) :
  ∃ cp', Mw W0 M ((((W.setCell ⟨g, k * 8 + 4, none⟩ (.string x)).setCell ⟨g, k * 8 + 5, none⟩ (.int .i64 y)).setCell ⟨g, k * 8 + 6, none⟩ (.string z)).setCell ⟨g, k * 8 + 7, none⟩ (.int .i64 u)) main ⟨st.rows, st.wh, st.preds.modify k fun p => { p with attr := x, cmp := y, txt := z, num := u }⟩ tg vr vp vw cr cp' cw := by have hE := h.elem hc hr; obtain ⟨h1, e1, f1, n1⟩ := h.setQ hc hr hv hn (j := 4) (u := .string x) (by omega) ⟨c.op, c.v, c.first, c.count, x, c.cmp, c.txt, c.num⟩ rfl (fun p => { p with attr := x }) rfl rfl (by rw [hE]; exact ⟨rfl, rfl, rfl, rfl, rfl, rfl, rfl⟩); obtain ⟨h2, e2, f2, n2⟩ := h1.setQ e1 f1 hv n1 (j := 5) (u := .int .i64 y) (by omega) ⟨c.op, c.v, c.first, c.count, x, y, c.txt, c.num⟩ rfl (fun p => { p with cmp := y }) rfl rfl (by rw [hE]; exact ⟨rfl, rfl, rfl, rfl, rfl, rfl, rfl⟩); obtain ⟨h3, e3, f3, n3⟩ := h2.setQ e2 f2 hv n2 (j := 6) (u := .string z) (by omega) ⟨c.op, c.v, c.first, c.count, x, y, z, c.num⟩ rfl (fun p => { p with txt := z }) rfl rfl (by rw [hE]; exact ⟨rfl, rfl, rfl, rfl, rfl, rfl, rfl⟩); obtain ⟨h4, e4, f4, n4⟩ := h3.setQ e3 f3 hv n3 (j := 7) (u := .int .i64 u) (by omega) ⟨c.op, c.v, c.first, c.count, x, y, z, u⟩ rfl (fun p => { p with num := u }) rfl rfl (by rw [hE]; exact ⟨rfl, rfl, rfl, rfl, rfl, rfl, rfl⟩); have h4' : Mw _ _ _ _ ⟨st.rows, st.wh, (((st.preds.modify k fun p => { p with attr := x }).modify k fun p => { p with cmp := y }).modify k fun p => { p with txt := z }).modify k fun p => { p with num := u }⟩ _ _ _ _ _ _ _ := h4; rw [yBH, yBH, yBH] at h4'; exact ⟨_, h4'⟩
theorem Mw.predAt (h : Mw W0 M W main st tg vr vp vw cr cp cw) {k : Nat} (hk : k < st.preds.length) : ∃ g cap c r, vp = .slice (some ⟨g, 0, none⟩) cp.length cap ∧ cp[k]? = some c ∧ st.preds[k]? = some r ∧ cp.length ≤ cap ∧ g < W.heap.size ∧ g ≠ M ∧ (∀ i, W.frozen? ⟨g, i, none⟩ = false) ∧ ∀ j, j < 8 → W.cell? ⟨g, k * 8 + j, none⟩ = (yBy c)[j]? := by
 have hk' : k < cp.length := by rw [h.lp]; exact hk
 have hS := yAb h.pre; obtain ⟨a, cap, e, h1, h2, h3⟩ := hS; obtain ⟨g, e2, h4, h5⟩ := h3 k hk'; subst e2; have hpre := h.pre; rw [e] at hpre; refine ⟨g, cap, cp[k], st.preds[k], e, jk hk', jk hk, h1, h5, ?_, ?_, fun j hj => ?_⟩
 ·rintro rfl; have := h.t2 g (by rw [e]; rfl); rw [h.t0] at this; cases this
 ·intro i; obtain ⟨_, h6⟩ := hpre; rcases h6 with ⟨h6, _⟩ | ⟨g', cap', cur, e3, hb, hg, _⟩
  ·cases h6
  ·injection e3 with e3; injection e3 with e3; injection e3 with e3; subst e3; simp [World.frozen?, hg]
 ·have hl : ((yBy cp[k])[j]?).isSome = true := by rw [jk (show j < (yBy cp[k]).length from hj)]; rfl
  obtain ⟨u, hu⟩ := Option.isSome_iff_exists.1 hl; rw [hu]; exact yAq hpre ((yBI yBy 8 (fun _ => rfl) (jk hk') j hj).trans hu)
end
theorem yCc (w : World) : Calls Tryz.prog 60 #[] w fun e w' => e = .returned (.slice (some ⟨w.heap.size, 0, none⟩) 4 4) ∧
  w' = w.alloc (.cells #[.func (.func 91) #[] #[], .func (.func 91) #[] #[], .func (.func 91) #[] #[], .func (.func 92) #[] #[]] 121) := by go_enter Tryz.func60, Tryz.ntmps60; go_wp2_with fail; go_ret; exact ⟨rfl, rfl⟩
end Go.Proofs.YtkhejkfjhddobaaGreatDoor
namespace Gim
open Go Go.RowKit
theorem yQJ (c : NR) (hv : c.v.oneCell' = true) : ∀ u ∈ yB5 c, u.oneCell' = true := by
 intro u hu; simp only [yB5, List.mem_cons, List.not_mem_nil, or_false] at hu; rcases hu with rfl | rfl | rfl | rfl
 ·rfl
 ·rfl
 ·rfl
 ·exact hv
theorem yPM (w : World) (c : NR) (t : TypeId) : ∀ j u, (yB5 c)[j]? = some u → (w.alloc (.cells (yB5 c).toArray t)).cell? ⟨w.heap.size, j, none⟩ = some u := by intro j u hj; have hn := jw w (.cells (yB5 c).toArray t); unfold World.cell?; rw [hn]; simpa using hj
theorem yPv (w : World) (c : NW) (t : TypeId) : ∀ j u, (cellW c)[j]? = some u → (w.alloc (.cells (cellW c).toArray t)).cell? ⟨w.heap.size, j, none⟩ = some u := by intro j u hj; have hn := jw w (.cells (cellW c).toArray t); unfold World.cell?; rw [hn]; simpa using hj
theorem yP6 (c : NW) : ∀ u ∈ cellW c, u.oneCell' = true := by intro u hu; simp only [cellW, List.mem_cons, List.not_mem_nil, or_false] at hu; rw [hu]; rfl
theorem yMb (st : Cst) {ts : List St} {q : Nat} {t : St} (h : ts[q]? = some t) : yAh st (ts.take (q + 1)) = ⟨(yAh st (ts.take q)).rows ++ [yCx t], (yAh st (ts.take q)).wh ++ [yFb t], st.preds⟩ := by unfold yAh; rw [List.take_add_one, h]; simp
end Gim
namespace Go.Proofs.YtkhejkfjhddobaaGreatDoor
open Go.RowKit Gim
theorem yFg (W0 : World) (M : Nat) (main : Int) (st : Cst) (ts : List St) (a : Option Addr) (n c : Nat) (w : World) (hF : yAH W0 ts a n c) (h : MkW W0 M w main st) (hn : n ≤ 1048576) (hr : st.rows.length ≤ 1048576) (hw : st.wh.length ≤ 1048576) :
  Calls Tryz.prog 34 #[.pointer (some ⟨M, 0, none⟩), .agg #[.slice a n c]] w fun e w' => e = .returned (.tuple #[]) ∧ MkW W0 M w' main (yAh st ts) := by
 have hLN := jh hF.len; have hlt0 : M < w.heap.size := by obtain ⟨tg, vr, vp, vw, cr, cp, cw, h⟩ := h; exact h.lt
 have HST : Hid (MkW W0 M (w.alloc (.cells #[.slice a n c] 25)) main (yAh st (ts.take 0))) := jh (by
  have e : yAh st (ts.take 0) = st := by simp [yAh]
  rw [e]; exact h.same ((jf _ _).alloc (jr _) _))
 have HF := jh hF; clear h hF; go_enter Tryz.func34, Tryz.ntmps34; go_wp2_with fail; go_loopw [9] (fun i wr => ∃ q : Nat, i = .int .i64 q ∧ q ≤ n ∧ MkW W0 M wr main (yAh st (ts.take q))) (fun i _ => n - (intOf i).toNat)
 case atStart => exact ⟨0, rfl, jz _, HST.out⟩
 case round =>
  obtain ⟨q, rfl, hq, hm⟩ := hrel; by_cases hqn : q < n
  ·have hqn' : (q : Int) < n := by omega
   obtain ⟨tg, vr, vp, vw, cr, cp, cw, hm⟩ := hm; have hM := hm.lt; obtain ⟨b, o, ax, ts', nm, wh, a1, n1, c1, rfl, hb0, hq1, p0, p1, p2, p3, hfx⟩ := HF.out.elem q hqn; have hbl : ∀ j, wr.cell? ⟨b, j, none⟩ = W0.cell? ⟨b, j, none⟩ := fun j => hm.bel.cell (p := ⟨b, j, none⟩) hb0
   rw [← hbl] at p0 p1 p2 p3; have hbs : b < wr.heap.size := lt_of_cell p0; obtain ⟨W5, hW5⟩ := je (wr.alloc (.cells #[.int .i64 ax, .int .i64 ts', .string nm, .slice a1 n1 c1] 64)); have hX5 : W5.heap[wr.heap.size]? = some (.cells #[.int .i64 ax, .int .i64 ts', .string nm, .slice a1 n1 c1] 64) := by rw [← hW5]; exact jw _ _
   have hB5 : Below wr.heap.size wr W5 := by rw [← hW5]; exact (jf _ _).alloc (jr _) _
   have h5 := hm.same hB5; have HW5 := jh hW5; clear hW5 hbl; have HH5 := jh h5; have s0 := jc hX5 0 rfl; have s1 := jc hX5 1 rfl; have s2 := jc hX5 2 rfl; have m1 := jc h5.hM 1 rfl; have zM : W5.frozen? ⟨M, 1, none⟩ = false := by simp [World.frozen?, h5.hM]
   have hMs : M < W5.heap.size := h5.lt; have HNE : Hid (some M ≠ vr.ownBlock) := jh fun e => by have h1 := h5.t1 M e.symm; rw [h5.t0] at h1; cases h1
   have HNX : Hid (some wr.heap.size ≠ vr.ownBlock) := jh fun e => by have h1 := (World.ownsRow.lt hm.row _ e.symm).2; omega
   have HXS := jh (show wr.heap.size < W5.heap.size from (jl hX5)); have HLR := jh (show cr.length < 1099511627776 by
    have h1 := hm.lr; have h2 : (yAh st (ts.take q)).rows.length ≤ st.rows.length + q := by simp [yAh]; omega
    omega)
   have HLW := jh (show cw.length < 1099511627776 by
    have h1 := hm.lw; have h2 : (yAh st (ts.take q)).wh.length ≤ st.wh.length + q := by simp [yAh]; omega
    omega)
   have HB0 := jh (show W0.heap.size ≤ W5.heap.size from h5.bel.size); have HROW : Hid ((W5.alloc (.cells #[.int .i64 ax, .int .i64 ts', .string nm, .slice none 0 0] 55)).drew.ownsRow W0.heap.size 55 4 vr cr.length (cr.flatMap yB5)) := jh (yAa (World.ownsRow.alloc h5.row _) fun _ _ => rfl); have HNEW : Hid (∀ j u, (yB5 ⟨ax, ts', nm, .slice none 0 0⟩)[j]? = some u → (W5.alloc (.cells #[.int .i64 ax, .int .i64 ts', .string nm, .slice none 0 0] 55)).drew.cell? ⟨W5.heap.size, j, none⟩ = some u) := jh (yPM W5 ⟨ax, ts', nm, .slice none 0 0⟩ 55); have HLT5 : Hid (W5.heap.size < (W5.alloc (.cells #[.int .i64 ax, .int .i64 ts', .string nm, .slice none 0 0] 55)).drew.heap.size) := jh (by show _ < (W5.alloc _).heap.size; rw [World.size_alloc]; exact Nat.lt_succ_self _); have HX5 := jh hX5; have HMM := jh hm; have HQ1 := jh hq1; have HFX := jh hfx; clear hX5 hB5 h5 hm hM hq1 hfx; go_upto_region 4 with fail; rw [HW5.out]; go_cut [] from 13 to 30 (fun wx => MkW W0 M wx main ⟨(yAh st (ts.take q)).rows ++ [⟨ax, ts', nm, []⟩], (yAh st (ts.take q)).wh, (yAh st (ts.take q)).preds⟩ ∧ wx.heap[wr.heap.size]? = some (.cells #[.int .i64 ax, .int .i64 ts', .string nm, .slice a1 n1 c1] 64))
   case first =>
    go_region_law (first
     | (refine yBs _ (by rfl) (.tmp 18) (.tmp 26) 33 55 (by rfl) _ 4 56 yRH Tryz.underlying33 (by rfl) (by decide) (by decide) W0.heap.size vr cr.length (cr.flatMap yB5) (by rfl) HROW.out (yB5 ⟨ax, ts', nm, .slice none 0 0⟩) (by rfl) (yQJ _ (by rfl)) W5.heap.size (by rfl) HNEW.out HLR.out (ju HB0.out (Nat.le_of_lt HLT5.out)) ?_; intro v3 w3 own3 grow3 at3; obtain ⟨a3, c3, rfl, _⟩ := yAb own3; have hgr : W5.grownBy w3 vr.ownBlock := ⟨grow3.os, grow3.tape, grow3.output, ju (Nat.le_of_lt HLT5.out) grow3.size, fun b hb hne => (grow3.block b (Nat.lt_trans hb HLT5.out) hne).trans (heap_alloc_old W5 _ hb)⟩; have hat : (Value.slice a3 (cr.length + 1) c3).ownBlock = vr.ownBlock ∨ ∃ j, (Value.slice a3 (cr.length + 1) c3).ownBlock = some j ∧ W5.heap.size ≤ j := at3.elim .inl fun e => .inr ⟨_, e, Nat.le_of_lt HLT5.out⟩; have hxb3 := (hgr.block _ hMs HNE.out).trans HH5.out.hM; have hx3 : w3.cell? ⟨M, 1, none⟩ = some vr := (by simp [World.cell?, hxb3]); have hzf3 : w3.frozen? ⟨M, 1, none⟩ = false := (by simp [World.frozen?, hxb3]); have hxs3 : M < w3.heap.size := jt hMs hgr.size; have HS3 := jh ((hgr.block _ HXS.out HNX.out).trans HX5.out); have HG3 := jh hgr; have HAT3 := jh hat; have HOW3 := jh own3; clear own3 grow3 at3 hgr hat hxb3))
    all_goals
     go_wp2_with fail; go_meet; exact ⟨HH5.out.addRow HOW3.out HG3.out HAT3.out, (js w3 ⟨M, 1, none⟩ (.slice a3 (cr.length + 1) c3) wr.heap.size (by show wr.heap.size ≠ M; have := HMM.out.lt; omega)).trans HS3.out⟩
   case rest =>
   obtain ⟨h6, hX6⟩ := hcut; clear s0 s1 s2 m1 zM hMs; obtain ⟨W6, hW6⟩ := je (wc); rw [hW6] at h6 hX6 ⊢; clear hW6; obtain ⟨tg2, vr2, vp2, vw2, cr2, cp2, cw2, h6⟩ := h6; have HH6 := jh h6; have s3 := jc hX6 3 rfl; have m3 := jc h6.hM 3 rfl; have zM : W6.frozen? ⟨M, 3, none⟩ = false := by simp [World.frozen?, h6.hM]
   have hMs : M < W6.heap.size := h6.lt; have HNE2 : Hid (some M ≠ vw2.ownBlock) := jh fun e => by have h1 := h6.t3 M e.symm; rw [h6.t0] at h1; cases h1
   have HLW2 := jh (show cw2.length < 1099511627776 by
    have h1 : cw2.length = (yAh st (ts.take q)).wh.length := h6.lw; have h2 : (yAh st (ts.take q)).wh.length ≤ st.wh.length + q := by simp [yAh]; omega
    omega)
   have HB6 := jh (show W0.heap.size ≤ W6.heap.size from h6.bel.size); have HROW6 : Hid ((W6.alloc (.cells #[.slice a1 n1 c1] 37)).drew.ownsRow W0.heap.size 37 1 vw2 cw2.length (cw2.flatMap cellW)) := jh (yAa (World.ownsRow.alloc h6.whr _) fun _ _ => rfl); have HNEW6 : Hid (∀ j u, (cellW (a1, n1, c1))[j]? = some u → (W6.alloc (.cells #[.slice a1 n1 c1] 37)).drew.cell? ⟨W6.heap.size, j, none⟩ = some u) := jh (yPv W6 (a1, n1, c1) 37); have HLT6 : Hid (W6.heap.size < (W6.alloc (.cells #[.slice a1 n1 c1] 37)).drew.heap.size) := jh (by show _ < (W6.alloc _).heap.size; rw [World.size_alloc]; exact Nat.lt_succ_self _); clear h6 hX6; go_upto_region 5 with fail; go_region_law (first
    | (refine yBs _ (by rfl) (.tmp 35) (.tmp 38) 92 37 (by rfl) _ 1 24 ySp Tryz.underlying92 (by rfl) (by decide) (by decide) W0.heap.size vw2 cw2.length (cw2.flatMap cellW) (by rfl) HROW6.out (cellW (a1, n1, c1)) (by rfl) (yP6 _) W6.heap.size (by rfl) HNEW6.out HLW2.out (ju HB6.out (Nat.le_of_lt HLT6.out)) ?_; intro v4 w4 own4 grow4 at4; obtain ⟨a4, c4, rfl, _⟩ := yAb own4; have hgr : W6.grownBy w4 vw2.ownBlock := ⟨grow4.os, grow4.tape, grow4.output, ju (Nat.le_of_lt HLT6.out) grow4.size, fun b hb hne => (grow4.block b (Nat.lt_trans hb HLT6.out) hne).trans (heap_alloc_old W6 _ hb)⟩; have hat : (Value.slice a4 (cw2.length + 1) c4).ownBlock = vw2.ownBlock ∨ ∃ j, (Value.slice a4 (cw2.length + 1) c4).ownBlock = some j ∧ W6.heap.size ≤ j := at4.elim .inl fun e => .inr ⟨_, e, Nat.le_of_lt HLT6.out⟩; have hxb4 := (hgr.block _ hMs HNE2.out).trans HH6.out.hM; have hx4 : w4.cell? ⟨M, 3, none⟩ = some vw2 := (by simp [World.cell?, hxb4]); have hzf4 : w4.frozen? ⟨M, 3, none⟩ = false := (by simp [World.frozen?, hxb4]); have hxs4 : M < w4.heap.size := jt hMs hgr.size; have HG4 := jh hgr; have HAT4 := jh hat; have HOW4 := jh own4; clear own4 grow4 at4 hgr hat hxb4))
   all_goals
    have HFIN := jh (HH6.out.addWh HFX.out HOW4.out HG4.out HAT4.out); go_wp2_with fail; go_roundw
    case rel => exact ⟨q + 1, by go_num, by omega, by rw [yMb st HQ1.out]; exact HFIN.out⟩
    case measure => simp [intOf]; omega
  ·obtain rfl : q = n := by omega
   have HE := jh (show MkW W0 M wr main (yAh st ts) by rw [jm (by rw [hLN.out]; exact jr _)] at hm; exact hm); clear hm; go_wp2_with fail; refine bodyPost_end (results_none rfl _ _ _) rfl ?_; exact ⟨rfl, HE.out⟩
theorem yN9 (W0 : World) (M : Nat) (main : Int) (st : Cst) (op : Int) (sts : List St) (nm : ByteArray) (cmp : Int) (txt : ByteArray) (num : Int) (a1 : Option Addr) (n1 c1 : Nat) (a2 : Option Addr) (n2 c2 k : Nat) (w : World)
  (h : MkW W0 M w main st) (hF : yAH W0 sts a2 n2 c2) (hk : k < st.preds.length) (hfit : Fits st n2) :
  Calls Tryz.prog 92 #[.pointer (some ⟨M, 0, none⟩), .agg #[.int .i64 op, .slice a1 n1 c1, .slice a2 n2 c2, .string nm, .int .i64 cmp, .string txt, .int .i64 num], .int .i64 k] w fun e w' => e = .returned (.tuple #[]) ∧ MkW W0 M w' main (yAh (yCm st k sts.length nm cmp txt num) sts) := by
 obtain ⟨tg, vr, vp, vw, cr, cp, cw, h⟩ := h; have hM := h.lt; obtain ⟨W1, hW1⟩ := je (w.alloc (.cells #[.int .i64 op, .slice a1 n1 c1, .slice a2 n2 c2, .string nm, .int .i64 cmp, .string txt, .int .i64 num] 66)); have hX : W1.heap[w.heap.size]? = some (.cells #[.int .i64 op, .slice a1 n1 c1, .slice a2 n2 c2, .string nm, .int .i64 cmp, .string txt, .int .i64 num] 66) := by rw [← hW1]; exact jw _ _
 have hB : Below w.heap.size w W1 := by rw [← hW1]; exact (jf _ _).alloc (jr _) _
 have h1 := h.same hB; obtain ⟨g, cap, c, r, hvp, hc, hr, hcap, hgs, hgM, hzg, hcell⟩ := h1.predAt hk; have hgX : g ≠ w.heap.size := by rintro rfl; have := h.own2 w.heap.size (by rw [hvp]; rfl); omega
 obtain ⟨ar, car, hvr, har, _⟩ := yAb h1.row; have hrl := h1.lr; have hnr : cr.length ≤ 1048576 := by rw [hrl]; have := hfit.rows; omega
 have hkp : k < cp.length := by rw [h1.lp]; exact hk
 have hpl : cp.length ≤ 1048576 := by rw [h1.lp]; have := hfit.preds; omega
 have hn2 : n2 ≤ 1048576 := by have := hfit.rows; omega
 have HFI := jh hfit; have hl0 := hF.len; have m1 : W1.cell? ⟨M, 1, none⟩ = some (.slice ar cr.length car) := by simp [World.cell?, h1.hM, hvr]
 have m2 : W1.cell? ⟨M, 2, none⟩ = some (.slice (some ⟨g, 0, none⟩) cp.length cap) := by simp [World.cell?, h1.hM, hvp]
 have x2 := jc hX 2 rfl; have g2 : W1.cell? ⟨g, k * 8 + 2, none⟩ = some (.int .i64 c.first) := (hcell 2 (by omega)).trans rfl; have g3 : W1.cell? ⟨g, k * 8 + 3, none⟩ = some (.int .i64 c.count) := (hcell 3 (by omega)).trans rfl; have z2 := hzg (k * 8 + 2); have z3 := hzg (k * 8 + 3); have hMs : M < W1.heap.size := h1.lt; have hXs : w.heap.size < W1.heap.size := jl hX; have hkp' : (k : Int) < cp.length := by omega
 have HH1 := jh h1; have HX := jh hX; have HC := jh hc; have HR := jh hr; have HVP := jh hvp; have HL := jh hrl; have HLS := jh hl0; have HF := jh hF; have HW1 := jh hW1; have HK := jh hk; clear h h1 hX hB hc hr hvp hrl hl0 hF hW1 hvr har hcell hzg hfit; go_enter Tryz.func92, Tryz.ntmps92; go_upto_region 1 with fail; rw [HW1.out]; go_upto_region 2 with fail; go_cut [] from 14 to 29 (fun wx => (∃ cp' c' r', Mw W0 M wx main ⟨st.rows, st.wh, st.preds.modify k fun p => { p with first := cr.length, count := n2 }⟩ tg vr vp vw cr cp' cw ∧ cp'[k]? = some c' ∧ (st.preds.modify k fun p => { p with first := cr.length, count := n2 })[k]? = some r' ∧ cp'.length = cp.length) ∧ wx.heap[w.heap.size]? = W1.heap[w.heap.size]?)
 case first =>
  go_region
  all_goals
   go_wp2_with fail; go_meet; obtain ⟨cp', c', h2, e2, f2, n2'⟩ := HH1.out.some1 HC.out HR.out HVP.out rfl cr.length n2; exact ⟨⟨cp', c', _, h2.same ((jf _ _).drew), e2, f2, n2'⟩, (js _ ⟨g, k * 8 + 3, none⟩ _ _ (Ne.symm hgX)).trans (js _ ⟨g, k * 8 + 2, none⟩ _ _ (Ne.symm hgX))⟩
 case rest =>
 obtain ⟨⟨cp', c', r', h2, e2, f2, n2'⟩, hX2⟩ := hcut; rw [HX.out] at hX2; clear m1 m2 x2 g2 g3 z2 z3 hMs hXs hgs; obtain ⟨W2, hW2⟩ := je (wc); rw [hW2] at h2 hX2 ⊢; clear hW2; have hgs : g < W2.heap.size := (h2.own2 g (by rw [HVP.out]; rfl)).2; obtain ⟨g3', cap3, c3, r3, hvp3, hc3, hr3, _, _, _, hzg, hcell⟩ := h2.predAt (k := k) (by show k < (st.preds.modify k _).length; rw [List.length_modify]; exact HK.out); have hgg : g = g3' := by rw [HVP.out] at hvp3; injection hvp3 with hvp3; injection hvp3 with hvp3; injection hvp3 with hvp3
 subst hgg; clear hvp3; have g4 : W2.cell? ⟨g, k * 8 + 4, none⟩ = some (.string c3.attr) := (hcell 4 (by omega)).trans rfl; have g5 : W2.cell? ⟨g, k * 8 + 5, none⟩ = some (.int .i64 c3.cmp) := (hcell 5 (by omega)).trans rfl; have g6 : W2.cell? ⟨g, k * 8 + 6, none⟩ = some (.string c3.txt) := (hcell 6 (by omega)).trans rfl; have g7 : W2.cell? ⟨g, k * 8 + 7, none⟩ = some (.int .i64 c3.num) := (hcell 7 (by omega)).trans rfl; have z4 := hzg (k * 8 + 4); have z5 := hzg (k * 8 + 5); have z6 := hzg (k * 8 + 6); have z7 := hzg (k * 8 + 7); have x3 := jc hX2 3 rfl; have x4 := jc hX2 4 rfl; have x5 := jc hX2 5 rfl; have x6 := jc hX2 6 rfl; have hXs : w.heap.size < W2.heap.size := jl hX2; have HH2 := jh h2; have HX2 := jh hX2; have HE2 := jh e2; have HF2 := jh f2; have HN2 := jh n2'; clear h2 hX2 e2 f2 n2' hc3 hr3 hzg hcell; go_upto_region 3 with fail; go_cut [] from 30 to 49 (fun wx => MkW W0 M wx main ⟨st.rows, st.wh, (st.preds.modify k fun p => { p with first := cr.length, count := n2 }).modify k fun p => { p with attr := nm, cmp := cmp, txt := txt, num := num }⟩ ∧ wx.heap[w.heap.size]? = W2.heap[w.heap.size]?)
 case first =>
  go_region
  all_goals
   go_wp2_with fail; go_meet; obtain ⟨cp4, h4⟩ := HH2.out.some2 HE2.out HF2.out HVP.out HN2.out nm cmp txt num; exact ⟨⟨tg, vr, vp, vw, cr, cp4, cw, h4.same ((jf _ _).drew)⟩, (js _ ⟨g, k * 8 + 7, none⟩ _ _ (Ne.symm hgX)).trans ((js _ ⟨g, k * 8 + 6, none⟩ _ _ (Ne.symm hgX)).trans ((js _ ⟨g, k * 8 + 5, none⟩ _ _ (Ne.symm hgX)).trans (js _ ⟨g, k * 8 + 4, none⟩ _ _ (Ne.symm hgX))))⟩
 case rest =>
 obtain ⟨h4, hX4⟩ := hcut; rw [HX2.out] at hX4; have x2 := jc hX4 2 rfl; rw [yBH, HL.out, ← HLS.out] at h4; have hS := fun W' (hb : Below wc.heap.size wc W') => yFg W0 M main (yCm st k sts.length nm cmp txt num) sts a2 n2 c2 W' HF.out (h4.same hb) hn2 (by have := HFI.out.rows; exact ju (Nat.le_add_right _ _) this) (by have := HFI.out.wh; exact ju (Nat.le_add_right _ _) this)
 have HS := jh hS; clear hS h4 hX4 g4 g5 g6 g7 z4 z5 z6 z7 x3 x4 x5 x6; go_wp2_with fail; refine (HS.out _ (by first | exact jf _ _ | exact (jf _ _).drew)).mono ?_; rintro e w5 ⟨rfl, h5⟩; have H5 := jh h5; clear h5; go_wp2_with fail; refine bodyPost_end (results_none rfl _ _ _) rfl ?_; exact ⟨rfl, H5.out⟩
def PX (x : Ex) : Prop := ∀ (W0 : World) (M : Nat) (main : Int) (st : Cst) (op : Int) (args : List Ex) (sts : List St) (nm : ByteArray) (cmp : Int) (txt : ByteArray) (num : Int) (a1 : Option Addr) (n1 c1 : Nat) (a2 : Option Addr) (n2 c2 : Nat) (w : World),
 x = .mk op args sts nm cmp txt num → yAM W0 args a1 n1 c1 → yAH W0 sts a2 n2 c2 → MkW W0 M w main st → Fits st (szX x) →
 Calls Tryz.prog 35 #[.pointer (some ⟨M, 0, none⟩), .agg #[.int .i64 op, .slice a1 n1 c1, .slice a2 n2 c2, .string nm, .int .i64 cmp, .string txt, .int .i64 num]] w fun e w' => e = .returned (.int .i64 (st.preds.length : Nat)) ∧ MkW W0 M w' main (cX x st)
theorem yPr {st : Cst} {args : List Ex} {q k : Nat} {x : Ex} (h : Fits st (yAU args)) (hx : args[q]? = some x) : Fits (cXL (args.take q) k st) (szX x) := by
 have h1 := yF1 (args.take q) k st; have h2 := yDd (args.take q); have h3 : yAU (args.take q) + szX x ≤ yAU args := by have e := yEp (args.take q) [x]; have e2 := (yKp args (q + 1)).2.2.2; rw [List.take_add_one, hx] at e2; simp only [Option.toList_some] at e2; rw [e] at e2; simpa [yAU] using e2
 exact h.room h1 (by omega) (by omega) (by omega)
theorem yL7 (W0 : World) (M : Nat) (main : Int) (st : Cst) (op : Int) (args : List Ex) (nm : ByteArray) (cmp : Int) (txt : ByteArray) (num : Int) (a1 : Option Addr) (n1 c1 : Nat) (a2 : Option Addr) (n2 c2 k : Nat) (w : World)
  (hA : ∀ x ∈ args, PX x) (h : MkW W0 M w main st) (hF : yAM W0 args a1 n1 c1) (hk : k < st.preds.length) (hfit : Fits st (yAU args)) :
  Calls Tryz.prog 91 #[.pointer (some ⟨M, 0, none⟩), .agg #[.int .i64 op, .slice a1 n1 c1, .slice a2 n2 c2, .string nm, .int .i64 cmp, .string txt, .int .i64 num], .int .i64 k] w fun e w' => e = .returned (.tuple #[]) ∧ MkW W0 M w' main (cXL args k st) := by
 have hlen := hF.len; have hsl := yHR args; have hn1 : n1 ≤ 9223372036854775807 := by have := hF.le; have := hF.cap_le; unfold maxLen at this; omega
 have HST : Hid (∀ ob, MkW W0 M (w.alloc ob) main (cXL (args.take 0) k st)) := jh fun ob => by simp only [List.take_zero, cXL]; exact h.same ((jf _ _).alloc (jr _) _)
 have HF := jh hF; have HA := jh hA; have HFI := jh hfit; have HK := jh hk; have HLN := jh hlen; clear h hF hA hfit hk hlen hsl; go_enter Tryz.func91, Tryz.ntmps91; go_wp2_with fail; go_loopw [12] (fun i wr => ∃ q : Nat, i = .int .i64 q ∧ q ≤ n1 ∧ MkW W0 M wr main (cXL (args.take q) k st)) (fun i _ => n1 - (intOf i).toNat)
 case atStart => exact ⟨0, rfl, jz _, HST.out _⟩
 case round =>
  obtain ⟨q, rfl, hq, hm⟩ := hrel; by_cases hqn : q < n1
  ·have hqn' : (q : Int) < n1 := by omega
   obtain ⟨b, o, xop, xargs, xsts, xnm, xcmp, xtxt, xnum, xa1, xn1, xc1, xa2, xn2, xc2, rfl, hb0, hq1, p0, p1, p2, p3, p4, p5, p6, hfx, hft⟩ := HF.out.elem q hqn; have hbl : ∀ j, wr.cell? ⟨b, j, none⟩ = W0.cell? ⟨b, j, none⟩ := fun j => by obtain ⟨tg, vr, vp, vw, cr, cp, cw, hm⟩ := hm; exact hm.bel.cell (p := ⟨b, j, none⟩) hb0
   rw [← hbl] at p0 p1 p2 p3 p4 p5 p6; obtain ⟨s', hs'⟩ := je (cXL (args.take q) k st); have hfit' := yPr (k := k) HFI.out hq1; have hnext := yLt hq1 k st; have hroom := yF1 (args.take q) k st; rw [hs'] at hm hfit' hnext hroom; have hks : k < s'.preds.length := by rw [hroom.preds]; have := HK.out; omega
   obtain ⟨x, hx⟩ := je (Ex.mk xop xargs xsts xnm xcmp xtxt xnum); rw [hx] at hq1 hfit' hnext; have HCX : Hid (∀ W, Below wr.heap.size wr W → Calls Tryz.prog 35 #[.pointer (some ⟨M, 0, none⟩), .agg #[.int .i64 xop, .slice xa1 xn1 xc1, .slice xa2 xn2 xc2, .string xnm, .int .i64 xcmp, .string xtxt, .int .i64 xnum]] W fun e w' => e = .returned (.int .i64 (s'.preds.length : Nat)) ∧ MkW W0 M w' main (cX x s')) := jh fun W hb => HA.out x (List.mem_of_getElem? hq1) W0 M main s' xop xargs xsts xnm xcmp xtxt xnum xa1 xn1 xc1 xa2 xn2 xc2 W hx.symm hfx hft (hm.same hb) hfit'
   have hrx := yCd x s'; have HFX := jh (hfit'.room (m := 0) hrx (by have := yBE x; omega) (by have := yBE x; omega) (by have := yBE x; omega)); have hks2 : k < (cX x s').preds.length := by rw [hrx.preds]; omega
   obtain ⟨sx, hsx⟩ := je (cX x s'); rw [hsx] at HCX HFX hks2 hnext; have hbs : b < wr.heap.size := World.block_lt_of_cell? wr _ p0; have HNX := jh hnext; clear hq1 hfx hft hbl hfit' hnext hroom hx hrx hsx hm hs'; go_upto_region 4 with fail
   go_wp2_with fail; refine (HCX.out _ ((jf _ _).alloc (jr _) _)).mono ?_; rintro e w2 ⟨rfl, h2⟩; obtain ⟨tg, vr, vp, vw, cr, cp, cw, h2⟩ := h2; obtain ⟨g, cap, c, r, hvp, hc, hr, hcap, hgs, hgM, hzg, hcell⟩ := h2.predAt hks2; obtain ⟨_, _, _, _, _, _, _, hrow, htg⟩ := h2.ep k c r hc hr; have m2 : w2.cell? ⟨M, 2, none⟩ = some (.slice (some ⟨g, 0, none⟩) cp.length cap) := by simp [World.cell?, h2.hM, hvp]
   have g1 : w2.cell? ⟨g, k * 8 + 1, none⟩ = some c.v := (hcell 1 (by omega)).trans rfl; have z1 := hzg (k * 8 + 1); have hMs : M < w2.heap.size := h2.lt; have hkp : k < cp.length := by rw [h2.lp]; exact hks2
   have hkp' : (k : Int) < cp.length := by omega
   have hpl : cp.length ≤ 1048576 := by rw [h2.lp]; exact HFX.out.preds
   have HNG : Hid (some g ≠ c.v.ownBlock) := jh fun e => by have h1 := htg g e.symm; have h3 := h2.t2 g (by rw [hvp]; rfl); omega
   have HNM : Hid (some M ≠ c.v.ownBlock) := jh fun e => by have h1 := htg M e.symm; rw [h2.t0] at h1; omega
   have HLA := jh (show r.args.length < 1099511627776 by obtain ⟨B, hB, hB2⟩ := HFX.out.args; have := hB.1 r (List.mem_of_getElem? hr); omega); have HB2 := jh (show W0.heap.size ≤ w2.heap.size from h2.bel.size); have HGB := jh (show ∀ w3 : World, w3.heap[g]? = w2.heap[g]? → w3.cell? ⟨g, k * 8 + 1, none⟩ = some c.v ∧ w3.frozen? ⟨g, k * 8 + 1, none⟩ = false from fun w3 e => ⟨(World.cell?_of_block (w := w2) e).trans g1, (World.frozen?_of_block (w := w2) e).trans z1⟩); have HMB := jh (show ∀ w3 : World, w3.heap[M]? = w2.heap[M]? → w3.cell? ⟨M, 2, none⟩ = some (.slice (some ⟨g, 0, none⟩) cp.length cap) from fun w3 e => (World.cell?_of_block (w := w2) e).trans m2); have HADD := jh (show ∀ (W3 : World) (v3 : Value) (n : Int) (cap : Nat), vp = .slice (some ⟨g, 0, none⟩) cp.length cap → Row W3 W0.heap.size 3 .i64 v3 (r.args ++ [n]) → w2.grownBy W3 c.v.ownBlock → (v3.ownBlock = c.v.ownBlock ∨ ∃ j, v3.ownBlock = some j ∧ w2.heap.size ≤ j) → MkW W0 M (W3.setCell ⟨g, k * 8 + 1, none⟩ v3) main (addArg sx k n) from fun W3 v3 n cap e1 e2 e3 e4 => h2.addArg hc hr e1 e2 e3 e4); have HVP := jh hvp; obtain ⟨cv, hcv⟩ := je (c.v); rw [hcv] at hrow g1 HNG HNM HGB HADD; have HROW : Hid ((w2.alloc (.cells #[.int .i64 (s'.preds.length : Nat)] 3)).drew.ownsRow W0.heap.size 3 1 cv r.args.length (r.args.map (Value.int .i64))) := jh (yAa (World.ownsRow.alloc hrow _) fun _ _ => rfl); have HNEW : Hid (∀ j u, ([.int .i64 (s'.preds.length : Nat)] : List Value)[j]? = some u → (w2.alloc (.cells #[.int .i64 (s'.preds.length : Nat)] 3)).drew.cell? ⟨w2.heap.size, j, none⟩ = some u) := jh fun j u hj => by have hn := jw w2 (.cells #[.int .i64 (s'.preds.length : Nat)] 3); show (w2.alloc _).cell? _ = _; unfold World.cell?; rw [hn]; simpa using hj
   have HLT : Hid (w2.heap.size < (w2.alloc (.cells #[.int .i64 (s'.preds.length : Nat)] 3)).drew.heap.size) := jh (by show _ < (w2.alloc _).heap.size; rw [World.size_alloc]; exact Nat.lt_succ_self _); clear h2 hvp hc hr hrow htg hcell hzg hcv hks2 HCX; go_upto_region 5 with fail; go_region_law (first
    | (refine yBs _ (by rfl) (.tmp 33) (.tmp 35) 53 3 (by rfl) _ 1 8 yMI Tryz.underlying53 (by rfl) (by decide) (by decide) W0.heap.size cv r.args.length (r.args.map (Value.int .i64)) (by rfl) HROW.out [.int .i64 (s'.preds.length : Nat)] (by rfl) (by simp [Value.oneCell']) w2.heap.size (by rfl) HNEW.out HLA.out (ju HB2.out (Nat.le_of_lt HLT.out)) ?_; intro v3 w3 own3 grow3 at3; obtain ⟨a3, c3, rfl, _⟩ := yAb own3; have hgr : w2.grownBy w3 cv.ownBlock := ⟨grow3.os, grow3.tape, grow3.output, ju (Nat.le_of_lt HLT.out) grow3.size, fun b hb hne => (grow3.block b (Nat.lt_trans hb HLT.out) hne).trans (heap_alloc_old w2 _ hb)⟩; have hat : (Value.slice a3 (r.args.length + 1) c3).ownBlock = cv.ownBlock ∨ ∃ j, (Value.slice a3 (r.args.length + 1) c3).ownBlock = some j ∧ w2.heap.size ≤ j := at3.elim .inl fun e => .inr ⟨_, e, Nat.le_of_lt HLT.out⟩; have hg3 := HGB.out w3 (hgr.block _ hgs HNG.out); have hx3 := hg3.1; have hzf3 := hg3.2; have hm3 := HMB.out w3 (hgr.block _ hMs HNM.out); have hxs3 : g < w3.heap.size := jt hgs hgr.size; have HG3 := jh hgr; have HAT3 := jh hat; have HOW3 := jh own3; clear own3 grow3 at3 hgr hat hg3))
   all_goals
    have hrow3 : Row w3 W0.heap.size 3 .i64 (.slice a3 (r.args.length + 1) c3) (r.args ++ [((s'.preds.length : Nat) : Int)]) := by have := HOW3.out; unfold Row; rw [jp, List.map_append]; exact this
    have HFIN := jh (HADD.out _ _ _ _ HVP.out hrow3 HG3.out HAT3.out); clear hrow3; go_wp2_with fail; go_roundw
    case rel => exact ⟨q + 1, by go_num, by omega, by rw [HNX.out]; exact HFIN.out⟩
    case measure => simp [intOf]; omega
  ·obtain rfl : q = n1 := by omega
   have HE := jh (show MkW W0 M wr main (cXL args k st) by rw [jm (by rw [HLN.out]; exact jr _)] at hm; exact hm); clear hm; go_wp2_with fail; refine bodyPost_end (results_none rfl _ _ _) rfl ?_; exact ⟨rfl, HE.out⟩
end Go.Proofs.YtkhejkfjhddobaaGreatDoor
