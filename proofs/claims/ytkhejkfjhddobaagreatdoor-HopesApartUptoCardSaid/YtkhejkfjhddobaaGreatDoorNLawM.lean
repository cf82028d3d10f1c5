/- What gimlet/net makes of a path (Compile), and of a net (Path): plain functions. -/
import Derived.Test.YtkhejkfjhddobaaGreatDoorNRExprM
namespace Gim
open Go Go.RowKit
structure Cst where
 rows : List yCK
 wh : List (List Ex)
 preds : List yAG
def yCx : St → yCK
 | .mk ax ts nm _ => ⟨ax, ts, nm, []⟩
def yFb : St → List Ex
 | .mk _ _ _ wh => wh
def yAh (st : Cst) (ts : List St) : Cst := ⟨st.rows ++ ts.map yCx, st.wh ++ ts.map yFb, st.preds⟩
def yBf (op : Int) : yAG := ⟨op, [], 0, 0, ByteArray.empty, 0, ByteArray.empty, 0⟩
def addPred (st : Cst) (op : Int) : Cst := ⟨st.rows, st.wh, st.preds ++ [yBf op]⟩
def addArg (st : Cst) (at_ : Nat) (n : Int) : Cst := ⟨st.rows, st.wh, st.preds.modify at_ fun p => { p with args := p.args ++ [n] }⟩
def yCm (st : Cst) (at_ count : Nat) (nm : ByteArray) (cmp : Int) (txt : ByteArray) (num : Int) : Cst :=
 ⟨st.rows, st.wh, st.preds.modify at_ fun p => { p with first := st.rows.length, count := count, attr := nm, cmp := cmp, txt := txt, num := num }⟩
mutual
/-- an expression is added; its number is how many were there -/
def cX : Ex → Cst → Cst
 | .mk op args sts nm cmp txt num, st =>
  if op = 3 then yAh (yCm (addPred st op) st.preds.length sts.length nm cmp txt num) sts
  else cXL args st.preds.length (addPred st op)
def cXL : List Ex → Nat → Cst → Cst
 | [], _, st => st
 | a :: r, at_, st => cXL r at_ (addArg (cX a st) at_ st.preds.length)
end
def addRow (st : Cst) (i : Nat) (n : Int) : Cst := ⟨st.rows.modify i fun r => { r with ps := r.ps ++ [n] }, st.wh, st.preds⟩
def yA5 (i : Nat) : List Ex → Cst → Cst
 | [], st => st
 | x :: r, st => yA5 i r (addRow (cX x st) i st.preds.length)
def yDp : Nat → Nat → Cst → Cst
 | 0, _, st => st
 | f + 1, i, st => if i < st.rows.length then yDp f (i + 1) (yA5 i (st.wh.getD i []) st) else st
def comp (ts : List St) : yAc :=
 let st := yDp (ts.length + yBe ts + 1) 0 (yAh ⟨[], [], []⟩ ts)
 ⟨ts.length, st.rows, st.preds⟩
structure NR where
 ax : Int
 ts : Int
 nm : ByteArray
 v : Value
def yB5 (c : NR) : List Value := [.int .i64 c.ax, .int .i64 c.ts, .string c.nm, c.v]
structure NP where
 op : Int
 v : Value
 first : Int
 count : Int
 attr : ByteArray
 cmp : Int
 txt : ByteArray
 num : Int
def yBy (c : NP) : List Value := [.int .i64 c.op, c.v, .int .i64 c.first, .int .i64 c.count, .string c.attr, .int .i64 c.cmp, .string c.txt, .int .i64 c.num]
abbrev NW := Option Addr × Nat × Nat
def cellW (c : NW) : List Value := [.slice c.1 c.2.1 c.2.2]
theorem yEL {w : World} {B : Nat} {t : TypeId} {k n cap g : Nat} {l : List Value} (h : w.ownsRow B t k (.slice (some ⟨g, 0, none⟩) n cap) n l) (j : Nat) (u : Value) :
  (w.setCell ⟨g, j, none⟩ u).ownsRow B t k (.slice (some ⟨g, 0, none⟩) n cap) n (l.set j u) := by
 obtain ⟨h1, h2⟩ := h; refine ⟨by rw [List.length_set]; exact h1, .inr ?_⟩; rcases h2 with ⟨h2, _⟩ | ⟨g', cap', cur, e, hb, hg, hn, hm, hs, ht⟩
 ·cases h2
 ·injection e with e1 e2 e3; injection e1 with e1; injection e1 with e1; subst e1 e3; refine ⟨g, cap, cur.setIfInBounds j u, rfl, hb, yAu hg u, hn, hm, by rw [Array.size_setIfInBounds]; exact hs, ?_⟩; rw [Array.toList_setIfInBounds, List.take_set, ht]
theorem yE5 {γ : Type} (f : γ → List Value) (k : Nat) (hf : ∀ c, (f c).length = k) : ∀ {cs : List γ} {i : Nat} {c c' : γ} {j : Nat} {u : Value}, cs[i]? = some c → j < k → f c' = (f c).set j u → (cs.set i c').flatMap f = (cs.flatMap f).set (i * k + j) u
 | [], i, c, c', j, u, h, _, _ => by simp at h
 | d :: cs, 0, c, c', j, u, h, hj, he => by simp only [List.getElem?_cons_zero, Option.some.injEq] at h; subst h; rw [List.set_cons_zero, List.flatMap_cons, List.flatMap_cons, Nat.zero_mul, Nat.zero_add, List.set_append_left _ _ (by rw [hf]; exact hj), he]
 | d :: cs, i + 1, c, c', j, u, h, hj, he => by rw [List.getElem?_cons_succ] at h; have ih := yE5 f k hf h hj he; rw [List.set_cons_succ, List.flatMap_cons, List.flatMap_cons, ih, show (i + 1) * k + j = (f d).length + (i * k + j) from by rw [hf, Nat.add_mul]; omega, List.set_append_right _ _ (by omega), Nat.add_sub_cancel_left]
theorem yBq {w w' : World} {B : Nat} {t : TypeId} {k : IntKind} {v : Value} {xs : List Int} (h : Row w B t k v xs) (hs : ∀ g, v.ownBlock = some g → w'.heap[g]? = w.heap[g]?) : Row w' B t k v xs := yAa h hs
end Gim
namespace Go.Proofs.YtkhejkfjhddobaaGreatDoor
open Go.RowKit Gim
theorem yRH : (Tryz.prog.info? 55).map (fun i => (i.zero, i.size, i.bytes)) = some (some (.agg #[.int .i64 0, .int .i64 0, .string ByteArray.empty, .slice none 0 0]), 4, 56) := by kernel_rfl
theorem yP7 : (Tryz.prog.info? 59).map (fun i => (i.zero, i.size, i.bytes)) = some (some (.agg #[.int .i64 0, .slice none 0 0, .int .i64 0, .int .i64 0, .string ByteArray.empty, .int .i64 0, .string ByteArray.empty, .int .i64 0]), 8, 96) := by kernel_rfl
theorem ySp : (Tryz.prog.info? 37).map (fun i => (i.zero, i.size, i.bytes)) = some (some (.slice none 0 0), 1, 24) := by kernel_rfl
theorem yMI : (Tryz.prog.info? 3).map (fun i => (i.zero, i.size, i.bytes)) = some (some (.int .i64 0), 1, 8) := by kernel_rfl
def ElR (W : World) (lo : Nat) (tg : Nat → Nat) (i : Nat) (c : NR) (r : yCK) : Prop := c.ax = r.ax ∧ c.ts = r.ts ∧ c.nm = r.nm ∧ Row W lo 3 .i64 c.v r.ps ∧ ∀ g, c.v.ownBlock = some g → tg g = 4 + 2 * i
def ElP (W : World) (lo : Nat) (tg : Nat → Nat) (i : Nat) (c : NP) (r : yAG) : Prop := c.op = r.op ∧ c.first = r.first ∧ c.count = r.count ∧ c.attr = r.attr ∧ c.cmp = r.cmp ∧ c.txt = r.txt ∧ c.num = r.num ∧ Row W lo 3 .i64 c.v r.args ∧ ∀ g, c.v.ownBlock = some g → tg g = 5 + 2 * i
structure Mw (W0 : World) (M : Nat) (W : World) (main : Int) (st : Cst) (tg : Nat → Nat) (vr vp vw : Value) (cr : List NR) (cp : List NP) (cw : List NW) : Prop where
 bel : Below W0.heap.size W0 W
 lo : W0.heap.size ≤ M
 hM : W.heap[M]? = some (.cells #[.int .i64 main, vr, vp, vw] 94)
 t0 : tg M = 0
 row : W.ownsRow W0.heap.size 55 4 vr cr.length (cr.flatMap yB5)
 t1 : ∀ g, vr.ownBlock = some g → tg g = 1
 pre : W.ownsRow W0.heap.size 59 8 vp cp.length (cp.flatMap yBy)
 t2 : ∀ g, vp.ownBlock = some g → tg g = 2
 whr : W.ownsRow W0.heap.size 37 1 vw cw.length (cw.flatMap cellW)
 t3 : ∀ g, vw.ownBlock = some g → tg g = 3
 lr : cr.length = st.rows.length
 er : ∀ i c r, cr[i]? = some c → st.rows[i]? = some r → ElR W W0.heap.size tg i c r
 lp : cp.length = st.preds.length
 ep : ∀ i c r, cp[i]? = some c → st.preds[i]? = some r → ElP W W0.heap.size tg i c r
 lw : cw.length = st.wh.length
 ew : ∀ (i : Nat) (c : NW) (xs : List Ex), cw[i]? = some c → st.wh[i]? = some xs → yAM W0 xs c.1 c.2.1 c.2.2
def MkW (W0 : World) (M : Nat) (W : World) (main : Int) (st : Cst) : Prop := ∃ tg vr vp vw cr cp cw, Mw W0 M W main st tg vr vp vw cr cp cw
theorem Mw.lt {W0 : World} {M : Nat} {W : World} {main : Int} {st : Cst} {tg : Nat → Nat} {vr vp vw : Value} {cr : List NR} {cp : List NP} {cw : List NW} (h : Mw W0 M W main st tg vr vp vw cr cp cw) : M < W.heap.size := jl h.hM
theorem Mw.same {W0 : World} {M : Nat} {W W' : World} {main : Int} {st : Cst} {tg : Nat → Nat} {vr vp vw : Value} {cr : List NR} {cp : List NP} {cw : List NW} (h : Mw W0 M W main st tg vr vp vw cr cp cw) (hb : Below W.heap.size W W') : Mw W0 M W' main st tg vr vp vw cr cp cw where
 bel := h.bel.trans (hb.mono h.bel.size)
 lo := h.lo
 hM := (hb.block M h.lt).trans h.hM
 t0 := h.t0
 row := yAa h.row fun g hg => hb.block g (World.ownsRow.lt h.row g hg).2
 t1 := h.t1
 pre := yAa h.pre fun g hg => hb.block g (World.ownsRow.lt h.pre g hg).2
 t2 := h.t2
 whr := yAa h.whr fun g hg => hb.block g (World.ownsRow.lt h.whr g hg).2
 t3 := h.t3
 lr := h.lr
 er := fun i c r hc hr => by obtain ⟨a, b, d, e, f⟩ := h.er i c r hc hr; exact ⟨a, b, d, yBq e fun g hg => hb.block g (Row.lt e g hg).2, f⟩
 lp := h.lp
 ep := fun i c r hc hr => by obtain ⟨a, b, d, e1, e2, e3, e4, e, f⟩ := h.ep i c r hc hr; exact ⟨a, b, d, e1, e2, e3, e4, yBq e fun g hg => hb.block g (Row.lt e g hg).2, f⟩
 lw := h.lw
 ew := h.ew
theorem MkW.same {W0 : World} {M : Nat} {W W' : World} {main : Int} {st : Cst} (h : MkW W0 M W main st) (hb : Below W.heap.size W W') : MkW W0 M W' main st := by obtain ⟨tg, vr, vp, vw, cr, cp, cw, h⟩ := h; exact ⟨tg, vr, vp, vw, cr, cp, cw, h.same hb⟩
structure yGn (W0 W W3 : World) (tg : Nat → Nat) (own : Option Nat) (t : Nat) (v3 : Value) : Prop where
 gr : W.grownBy W3 own
 tag : ∀ g, own = some g → tg g = t
 lo : ∀ g, own = some g → W0.heap.size ≤ g
 at_ : v3.ownBlock = own ∨ ∃ j, v3.ownBlock = some j ∧ W.heap.size ≤ j
def tgN (tg : Nat → Nat) (n t : Nat) : Nat → Nat := fun b => if n ≤ b then t else tg b
theorem yBo (tg : Nat → Nat) {n t g : Nat} (h : g < n) : tgN tg n t g = tg g := by unfold tgN; rw [if_neg (by omega)]
theorem yGn.new {W0 W W3 : World} {tg : Nat → Nat} {own : Option Nat} {t : Nat} {v3 : Value} (h : yGn W0 W W3 tg own t v3) (hlt : ∀ g, own = some g → g < W.heap.size) : ∀ g, v3.ownBlock = some g → tgN tg W.heap.size t g = t := by
 intro g hg; rcases h.at_ with e | ⟨j, e1, e2⟩
 ·rw [e] at hg; rw [yBo tg (hlt g hg)]; exact h.tag g hg
 ·rw [e1] at hg; injection hg with hg; subst hg; unfold tgN; rw [if_pos e2]
theorem yGn.keep {W0 W W3 : World} {tg : Nat → Nat} {own : Option Nat} {t : Nat} {v3 : Value} (h : yGn W0 W W3 tg own t v3) {g s : Nat} (hg : g < W.heap.size) (hs : tg g = s) (hne : s ≠ t) (X i : Nat) (hX : tg X ≠ s) (u : Value) : (W3.setCell ⟨X, i, none⟩ u).heap[g]? = W.heap[g]? := by
 refine (js W3 ⟨X, i, none⟩ u g ?_).trans (h.gr.block g hg ?_)
 ·rintro rfl; exact hX hs
 ·intro e; exact hne (hs.symm.trans (h.tag g e.symm))
theorem yGn.bel {W0 W W3 : World} {tg : Nat → Nat} {own : Option Nat} {t : Nat} {v3 : Value} (h : yGn W0 W W3 tg own t v3) (hb : Below W0.heap.size W0 W) {X : Nat} (hX : W0.heap.size ≤ X) (i : Nat) (u : Value) : Below W0.heap.size W0 (W3.setCell ⟨X, i, none⟩ u) :=
 (hb.trans ⟨h.gr.os, h.gr.tape, h.gr.output, h.gr.size, fun b hb2 => h.gr.block b (jt hb2 hb.size) fun e => by have := h.lo b e.symm; omega⟩).setCell hX u
section
variable {W0 : World} {M : Nat} {W : World} {main : Int} {st : Cst} {tg : Nat → Nat} {vr vp vw : Value} {cr : List NR} {cp : List NP} {cw : List NW}
theorem Mw.own1 (h : Mw W0 M W main st tg vr vp vw cr cp cw) : ∀ g, vr.ownBlock = some g → W0.heap.size ≤ g ∧ g < W.heap.size := World.ownsRow.lt h.row
theorem Mw.own2 (h : Mw W0 M W main st tg vr vp vw cr cp cw) : ∀ g, vp.ownBlock = some g → W0.heap.size ≤ g ∧ g < W.heap.size := World.ownsRow.lt h.pre
theorem Mw.own3 (h : Mw W0 M W main st tg vr vp vw cr cp cw) : ∀ g, vw.ownBlock = some g → W0.heap.size ≤ g ∧ g < W.heap.size := World.ownsRow.lt h.whr
theorem Mw.cells (h : Mw W0 M W main st tg vr vp vw cr cp cw) {W3 : World} {own : Option Nat} {t : Nat} {v3 : Value} (tu : yGn W0 W W3 tg own t v3) (ht : t ≠ 0) : W3.heap[M]? = some (.cells #[.int .i64 main, vr, vp, vw] 94) :=
 (tu.gr.block M h.lt fun e => ht ((tu.tag M e.symm).symm.trans h.t0)).trans h.hM
theorem Mw.erK (h : Mw W0 M W main st tg vr vp vw cr cp cw) {W3 : World} {own : Option Nat} {t : Nat} {v3 : Value} (tu : yGn W0 W W3 tg own t v3) (X i : Nat) (u : Value) (j : Nat) (c : NR) (r : yCK) (hj : 4 + 2 * j ≠ t) (hX : tg X ≠ 4 + 2 * j) (hc : cr[j]? = some c) (hr : st.rows[j]? = some r) : ElR (W3.setCell ⟨X, i, none⟩ u) W0.heap.size (tgN tg W.heap.size t) j c r := by obtain ⟨a, b, d, e, f⟩ := h.er j c r hc hr; refine ⟨a, b, d, yBq e fun g hg => tu.keep (Row.lt e g hg).2 (f g hg) hj X i hX u, fun g hg => ?_⟩; rw [yBo tg (Row.lt e g hg).2]; exact f g hg
theorem Mw.epK (h : Mw W0 M W main st tg vr vp vw cr cp cw) {W3 : World} {own : Option Nat} {t : Nat} {v3 : Value} (tu : yGn W0 W W3 tg own t v3) (X i : Nat) (u : Value) (j : Nat) (c : NP) (r : yAG) (hj : 5 + 2 * j ≠ t) (hX : tg X ≠ 5 + 2 * j) (hc : cp[j]? = some c) (hr : st.preds[j]? = some r) : ElP (W3.setCell ⟨X, i, none⟩ u) W0.heap.size (tgN tg W.heap.size t) j c r := by obtain ⟨a, b, d, e1, e2, e3, e4, e, f⟩ := h.ep j c r hc hr; refine ⟨a, b, d, e1, e2, e3, e4, yBq e fun g hg => tu.keep (Row.lt e g hg).2 (f g hg) hj X i hX u, fun g hg => ?_⟩; rw [yBo tg (Row.lt e g hg).2]; exact f g hg
theorem Mw.t0N (h : Mw W0 M W main st tg vr vp vw cr cp cw) (t : Nat) : tgN tg W.heap.size t M = 0 := by rw [yBo tg h.lt]; exact h.t0
theorem Mw.addRow (h : Mw W0 M W main st tg vr vp vw cr cp cw) {W3 : World} {vr3 : Value} {ax ts : Int} {nm : ByteArray} (own3 : W3.ownsRow W0.heap.size 55 4 vr3 (cr.length + 1) (cr.flatMap yB5 ++ yB5 ⟨ax, ts, nm, .slice none 0 0⟩)) (gr : W.grownBy W3 vr.ownBlock)
  (at_ : vr3.ownBlock = vr.ownBlock ∨ ∃ j, vr3.ownBlock = some j ∧ W.heap.size ≤ j) : MkW W0 M (W3.setCell ⟨M, 1, none⟩ vr3) main ⟨st.rows ++ [⟨ax, ts, nm, []⟩], st.wh, st.preds⟩ := by
 have tu : yGn W0 W W3 tg vr.ownBlock 1 vr3 := ⟨gr, h.t1, fun g hg => (h.own1 g hg).1, at_⟩
 have hM3 := h.cells tu (by omega); refine ⟨tgN tg W.heap.size 1, vr3, vp, vw, cr ++ [⟨ax, ts, nm, .slice none 0 0⟩], cp, cw, tu.bel h.bel h.lo 1 vr3, h.lo, ?_, h.t0N 1, ?_, tu.new fun g hg => (h.own1 g hg).2, ?_, ?_, ?_, ?_, ?_, ?_, h.lp, ?_, h.lw, h.ew⟩
 ·rw [yAu hM3]; rfl
 ·rw [jp, List.flatMap_append, show [(⟨ax, ts, nm, .slice none 0 0⟩ : NR)].flatMap yB5 = yB5 ⟨ax, ts, nm, .slice none 0 0⟩ by simp]; refine yAa own3 fun g hg => js W3 ⟨M, 1, none⟩ vr3 g ?_
  rintro rfl; rcases at_ with e | ⟨j, e1, e2⟩
  ·rw [e] at hg; have := h.t1 _ hg; rw [h.t0] at this; cases this
  ·rw [e1] at hg; injection hg with hg; have := h.lt; omega
 ·exact yAa h.pre fun g hg => tu.keep (h.own2 g hg).2 (h.t2 g hg) (by omega) M 1 (by rw [h.t0]; omega) vr3
 ·intro g hg; rw [yBo tg (h.own2 g hg).2]; exact h.t2 g hg
 ·exact yAa h.whr fun g hg => tu.keep (h.own3 g hg).2 (h.t3 g hg) (by omega) M 1 (by rw [h.t0]; omega) vr3
 ·intro g hg; rw [yBo tg (h.own3 g hg).2]; exact h.t3 g hg
 ·rw [jp, jp, h.lr]; rfl
 ·intro i c r hc hr; by_cases hi : i < cr.length
  ·rw [List.getElem?_append_left hi] at hc; rw [List.getElem?_append_left (by rw [← h.lr]; exact hi)] at hr; exact h.erK tu M 1 vr3 i c r (by omega) (by rw [h.t0]; omega) hc hr
  ·rw [List.getElem?_append_right (by omega)] at hc; rw [List.getElem?_append_right (by rw [← h.lr]; omega), ← h.lr] at hr; have e : i - cr.length = 0 := by have := (ji.1 hc).1; simp at this; omega
   rw [e] at hc hr; simp only [List.getElem?_cons_zero, Option.some.injEq] at hc hr; subst hc hr; exact ⟨rfl, rfl, rfl, World.ownsRow_nil _ _ _ _, fun g hg => by cases hg⟩
 ·exact fun i c r hc hr => h.epK tu M 1 vr3 i c r (by omega) (by rw [h.t0]; omega) hc hr
theorem Mw.addWh (h : Mw W0 M W main st tg vr vp vw cr cp cw) {W3 : World} {vw3 : Value} {a : Option Addr} {n c : Nat} {xs : List Ex} (hx : yAM W0 xs a n c) (own3 : W3.ownsRow W0.heap.size 37 1 vw3 (cw.length + 1) (cw.flatMap cellW ++ [.slice a n c])) (gr : W.grownBy W3 vw.ownBlock)
  (at_ : vw3.ownBlock = vw.ownBlock ∨ ∃ j, vw3.ownBlock = some j ∧ W.heap.size ≤ j) : MkW W0 M (W3.setCell ⟨M, 3, none⟩ vw3) main ⟨st.rows, st.wh ++ [xs], st.preds⟩ := by
 have tu : yGn W0 W W3 tg vw.ownBlock 3 vw3 := ⟨gr, h.t3, fun g hg => (h.own3 g hg).1, at_⟩
 have hM3 := h.cells tu (by omega); refine ⟨tgN tg W.heap.size 3, vr, vp, vw3, cr, cp, cw ++ [(a, n, c)], tu.bel h.bel h.lo 3 vw3, h.lo, ?_, h.t0N 3, ?_, ?_, ?_, ?_, ?_, tu.new fun g hg => (h.own3 g hg).2, h.lr, ?_, h.lp, ?_, ?_, ?_⟩
 ·rw [yAu hM3]; rfl
 ·exact yAa h.row fun g hg => tu.keep (h.own1 g hg).2 (h.t1 g hg) (by omega) M 3 (by rw [h.t0]; omega) vw3
 ·intro g hg; rw [yBo tg (h.own1 g hg).2]; exact h.t1 g hg
 ·exact yAa h.pre fun g hg => tu.keep (h.own2 g hg).2 (h.t2 g hg) (by omega) M 3 (by rw [h.t0]; omega) vw3
 ·intro g hg; rw [yBo tg (h.own2 g hg).2]; exact h.t2 g hg
 ·rw [jp, List.flatMap_append, show [((a, n, c) : NW)].flatMap cellW = [.slice a n c] by simp [cellW]]; refine yAa own3 fun g hg => js W3 ⟨M, 3, none⟩ vw3 g ?_
  rintro rfl; rcases at_ with e | ⟨j, e1, e2⟩
  ·rw [e] at hg; have := h.t3 _ hg; rw [h.t0] at this; cases this
  ·rw [e1] at hg; injection hg with hg; have := h.lt; omega
 ·exact fun i c r hc hr => h.erK tu M 3 vw3 i c r (by omega) (by rw [h.t0]; omega) hc hr
 ·exact fun i c r hc hr => h.epK tu M 3 vw3 i c r (by omega) (by rw [h.t0]; omega) hc hr
 ·rw [jp, jp, h.lw]; rfl
 ·intro i d ys hc hr; by_cases hi : i < cw.length
  ·rw [List.getElem?_append_left hi] at hc; rw [List.getElem?_append_left (by rw [← h.lw]; exact hi)] at hr; exact h.ew i d ys hc hr
  ·rw [List.getElem?_append_right (by omega)] at hc; rw [List.getElem?_append_right (by rw [← h.lw]; omega), ← h.lw] at hr; have e : i - cw.length = 0 := by have := (ji.1 hc).1; simp at this; omega
   rw [e] at hc hr; simp only [List.getElem?_cons_zero, Option.some.injEq] at hc hr; subst hc hr; exact hx
theorem Mw.addPred (h : Mw W0 M W main st tg vr vp vw cr cp cw) {W3 : World} {vp3 : Value} {op : Int} (own3 : W3.ownsRow W0.heap.size 59 8 vp3 (cp.length + 1) (cp.flatMap yBy ++ yBy ⟨op, .slice none 0 0, 0, 0, ByteArray.empty, 0, ByteArray.empty, 0⟩)) (gr : W.grownBy W3 vp.ownBlock)
  (at_ : vp3.ownBlock = vp.ownBlock ∨ ∃ j, vp3.ownBlock = some j ∧ W.heap.size ≤ j) : MkW W0 M (W3.setCell ⟨M, 2, none⟩ vp3) main (Gim.addPred st op) := by
 have tu : yGn W0 W W3 tg vp.ownBlock 2 vp3 := ⟨gr, h.t2, fun g hg => (h.own2 g hg).1, at_⟩
 have hM3 := h.cells tu (by omega); refine ⟨tgN tg W.heap.size 2, vr, vp3, vw, cr, cp ++ [⟨op, .slice none 0 0, 0, 0, ByteArray.empty, 0, ByteArray.empty, 0⟩], cw, tu.bel h.bel h.lo 2 vp3, h.lo, ?_, h.t0N 2, ?_, ?_, ?_, tu.new fun g hg => (h.own2 g hg).2, ?_, ?_, h.lr, ?_, ?_, ?_, h.lw, h.ew⟩
 ·rw [yAu hM3]; rfl
 ·exact yAa h.row fun g hg => tu.keep (h.own1 g hg).2 (h.t1 g hg) (by omega) M 2 (by rw [h.t0]; omega) vp3
 ·intro g hg; rw [yBo tg (h.own1 g hg).2]; exact h.t1 g hg
 ·rw [jp, List.flatMap_append, show [(⟨op, .slice none 0 0, 0, 0, ByteArray.empty, 0, ByteArray.empty, 0⟩ : NP)].flatMap yBy = yBy ⟨op, .slice none 0 0, 0, 0, ByteArray.empty, 0, ByteArray.empty, 0⟩ by simp]; refine yAa own3 fun g hg => js W3 ⟨M, 2, none⟩ vp3 g ?_
  rintro rfl; rcases at_ with e | ⟨j, e1, e2⟩
  ·rw [e] at hg; have := h.t2 _ hg; rw [h.t0] at this; cases this
  ·rw [e1] at hg; injection hg with hg; have := h.lt; omega
 ·exact yAa h.whr fun g hg => tu.keep (h.own3 g hg).2 (h.t3 g hg) (by omega) M 2 (by rw [h.t0]; omega) vp3
 ·intro g hg; rw [yBo tg (h.own3 g hg).2]; exact h.t3 g hg
 ·exact fun i c r hc hr => h.erK tu M 2 vp3 i c r (by omega) (by rw [h.t0]; omega) hc hr
 ·show _ = (st.preds ++ [yBf op]).length; rw [jp, jp, h.lp]; rfl
 ·intro i c r hc hr; have hr : (st.preds ++ [yBf op])[i]? = some r := hr; by_cases hi : i < cp.length
  ·rw [List.getElem?_append_left hi] at hc; rw [List.getElem?_append_left (by rw [← h.lp]; exact hi)] at hr; exact h.epK tu M 2 vp3 i c r (by omega) (by rw [h.t0]; omega) hc hr
  ·rw [List.getElem?_append_right (by omega)] at hc; rw [List.getElem?_append_right (by rw [← h.lp]; omega), ← h.lp] at hr; have e : i - cp.length = 0 := by have := (ji.1 hc).1; simp at this; omega
   rw [e] at hc hr; simp only [List.getElem?_cons_zero, Option.some.injEq] at hc hr; subst hc hr; exact ⟨rfl, rfl, rfl, rfl, rfl, rfl, rfl, World.ownsRow_nil _ _ _ _, fun g hg => by cases hg⟩
theorem Mw.addArg (h : Mw W0 M W main st tg vr vp vw cr cp cw) {k : Nat} {c : NP} {r : yAG} (hc : cp[k]? = some c) (hr : st.preds[k]? = some r) {W3 : World} {v3 : Value} {n : Int} {g cap : Nat} (hv : vp = .slice (some ⟨g, 0, none⟩) cp.length cap) (own3 : Row W3 W0.heap.size 3 .i64 v3 (r.args ++ [n])) (gr : W.grownBy W3 c.v.ownBlock)
  (at_ : v3.ownBlock = c.v.ownBlock ∨ ∃ j, v3.ownBlock = some j ∧ W.heap.size ≤ j) : MkW W0 M (W3.setCell ⟨g, k * 8 + 1, none⟩ v3) main (Gim.addArg st k n) := by
 have hE := h.ep k c r hc hr; obtain ⟨e1, e2, e3, e4, e5, e6, e7, e8, e9⟩ := hE; have tu : yGn W0 W W3 tg c.v.ownBlock (5 + 2 * k) v3 := ⟨gr, e9, fun g hg => (Row.lt e8 g hg).1, at_⟩
 have hg2 : tg g = 2 := h.t2 g (by rw [hv]; rfl); have hgl := h.own2 g (by rw [hv]; rfl); have hk : k < cp.length := (ji.1 hc).1; refine ⟨tgN tg W.heap.size (5 + 2 * k), vr, vp, vw, cr, cp.set k ⟨c.op, v3, c.first, c.count, c.attr, c.cmp, c.txt, c.num⟩, cw, tu.bel h.bel hgl.1 _ v3, h.lo, ?_, h.t0N _, ?_, ?_, ?_, ?_, ?_, ?_, h.lr, ?_, ?_, ?_, h.lw, h.ew⟩
 ·exact (tu.keep h.lt h.t0 (by omega) g (k * 8 + 1) (by omega) v3).trans h.hM
 ·exact yAa h.row fun b hb => tu.keep (h.own1 b hb).2 (h.t1 b hb) (by omega) g _ (by omega) v3
 ·intro b hb; rw [yBo tg (h.own1 b hb).2]; exact h.t1 b hb
 ·rw [List.length_set, yE5 yBy 8 (fun _ => rfl) hc (j := 1) (u := v3) (by omega) rfl]; have hp3 : W3.ownsRow W0.heap.size 59 8 vp cp.length (cp.flatMap yBy) := yAa h.pre fun b hb => gr.block b (h.own2 b hb).2 fun e => by have h1 := e9 b e.symm; rw [h.t2 b hb] at h1; omega
  rw [hv] at hp3 ⊢; exact yEL hp3 _ v3
 ·intro b hb; rw [yBo tg (h.own2 b hb).2]; exact h.t2 b hb
 ·exact yAa h.whr fun b hb => tu.keep (h.own3 b hb).2 (h.t3 b hb) (by omega) g _ (by omega) v3
 ·intro b hb; rw [yBo tg (h.own3 b hb).2]; exact h.t3 b hb
 ·exact fun i c r hc hr => h.erK tu g _ v3 i c r (by omega) (by omega) hc hr
 ·show _ = (st.preds.modify k _).length; rw [List.length_set, List.length_modify, h.lp]
 ·intro i d r' hd hr'; have hr' : (st.preds.modify k fun p => { p with args := p.args ++ [n] })[i]? = some r' := hr'; by_cases hi : k = i
  ·subst hi; rw [List.getElem?_set_self hk] at hd; rw [List.getElem?_modify_eq, hr] at hr'; injection hd with hd; injection hr' with hr'; subst hd hr'; refine ⟨e1, e2, e3, e4, e5, e6, e7, yBq own3 fun b hb => js W3 ⟨g, k * 8 + 1, none⟩ v3 b ?_, tu.new fun b hb => (Row.lt e8 b hb).2⟩; rintro rfl; rcases at_ with e | ⟨j, f1, f2⟩
   ·have hb : v3.ownBlock = some b := hb; rw [e] at hb; have := e9 _ hb; omega
   ·have hb : v3.ownBlock = some b := hb; rw [f1] at hb; injection hb with hb; omega
  ·rw [List.getElem?_set_ne hi] at hd; rw [List.getElem?_modify_ne _ _ hi] at hr'; exact h.epK tu g _ v3 i d r' (by omega) (by omega) hd hr'
theorem Mw.addRowPred (h : Mw W0 M W main st tg vr vp vw cr cp cw) {k : Nat} {c : NR} {r : yCK} (hc : cr[k]? = some c) (hr : st.rows[k]? = some r) {W3 : World} {v3 : Value} {n : Int} {g cap : Nat} (hv : vr = .slice (some ⟨g, 0, none⟩) cr.length cap) (own3 : Row W3 W0.heap.size 3 .i64 v3 (r.ps ++ [n])) (gr : W.grownBy W3 c.v.ownBlock)
  (at_ : v3.ownBlock = c.v.ownBlock ∨ ∃ j, v3.ownBlock = some j ∧ W.heap.size ≤ j) : MkW W0 M (W3.setCell ⟨g, k * 4 + 3, none⟩ v3) main (Gim.addRow st k n) := by
 have hE := h.er k c r hc hr; obtain ⟨e1, e2, e3, e8, e9⟩ := hE; have tu : yGn W0 W W3 tg c.v.ownBlock (4 + 2 * k) v3 := ⟨gr, e9, fun g hg => (Row.lt e8 g hg).1, at_⟩
 have hg2 : tg g = 1 := h.t1 g (by rw [hv]; rfl); have hgl := h.own1 g (by rw [hv]; rfl); have hk : k < cr.length := (ji.1 hc).1; refine ⟨tgN tg W.heap.size (4 + 2 * k), vr, vp, vw, cr.set k ⟨c.ax, c.ts, c.nm, v3⟩, cp, cw, tu.bel h.bel hgl.1 _ v3, h.lo, ?_, h.t0N _, ?_, ?_, ?_, ?_, ?_, ?_, ?_, ?_, h.lp, ?_, h.lw, h.ew⟩
 ·exact (tu.keep h.lt h.t0 (by omega) g (k * 4 + 3) (by omega) v3).trans h.hM
 ·rw [List.length_set, yE5 yB5 4 (fun _ => rfl) hc (j := 3) (u := v3) (by omega) rfl]; have hp3 : W3.ownsRow W0.heap.size 55 4 vr cr.length (cr.flatMap yB5) := yAa h.row fun b hb => gr.block b (h.own1 b hb).2 fun e => by have h1 := e9 b e.symm; rw [h.t1 b hb] at h1; omega
  rw [hv] at hp3 ⊢; exact yEL hp3 _ v3
 ·intro b hb; rw [yBo tg (h.own1 b hb).2]; exact h.t1 b hb
 ·exact yAa h.pre fun b hb => tu.keep (h.own2 b hb).2 (h.t2 b hb) (by omega) g _ (by omega) v3
 ·intro b hb; rw [yBo tg (h.own2 b hb).2]; exact h.t2 b hb
 ·exact yAa h.whr fun b hb => tu.keep (h.own3 b hb).2 (h.t3 b hb) (by omega) g _ (by omega) v3
 ·intro b hb; rw [yBo tg (h.own3 b hb).2]; exact h.t3 b hb
 ·show _ = (st.rows.modify k _).length; rw [List.length_set, List.length_modify, h.lr]
 ·intro i d r' hd hr'; have hr' : (st.rows.modify k fun p => { p with ps := p.ps ++ [n] })[i]? = some r' := hr'; by_cases hi : k = i
  ·subst hi; rw [List.getElem?_set_self hk] at hd; rw [List.getElem?_modify_eq, hr] at hr'; injection hd with hd; injection hr' with hr'; subst hd hr'; refine ⟨e1, e2, e3, yBq own3 fun b hb => js W3 ⟨g, k * 4 + 3, none⟩ v3 b ?_, tu.new fun b hb => (Row.lt e8 b hb).2⟩; rintro rfl; rcases at_ with e | ⟨j, f1, f2⟩
   ·have hb : v3.ownBlock = some b := hb; rw [e] at hb; have := e9 _ hb; omega
   ·have hb : v3.ownBlock = some b := hb; rw [f1] at hb; injection hb with hb; omega
  ·rw [List.getElem?_set_ne hi] at hd; rw [List.getElem?_modify_ne _ _ hi] at hr'; exact h.erK tu g _ v3 i d r' (by omega) (by omega) hd hr'
 ·exact fun i c r hc hr => h.epK tu g _ v3 i c r (by omega) (by omega) hc hr
end
end Go.Proofs.YtkhejkfjhddobaaGreatDoor
