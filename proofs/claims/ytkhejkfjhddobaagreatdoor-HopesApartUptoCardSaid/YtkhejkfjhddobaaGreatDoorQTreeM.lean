/- Paths, steps and expressions in memory. -/
import Derived.Test.YtkhejkfjhddobaaGreatDoorClsM
import Derived.Test.YtkhejkfjhddobaaGreatDoorNSameM
import Derived.Maps.AppendAt
import Derived.Laws.AppendOwnNone
import Derived.Deep.RegionLaw
set_option maxHeartbeats 4000000
namespace Gim
open Go Go.RowKit
mutual
inductive St where
 | mk (ax ts : Int) (nm : ByteArray) (wh : List Ex) : St
inductive Ex where
 | mk (op : Int) (args : List Ex) (sts : List St) (nm : ByteArray) (cmp : Int) (txt : ByteArray) (num : Int) : Ex
end
mutual
/-- the cells from ⟨b, o⟩ on hold the step -/
def yFz (W : World) : St → Nat → Nat → Prop
 | .mk ax ts nm wh, b, o => b < W.heap.size ∧ W.cell? ⟨b, o, none⟩ = some (.int .i64 ax) ∧ W.cell? ⟨b, o + 1, none⟩ = some (.int .i64 ts) ∧ W.cell? ⟨b, o + 2, none⟩ = some (.string nm) ∧
   ∃ a n cap, W.cell? ⟨b, o + 3, none⟩ = some (.slice a n cap) ∧ wh.length = n ∧ n ≤ cap ∧ cap ≤ maxLen ∧ ∀ j, j < n → ∃ b2 o2, a = some ⟨b2, o2, none⟩ ∧ yBv W wh b2 o2
/-- the cells from ⟨b, o⟩ on hold the expression -/
def yF9 (W : World) : Ex → Nat → Nat → Prop
 | .mk op args sts nm cmp txt num, b, o => b < W.heap.size ∧ W.cell? ⟨b, o, none⟩ = some (.int .i64 op) ∧ W.cell? ⟨b, o + 3, none⟩ = some (.string nm) ∧ W.cell? ⟨b, o + 4, none⟩ = some (.int .i64 cmp) ∧ W.cell? ⟨b, o + 5, none⟩ = some (.string txt) ∧ W.cell? ⟨b, o + 6, none⟩ = some (.int .i64 num) ∧
   (∃ a n cap, W.cell? ⟨b, o + 1, none⟩ = some (.slice a n cap) ∧ args.length = n ∧ n ≤ cap ∧ cap ≤ maxLen ∧ ∀ j, j < n → ∃ b2 o2, a = some ⟨b2, o2, none⟩ ∧ yBv W args b2 o2) ∧
   (∃ a n cap, W.cell? ⟨b, o + 2, none⟩ = some (.slice a n cap) ∧ sts.length = n ∧ n ≤ cap ∧ cap ≤ maxLen ∧ ∀ j, j < n → ∃ b2 o2, a = some ⟨b2, o2, none⟩ ∧ yBw W sts b2 o2)
def yBv (W : World) : List Ex → Nat → Nat → Prop
 | [], _, _ => True
 | x :: r, b, o => yF9 W x b o ∧ yBv W r b (o + 7)
def yBw (W : World) : List St → Nat → Nat → Prop
 | [], _, _ => True
 | t :: r, b, o => yFz W t b o ∧ yBw W r b (o + 4)
end
structure yAM (W : World) (xs : List Ex) (a : Option Addr) (n cap : Nat) : Prop where
 len : xs.length = n
 le : n ≤ cap
 cap_le : cap ≤ maxLen
 fit : ∀ j, j < n → ∃ b2 o2, a = some ⟨b2, o2, none⟩ ∧ yBv W xs b2 o2
structure yAH (W : World) (ts : List St) (a : Option Addr) (n cap : Nat) : Prop where
 len : ts.length = n
 le : n ≤ cap
 cap_le : cap ≤ maxLen
 fit : ∀ j, j < n → ∃ b2 o2, a = some ⟨b2, o2, none⟩ ∧ yBw W ts b2 o2
mutual
theorem yFz.below {w w' : World} (hb : Below w.heap.size w w') : ∀ {t : St} {b o : Nat}, yFz w t b o → yFz w' t b o
 | .mk ax ts nm wh, b, o, h => by
  unfold yFz at h ⊢; obtain ⟨h0, h1, h2, h3, a, n, cap, h4, h5, h6, h7, h8⟩ := h; exact ⟨jt h0 hb.size, (hb.cell (p := ⟨b, o, none⟩) h0).trans h1, (hb.cell (p := ⟨b, o + 1, none⟩) h0).trans h2, (hb.cell (p := ⟨b, o + 2, none⟩) h0).trans h3, a, n, cap, (hb.cell (p := ⟨b, o + 3, none⟩) h0).trans h4, h5, h6, h7, fun j hj => by obtain ⟨b2, o2, e, h⟩ := h8 j hj; exact ⟨b2, o2, e, yBv.below hb h⟩⟩
theorem yF9.below {w w' : World} (hb : Below w.heap.size w w') : ∀ {x : Ex} {b o : Nat}, yF9 w x b o → yF9 w' x b o
 | .mk op args sts nm cmp txt num, b, o, h => by
  unfold yF9 at h ⊢; obtain ⟨h0, h1, h2, h3, h4, h5, ⟨a, n, cap, k1, k2, k3, k4, k5⟩, a2, n2, cap2, j1, j2, j3, j4, j5⟩ := h; exact ⟨jt h0 hb.size, (hb.cell (p := ⟨b, o, none⟩) h0).trans h1, (hb.cell (p := ⟨b, o + 3, none⟩) h0).trans h2, (hb.cell (p := ⟨b, o + 4, none⟩) h0).trans h3, (hb.cell (p := ⟨b, o + 5, none⟩) h0).trans h4, (hb.cell (p := ⟨b, o + 6, none⟩) h0).trans h5,
   ⟨a, n, cap, (hb.cell (p := ⟨b, o + 1, none⟩) h0).trans k1, k2, k3, k4, fun j hj => by obtain ⟨b2, o2, e, h⟩ := k5 j hj; exact ⟨b2, o2, e, yBv.below hb h⟩⟩,
   a2, n2, cap2, (hb.cell (p := ⟨b, o + 2, none⟩) h0).trans j1, j2, j3, j4, fun j hj => by obtain ⟨b2, o2, e, h⟩ := j5 j hj; exact ⟨b2, o2, e, yBw.below hb h⟩⟩
theorem yBv.below {w w' : World} (hb : Below w.heap.size w w') : ∀ {xs : List Ex} {b o : Nat}, yBv w xs b o → yBv w' xs b o
 | [], _, _, _ => by unfold yBv; trivial
 | x :: r, b, o, h => by unfold yBv at h ⊢; exact ⟨yF9.below hb h.1, yBv.below hb h.2⟩
theorem yBw.below {w w' : World} (hb : Below w.heap.size w w') : ∀ {ts : List St} {b o : Nat}, yBw w ts b o → yBw w' ts b o
 | [], _, _, _ => by unfold yBw; trivial
 | x :: r, b, o, h => by unfold yBw at h ⊢; exact ⟨yFz.below hb h.1, yBw.below hb h.2⟩
end
theorem yAM.below {w w' : World} {xs : List Ex} {a : Option Addr} {n cap : Nat} (h : yAM w xs a n cap) (hb : Below w.heap.size w w') : yAM w' xs a n cap :=
 ⟨h.len, h.le, h.cap_le, fun j hj => by obtain ⟨b2, o2, e, k⟩ := h.fit j hj; exact ⟨b2, o2, e, yBv.below hb k⟩⟩
theorem yAH.below {w w' : World} {xs : List St} {a : Option Addr} {n cap : Nat} (h : yAH w xs a n cap) (hb : Below w.heap.size w w') : yAH w' xs a n cap :=
 ⟨h.len, h.le, h.cap_le, fun j hj => by obtain ⟨b2, o2, e, k⟩ := h.fit j hj; exact ⟨b2, o2, e, yBw.below hb k⟩⟩
theorem yBv.at_ {w : World} : ∀ {xs : List Ex} {b o : Nat} (i : Nat) (hi : i < xs.length), yBv w xs b o → yF9 w xs[i] b (o + i * 7)
 | f :: r, b, o, 0, _, h => by unfold yBv at h; simpa using h.1
 | f :: r, b, o, i + 1, hi, h => by unfold yBv at h; have := yBv.at_ i (by simpa using hi) h.2; rw [show o + (i + 1) * 7 = o + 7 + i * 7 by omega]; exact this
theorem yBw.at_ {w : World} : ∀ {xs : List St} {b o : Nat} (i : Nat) (hi : i < xs.length), yBw w xs b o → yFz w xs[i] b (o + i * 4)
 | f :: r, b, o, 0, _, h => by unfold yBw at h; simpa using h.1
 | f :: r, b, o, i + 1, hi, h => by unfold yBw at h; have := yBw.at_ i (by simpa using hi) h.2; rw [show o + (i + 1) * 4 = o + 4 + i * 4 by omega]; exact this
theorem yAM.elem {w : World} {xs : List Ex} {a : Option Addr} {n cap : Nat} (h : yAM w xs a n cap) (i : Nat) (hi : i < n) : ∃ b o op args sts nm cmp txt num a1 n1 c1 a2 n2 c2, a = some ⟨b, o, none⟩ ∧ b < w.heap.size ∧ xs[i]? = some (.mk op args sts nm cmp txt num) ∧
  w.cell? ⟨b, o + i * 7, none⟩ = some (.int .i64 op) ∧ w.cell? ⟨b, o + i * 7 + 1, none⟩ = some (.slice a1 n1 c1) ∧ w.cell? ⟨b, o + i * 7 + 2, none⟩ = some (.slice a2 n2 c2) ∧ w.cell? ⟨b, o + i * 7 + 3, none⟩ = some (.string nm) ∧ w.cell? ⟨b, o + i * 7 + 4, none⟩ = some (.int .i64 cmp) ∧ w.cell? ⟨b, o + i * 7 + 5, none⟩ = some (.string txt) ∧ w.cell? ⟨b, o + i * 7 + 6, none⟩ = some (.int .i64 num) ∧ yAM w args a1 n1 c1 ∧ yAH w sts a2 n2 c2 := by
 obtain ⟨b, o, e, k⟩ := h.fit i hi; have hi' : i < xs.length := by rw [h.len]; exact hi
 have hA := k.at_ i hi'; rcases hf : xs[i] with ⟨op, args, sts, nm, cmp, txt, num⟩; rw [hf] at hA; unfold yF9 at hA; obtain ⟨h0, h1, h2, h3, h4, h5, ⟨a1, n1, c1, k1, k2, k3, k4, k5⟩, a2, n2, c2, j1, j2, j3, j4, j5⟩ := hA; exact ⟨b, o, op, args, sts, nm, cmp, txt, num, a1, n1, c1, a2, n2, c2, e, h0, by rw [jk hi', hf], h1, k1, j1, h2, h3, h4, h5, ⟨k2, k3, k4, k5⟩, j2, j3, j4, j5⟩
theorem yAH.elem {w : World} {xs : List St} {a : Option Addr} {n cap : Nat} (h : yAH w xs a n cap) (i : Nat) (hi : i < n) : ∃ b o ax ts nm wh a1 n1 c1, a = some ⟨b, o, none⟩ ∧ b < w.heap.size ∧ xs[i]? = some (.mk ax ts nm wh) ∧
  w.cell? ⟨b, o + i * 4, none⟩ = some (.int .i64 ax) ∧ w.cell? ⟨b, o + i * 4 + 1, none⟩ = some (.int .i64 ts) ∧ w.cell? ⟨b, o + i * 4 + 2, none⟩ = some (.string nm) ∧ w.cell? ⟨b, o + i * 4 + 3, none⟩ = some (.slice a1 n1 c1) ∧ yAM w wh a1 n1 c1 := by
 obtain ⟨b, o, e, k⟩ := h.fit i hi; have hi' : i < xs.length := by rw [h.len]; exact hi
 have hA := k.at_ i hi'; rcases hf : xs[i] with ⟨ax, ts, nm, wh⟩; rw [hf] at hA; unfold yFz at hA; obtain ⟨h0, h1, h2, h3, a1, n1, c1, k1, k2, k3, k4, k5⟩ := hA; exact ⟨b, o, ax, ts, nm, wh, a1, n1, c1, e, h0, by rw [jk hi', hf], h1, h2, h3, k1, k2, k3, k4, k5⟩
/-! ### weights -/
mutual
def wT : St → Nat
 | .mk _ _ nm wh => 1 + nm.size + wXL wh
def wX : Ex → Nat
 | .mk _ args sts nm _ txt _ => 1 + nm.size + txt.size + wXL args + wTL sts
def wXL : List Ex → Nat
 | [] => 0
 | x :: r => wX x + wXL r
def wTL : List St → Nat
 | [] => 0
 | x :: r => wT x + wTL r
end
theorem yPq : ∀ (a b : List Ex), wXL (a ++ b) = wXL a + wXL b
 | [], b => by simp [wXL]
 | f :: r, b => by simp only [List.cons_append, wXL, yPq r b]; omega
theorem yO1 : ∀ (a b : List St), wTL (a ++ b) = wTL a + wTL b
 | [], b => by simp [wTL]
 | f :: r, b => by simp only [List.cons_append, wTL, yO1 r b]; omega
theorem yDn : ∀ {l : List Ex} {i : Nat} {x : Ex}, l[i]? = some x → wX x ≤ wXL l
 | [], i, x, h => by simp at h
 | y :: r, 0, x, h => by simp at h; subst h; unfold wXL; omega
 | y :: r, i + 1, x, h => by have := yDn (l := r) (i := i) (by simpa using h); unfold wXL; omega
theorem yFq : ∀ {l : List St} {i : Nat} {x : St}, l[i]? = some x → wT x ≤ wTL l
 | [], i, x, h => by simp at h
 | y :: r, 0, x, h => by simp at h; subst h; unfold wTL; omega
 | y :: r, i + 1, x, h => by have := yFq (l := r) (i := i) (by simpa using h); unfold wTL; omega
theorem yKU : ∀ l : List Ex, l.length ≤ wXL l
 | [] => jz _
 | .mk _ _ _ _ _ _ _ :: r => by have := yKU r; unfold wXL wX; simp only [List.length_cons]; omega
theorem yOS : ∀ l : List St, l.length ≤ wTL l
 | [] => jz _
 | .mk _ _ _ _ :: r => by have := yOS r; unfold wTL wT; simp only [List.length_cons]; omega
theorem yB0 : ∀ {l : List Ex} {i : Nat} {x : Ex}, l[i]? = some x → SizeOf.sizeOf x < SizeOf.sizeOf l
 | [], i, x, h => by simp at h
 | y :: r, 0, x, h => by simp at h; subst h; simp; omega
 | y :: r, i + 1, x, h => by have := yB0 (l := r) (i := i) (by simpa using h); simp; omega
theorem yDa : ∀ {l : List St} {i : Nat} {x : St}, l[i]? = some x → SizeOf.sizeOf x < SizeOf.sizeOf l
 | [], i, x, h => by simp at h
 | y :: r, 0, x, h => by simp at h; subst h; simp; omega
 | y :: r, i + 1, x, h => by have := yDa (l := r) (i := i) (by simpa using h); simp; omega
theorem yAT {α : Type} {l : List α} {q : Nat} {x : α} (h : l[q]? = some x) : l.take (q + 1) = l.take q ++ [x] := by rw [List.take_add_one, h]; rfl
/-! ### how many -/
mutual
def szX : Ex → Nat
 | .mk _ args sts _ _ _ _ => 1 + (sts.length + yBe sts) + yAU args
def yAU : List Ex → Nat
 | [] => 0
 | x :: r => szX x + yAU r
/-- the expressions of the steps -/
def yBe : List St → Nat
 | [] => 0
 | t :: r => szT t + yBe r
def szT : St → Nat
 | .mk _ _ _ wh => yAU wh
end
theorem yEp : ∀ (a b : List Ex), yAU (a ++ b) = yAU a + yAU b
 | [], b => by simp [yAU]
 | f :: r, b => by simp only [List.cons_append, yAU, yEp r b]; omega
theorem yH9 : ∀ (a b : List St), yBe (a ++ b) = yBe a + yBe b
 | [], b => by simp [yBe]
 | f :: r, b => by simp only [List.cons_append, yBe, yH9 r b]; omega
mutual
theorem yTe : ∀ x : Ex, szX x ≤ wX x
 | .mk op args sts nm cmp txt num => by unfold szX wX; have h1 := yHR args; have h2 := yKx sts; omega
theorem yHR : ∀ l : List Ex, yAU l ≤ wXL l
 | [] => jr _
 | x :: r => by unfold yAU wXL; have h1 := yTe x; have h2 := yHR r; omega
theorem yKx : ∀ l : List St, l.length + yBe l ≤ wTL l
 | [] => by unfold yBe wTL; simp
 | x :: r => by unfold yBe wTL; have h1 := yTm x; have h2 := yKx r; simp only [List.length_cons]; omega
theorem yTm : ∀ x : St, 1 + szT x ≤ wT x
 | .mk ax ts nm wh => by unfold szT wT; have h1 := yHR wh; omega
end
/-! ### how deep -/
def brB (a b : Int) : Bool := (decide (b = 1) && decide (a ≠ 2)) || (decide (a = 0) && decide (b = 0))
def opX : Ex → Int
 | .mk op _ _ _ _ _ _ => op
mutual
def dpX : Ex → Int
 | .mk op args sts _ cmp _ _ => if op = 3 then (if 3 ≤ cmp then yC5 0 sts + 1 else yC5 0 sts) else if op = 2 then yNe args else dpA op 0 args
def yNe : List Ex → Int
 | [] => 0
 | x :: _ => 1 + dpX x
def dpA : Int → Int → List Ex → Int
 | _, n, [] => n
 | op, n, x :: r => dpA op (max n (if brB op (opX x) = true then dpX x + 1 else dpX x)) r
def yC5 : Int → List St → Int
 | n, [] => n
 | n, t :: r => yC5 (dpT n t) r
def dpT : Int → St → Int
 | n, .mk _ _ _ wh => yEu n wh
def yEu : Int → List Ex → Int
 | n, [] => n
 | n, x :: r => yEu (max n (1 + dpX x)) r
end
theorem yO6 (op : Int) : ∀ (n : Int) (a b : List Ex), dpA op n (a ++ b) = dpA op (dpA op n a) b
 | n, [], b => by simp [dpA]
 | n, f :: r, b => by simp only [List.cons_append, dpA, yO6 op _ r b]
theorem yMW : ∀ (n : Int) (a b : List Ex), yEu n (a ++ b) = yEu (yEu n a) b
 | n, [], b => by simp [yEu]
 | n, f :: r, b => by simp only [List.cons_append, yEu, yMW _ r b]
theorem yMN : ∀ (n : Int) (a b : List St), yC5 n (a ++ b) = yC5 (yC5 n a) b
 | n, [], b => by simp [yC5]
 | n, f :: r, b => by simp only [List.cons_append, yC5, yMN _ r b]
mutual
theorem yGC : ∀ x : Ex, 0 ≤ dpX x ∧ dpX x ≤ 2 * (wX x : Int)
 | .mk op args sts nm cmp txt num => by
  unfold dpX wX; have h1 := yHV 0 sts (by omega); have h2 := ySx args; have h3 := yOn op 0 args (by omega); split
  ·split <;> omega
  ·split <;> omega
theorem ySx : ∀ l : List Ex, 0 ≤ yNe l ∧ yNe l ≤ 1 + 2 * (wXL l : Int)
 | [] => by unfold yNe wXL; omega
 | x :: r => by unfold yNe wXL; have h1 := yGC x; omega
theorem yOn (op : Int) : ∀ (n : Int) (l : List Ex), 0 ≤ n → n ≤ dpA op n l ∧ dpA op n l ≤ max n (1 + 2 * (wXL l : Int))
 | n, [], _ => by unfold dpA wXL; omega
 | n, x :: r, hn => by
  unfold dpA wXL; have h1 := yGC x; have h4 : 1 ≤ wX x := by cases x; unfold wX; omega
  have h5 : 0 ≤ (if brB op (opX x) = true then dpX x + 1 else dpX x) ∧ (if brB op (opX x) = true then dpX x + 1 else dpX x) ≤ dpX x + 1 := by split <;> omega
  generalize (if brB op (opX x) = true then dpX x + 1 else dpX x) = v at h5 ⊢; have h2 := yOn op (max n v) r (by omega); omega
theorem yHV : ∀ (n : Int) (l : List St), 0 ≤ n → n ≤ yC5 n l ∧ yC5 n l ≤ max n (2 * (wTL l : Int))
 | n, [], _ => by unfold yC5 wTL; omega
 | n, x :: r, hn => by unfold yC5 wTL; have h1 := yTk n x hn; have h2 := yHV (dpT n x) r (by omega); omega
theorem yTk : ∀ (n : Int) (x : St), 0 ≤ n → n ≤ dpT n x ∧ dpT n x ≤ max n (2 * (wT x : Int))
 | n, .mk ax ts nm wh, hn => by unfold dpT wT; have h1 := yOY n wh hn; omega
theorem yOY : ∀ (n : Int) (l : List Ex), 0 ≤ n → n ≤ yEu n l ∧ yEu n l ≤ max n (1 + 2 * (wXL l : Int))
 | n, [], _ => by unfold yEu wXL; omega
 | n, x :: r, hn => by
  unfold yEu wXL; have h1 := yGC x; have h4 : 1 ≤ wX x := by cases x; unfold wX; omega
  have h2 := yOY (max n (1 + dpX x)) r (by omega); omega
end
structure Rst where
 rows : List Bool
 preds : List Bool
 bad : Bool
def Rst.spoil (s : Rst) : Rst := ⟨s.rows, s.preds, true⟩
def Rst.markRow (s : Rst) (i : Nat) : Rst := ⟨s.rows.set i true, s.preds, s.bad⟩
def Rst.markPred (s : Rst) (i : Nat) : Rst := ⟨s.rows, s.preds.set i true, s.bad⟩
def yAp (s : Rst) : Nat := s.rows.count false + s.preds.count false
def zx : Ex := .mk 0 [] [] ByteArray.empty 0 ByteArray.empty 0
def zp : yAG := ⟨0, [], 0, 0, ByteArray.empty, 0, ByteArray.empty, 0⟩
def zr : yCK := ⟨0, 0, ByteArray.empty, []⟩
def yAz (rx : Int → Rst → Ex × Rst) (ks : List Int) (s : Rst) : List Ex × Rst := ks.foldl (fun a k => (a.1 ++ [(rx k a.2).1], (rx k a.2).2)) ([], s)
def yB4 (n : yAc) (rx : Int → Rst → Ex × Rst) (rp : Int → Int → Rst → List St × Rst) (k : Int) (s : Rst) : Ex × Rst :=
 if s.bad = true ∨ k < 0 ∨ (n.preds.length : Int) ≤ k ∨ s.preds.getD k.toNat true = true then (zx, s.spoil)
 else
  let p := n.preds.getD k.toNat zp
  let a := yAz rx p.args (s.markPred k.toNat)
  if p.op = 3 then (.mk p.op a.1 (rp p.first p.count a.2).1 p.attr p.cmp p.txt p.num, (rp p.first p.count a.2).2)
  else (.mk p.op a.1 [] p.attr p.cmp p.txt p.num, if p.first ≠ 0 ∨ p.count ≠ 0 then a.2.spoil else a.2)
def yAL (n : yAc) (rx : Int → Rst → Ex × Rst) (acc : List St × Rst) (i : Nat) : List St × Rst :=
 if acc.2.bad = true then acc
 else if acc.2.rows.getD i true = true then (acc.1, acc.2.spoil)
 else
  let r := n.rows.getD i zr
  let a := yAz rx r.ps (acc.2.markRow i)
  (acc.1 ++ [.mk r.ax r.ts r.nm a.1], a.2)
def yBM (n : yAc) (rx : Int → Rst → Ex × Rst) (first count : Int) (s : Rst) : List St × Rst :=
 if first < 0 ∨ count < 1 ∨ (n.rows.length : Int) - count < first then ([], s.spoil)
 else (List.range' first.toNat count.toNat).foldl (yAL n rx) ([], s)
def RR (n : yAc) : Nat → (Int → Rst → Ex × Rst) × (Int → Int → Rst → List St × Rst)
 | 0 => (fun _ s => (zx, s.spoil), fun _ _ s => ([], s.spoil))
 | f + 1 => (yB4 n (RR n f).1 (RR n f).2, yBM n (RR n f).1)
/-! ### laws -/
theorem Rst.spoil_bad {s : Rst} (h : s.bad = true) : s.spoil = s := by cases s; simp_all [Rst.spoil]
theorem yQC (rx : Int → Rst → Ex × Rst) (s : Rst) : yAz rx [] s = ([], s) := rfl
theorem yNx (rx : Int → Rst → Ex × Rst) {ks : List Int} {q : Nat} {k : Int} (h : ks[q]? = some k) (s : Rst) :
  yAz rx (ks.take (q + 1)) s = ((yAz rx (ks.take q) s).1 ++ [(rx k (yAz rx (ks.take q) s).2).1], (rx k (yAz rx (ks.take q) s).2).2) := by unfold yAz; rw [List.take_add_one, h, List.foldl_append]; rfl
theorem yJ1 (rx : Int → Rst → Ex × Rst) (s : Rst) (ks : List Int) : (yAz rx ks s).1.length = ks.length := by
 unfold yAz; have key : ∀ (ks : List Int) (a : List Ex × Rst), (ks.foldl (fun a k => (a.1 ++ [(rx k a.2).1], (rx k a.2).2)) a).1.length = a.1.length + ks.length := by
  intro ks
  induction ks with
  | nil => intro a; rfl
  | cons k r ih => intro a; rw [List.foldl_cons, ih]; simp; omega
 rw [key]; simp
theorem yFP (n : yAc) (rx : Int → Rst → Ex × Rst) (acc : List St × Rst) (h : acc.2.bad = true) : ∀ l : List Nat, l.foldl (yAL n rx) acc = acc
 | [] => rfl
 | i :: r => by
  have : yAL n rx acc i = acc := by unfold yAL; rw [if_pos h]
  rw [List.foldl_cons, this, yFP n rx acc h r]
theorem yMQ (n : yAc) (f : Nat) (k : Int) (s : Rst) (h : s.bad = true) : (RR n f).1 k s = (zx, s) := by
 cases f with
 | zero => show (zx, s.spoil) = _; rw [Rst.spoil_bad h]
 | succ f => show yB4 n _ _ k s = _; unfold yB4; rw [if_pos (.inl h), Rst.spoil_bad h]
theorem yHv (n : yAc) (f : Nat) (a c : Int) (s : Rst) (h : s.bad = true) : (RR n f).2 a c s = ([], s) := by
 cases f with
 | zero => show ([], s.spoil) = _; rw [Rst.spoil_bad h]
 | succ f =>
  show yBM n _ a c s = _; unfold yBM; split
  ·rw [Rst.spoil_bad h]
  ·exact yFP n _ ([], s) h _
theorem yJa {l : List Bool} {i : Nat} (h : l[i]? = some false) : (l.set i true).count false + 1 = l.count false := by obtain ⟨hi, h2⟩ := ji.1 h; rw [List.count_set hi, h2]; have : 0 < l.count false := List.count_pos_iff.2 (h2 ▸ List.getElem_mem hi); simp; omega
theorem yFU (l : List Bool) (i : Nat) : (l.set i true).count false ≤ l.count false := by
 by_cases hi : i < l.length
 ·rw [List.count_set hi]
  first
  | (simp; done)
  | (simp; omega)
 ·rw [List.set_eq_of_length_le (by omega)]; exact jr _
theorem yEe {s : Rst} {i : Nat} (h : s.preds[i]? = some false) : yAp (s.markPred i) + 1 = yAp s := by have := yJa h; unfold yAp Rst.markPred; dsimp only; omega
theorem yEw {s : Rst} {i : Nat} (h : s.rows[i]? = some false) : yAp (s.markRow i) + 1 = yAp s := by have := yJa h; unfold yAp Rst.markRow; dsimp only; omega
theorem yFx (s : Rst) (i : Nat) : yAp (s.markPred i) ≤ yAp s := by have := yFU s.preds i; unfold yAp Rst.markPred; dsimp only; omega
theorem yGo (s : Rst) (i : Nat) : yAp (s.markRow i) ≤ yAp s := by have := yFU s.rows i; unfold yAp Rst.markRow; dsimp only; omega
def yHn (rx : Int → Rst → Ex × Rst) : Prop := ∀ k s, yAp (rx k s).2 ≤ yAp s ∧ (s.bad = true → (rx k s).2.bad = true)
theorem yCg {rx : Int → Rst → Ex × Rst} (h : yHn rx) : ∀ (ks : List Int) (a : List Ex × Rst), yAp (ks.foldl (fun a k => (a.1 ++ [(rx k a.2).1], (rx k a.2).2)) a).2 ≤ yAp a.2 ∧ (a.2.bad = true → (ks.foldl (fun a k => (a.1 ++ [(rx k a.2).1], (rx k a.2).2)) a).2.bad = true)
 | [], a => ⟨jr _, fun h => h⟩
 | k :: r, a => by rw [List.foldl_cons]; have h1 := yCg h r (a.1 ++ [(rx k a.2).1], (rx k a.2).2); have h2 := h k a.2; exact ⟨ju h1.1 h2.1, fun e => h1.2 (h2.2 e)⟩
theorem yNT (n : yAc) {rx : Int → Rst → Ex × Rst} (h : yHn rx) (acc : List St × Rst) (i : Nat) : yAp (yAL n rx acc i).2 ≤ yAp acc.2 ∧ (acc.2.bad = true → (yAL n rx acc i).2.bad = true) := by
 unfold yAL; split
 ·exact ⟨jr _, fun h => h⟩
 ·rename_i hb; split
  ·exact ⟨jr _, fun e => absurd e hb⟩
  ·exact ⟨ju (yCg h _ _).1 (yGo _ _), fun e => absurd e hb⟩
theorem yD2 (n : yAc) {rx : Int → Rst → Ex × Rst} (h : yHn rx) : ∀ (l : List Nat) (acc : List St × Rst), yAp (l.foldl (yAL n rx) acc).2 ≤ yAp acc.2 ∧ (acc.2.bad = true → (l.foldl (yAL n rx) acc).2.bad = true)
 | [], acc => ⟨jr _, fun h => h⟩
 | i :: r, acc => by rw [List.foldl_cons]; have h1 := yD2 n h r (yAL n rx acc i); have h2 := yNT n h acc i; exact ⟨ju h1.1 h2.1, fun e => h1.2 (h2.2 e)⟩
theorem yEH (n : yAc) : ∀ f, yHn (RR n f).1 ∧ ∀ a c s, yAp ((RR n f).2 a c s).2 ≤ yAp s ∧ (s.bad = true → ((RR n f).2 a c s).2.bad = true)
 | 0 => ⟨fun _ _ => ⟨jr _, fun _ => rfl⟩, fun _ _ _ => ⟨jr _, fun _ => rfl⟩⟩
 | f + 1 => by
  have ih := yEH n f; refine ⟨fun k s => ?_, fun a c s => ?_⟩
  ·refine ⟨?_, fun e => by rw [yMQ n _ k s e]; exact e⟩; show yAp (yB4 n _ _ k s).2 ≤ _; unfold yB4; split
   ·exact jr _
   ·have h1 := (yCg ih.1 (n.preds.getD k.toNat zp).args ([], s.markPred k.toNat)).1; have h2 := yFx s k.toNat; dsimp only; split
    ·exact ju (ih.2 _ _ _).1 (ju h1 h2)
    ·dsimp only; split
     ·exact ju h1 h2
     ·exact ju h1 h2
  ·refine ⟨?_, fun e => by rw [yHv n _ a c s e]; exact e⟩; show yAp (yBM n _ a c s).2 ≤ _; unfold yBM; split
   ·exact jr _
   ·exact (yD2 n ih.1 _ _).1
/-! ### own rows of several cells -/
theorem yFQ {P : Program} (w : World) {ops : Array Oper} {rest : List Oper} {o : Oper} {a : Act} {Q : Exit → Act → World → Prop} (hg : o.guard = none) (s x : Operand) (ts t : TypeId)
  (ho : o.op = .call { callee := .builtin .append, args := #[s, x], argTypes := #[ts, ts] }) (z : Value) (k bytes : Nat)
  (hinf : (P.info? t).map (fun i => (i.zero, i.size, i.bytes)) = some (some z, k, bytes)) (hu : P.underlying ts = some (.slice t)) (hz : z.cells.size = k) (hk : 0 < k) (hby : bytes ≤ 120)
  (B : Nat) (v : Value) (n : Nat) (l : List Value) (hs : a.eval s = v) (hrow : w.ownsRow B t k v n l) (c : List Value) (hc : c.length = k) (h1 : ∀ u ∈ c, u.oneCell' = true)
  (hx : a.eval x = .slice (some ⟨w.heap.size, 0, none⟩) 1 1) (hlen : n < 1099511627776) (hB : B ≤ w.heap.size)
  (hK : ∀ v' w', w'.ownsRow B t k v' (n + 1) (l ++ c) → w.grownBy w' v.ownBlock → (v'.ownBlock = v.ownBlock ∨ v'.ownBlock = some (w.heap.size + 1)) → wpList P ops Q rest (a.put o.dst v') w') :
  wpList P ops Q (o :: rest) a (w.alloc (.cells c.toArray t)) := by
 obtain ⟨i0, hi, hz0, hz1, hz2⟩ := info_parts hinf; refine wpList_append_own_at _ hg s x ts ho B t i0 z k bytes hu hi hz0 hz1 hz2 hz hk v n l hs (World.ownsRow.alloc hrow _) ⟨w.heap.size, 0, none⟩ 1 1 c hx (by omega) ?_ h1 (by unfold maxLen; omega) ?_ (by simp; omega) ?_
 ·intro j u hj; have hn := jw w (.cells c.toArray t); rw [Addr.add_lit]; unfold World.cell?; rw [hn]; simpa using hj
 ·have : (n + 1) * bytes ≤ 1099511627776 * 120 := Nat.mul_le_mul (by omega) hby; omega
 ·intro v' w' h2 h3 _ h5; refine hK v' w' h2 ?_ ?_
  ·have h4 := World.grownBy_alloc w (.cells c.toArray t) v.ownBlock; exact ⟨h3.os.trans h4.os, h3.tape.trans h4.tape, h3.output.trans h4.output, ju h4.size h3.size,
    fun j hj hne => (h3.block j (jt hj h4.size) hne).trans (h4.block j hj hne)⟩
  ·rcases h5 with h5 | h5
   ·exact .inl h5
   ·exact .inr (by rw [h5]; simp)
theorem yAq {w : World} {B : Nat} {t : TypeId} {k g n cap : Nat} {l : List Value} (h : w.ownsRow B t k (.slice (some ⟨g, 0, none⟩) n cap) n l) {j : Nat} {u : Value} (hj : l[j]? = some u) : w.cell? ⟨g, j, none⟩ = some u := by have := World.ownsRow.cells (g := g) h rfl j u hj; rw [Addr.add_lit, Nat.zero_add] at this; exact this
theorem ownsRow_below {w w' : World} {B : Nat} {t : TypeId} {k n : Nat} {v : Value} {l : List Value} (h : w.ownsRow B t k v n l) {T : Nat} (hb : Below T w w') (hT : ∀ g, v.ownBlock = some g → g < T) : w'.ownsRow B t k v n l := by
 obtain ⟨h1, h2⟩ := h; refine ⟨h1, ?_⟩; rcases h2 with h2 | ⟨g, cap, cur, rfl, b, c, d⟩
 ·exact .inl h2
 ·exact .inr ⟨g, cap, cur, rfl, b, (hb.block g (hT g rfl)).trans c, d⟩
theorem yAa {w w' : World} {B : Nat} {t : TypeId} {k n : Nat} {v : Value} {l : List Value} (h : w.ownsRow B t k v n l) (hT : ∀ g, v.ownBlock = some g → w'.heap[g]? = w.heap[g]?) : w'.ownsRow B t k v n l := by
 obtain ⟨h1, h2⟩ := h; refine ⟨h1, ?_⟩; rcases h2 with h2 | ⟨g, cap, cur, rfl, b, c, d⟩
 ·exact .inl h2
 ·exact .inr ⟨g, cap, cur, rfl, b, (hT g rfl).trans c, d⟩
theorem yBI {γ : Type} (f : γ → List Value) (k : Nat) (hf : ∀ c, (f c).length = k) : ∀ {cs : List γ} {i : Nat} {c : γ}, cs[i]? = some c → ∀ j, j < k → (cs.flatMap f)[i * k + j]? = (f c)[j]?
 | [], i, c, h, j, hj => by simp at h
 | d :: cs, 0, c, h, j, hj => by simp only [List.getElem?_cons_zero, Option.some.injEq] at h; subst h; rw [List.flatMap_cons, Nat.zero_mul, Nat.zero_add, List.getElem?_append_left (by rw [hf]; exact hj)]
 | d :: cs, i + 1, c, h, j, hj => by rw [List.getElem?_cons_succ] at h; have hr := yBI f k hf h j hj; rw [List.flatMap_cons, show (i + 1) * k + j = (f d).length + (i * k + j) from by rw [hf, Nat.add_mul]; omega, List.getElem?_append_right (by omega), Nat.add_sub_cancel_left]; exact hr
/-! ### expressions and steps that lie in own memory -/
structure N7 where
 op : Int
 a1 : Option Addr
 n1 : Nat
 c1 : Nat
 a2 : Option Addr
 n2 : Nat
 c2 : Nat
 nm : ByteArray
 cmp : Int
 txt : ByteArray
 num : Int
def yAS (c : N7) : List Value := [.int .i64 c.op, .slice c.a1 c.n1 c.c1, .slice c.a2 c.n2 c.c2, .string c.nm, .int .i64 c.cmp, .string c.txt, .int .i64 c.num]
structure N4s where
 ax : Int
 ts : Int
 nm : ByteArray
 a : Option Addr
 n : Nat
 c : Nat
def yBz (c : N4s) : List Value := [.int .i64 c.ax, .int .i64 c.ts, .string c.nm, .slice c.a c.n c.c]
def MX (W : World) : Ex → N7 → Prop
 | .mk op args sts nm cmp txt num, c => c.op = op ∧ c.nm = nm ∧ c.cmp = cmp ∧ c.txt = txt ∧ c.num = num ∧ yAM W args c.a1 c.n1 c.c1 ∧ yAH W sts c.a2 c.n2 c.c2
def MT (W : World) : St → N4s → Prop
 | .mk ax ts nm wh, c => c.ax = ax ∧ c.ts = ts ∧ c.nm = nm ∧ yAM W wh c.a c.n c.c
def Rob (lo : Nat) (W : World) (own : Option Nat) (P : World → Prop) : Prop :=
 ∃ S : Nat → Prop, (∀ b, S b → lo ≤ b ∧ b < W.heap.size ∧ own ≠ some b) ∧ ∀ W' : World, (∀ b, S b → W'.heap[b]? = W.heap[b]?) → P W'
theorem Rob.here {lo : Nat} {W : World} {own : Option Nat} {P : World → Prop} (h : Rob lo W own P) : P W := by obtain ⟨S, _, h2⟩ := h; exact h2 W fun _ _ => rfl
theorem Rob.moved {lo : Nat} {W W2 : World} {own own2 : Option Nat} {P : World → Prop} (h : Rob lo W own P) (hs : W.heap.size ≤ W2.heap.size) (hk : ∀ b, lo ≤ b → b < W.heap.size → own ≠ some b → W2.heap[b]? = W.heap[b]?) (ho : own2 = own ∨ ∀ b, own2 = some b → W.heap.size ≤ b) : Rob lo W2 own2 P := by
 obtain ⟨S, h1, h2⟩ := h; refine ⟨S, fun b hb => ⟨(h1 b hb).1, jt (h1 b hb).2.1 hs, ?_⟩, fun W' hW => h2 W' fun b hb => (hW b hb).trans (hk b (h1 b hb).1 (h1 b hb).2.1 (h1 b hb).2.2)⟩; rcases ho with rfl | ho
 ·exact (h1 b hb).2.2
 ·intro e; have := ho b e; have := (h1 b hb).2.1; omega
theorem Rob.lower {lo lo2 : Nat} {W : World} {own : Option Nat} {P : World → Prop} (h : Rob lo W own P) (hl : lo2 ≤ lo) : Rob lo2 W own P := by obtain ⟨S, h1, h2⟩ := h; exact ⟨S, fun b hb => ⟨ju hl (h1 b hb).1, (h1 b hb).2⟩, h2⟩
theorem Rob.own {lo : Nat} {W : World} {own own2 : Option Nat} {P : World → Prop} (h : Rob lo W own P) (ho : ∀ b, own2 = some b → b < lo ∨ W.heap.size ≤ b) : Rob lo W own2 P := by obtain ⟨S, h1, h2⟩ := h; refine ⟨S, fun b hb => ⟨(h1 b hb).1, (h1 b hb).2.1, fun e => ?_⟩, h2⟩; have := ho b e; have := h1 b hb; omega
theorem Rob.both {lo : Nat} {W : World} {own : Option Nat} {P P2 Q : World → Prop} (h : Rob lo W own P) (h2 : Rob lo W own P2) (hq : ∀ W', P W' → P2 W' → Q W') : Rob lo W own Q := by obtain ⟨S, a1, a2⟩ := h; obtain ⟨S2, b1, b2⟩ := h2; refine ⟨fun b => S b ∨ S2 b, fun b hb => hb.elim (a1 b) (b1 b), fun W' hW => hq W' (a2 W' fun b hb => hW b (.inl hb)) (b2 W' fun b hb => hW b (.inr hb))⟩
theorem Rob.imp {lo : Nat} {W : World} {own : Option Nat} {P Q : World → Prop} (h : Rob lo W own P) (hq : ∀ W', P W' → Q W') : Rob lo W own Q := h.both h fun W' a _ => hq W' a
def Els {α γ : Type} (M : World → α → γ → Prop) (xs : List α) (cs : List γ) (W : World) : Prop := ∀ (i : Nat) (c : γ) (x : α), cs[i]? = some c → xs[i]? = some x → M W x c
theorem Els.nil {α γ : Type} (M : World → α → γ → Prop) (lo : Nat) (W : World) (own : Option Nat) : Rob lo W own (Els M [] []) := ⟨fun _ => False, fun _ h => h.elim, fun _ _ i c x h => by simp at h⟩
theorem Els.snoc {α γ : Type} {M : World → α → γ → Prop} {xs : List α} {cs : List γ} {x : α} {c : γ} {lo : Nat} {W : World} {own : Option Nat} (h : Rob lo W own (Els M xs cs)) (hl : xs.length = cs.length) (hx : Rob lo W own fun W' => M W' x c) : Rob lo W own (Els M (xs ++ [x]) (cs ++ [c])) :=
 h.both hx fun W' hE hM i d y hd hy => by
  by_cases hi : i < cs.length
  ·rw [List.getElem?_append_left hi] at hd; rw [List.getElem?_append_left (by omega)] at hy; exact hE i d y hd hy
  ·rw [List.getElem?_append_right (by omega)] at hd; rw [List.getElem?_append_right (by omega), hl] at hy; obtain e : i - cs.length = 0 := by have := (ji.1 hd).1; simp at this; omega
   rw [e] at hd hy; simp only [List.getElem?_cons_zero, Option.some.injEq] at hd hy; subst hd hy; exact hM
theorem lt_of_cell {W : World} {b o : Nat} {v : Value} (h : W.cell? ⟨b, o, none⟩ = some v) : b < W.heap.size := World.block_lt_of_cell? W _ h
theorem yMZ {W : World} {b : Nat} : ∀ {xs : List Ex} {o : Nat}, (∀ i x, xs[i]? = some x → yF9 W x b (o + i * 7)) → yBv W xs b o
 | [], _, _ => by unfold yBv; trivial
 | x :: r, o, h => by unfold yBv; refine ⟨by simpa using h 0 x rfl, yMZ fun i y hy => ?_⟩; have := h (i + 1) y (by simpa using hy); rw [show o + (i + 1) * 7 = o + 7 + i * 7 by omega] at this; exact this
theorem yMc {W : World} {b : Nat} : ∀ {xs : List St} {o : Nat}, (∀ i x, xs[i]? = some x → yFz W x b (o + i * 4)) → yBw W xs b o
 | [], _, _ => by unfold yBw; trivial
 | x :: r, o, h => by unfold yBw; refine ⟨by simpa using h 0 x rfl, yMc fun i y hy => ?_⟩; have := h (i + 1) y (by simpa using hy); rw [show o + (i + 1) * 4 = o + 4 + i * 4 by omega] at this; exact this
theorem yAb {w : World} {B : Nat} {t : TypeId} {k n : Nat} {v : Value} {l : List Value} (h : w.ownsRow B t k v n l) : ∃ a cap, v = .slice a n cap ∧ n ≤ cap ∧ cap ≤ maxLen ∧ ∀ j, j < n → ∃ g, a = some ⟨g, 0, none⟩ ∧ B ≤ g ∧ g < w.heap.size := by
 have hlt := World.ownsRow.lt h; rcases h.2 with ⟨rfl, rfl⟩ | ⟨g, cap, cur, rfl, b, c, d, e, _⟩
 ·exact ⟨none, 0, rfl, jr _, jz _, fun j hj => absurd hj (Nat.not_lt_zero _)⟩
 ·exact ⟨_, cap, rfl, d, e, fun j _ => ⟨g, rfl, b, (hlt g rfl).2⟩⟩
theorem yLd {W : World} {lo : Nat} {t : TypeId} {v : Value} {xs : List Ex} {cs : List N7} (hl : xs.length = cs.length) (h : W.ownsRow lo t 7 v xs.length (cs.flatMap yAS)) (hE : Rob lo W v.ownBlock (Els MX xs cs)) :
  ∃ a cap, v = .slice a xs.length cap ∧ Rob lo W none fun W' => yAM W' xs a xs.length cap := by
 have hS := yAb h; obtain ⟨a, cap, rfl, h1, h2, h3⟩ := hS; refine ⟨a, cap, rfl, ?_⟩; obtain ⟨S, s1, s2⟩ := hE; refine ⟨fun b => S b ∨ (0 < xs.length ∧ a = some ⟨b, 0, none⟩), ?_, fun W' hW => ⟨rfl, h1, h2, fun j hj => ?_⟩⟩
 ·intro b hb; rcases hb with hb | ⟨hb, e⟩
  ·exact ⟨(s1 b hb).1, (s1 b hb).2.1, by simp⟩
  ·obtain ⟨g, e2, e3, e4⟩ := h3 0 hb; rw [e] at e2; injection e2 with e2
   injection e2 with e2; subst e2; exact ⟨e3, e4, by simp⟩
 ·obtain ⟨g, rfl, e3, e4⟩ := h3 j hj; refine ⟨g, 0, rfl, yMZ fun i x hx => ?_⟩; have hi := (ji.1 hx).1; have hc := jk (l := cs) (i := i) (by omega); generalize cs[i]'(by omega) = c at hc; have hM := s2 W' (fun b hb => hW b (.inl hb)) i c x hc hx; have hg : W'.heap[g]? = W.heap[g]? := hW g (.inr ⟨by omega, rfl⟩); have hcell : ∀ j u, j < 7 → (yAS c)[j]? = some u → W'.cell? ⟨g, 0 + i * 7 + j, none⟩ = some u := fun j u hj hu => by rw [World.cell?_of_block (w := W) hg, Nat.zero_add]; exact yAq h ((yBI yAS 7 (fun _ => rfl) hc j hj).trans hu)
  obtain ⟨op, args, sts, nm, cmp, txt, num⟩ := x; obtain ⟨rfl, rfl, rfl, rfl, rfl, m1, m2⟩ := hM; have q0 := hcell 0 _ (by omega) rfl; unfold yF9; exact ⟨lt_of_cell q0, q0, hcell 3 _ (by omega) rfl, hcell 4 _ (by omega) rfl, hcell 5 _ (by omega) rfl, hcell 6 _ (by omega) rfl, ⟨_, _, _, hcell 1 _ (by omega) rfl, m1.len, m1.le, m1.cap_le, m1.fit⟩, _, _, _, hcell 2 _ (by omega) rfl, m2.len, m2.le, m2.cap_le, m2.fit⟩
theorem yRE {W : World} {lo : Nat} {t : TypeId} {v : Value} {xs : List St} {cs : List N4s} (hl : xs.length = cs.length) (h : W.ownsRow lo t 4 v xs.length (cs.flatMap yBz)) (hE : Rob lo W v.ownBlock (Els MT xs cs)) :
  ∃ a cap, v = .slice a xs.length cap ∧ Rob lo W none fun W' => yAH W' xs a xs.length cap := by
 have hS := yAb h; obtain ⟨a, cap, rfl, h1, h2, h3⟩ := hS; refine ⟨a, cap, rfl, ?_⟩; obtain ⟨S, s1, s2⟩ := hE; refine ⟨fun b => S b ∨ (0 < xs.length ∧ a = some ⟨b, 0, none⟩), ?_, fun W' hW => ⟨rfl, h1, h2, fun j hj => ?_⟩⟩
 ·intro b hb; rcases hb with hb | ⟨hb, e⟩
  ·exact ⟨(s1 b hb).1, (s1 b hb).2.1, by simp⟩
  ·obtain ⟨g, e2, e3, e4⟩ := h3 0 hb; rw [e] at e2; injection e2 with e2
   injection e2 with e2; subst e2; exact ⟨e3, e4, by simp⟩
 ·obtain ⟨g, rfl, e3, e4⟩ := h3 j hj; refine ⟨g, 0, rfl, yMc fun i x hx => ?_⟩; have hi := (ji.1 hx).1; have hc := jk (l := cs) (i := i) (by omega); generalize cs[i]'(by omega) = c at hc; have hM := s2 W' (fun b hb => hW b (.inl hb)) i c x hc hx; have hg : W'.heap[g]? = W.heap[g]? := hW g (.inr ⟨by omega, rfl⟩); have hcell : ∀ j u, j < 4 → (yBz c)[j]? = some u → W'.cell? ⟨g, 0 + i * 4 + j, none⟩ = some u := fun j u hj hu => by rw [World.cell?_of_block (w := W) hg, Nat.zero_add]; exact yAq h ((yBI yBz 4 (fun _ => rfl) hc j hj).trans hu)
  obtain ⟨ax, ts, nm, wh⟩ := x; obtain ⟨rfl, rfl, rfl, m1⟩ := hM; have q0 := hcell 0 _ (by omega) rfl; unfold yFz; exact ⟨lt_of_cell q0, q0, hcell 1 _ (by omega) rfl, hcell 2 _ (by omega) rfl, _, _, _, hcell 3 _ (by omega) rfl, m1.len, m1.le, m1.cap_le, m1.fit⟩
/-! ### the reader -/
def InR (x : Int) : Prop := -9223372036854775808 ≤ x ∧ x ≤ 9223372036854775807
structure RC where
 W0 : World
 n : yAc
 R : Nat
 RB : Nat
 PB : Nat
 ra : Option Addr
 rc : Nat
 pa : Option Addr
 pc : Nat
 fa : Option Addr
 fc : Nat
 ga : Option Addr
 gc : Nat
 top : Nat
structure RC.Ok (C : RC) : Prop where
 rows : yA2 C.W0 C.n.rows C.ra C.n.rows.length C.rc
 preds : yAR C.W0 C.n.preds C.pa C.n.preds.length C.pc
 lo : C.W0.heap.size ≤ C.R ∧ C.W0.heap.size ≤ C.RB ∧ C.W0.heap.size ≤ C.PB
 hi : C.R < C.top ∧ C.RB < C.top ∧ C.PB < C.top
 ne : C.R ≠ C.RB ∧ C.R ≠ C.PB ∧ C.RB ≠ C.PB
 fa : ∀ j, j < C.n.rows.length → C.fa = some ⟨C.RB, 0, none⟩
 fc : C.n.rows.length ≤ C.fc ∧ C.fc ≤ maxLen
 ga : ∀ j, j < C.n.preds.length → C.ga = some ⟨C.PB, 0, none⟩
 gc : C.n.preds.length ≤ C.gc ∧ C.gc ≤ maxLen
 lx : ∀ k, (C.n.preds.getD k zp).args.length ≤ 1048576
 ly : ∀ k, (C.n.rows.getD k zr).ps.length ≤ 1048576
 lz : C.n.rows.length ≤ 1048576
 lw : ∀ k, InR (C.n.preds.getD k zp).first ∧ InR (C.n.preds.getD k zp).count
structure RdW (C : RC) (W : World) (s : Rst) : Prop where
 bel : Below C.W0.heap.size C.W0 W
 top : C.top ≤ W.heap.size
 c1 : W.cell? ⟨C.R, 1, none⟩ = some (.slice C.ra C.n.rows.length C.rc)
 c2 : W.cell? ⟨C.R, 2, none⟩ = some (.slice C.pa C.n.preds.length C.pc)
 c3 : W.cell? ⟨C.R, 3, none⟩ = some (.slice C.fa C.n.rows.length C.fc)
 c4 : W.cell? ⟨C.R, 4, none⟩ = some (.slice C.ga C.n.preds.length C.gc)
 c5 : W.cell? ⟨C.R, 5, none⟩ = some (.bool s.bad)
 lr : s.rows.length = C.n.rows.length
 lp : s.preds.length = C.n.preds.length
 fr : ∀ i b, s.rows[i]? = some b → W.cell? ⟨C.RB, i, none⟩ = some (.bool b)
 fp : ∀ i b, s.preds[i]? = some b → W.cell? ⟨C.PB, i, none⟩ = some (.bool b)
 zR : ∀ i, W.frozen? ⟨C.R, i, none⟩ = false
 zB : ∀ i, W.frozen? ⟨C.RB, i, none⟩ = false
 zP : ∀ i, W.frozen? ⟨C.PB, i, none⟩ = false
structure yB9 (C : RC) (w w' : World) : Prop where
 os : w'.os = w.os
 tape : w'.tape = w.tape
 output : w'.output = w.output
 size : w.heap.size ≤ w'.heap.size
 low : ∀ b, b < C.W0.heap.size → w'.heap[b]? = w.heap[b]?
 high : ∀ b, C.top ≤ b → b < w.heap.size → w'.heap[b]? = w.heap[b]?
theorem yB9.refl (C : RC) (w : World) : yB9 C w w := ⟨rfl, rfl, rfl, jr _, fun _ _ => rfl, fun _ _ _ => rfl⟩
theorem yB9.trans {C : RC} {a b c : World} (h : yB9 C a b) (k : yB9 C b c) : yB9 C a c :=
 ⟨k.os.trans h.os, k.tape.trans h.tape, k.output.trans h.output, ju h.size k.size, fun i hi => (k.low i hi).trans (h.low i hi), fun i hi hj => (k.high i hi (jt hj h.size)).trans (h.high i hi hj)⟩
theorem yB9.step {C : RC} {a b c : World} (h : yB9 C a b) (k : Below a.heap.size b c) (ht : C.W0.heap.size ≤ a.heap.size) : yB9 C a c :=
 ⟨k.os.trans h.os, k.tape.trans h.tape, k.output.trans h.output, ju h.size k.size, fun i hi => (k.block i (jt hi ht)).trans (h.low i hi), fun i hi hj => (k.block i hj).trans (h.high i hi hj)⟩
theorem yB9.set {C : RC} {a b : World} (h : yB9 C a b) {p : Addr} (hp : C.W0.heap.size ≤ p.block) (ht : p.block < C.top) (u : Value) : yB9 C a (b.setCell p u) :=
 ⟨h.os, h.tape, h.output, by rw [jv]; exact h.size, fun i hi => (js b p u i (by omega)).trans (h.low i hi), fun i hi hj => (js b p u i (by omega)).trans (h.high i hi hj)⟩
theorem RdW.below {C : RC} (ok : C.Ok) {w w' : World} {s : Rst} (h : RdW C w s) (hb : Below C.top w w') : RdW C w' s where
 bel := h.bel.trans (hb.mono (by have := ok.lo; have := ok.hi; omega))
 top := ju h.top hb.size
 c1 := (hb.cell (p := ⟨C.R, 1, none⟩) ok.hi.1).trans h.c1
 c2 := (hb.cell (p := ⟨C.R, 2, none⟩) ok.hi.1).trans h.c2
 c3 := (hb.cell (p := ⟨C.R, 3, none⟩) ok.hi.1).trans h.c3
 c4 := (hb.cell (p := ⟨C.R, 4, none⟩) ok.hi.1).trans h.c4
 c5 := (hb.cell (p := ⟨C.R, 5, none⟩) ok.hi.1).trans h.c5
 lr := h.lr
 lp := h.lp
 fr := fun i b e => (hb.cell (p := ⟨C.RB, i, none⟩) ok.hi.2.1).trans (h.fr i b e)
 fp := fun i b e => (hb.cell (p := ⟨C.PB, i, none⟩) ok.hi.2.2).trans (h.fp i b e)
 zR := fun i => (World.frozen?_of_block (w := w) (hb.block C.R ok.hi.1)).trans (h.zR i)
 zB := fun i => (World.frozen?_of_block (w := w) (hb.block C.RB ok.hi.2.1)).trans (h.zB i)
 zP := fun i => (World.frozen?_of_block (w := w) (hb.block C.PB ok.hi.2.2)).trans (h.zP i)
theorem yAC {w : World} {b o b2 o2 : Nat} {u : Value} (h : b ≠ b2 ∨ o ≠ o2) : (w.setCell ⟨b, o, none⟩ u).cell? ⟨b2, o2, none⟩ = w.cell? ⟨b2, o2, none⟩ :=
 World.cell?_setCell_other _ _ _ _ fun e => by injection e with e1 e2; exact h.elim (fun k => k e1) fun k => k e2
theorem RdW.spoil {C : RC} (ok : C.Ok) {w : World} {s : Rst} (h : RdW C w s) : RdW C (w.setCell ⟨C.R, 5, none⟩ (.bool true)) s.spoil where
 bel := h.bel.setCell ok.lo.1 _
 top := by rw [jv]; exact h.top
 c1 := (yAC (.inr (by omega))).trans h.c1
 c2 := (yAC (.inr (by omega))).trans h.c2
 c3 := (yAC (.inr (by omega))).trans h.c3
 c4 := (yAC (.inr (by omega))).trans h.c4
 c5 := World.cell?_setCell_same _ _ _ h.c5
 lr := h.lr
 lp := h.lp
 fr := fun i b e => (yAC (.inl ok.ne.1)).trans (h.fr i b e)
 fp := fun i b e => (yAC (.inl ok.ne.2.1)).trans (h.fp i b e)
 zR := fun i => by rw [World.frozen?_setCell]; exact h.zR i
 zB := fun i => by rw [World.frozen?_setCell]; exact h.zB i
 zP := fun i => by rw [World.frozen?_setCell]; exact h.zP i
theorem RdW.markRow {C : RC} (ok : C.Ok) {w : World} {s : Rst} (h : RdW C w s) {i : Nat} {b0 : Bool} (hi : s.rows[i]? = some b0) : RdW C (w.setCell ⟨C.RB, i, none⟩ (.bool true)) (s.markRow i) where
 bel := h.bel.setCell ok.lo.2.1 _
 top := by rw [jv]; exact h.top
 c1 := (yAC (.inl ok.ne.1.symm)).trans h.c1
 c2 := (yAC (.inl ok.ne.1.symm)).trans h.c2
 c3 := (yAC (.inl ok.ne.1.symm)).trans h.c3
 c4 := (yAC (.inl ok.ne.1.symm)).trans h.c4
 c5 := (yAC (.inl ok.ne.1.symm)).trans h.c5
 lr := by show (s.rows.set i true).length = _; rw [List.length_set]; exact h.lr
 lp := h.lp
 fr := fun j b e => by
  by_cases hj : i = j
  ·subst hj; have : (s.rows.set i true)[i]? = some true := by rw [List.getElem?_set_self (ji.1 hi).1]
   have e2 : (s.rows.set i true)[i]? = some b := e; rw [this] at e2; injection e2 with e2; subst e2; exact World.cell?_setCell_same _ _ _ (h.fr i b0 hi)
  ·have e2 : (s.rows.set i true)[j]? = some b := e; rw [List.getElem?_set_ne hj] at e2; exact (yAC (.inr hj)).trans (h.fr j b e2)
 fp := fun j b e => (yAC (.inl ok.ne.2.2)).trans (h.fp j b e)
 zR := fun i => by rw [World.frozen?_setCell]; exact h.zR i
 zB := fun i => by rw [World.frozen?_setCell]; exact h.zB i
 zP := fun i => by rw [World.frozen?_setCell]; exact h.zP i
theorem RdW.markPred {C : RC} (ok : C.Ok) {w : World} {s : Rst} (h : RdW C w s) {i : Nat} {b0 : Bool} (hi : s.preds[i]? = some b0) : RdW C (w.setCell ⟨C.PB, i, none⟩ (.bool true)) (s.markPred i) where
 bel := h.bel.setCell ok.lo.2.2 _
 top := by rw [jv]; exact h.top
 c1 := (yAC (.inl ok.ne.2.1.symm)).trans h.c1
 c2 := (yAC (.inl ok.ne.2.1.symm)).trans h.c2
 c3 := (yAC (.inl ok.ne.2.1.symm)).trans h.c3
 c4 := (yAC (.inl ok.ne.2.1.symm)).trans h.c4
 c5 := (yAC (.inl ok.ne.2.1.symm)).trans h.c5
 lr := h.lr
 lp := by show (s.preds.set i true).length = _; rw [List.length_set]; exact h.lp
 fr := fun j b e => (yAC (.inl ok.ne.2.2.symm)).trans (h.fr j b e)
 fp := fun j b e => by
  by_cases hj : i = j
  ·subst hj; have : (s.preds.set i true)[i]? = some true := by rw [List.getElem?_set_self (ji.1 hi).1]
   have e2 : (s.preds.set i true)[i]? = some b := e; rw [this] at e2; injection e2 with e2; subst e2; exact World.cell?_setCell_same _ _ _ (h.fp i b0 hi)
  ·have e2 : (s.preds.set i true)[j]? = some b := e; rw [List.getElem?_set_ne hj] at e2; exact (yAC (.inr hj)).trans (h.fp j b e2)
 zR := fun i => by rw [World.frozen?_setCell]; exact h.zR i
 zB := fun i => by rw [World.frozen?_setCell]; exact h.zB i
 zP := fun i => by rw [World.frozen?_setCell]; exact h.zP i
theorem RdW.pred {C : RC} (ok : C.Ok) {w : World} {s : Rst} (h : RdW C w s) {k : Nat} (hk : k < C.n.preds.length) : ∃ b o op args first count attr cmp txt num p n c, C.pa = some ⟨b, o, none⟩ ∧ b < C.W0.heap.size ∧ C.n.preds.getD k zp = ⟨op, args, first, count, attr, cmp, txt, num⟩ ∧
  w.cell? ⟨b, o + k * 8, none⟩ = some (.int .i64 op) ∧ w.cell? ⟨b, o + k * 8 + 1, none⟩ = some (.slice p n c) ∧ w.cell? ⟨b, o + k * 8 + 2, none⟩ = some (.int .i64 first) ∧ w.cell? ⟨b, o + k * 8 + 3, none⟩ = some (.int .i64 count) ∧ w.cell? ⟨b, o + k * 8 + 4, none⟩ = some (.string attr) ∧ w.cell? ⟨b, o + k * 8 + 5, none⟩ = some (.int .i64 cmp) ∧ w.cell? ⟨b, o + k * 8 + 6, none⟩ = some (.string txt) ∧ w.cell? ⟨b, o + k * 8 + 7, none⟩ = some (.int .i64 num) ∧ Rd C.W0 .i64 p n c args := by
 obtain ⟨b, o, e, hF⟩ := ok.preds.fit k hk; have hF := hF k _ (jk hk); rw [jg, jk hk]; dsimp only [Option.getD_some]; rcases hd : C.n.preds[k] with ⟨op, args, first, count, attr, cmp, txt, num⟩
 rw [hd] at hF; obtain ⟨h0, h1, h2, h3, h4, h5, h6, h7, p, n, c, h8, h9⟩ := hF; have hc : ∀ j, w.cell? ⟨b, j, none⟩ = C.W0.cell? ⟨b, j, none⟩ := fun j => h.bel.cell (p := ⟨b, j, none⟩) h0
 exact ⟨b, o, op, args, first, count, attr, cmp, txt, num, p, n, c, e, h0, rfl, (hc _).trans h1, (hc _).trans h8, (hc _).trans h2, (hc _).trans h3, (hc _).trans h4, (hc _).trans h5, (hc _).trans h6, (hc _).trans h7, h9⟩
theorem RdW.row {C : RC} (ok : C.Ok) {w : World} {s : Rst} (h : RdW C w s) {k : Nat} (hk : k < C.n.rows.length) : ∃ b o ax ts nm ps p n c, C.ra = some ⟨b, o, none⟩ ∧ b < C.W0.heap.size ∧ C.n.rows.getD k zr = ⟨ax, ts, nm, ps⟩ ∧
  w.cell? ⟨b, o + k * 4, none⟩ = some (.int .i64 ax) ∧ w.cell? ⟨b, o + k * 4 + 1, none⟩ = some (.int .i64 ts) ∧ w.cell? ⟨b, o + k * 4 + 2, none⟩ = some (.string nm) ∧ w.cell? ⟨b, o + k * 4 + 3, none⟩ = some (.slice p n c) ∧ Rd C.W0 .i64 p n c ps := by
 obtain ⟨b, o, e, hF⟩ := ok.rows.fit k hk; have hF := hF k _ (jk hk); rw [jg, jk hk]; dsimp only [Option.getD_some]; rcases hd : C.n.rows[k] with ⟨ax, ts, nm, ps⟩
 rw [hd] at hF; obtain ⟨h0, h1, h2, h3, p, n, c, h8, h9⟩ := hF; have hc : ∀ j, w.cell? ⟨b, j, none⟩ = C.W0.cell? ⟨b, j, none⟩ := fun j => h.bel.cell (p := ⟨b, j, none⟩) h0
 exact ⟨b, o, ax, ts, nm, ps, p, n, c, e, h0, rfl, (hc _).trans h1, (hc _).trans h2, (hc _).trans h3, (hc _).trans h8, h9⟩
theorem yBs {P : Program} (w : World) {ops : Array Oper} {o : Oper} {a : Act} {K : Act → World → Prop} {Q : Exit → Act → World → Prop} {E : Prop} (hgd : o.guard = none) (s x : Operand) (ts t : TypeId)
  (ho : o.op = .call { callee := .builtin .append, args := #[s, x], argTypes := #[ts, ts] }) (z : Value) (k bytes : Nat)
  (hinf : (P.info? t).map (fun i => (i.zero, i.size, i.bytes)) = some (some z, k, bytes)) (hu : P.underlying ts = some (.slice t)) (hz : z.cells.size = k) (hk : 0 < k) (hby : bytes ≤ 120)
  (B : Nat) (v : Value) (n : Nat) (l : List Value) (hs : a.eval s = v) (hrow : w.ownsRow B t k v n l) (c : List Value) (hc : c.length = k) (h1 : ∀ u ∈ c, u.oneCell' = true) (X : Nat)
  (hx : a.eval x = .slice (some ⟨X, 0, none⟩) 1 1) (hnews : ∀ j u, c[j]? = some u → w.cell? ⟨X, j, none⟩ = some u) (hlen : n < 1099511627776) (hB : B ≤ w.heap.size)
  (hK : ∀ v' w', w'.ownsRow B t k v' (n + 1) (l ++ c) → w.grownBy w' v.ownBlock → (v'.ownBlock = v.ownBlock ∨ v'.ownBlock = some w.heap.size) → K (a.put o.dst v') w') :
  if Region.wanted o (yielded ops a.tmps) = true then Oper.wp P o a w K Q else E := by
 have hw : Region.wanted o (yielded ops a.tmps) = true := by simp [Region.wanted, hgd]
 rw [if_pos hw]; obtain ⟨i0, hi, hz0, hz1, hz2⟩ := info_parts hinf; obtain ⟨v', w', hrun, h2, h3, _, h5⟩ := run_append_own_at (P := P) w B ts o.type t i0 z k bytes hu hi hz0 hz1 hz2 hz hk v n l hrow ⟨X, 0, none⟩ 1 1 c (by omega) (fun j u hj => by rw [Addr.add_lit, Nat.zero_add]; exact hnews j u hj) h1 (by unfold maxLen; omega) (by have : (n + 1) * bytes ≤ 1099511627776 * 120 := Nat.mul_le_mul (by omega) hby; omega) hB; unfold Oper.wp execOp; simp only [ho, resolve, invoke, builtin, Sem.run_bind, Sem.run_pure, Result.andThen_ok, List.map_toArray, List.map_cons, List.map_nil, hs, hx, hrun]; exact hK v' w' h2 h3 h5
def yHB (C : RC) (V : World) (r : Ex × Rst) (e : Ending) (V' : World) : Prop :=
 ∃ (op : Int) (a1 : Option Addr) (n1 c1 : Nat) (a2 : Option Addr) (n2 c2 : Nat) (nm : ByteArray) (cmp : Int) (txt : ByteArray) (num : Int), e = .returned (.agg #[.int .i64 op, .slice a1 n1 c1, .slice a2 n2 c2, .string nm, .int .i64 cmp, .string txt, .int .i64 num]) ∧
  Rob V.heap.size V' none (fun W' => MX W' r.1 ⟨op, a1, n1, c1, a2, n2, c2, nm, cmp, txt, num⟩) ∧ RdW C V' r.2 ∧ yB9 C V V'
def yGv (C : RC) (V : World) (r : List St × Rst) (e : Ending) (V' : World) : Prop :=
 ∃ a n c, e = .returned (.agg #[.slice a n c]) ∧ Rob V.heap.size V' none (fun W' => yAH W' r.1 a n c) ∧ RdW C V' r.2 ∧ yB9 C V V'
theorem yAu {w : World} {D i : Nat} {a : Array Value} {t : TypeId} (h : w.heap[D]? = some (.cells a t)) (u : Value) : (w.setCell ⟨D, i, none⟩ u).heap[D]? = some (.cells (a.setIfInBounds i u) t) := by
 have hz := jl h; have hg := (jj.1 h).2; have hz2 : D < (w.setCell ⟨D, i, none⟩ u).heap.size := by simp [World.setCell, hz]
 rw [Array.getElem?_eq_getElem hz2]; simp only [World.setCell, Array.getElem_modify, hg]; simp
theorem yDK (c : N7) : ∀ u ∈ yAS c, u.oneCell' = true := by
 intro u hu; simp only [yAS, List.mem_cons, List.not_mem_nil, or_false] at hu; rcases hu with rfl | rfl | rfl | rfl | rfl | rfl | rfl <;> rfl
theorem yE2 (w : World) (c : N7) (t : TypeId) : ∀ j u, (yAS c)[j]? = some u → (w.alloc (.cells (yAS c).toArray t)).cell? ⟨w.heap.size, j, none⟩ = some u := by intro j u hj; have hn := jw w (.cells (yAS c).toArray t); unfold World.cell?; rw [hn]; simpa using hj
theorem yIG (c : N4s) : ∀ u ∈ yBz c, u.oneCell' = true := by
 intro u hu; simp only [yBz, List.mem_cons, List.not_mem_nil, or_false] at hu; rcases hu with rfl | rfl | rfl | rfl <;> rfl
structure XL (C : RC) (V W1 : World) (rx : Int → Rst → Ex × Rst) (args : List Int) (s1 : Rst) (tE : TypeId) (L X : Nat) (tX : TypeId) (cx : Value → Array Value) (q : Nat) (v : Value) (cs : List N7) (wr : World) : Prop where
 rd : RdW C wr (yAz rx (args.take q) s1).2
 only : yB9 C V wr
 size : L ≤ wr.heap.size
 fix : ∀ b, C.top ≤ b → b < L → b ≠ X → wr.heap[b]? = W1.heap[b]?
 hx : wr.heap[X]? = some (.cells (cx v) tX)
 len : (yAz rx (args.take q) s1).1.length = cs.length
 row : wr.ownsRow L tE 7 v q (cs.flatMap yAS)
 els : Rob L wr v.ownBlock (Els MX (yAz rx (args.take q) s1).1 cs)
theorem XL.start {C : RC} {V W1 : World} {rx : Int → Rst → Ex × Rst} {args : List Int} {s1 : Rst} {tE : TypeId} {L X : Nat} {tX : TypeId} {cx : Value → Array Value} (hrd : RdW C W1 s1) (ho : yB9 C V W1) (hL : L = W1.heap.size) (hx : W1.heap[X]? = some (.cells (cx (.slice none 0 0)) tX)) :
  XL C V W1 rx args s1 tE L X tX cx 0 (.slice none 0 0) [] W1 :=
 ⟨by rw [List.take_zero]; exact hrd, ho, Nat.le_of_eq hL, fun _ _ _ _ => rfl, hx, by rw [List.take_zero]; rfl, World.ownsRow_nil _ _ _ _, by rw [List.take_zero]; exact Els.nil _ _ _ _⟩
theorem XL.next {C : RC} (ok : C.Ok) {V W1 : World} {rx : Int → Rst → Ex × Rst} {args : List Int} {s1 : Rst} {tE : TypeId} {L X : Nat} {tX : TypeId} {cx : Value → Array Value} {q : Nat} {v : Value} {cs : List N7} {wr : World} (h : XL C V W1 rx args s1 tE L X tX cx q v cs wr)
  (hV : V.heap.size ≤ L) (hVt : C.top ≤ V.heap.size) (hX : V.heap.size ≤ X ∧ X < L) (i : Nat) (hcx : ∀ v u, (cx v).setIfInBounds i u = cx u) {k : Int} (hk : args[q]? = some k) {r : Ex × Rst} (hr : rx k (yAz rx (args.take q) s1).2 = r)
  {w2 w3 : World} {c : N7} (ho2 : yB9 C wr w2) (hrob : Rob wr.heap.size w2 none fun W' => MX W' r.1 c) (hrd2 : RdW C w2 r.2) {v3 : Value} (own3 : w3.ownsRow L tE 7 v3 (q + 1) (cs.flatMap yAS ++ yAS c)) (grow3 : w2.grownBy w3 v.ownBlock)
  (at3 : v3.ownBlock = v.ownBlock ∨ ∃ j, v3.ownBlock = some j ∧ w2.heap.size ≤ j) : XL C V W1 rx args s1 tE L X tX cx (q + 1) v3 (cs ++ [c]) (w3.setCell ⟨X, i, none⟩ v3) := by
 have hs := yNx rx hk s1; rw [hr] at hs; have hsz := h.size; have hlt := World.ownsRow.lt h.row; have hlt3 := World.ownsRow.lt own3; have h2s := ho2.size; have h3s := grow3.size; have hne : ∀ b, b < L → some b ≠ v.ownBlock := fun b hb e => by have := (hlt b e.symm).1; omega
 have hblk : ∀ b, C.top ≤ b → b < L → b ≠ X → (w3.setCell ⟨X, i, none⟩ v3).heap[b]? = wr.heap[b]? := fun b h1 h2 h3 =>
  (js w3 ⟨X, i, none⟩ v3 b h3).trans ((grow3.block b (by omega) (hne b h2)).trans (ho2.high b h1 (by omega)))
 have hB3 : Below C.top w2 (w3.setCell ⟨X, i, none⟩ v3) :=
  ⟨grow3.os, grow3.tape, grow3.output, by rw [jv]; exact h3s, fun b hb => (js w3 ⟨X, i, none⟩ v3 b (by show b ≠ X; omega)).trans (grow3.block b (jt hb hrd2.top) (hne b (by omega)))⟩
 have hx3 : w3.heap[X]? = some (.cells (cx v) tX) := (grow3.block X (by omega) (hne X hX.2)).trans ((ho2.high X (by omega) (by omega)).trans h.hx); refine ⟨by rw [hs]; exact hrd2.below ok hB3, ?_, by rw [jv]; omega, fun b h1 h2 h3 => (hblk b h1 h2 h3).trans (h.fix b h1 h2 h3), ?_, by rw [hs, jp, jp, h.len]; rfl, ?_, ?_⟩
 ·refine (h.only.trans ho2).step ⟨grow3.os, grow3.tape, grow3.output, by rw [jv]; exact h3s, fun b hb => (js w3 ⟨X, i, none⟩ v3 b (by show b ≠ X; omega)).trans (grow3.block b (by omega) (hne b (by omega)))⟩ (by have := ok.lo; have := ok.hi; omega)
 ·rw [yAu hx3, hcx]
 ·rw [List.flatMap_append, show [c].flatMap yAS = yAS c by simp]; refine yAa own3 fun g hg => js w3 ⟨X, i, none⟩ v3 g ?_
  have := (hlt3 g hg).1; show g ≠ X; omega
 ·rw [hs]; have hkeep : ∀ b, L ≤ b → b < w2.heap.size → v.ownBlock ≠ some b → (w3.setCell ⟨X, i, none⟩ v3).heap[b]? = w2.heap[b]? := fun b h1 h2 h3 =>
   (js w3 ⟨X, i, none⟩ v3 b (by show b ≠ X; omega)).trans (grow3.block b h2 fun e => h3 e.symm)
  have hown : v3.ownBlock = v.ownBlock ∨ ∀ b, v3.ownBlock = some b → w2.heap.size ≤ b := by
   rcases at3 with e | ⟨j, e1, e2⟩
   ·exact .inl e
   ·refine .inr fun b hb => ?_
    rw [e1] at hb; injection hb with hb; omega
  refine Els.snoc ?_ h.len ?_
  ·refine (h.els.moved (own2 := v.ownBlock) h2s (fun b h1 h2 _ => ho2.high b (by omega) h2) (.inl rfl)).moved (by rw [jv]; exact h3s) hkeep hown
  ·refine (((hrob.own (own2 := v.ownBlock) fun b hb => .inl (hlt b hb).2).lower hsz).moved (by rw [jv]; exact h3s) hkeep hown)
structure yFc (A : Nat) (w w' : World) : Prop where
 os : w'.os = w.os
 tape : w'.tape = w.tape
 output : w'.output = w.output
 size : w.heap.size = w'.heap.size
 block : ∀ b, b ≠ A → w'.heap[b]? = w.heap[b]?
theorem yFc.refl (A : Nat) (w : World) : yFc A w w := ⟨rfl, rfl, rfl, rfl, fun _ _ => rfl⟩
theorem yFc.set {A : Nat} {w w' : World} (h : yFc A w w') (i : Nat) (u : Value) : yFc A w (w'.setCell ⟨A, i, none⟩ u) :=
 ⟨h.os, h.tape, h.output, by rw [jv]; exact h.size, fun b hb => (js w' ⟨A, i, none⟩ u b hb).trans (h.block b hb)⟩
theorem yFc.below {A B : Nat} {w w' : World} (h : yFc A w w') (hB : B ≤ A) : Below B w w' := ⟨h.os, h.tape, h.output, Nat.le_of_eq h.size, fun b hb => h.block b (by omega)⟩
theorem yLb (w : World) (A : Nat) (v0 v1 v2 v3 v4 v5 v6 : Value) : yFc A w (((((((w.setCell ⟨A, 0, none⟩ v0).setCell ⟨A, 1, none⟩ v1).setCell ⟨A, 2, none⟩ v2).setCell ⟨A, 3, none⟩ v3).setCell ⟨A, 4, none⟩ v4).setCell ⟨A, 5, none⟩ v5).setCell ⟨A, 6, none⟩ v6) :=
 yFc.set (yFc.set (yFc.set (yFc.set (yFc.set (yFc.set (yFc.set (yFc.refl A w) 0 v0) 1 v1) 2 v2) 3 v3) 4 v4) 5 v5) 6 v6
theorem yG4 (W : World) : yAH W [] none 0 0 := ⟨rfl, jr _, jz _, fun _ hj => absurd hj (Nat.not_lt_zero _)⟩
theorem yGI {C : RC} {V W1 : World} {rx : Int → Rst → Ex × Rst} {args : List Int} {s1 : Rst} {tE : TypeId} {L X : Nat} {tX : TypeId} {cx : Value → Array Value} {q : Nat} {v : Value} {cs : List N7} {wr : World} (h : XL C V W1 rx args s1 tE L X tX cx q v cs wr)
  (hq : args.length = q) (hV : V.heap.size ≤ L) (hT : C.top ≤ L) {w2 wf : World} {ts : List St} {a2 : Option Addr} {n2 c2 : Nat} (ho2 : yB9 C wr w2) (hrob : Rob wr.heap.size w2 none fun W' => yAH W' ts a2 n2 c2) {s' : Rst}
  (hsz : w2.heap.size ≤ wf.heap.size) (hkeep : ∀ b, L ≤ b → b < w2.heap.size → wf.heap[b]? = w2.heap[b]?) (hrdf : RdW C wf s') (hof : yB9 C V wf) (op : Int) (attr : ByteArray) (cmp : Int) (txt : ByteArray) (num : Int) :
  yHB C V (.mk op (yAz rx args s1).1 ts attr cmp txt num, s') (.returned (.agg #[.int .i64 op, v, .slice a2 n2 c2, .string attr, .int .i64 cmp, .string txt, .int .i64 num])) wf := by
 have hl := h.len; have hrow := h.row; have hels := h.els; rw [jm (by omega)] at hl hels; have hlen : (yAz rx args s1).1.length = q := by rw [yJ1, hq]
 rw [← hlen] at hrow; obtain ⟨a, cap, rfl, hR⟩ := yLd hl hrow hels; refine ⟨op, a, _, cap, a2, n2, c2, attr, cmp, txt, num, rfl, ?_, hrdf, hof⟩; have hs := h.size; have h1 : Rob V.heap.size wf none fun W' => yAM W' (yAz rx args s1).1 a (yAz rx args s1).1.length cap :=
  ((hR.moved (own2 := none) (ju ho2.size hsz) (fun b e1 e2 _ => (hkeep b e1 (jt e2 ho2.size)).trans (ho2.high b (by omega) e2)) (.inl rfl)).lower hV)
 have h2 : Rob V.heap.size wf none fun W' => yAH W' ts a2 n2 c2 :=
  ((hrob.moved (own2 := none) hsz (fun b e1 e2 _ => hkeep b (by omega) e2) (.inl rfl)).lower (by omega))
 exact h1.both h2 fun W' m1 m2 => ⟨rfl, rfl, rfl, rfl, rfl, m1, m2⟩
end Gim
namespace Go.Proofs.YtkhejkfjhddobaaGreatDoor
open Go.RowKit Gim
structure XB {α γ : Type} (R : World → α → γ → Prop) (cell : γ → List Value) (ek : Nat) (V W1 : World) (xs : List α) (tE : TypeId) (L X : Nat) (tX : TypeId) (cx : Value → Array Value) (q : Nat) (v : Value) (cs : List γ) (wr : World) : Prop where
 bel : Below V.heap.size V wr
 size : L ≤ wr.heap.size
 fix : ∀ b, V.heap.size ≤ b → b < L → b ≠ X → wr.heap[b]? = W1.heap[b]?
 hx : wr.heap[X]? = some (.cells (cx v) tX)
 len : xs.length = cs.length
 row : wr.ownsRow L tE ek v q (cs.flatMap cell)
 els : Rob L wr v.ownBlock (Els R xs cs)
section
variable {α γ : Type} {R : World → α → γ → Prop} {cell : γ → List Value} {ek : Nat} {V W1 : World} {tE : TypeId} {L X : Nat} {tX : TypeId} {cx : Value → Array Value}
theorem XB.start (hb : Below V.heap.size V W1) (hL : L = W1.heap.size) (hx : W1.heap[X]? = some (.cells (cx (.slice none 0 0)) tX)) : XB R cell ek V W1 [] tE L X tX cx 0 (.slice none 0 0) [] W1 :=
 ⟨hb, Nat.le_of_eq hL, fun _ _ _ _ => rfl, hx, rfl, World.ownsRow_nil _ _ _ _, Els.nil _ _ _ _⟩
theorem XB.next {xs : List α} {q : Nat} {v : Value} {cs : List γ} {wr : World} (h : XB R cell ek V W1 xs tE L X tX cx q v cs wr)
  (hX : V.heap.size ≤ X ∧ X < L) (i : Nat) (hcx : ∀ v u, (cx v).setIfInBounds i u = cx u) {x : α}
  {w2 w3 : World} {c : γ} (hb2 : Below wr.heap.size wr w2) (hrob : Rob wr.heap.size w2 none fun W' => R W' x c) {v3 : Value} (own3 : w3.ownsRow L tE ek v3 (q + 1) (cs.flatMap cell ++ cell c)) (grow3 : w2.grownBy w3 v.ownBlock)
  (at3 : v3.ownBlock = v.ownBlock ∨ ∃ j, v3.ownBlock = some j ∧ w2.heap.size ≤ j) : XB R cell ek V W1 (xs ++ [x]) tE L X tX cx (q + 1) v3 (cs ++ [c]) (w3.setCell ⟨X, i, none⟩ v3) := by
 have hsz := h.size; have hlt := World.ownsRow.lt h.row; have hlt3 := World.ownsRow.lt own3; have h2s := hb2.size; have h3s := grow3.size; have hne : ∀ b, b < L → some b ≠ v.ownBlock := fun b hb e => by have := (hlt b e.symm).1; omega
 have hblk : ∀ b, b < L → b ≠ X → (w3.setCell ⟨X, i, none⟩ v3).heap[b]? = wr.heap[b]? := fun b h2 h3 =>
  (js w3 ⟨X, i, none⟩ v3 b h3).trans ((grow3.block b (by omega) (hne b h2)).trans (hb2.block b (by omega)))
 have hx3 : w3.heap[X]? = some (.cells (cx v) tX) := (grow3.block X (by omega) (hne X hX.2)).trans ((hb2.block X (by omega)).trans h.hx); have hVL : V.heap.size ≤ L := by omega
 refine ⟨h.bel.trans ⟨grow3.os.trans hb2.os, grow3.tape.trans hb2.tape, grow3.output.trans hb2.output, by rw [jv]; omega, fun b hb => hblk b (by omega) (by omega)⟩, by rw [jv]; omega, fun b h1 h2 h3 => (hblk b h2 h3).trans (h.fix b h1 h2 h3), ?_, by rw [jp, jp, h.len]; rfl, ?_, ?_⟩
 ·rw [yAu hx3, hcx]
 ·rw [List.flatMap_append, show [c].flatMap cell = cell c by simp]; refine yAa own3 fun g hg => js w3 ⟨X, i, none⟩ v3 g ?_
  have := (hlt3 g hg).1; show g ≠ X; omega
 ·have hkeep : ∀ b, L ≤ b → b < w2.heap.size → v.ownBlock ≠ some b → (w3.setCell ⟨X, i, none⟩ v3).heap[b]? = w2.heap[b]? := fun b h1 h2 h3 =>
   (js w3 ⟨X, i, none⟩ v3 b (by show b ≠ X; omega)).trans (grow3.block b h2 fun e => h3 e.symm)
  have hown : v3.ownBlock = v.ownBlock ∨ ∀ b, v3.ownBlock = some b → w2.heap.size ≤ b := by
   rcases at3 with e | ⟨j, e1, e2⟩
   ·exact .inl e
   ·refine .inr fun b hb => ?_
    rw [e1] at hb; injection hb with hb; omega
  refine Els.snoc ?_ h.len ?_
  ·refine (h.els.moved (own2 := v.ownBlock) h2s (fun b _ h2 _ => hb2.block b h2) (.inl rfl)).moved (by rw [jv]; exact h3s) hkeep hown
  ·refine (((hrob.own (own2 := v.ownBlock) fun b hb => .inl (hlt b hb).2).lower hsz).moved (by rw [jv]; exact h3s) hkeep hown)
end
theorem yTg {V W1 wr1 wr2 wf : World} {xsA : List Ex} {xsT : List Gim.St} {tE tS : TypeId} {LA X : Nat} {tX tX2 : TypeId} {cx1 cx2 : Value → Array Value} {q n : Nat} {vA vT : Value} {csA : List N7} {csT : List N4s} (h1 : XB MX yAS 7 V W1 xsA tE LA X tX cx1 q vA csA wr1) (h2 : XB MT yBz 4 V wr1 xsT tS wr1.heap.size X tX2 cx2 n vT csT wr2) (hX : X < LA) (hV : V.heap.size ≤ LA) (hlA : xsA.length = q) (hlT : xsT.length = n)
  (hsz : wr2.heap.size ≤ wf.heap.size) (hkeep : ∀ b, LA ≤ b → b < wr2.heap.size → wf.heap[b]? = wr2.heap[b]?) (op : Int) (attr : ByteArray) (cmp : Int) (txt : ByteArray) (num : Int) :
  ∃ a1 c1 a2 c2, vA = .slice a1 q c1 ∧ vT = .slice a2 n c2 ∧ Rob V.heap.size wf none fun W' => MX W' (.mk op xsA xsT attr cmp txt num) ⟨op, a1, q, c1, a2, n, c2, attr, cmp, txt, num⟩ := by subst hlA hlT; obtain ⟨a1, c1, rfl, hA⟩ := yLd h1.len h1.row h1.els; obtain ⟨a2, c2, rfl, hT⟩ := yRE h2.len h2.row h2.els; have hs1 := h1.size; have hs2 := h2.size; have hA2 := (hA.moved (own2 := none) hs2 (fun b e1 e2 _ => h2.fix b (by omega) e2 (by omega)) (.inl rfl)).moved (own2 := none) hsz (fun b e1 e2 _ => hkeep b e1 e2) (.inl rfl); have hT2 := hT.moved (own2 := none) hsz (fun b e1 e2 _ => hkeep b (by omega) e2) (.inl rfl); exact ⟨a1, c1, a2, c2, rfl, rfl, (hA2.lower hV).both (hT2.lower (by omega)) fun W' m1 m2 => ⟨rfl, rfl, rfl, rfl, rfl, m1, m2⟩⟩
structure XT {α γ : Type} (R : World → α → γ → Prop) (cell : γ → List Value) (ek : Nat) (V : World) (xs : List α) (tE : TypeId) (q : Nat) (v : Value) (cs : List γ) (wr : World) : Prop where
 bel : Below V.heap.size V wr
 len : xs.length = cs.length
 row : wr.ownsRow V.heap.size tE ek v q (cs.flatMap cell)
 els : Rob V.heap.size wr v.ownBlock (Els R xs cs)
section
variable {α γ : Type} {R : World → α → γ → Prop} {cell : γ → List Value} {ek : Nat} {V : World} {tE : TypeId}
theorem XT.start : XT R cell ek V [] tE 0 (.slice none 0 0) [] V := ⟨jf _ _, rfl, World.ownsRow_nil _ _ _ _, Els.nil _ _ _ _⟩
theorem XT.next {xs : List α} {q : Nat} {v : Value} {cs : List γ} {wr : World} (h : XT R cell ek V xs tE q v cs wr) {x : α} {w2 w3 : World} {c : γ} (hb2 : Below wr.heap.size wr w2) (hrob : Rob wr.heap.size w2 none fun W' => R W' x c) {v3 : Value} (own3 : w3.ownsRow V.heap.size tE ek v3 (q + 1) (cs.flatMap cell ++ cell c)) (grow3 : w2.grownBy w3 v.ownBlock)
  (at3 : v3.ownBlock = v.ownBlock ∨ ∃ j, v3.ownBlock = some j ∧ w2.heap.size ≤ j) : XT R cell ek V (xs ++ [x]) tE (q + 1) v3 (cs ++ [c]) w3 := by
 have hlt := World.ownsRow.lt h.row; have h2s := hb2.size; have h3s := grow3.size; have hsz := h.bel.size; have hne : ∀ b, b < V.heap.size → some b ≠ v.ownBlock := fun b hb e => by have := (hlt b e.symm).1; omega
 have hown : v3.ownBlock = v.ownBlock ∨ ∀ b, v3.ownBlock = some b → w2.heap.size ≤ b := by
  rcases at3 with e | ⟨j, e1, e2⟩
  ·exact .inl e
  ·refine .inr fun b hb => ?_
   rw [e1] at hb; injection hb with hb; omega
 have hkeep : ∀ b, V.heap.size ≤ b → b < w2.heap.size → v.ownBlock ≠ some b → w3.heap[b]? = w2.heap[b]? := fun b _ h2 h3 => grow3.block b h2 fun e => h3 e.symm
 refine ⟨h.bel.trans ⟨grow3.os.trans hb2.os, grow3.tape.trans hb2.tape, grow3.output.trans hb2.output, by omega, fun b hb => (grow3.block b (by omega) (hne b hb)).trans (hb2.block b (by omega))⟩, by rw [jp, jp, h.len]; rfl, ?_, ?_⟩
 ·rw [List.flatMap_append, show [c].flatMap cell = cell c by simp]; exact own3
 ·refine Els.snoc ?_ h.len ?_
  ·exact (h.els.moved (own2 := v.ownBlock) h2s (fun b _ h2 _ => hb2.block b h2) (.inl rfl)).moved h3s hkeep hown
  ·exact ((hrob.own (own2 := v.ownBlock) fun b hb => .inl (hlt b hb).2).lower hsz).moved h3s hkeep hown
end
theorem yDV : (Tryz.prog.info? 66).map (fun i => (i.zero, i.size, i.bytes)) = some (some (.agg #[.int .i64 0, .slice none 0 0, .slice none 0 0, .string ByteArray.empty, .int .i64 0, .string ByteArray.empty, .int .i64 0]), 7, 104) := by kernel_rfl
theorem yKb : (Tryz.prog.info? 64).map (fun i => (i.zero, i.size, i.bytes)) = some (some (.agg #[.int .i64 0, .int .i64 0, .string ByteArray.empty, .slice none 0 0]), 4, 56) := by kernel_rfl
def CRX (C : RC) (f : Nat) : Prop := ∀ (s : Rst) (k : Int) (V : World), RdW C V s → (yAp s < f ∨ s.bad = true) →
 Calls Tryz.prog 93 #[.pointer (some ⟨C.R, 0, none⟩), .int .i64 k] V (yHB C V ((RR C.n f).1 k s))
def CRP (C : RC) (f : Nat) : Prop := ∀ (s : Rst) (a c : Int) (V : World), InR a → InR c → RdW C V s → (yAp s < f ∨ s.bad = true) →
 Calls Tryz.prog 61 #[.pointer (some ⟨C.R, 0, none⟩), .int .i64 a, .int .i64 c] V (yGv C V ((RR C.n f).2 a c s))
theorem ySt (W : World) : MX W zx ⟨0, none, 0, 0, none, 0, 0, ByteArray.empty, 0, ByteArray.empty, 0⟩ :=
 ⟨rfl, rfl, rfl, rfl, rfl, ⟨rfl, jr _, jz _, fun _ hj => absurd hj (Nat.not_lt_zero _)⟩, ⟨rfl, jr _, jz _, fun _ hj => absurd hj (Nat.not_lt_zero _)⟩⟩
theorem yQt {C : RC} (ok : C.Ok) {s : Rst} {V : World} (h : RdW C V s) (o : Obj) :
  yHB C V (zx, s.spoil) (.returned (.agg #[.int .i64 0, .slice none 0 0, .slice none 0 0, .string ByteArray.empty, .int .i64 0, .string ByteArray.empty, .int .i64 0])) ((V.setCell ⟨C.R, 5, none⟩ (.bool true)).alloc o) := by have ht := h.top; have hR := ok.hi.1; refine ⟨0, none, 0, 0, none, 0, 0, ByteArray.empty, 0, ByteArray.empty, 0, rfl, ⟨fun _ => False, fun _ h => h.elim, fun W _ => ySt W⟩, (h.spoil ok).below ok ((jf _ _).alloc (by rw [jv]; exact ht) _), ?_⟩; exact ((yB9.refl C V).set ok.lo.1 hR _).step ((jf _ _).alloc (by rw [jv]; exact jr _) _) (by have := ok.lo.1; omega)
theorem yF4 (C : RC) (ok : C.Ok) (s : Rst) (k : Int) (V : World) (h : RdW C V s) (hbad : s.bad = true ∨ k < 0 ∨ (C.n.preds.length : Int) ≤ k ∨ s.preds.getD k.toNat true = true) :
  Calls Tryz.prog 93 #[.pointer (some ⟨C.R, 0, none⟩), .int .i64 k] V (yHB C V (zx, s.spoil)) := by
 have c5 := h.c5; have c2 := h.c2; have c4 := h.c4; have z5 := h.zR 5; have hlt := jt ok.hi.1 h.top; have hn0 := ok.preds.le; have hn1 := ok.preds.cap_le; have hm1 := ok.gc; have HR := jh h; have HO := jh ok; have HP := jh (yQt ok h); by_cases hb : s.bad = true
 ·rw [hb] at c5; clear h ok hb hbad hn0 hn1 hm1; go_enter Tryz.func93, Tryz.ntmps93; go_wp2_with fail; refine bodyPost_ret (v := .agg #[.int .i64 0, .slice none 0 0, .slice none 0 0, .string ByteArray.empty, .int .i64 0, .string ByteArray.empty, .int .i64 0]) ?_ rfl ?_
  ·first | (simp [results, Tryz.f93, go_sem]; done) | (simp [results, Tryz.f93, go_sem]; rfl)
  ·exact HP.out _
 ·have hb2 : s.bad = false := by simpa using hb
  rw [hb2] at c5; by_cases h0 : k < 0
  ·clear h ok hb hb2 hbad hn0 hn1 hm1; go_enter Tryz.func93, Tryz.ntmps93; go_wp2_with fail; refine bodyPost_ret (v := .agg #[.int .i64 0, .slice none 0 0, .slice none 0 0, .string ByteArray.empty, .int .i64 0, .string ByteArray.empty, .int .i64 0]) ?_ rfl ?_
   ·first | (simp [results, Tryz.f93, go_sem]; done) | (simp [results, Tryz.f93, go_sem]; rfl)
   ·exact HP.out _
  ·have hmx : C.n.preds.length ≤ 9223372036854775807 := by unfold maxLen at hn1; omega
   obtain ⟨np, hnp⟩ := je (C.n.preds.length); rw [hnp] at c2 c4 hmx; by_cases h1 : (np : Int) ≤ k
   ·clear h ok hb hb2 hbad hn0 hn1 hm1; go_enter Tryz.func93, Tryz.ntmps93; go_wp2_with fail; refine bodyPost_ret (v := .agg #[.int .i64 0, .slice none 0 0, .slice none 0 0, .string ByteArray.empty, .int .i64 0, .string ByteArray.empty, .int .i64 0]) ?_ rfl ?_
    ·first | (simp [results, Tryz.f93, go_sem]; done) | (simp [results, Tryz.f93, go_sem]; rfl)
    ·exact HP.out _
   ·obtain ⟨j, rfl⟩ : ∃ j : Nat, k = j := ⟨k.toNat, by omega⟩
    have hj : j < np := by omega
    have hu : s.preds.getD j true = true := by
     rcases hbad with hx | hx | hx | hx
     ·exact absurd hx hb
     ·omega
     ·omega
     ·simpa using hx
    have hjl : j < s.preds.length := by rw [h.lp]; omega
    have hu2 : s.preds[j]? = some true := by rw [jg, jk hjl] at hu; rw [jk hjl]; exact congrArg some hu
    have k4 := h.fp j true hu2; have hga := ok.ga j (by omega); rw [hga] at c4; have hg1 : np ≤ C.gc := by omega
    have hlt2 := jt ok.hi.2.2 h.top; clear h ok hb hb2 hbad hn0 hn1 hm1 hu hu2 hjl hga h0 h1; go_enter Tryz.func93, Tryz.ntmps93; go_wp2_with fail; refine bodyPost_ret (v := .agg #[.int .i64 0, .slice none 0 0, .slice none 0 0, .string ByteArray.empty, .int .i64 0, .string ByteArray.empty, .int .i64 0]) ?_ rfl ?_
    ·first | (simp [results, Tryz.f93, go_sem]; done) | (simp [results, Tryz.f93, go_sem]; rfl)
    ·exact HP.out _
theorem yOo {n : yAc} {rx : Int → Rst → Ex × Rst} {rp : Int → Int → Rst → List St × Rst} {j : Nat} {s : Rst} (hb : s.bad = false) (hj : j < n.preds.length) (hu : s.preds[j]? = some false) {op : Int} {args : List Int} {first count : Int} {attr : ByteArray} {cmp : Int} {txt : ByteArray} {num : Int} (hp : n.preds.getD j zp = ⟨op, args, first, count, attr, cmp, txt, num⟩) :
  yB4 n rx rp (j : Int) s = if op = 3 then (.mk op (yAz rx args (s.markPred j)).1 (rp first count (yAz rx args (s.markPred j)).2).1 attr cmp txt num, (rp first count (yAz rx args (s.markPred j)).2).2)
   else (.mk op (yAz rx args (s.markPred j)).1 [] attr cmp txt num, if first ≠ 0 ∨ count ≠ 0 then (yAz rx args (s.markPred j)).2.spoil else (yAz rx args (s.markPred j)).2) := by
 unfold yB4; rw [if_neg, show ((j : Int)).toNat = j from rfl, hp]; rintro (h | h | h | h)
 ·rw [hb] at h; cases h
 ·omega
 ·omega
 ·rw [show ((j : Int)).toNat = j from rfl, jg, hu] at h; cases h
end Go.Proofs.YtkhejkfjhddobaaGreatDoor
namespace Gim
open Go Go.RowKit
theorem yKf (n : yAc) (rx : Int → Rst → Ex × Rst) {F d c : Nat} {s : Rst} (hd : d ≤ c) (hb : ((List.range' F d).foldl (yAL n rx) ([], s)).2.bad = true) : (List.range' F c).foldl (yAL n rx) ([], s) = (List.range' F d).foldl (yAL n rx) ([], s) := by obtain ⟨e, rfl⟩ := Nat.exists_eq_add_of_le hd; rw [← List.range'_append (s := F) (m := d) (n := e) (step := 1), List.foldl_append]; exact yFP n rx _ hb _
theorem yKs (n : yAc) (rx : Int → Rst → Ex × Rst) (F d : Nat) (s : Rst) : (List.range' F (d + 1)).foldl (yAL n rx) ([], s) = yAL n rx ((List.range' F d).foldl (yAL n rx) ([], s)) (F + d) := by rw [← List.range'_append (s := F) (m := d) (n := 1) (step := 1), List.foldl_append]; simp
structure PL (C : RC) (V : World) (rx : Int → Rst → Ex × Rst) (F : Nat) (s : Rst) (tS tP : TypeId) (d : Nat) (v : Value) (cs : List N4s) (wr : World) : Prop where
 rd : RdW C wr ((List.range' F d).foldl (yAL C.n rx) ([], s)).2
 only : yB9 C V wr
 size : V.heap.size + 2 ≤ wr.heap.size
 h0 : wr.heap[V.heap.size]? = some (.cells #[.slice none 0 0] tP)
 h1 : wr.heap[V.heap.size + 1]? = some (.cells #[v] tP)
 len : ((List.range' F d).foldl (yAL C.n rx) ([], s)).1.length = cs.length
 le : cs.length ≤ d
 row : wr.ownsRow (V.heap.size + 2) tS 4 v cs.length (cs.flatMap yBz)
 els : Rob (V.heap.size + 2) wr v.ownBlock (Els MT ((List.range' F d).foldl (yAL C.n rx) ([], s)).1 cs)
theorem yOQ {W : World} {lo : Nat} {t : TypeId} {v : Value} {xs : List Ex} {cs : List N7} {q : Nat} (hl : xs.length = cs.length) (hq : xs.length = q) (h : W.ownsRow lo t 7 v q (cs.flatMap yAS)) (hE : Rob lo W v.ownBlock (Els MX xs cs)) :
  ∃ a cap, v = .slice a q cap ∧ Rob lo W none fun W' => yAM W' xs a q cap := by subst hq; exact yLd hl h hE
theorem PL.next {C : RC} (ok : C.Ok) {V : World} {rx : Int → Rst → Ex × Rst} {F : Nat} {s : Rst} {tS tP : TypeId} {d : Nat} {v : Value} {cs : List N4s} {wr : World} (h : PL C V rx F s tS tP d v cs wr) (hV : C.top ≤ V.heap.size)
  {ax ts : Int} {nm : ByteArray} {ps : List Int} (hrow : C.n.rows.getD (F + d) zr = ⟨ax, ts, nm, ps⟩) (hb : ((List.range' F d).foldl (yAL C.n rx) ([], s)).2.bad = false) (hu : ((List.range' F d).foldl (yAL C.n rx) ([], s)).2.rows[F + d]? = some false)
  {W1 w2 : World} {tE : TypeId} {cx : Value → Array Value} {q : Nat} {v2 : Value} {cs2 : List N7} (hx : XL C wr W1 rx ps (((List.range' F d).foldl (yAL C.n rx) ([], s)).2.markRow (F + d)) tE (wr.heap.size + 2) (wr.heap.size + 1) tS cx q v2 cs2 w2) (hq : ps.length = q)
  (hW1 : ∀ b, C.top ≤ b → b < wr.heap.size → W1.heap[b]? = wr.heap[b]?)
  {w3 : World} {v3 : Value} {a2 : Option Addr} {n2 c2 : Nat} (hv2 : v2 = .slice a2 n2 c2) (own3 : w3.ownsRow (V.heap.size + 2) tS 4 v3 (cs.length + 1) (cs.flatMap yBz ++ yBz ⟨ax, ts, nm, a2, n2, c2⟩)) (grow3 : w2.grownBy w3 v.ownBlock)
  (at3 : v3.ownBlock = v.ownBlock ∨ ∃ j, v3.ownBlock = some j ∧ w2.heap.size ≤ j) : PL C V rx F s tS tP (d + 1) v3 (cs ++ [⟨ax, ts, nm, a2, n2, c2⟩]) (w3.setCell ⟨V.heap.size + 1, 0, none⟩ v3) := by
 have hn : (List.range' F (d + 1)).foldl (yAL C.n rx) ([], s) = (((List.range' F d).foldl (yAL C.n rx) ([], s)).1 ++ [.mk ax ts nm (yAz rx ps (((List.range' F d).foldl (yAL C.n rx) ([], s)).2.markRow (F + d))).1], (yAz rx ps (((List.range' F d).foldl (yAL C.n rx) ([], s)).2.markRow (F + d))).2) := by rw [yKs]; generalize (List.range' F d).foldl (yAL C.n rx) ([], s) = acc at hb hu; unfold yAL; rw [if_neg (by rw [hb]; exact Bool.noConfusion), if_neg (by rw [jg, hu]; exact Bool.noConfusion), hrow]
 have hxr := hx.rd; have hxl := hx.len; have hxe := hx.els; rw [jm (by omega)] at hxr hxl hxe; obtain ⟨a, cap, e2, hR⟩ := yOQ hxl (by rw [yJ1, hq]) hx.row hxe; rw [hv2] at e2; injection e2 with e3 e4 e5; subst e3 e4 e5 hv2; have hsz := h.size; have hs2 := hx.size; have hs3 := grow3.size; have hlt := World.ownsRow.lt h.row; have hlt3 := World.ownsRow.lt own3; have hne : ∀ b, b < V.heap.size + 2 → some b ≠ v.ownBlock := fun b hb e => by have := (hlt b e.symm).1; omega
 have hblk : ∀ b, C.top ≤ b → b < wr.heap.size → some b ≠ v.ownBlock → b ≠ V.heap.size + 1 → (w3.setCell ⟨V.heap.size + 1, 0, none⟩ v3).heap[b]? = wr.heap[b]? := fun b h1 h2 h3 h4 =>
  (js w3 ⟨V.heap.size + 1, 0, none⟩ v3 b h4).trans ((grow3.block b (by omega) h3).trans ((hx.fix b h1 (by omega) (by omega)).trans (hW1 b h1 h2)))
 have hB3 : Below V.heap.size w2 (w3.setCell ⟨V.heap.size + 1, 0, none⟩ v3) :=
  ⟨grow3.os, grow3.tape, grow3.output, by rw [jv]; exact hs3, fun b hb => (js w3 ⟨V.heap.size + 1, 0, none⟩ v3 b (by show b ≠ V.heap.size + 1; omega)).trans (grow3.block b (by omega) (hne b (by omega)))⟩
 have hx3 : w3.heap[V.heap.size + 1]? = some (.cells #[v] tP) := (grow3.block _ (by omega) (hne _ (by omega))).trans ((hx.fix _ (by omega) (by omega) (by omega)).trans ((hW1 _ (by omega) (by omega)).trans h.h1)); refine ⟨by rw [hn]; exact hxr.below ok (hB3.mono hV), (h.only.trans hx.only).step hB3 (by have := ok.lo; have := ok.hi; omega), by rw [jv]; omega, ?_, ?_, by rw [hn, jp, jp, h.len]; rfl, by rw [jp]; exact Nat.succ_le_succ h.le, ?_, ?_⟩
 ·exact (hblk _ hV (by omega) (hne _ (by omega)) (by omega)).trans h.h0
 ·rw [yAu hx3]; rfl
 ·rw [List.flatMap_append, show [(⟨ax, ts, nm, a2, n2, c2⟩ : N4s)].flatMap yBz = yBz ⟨ax, ts, nm, a2, n2, c2⟩ by simp, jp]; refine yAa own3 fun g hg => js w3 ⟨V.heap.size + 1, 0, none⟩ v3 g ?_
  have := (hlt3 g hg).1; show g ≠ V.heap.size + 1; omega
 ·rw [hn]; have hkeep : ∀ b, V.heap.size + 2 ≤ b → b < w2.heap.size → v.ownBlock ≠ some b → (w3.setCell ⟨V.heap.size + 1, 0, none⟩ v3).heap[b]? = w2.heap[b]? := fun b h1 h2 h3 =>
   (js w3 ⟨V.heap.size + 1, 0, none⟩ v3 b (by show b ≠ V.heap.size + 1; omega)).trans (grow3.block b h2 fun e => h3 e.symm)
  have hown : v3.ownBlock = v.ownBlock ∨ ∀ b, v3.ownBlock = some b → w2.heap.size ≤ b := by
   rcases at3 with e | ⟨j, e1, e2⟩
   ·exact .inl e
   ·refine .inr fun b hb => ?_
    rw [e1] at hb; injection hb with hb; omega
  refine Els.snoc ?_ h.len ?_
  ·refine h.els.moved (by rw [jv]; omega) (fun b h1 h2 h3 => hblk b (by omega) h2 (fun e => h3 e.symm) (by omega)) ?_; rcases at3 with e | ⟨j, e1, e2⟩
   ·exact .inl e
   ·refine .inr fun b hb => ?_
    rw [e1] at hb; injection hb with hb; omega
  ·refine (((hR.own (own2 := v.ownBlock) fun b hb => .inl (by have := (hlt b hb).2; omega)).lower (by omega)).moved (by rw [jv]; exact hs3) hkeep hown).imp fun W' m => ⟨rfl, rfl, rfl, m⟩
theorem PL.start {C : RC} (ok : C.Ok) {V : World} {rx : Int → Rst → Ex × Rst} {F : Nat} {s : Rst} {tS tP : TypeId} (h : RdW C V s) : PL C V rx F s tS tP 0 (.slice none 0 0) [] ((V.alloc (.cells #[.slice none 0 0] tP)).alloc (.cells #[.slice none 0 0] tP)) where
 rd := h.below ok (((jf _ _).alloc h.top _).alloc (by have := h.top; rw [World.size_alloc]; omega) _)
 only := (yB9.refl C V).step (((jf _ _).alloc (jr _) _).alloc (by simp) _) (by have := h.top; have := ok.lo; have := ok.hi; omega)
 size := by simp
 h0 := (heap_alloc_old _ _ (by simp)).trans (jw _ _)
 h1 := by have := jw (V.alloc (.cells #[.slice none 0 0] tP)) (.cells #[.slice none 0 0] tP); rw [World.size_alloc] at this; exact this
 len := rfl
 le := jr _
 row := World.ownsRow_nil _ _ _ _
 els := Els.nil _ _ _ _
theorem PL.done {C : RC} {V : World} {rx : Int → Rst → Ex × Rst} {F : Nat} {s : Rst} {tS tP : TypeId} {d : Nat} {v : Value} {cs : List N4s} {wr : World} (h : PL C V rx F s tS tP d v cs wr) {wf : World} {s' : Rst}
  (hsz : wr.heap.size ≤ wf.heap.size) (hkeep : ∀ b, V.heap.size + 2 ≤ b → b < wr.heap.size → wf.heap[b]? = wr.heap[b]?) (hrdf : RdW C wf s') (hof : yB9 C V wf) :
  yGv C V (((List.range' F d).foldl (yAL C.n rx) ([], s)).1, s') (.returned (.agg #[v])) wf := by have hrow := h.row; rw [← h.len] at hrow; obtain ⟨a, cap, rfl, hR⟩ := yRE h.len hrow h.els; refine ⟨a, _, cap, rfl, ?_, hrdf, hof⟩; exact (hR.moved (own2 := none) hsz (fun b e1 e2 _ => hkeep b e1 e2) (.inl rfl)).lower (by omega)
end Gim
