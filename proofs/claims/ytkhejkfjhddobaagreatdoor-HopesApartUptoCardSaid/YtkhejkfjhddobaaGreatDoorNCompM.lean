/- How much the reader of gimlet/net reads. -/
import Derived.Test.YtkhejkfjhddobaaGreatDoorQGood2M
import Derived.Test.YtkhejkfjhddobaaGreatDoorNMExpr2
import Derived.Deep.OwnRows
set_option maxRecDepth 100000
set_option maxHeartbeats 16000000
namespace Gim
open Go Go.RowKit
structure yKR (n : yAc) (K : Nat) : Prop where
 one : 1 ≤ K
 preds : ∀ k, 1 + (n.preds.getD k zp).attr.size + (n.preds.getD k zp).txt.size ≤ K
 rows : ∀ k, 1 + (n.rows.getD k zr).nm.size ≤ K
theorem yLe {rx : Int → Rst → Ex × Rst} {K : Nat} (h : ∀ k s, wX (rx k s).1 ≤ K * szX (rx k s).1) : ∀ (ks : List Int) (a : List Ex × Rst), wXL a.1 ≤ K * yAU a.1 → wXL (ks.foldl (fun a k => (a.1 ++ [(rx k a.2).1], (rx k a.2).2)) a).1 ≤ K * yAU (ks.foldl (fun a k => (a.1 ++ [(rx k a.2).1], (rx k a.2).2)) a).1
 | [], a, ha => ha
 | k :: r, a, ha => by rw [List.foldl_cons]; refine yLe h r _ ?_; rw [yPq, yEp, Nat.mul_add]; have := h k a.2; simp only [wXL, yAU, Nat.add_zero]; omega
theorem yRX {n : yAc} {rx : Int → Rst → Ex × Rst} {K : Nat} (hN : yKR n K) (h : ∀ k s, wX (rx k s).1 ≤ K * szX (rx k s).1) : ∀ (l : List Nat) (a : List St × Rst), wTL a.1 ≤ K * (a.1.length + yBe a.1) → wTL (l.foldl (yAL n rx) a).1 ≤ K * ((l.foldl (yAL n rx) a).1.length + yBe (l.foldl (yAL n rx) a).1)
 | [], a, ha => ha
 | i :: r, a, ha => by
  rw [List.foldl_cons]; refine yRX hN h r _ ?_; unfold yAL; split
  ·exact ha
  ·split
   ·exact ha
   ·have h1 := yLe h (n.rows.getD i zr).ps ([], a.2.markRow i) (by simp [wXL]); have h2 := hN.rows i; simp only [yO1, yH9, jp, wTL, yBe, wT, szT, List.length_cons, List.length_nil]; have e1 : ∀ x y z u : Nat, K * (x + (0 + 1) + (y + (z + 0))) = K * (x + y) + K + K * z := fun x y z u => by rw [show x + (0 + 1) + (y + (z + 0)) = (x + y) + 1 + z by omega, Nat.mul_add, Nat.mul_add, Nat.mul_one]
    rw [e1 _ _ _ 0]; unfold yAz; omega
theorem RR_w {n : yAc} {K : Nat} (hN : yKR n K) : ∀ f, (∀ k s, wX ((RR n f).1 k s).1 ≤ K * szX ((RR n f).1 k s).1) ∧ ∀ a c s, wTL ((RR n f).2 a c s).1 ≤ K * (((RR n f).2 a c s).1.length + yBe ((RR n f).2 a c s).1)
 | 0 => ⟨fun k s => by
   show wX zx ≤ K * szX zx; have := hN.one; simp [zx, wX, szX, wXL, wTL, yAU, yBe]; exact this, fun a c s => by show wTL [] ≤ _; simp [wTL]⟩
 | f + 1 => by
  have ih := RR_w hN f; refine ⟨fun k s => ?_, fun a c s => ?_⟩
  ·show wX (yB4 n _ _ k s).1 ≤ K * szX (yB4 n _ _ k s).1; unfold yB4; split
   ·have := hN.one; simp [zx, wX, szX, wXL, wTL, yAU, yBe]; exact this
   ·have h1 := yLe ih.1 (n.preds.getD k.toNat zp).args ([], s.markPred k.toNat) (by simp [wXL]); have h2 := hN.preds k.toNat; dsimp only; split
    ·have h3 := ih.2 (n.preds.getD k.toNat zp).first (n.preds.getD k.toNat zp).count (yAz (RR n f).1 (n.preds.getD k.toNat zp).args (s.markPred k.toNat)).2; unfold wX szX; unfold yAz at h3 ⊢; rw [Nat.mul_add, Nat.mul_add, Nat.mul_one]; omega
    ·unfold wX szX; unfold yAz; simp only [wTL, yBe, List.length_nil]; rw [Nat.mul_add, Nat.mul_add, Nat.mul_one]; omega
  ·show wTL (yBM n _ a c s).1 ≤ K * ((yBM n _ a c s).1.length + yBe (yBM n _ a c s).1)
   unfold yBM; split
   ·simp [wTL]
   ·exact yRX hN ih.1 _ _ (by simp [wTL])
/-! ### each row and predicate is read once -/
def yCT (n : yAc) (s : Rst) : Prop := s.rows.length = n.rows.length ∧ s.preds.length = n.preds.length
def yTd (n : yAc) (rx : Int → Rst → Ex × Rst) : Prop := ∀ k s, yCT n s → (rx k s).2.bad = false → szX (rx k s).1 + yAp (rx k s).2 ≤ yAp s
def yJJ (n : yAc) (rx : Int → Rst → Ex × Rst) : Prop := ∀ k s, yCT n s → yCT n (rx k s).2
theorem yQG {rx : Int → Rst → Ex × Rst} (h : yHn rx) (ks : List Int) (a : List Ex × Rst) (hb : (ks.foldl (fun a k => (a.1 ++ [(rx k a.2).1], (rx k a.2).2)) a).2.bad = false) : a.2.bad = false := by
 cases e : a.2.bad
 ·rfl
 ·rw [(yCg h ks a).2 e] at hb; cases hb
theorem yEa {n : yAc} {rx : Int → Rst → Ex × Rst} (h : yJJ n rx) : ∀ (ks : List Int) (a : List Ex × Rst), yCT n a.2 → yCT n (ks.foldl (fun a k => (a.1 ++ [(rx k a.2).1], (rx k a.2).2)) a).2
 | [], a, ha => ha
 | k :: r, a, ha => by rw [List.foldl_cons]; exact yEa h r _ (h k a.2 ha)
theorem yFK {n : yAc} {rx : Int → Rst → Ex × Rst} (hf : yHn rx) (hk : yJJ n rx) (h : yTd n rx) : ∀ (ks : List Int) (a : List Ex × Rst) (U : Nat), yCT n a.2 → (ks.foldl (fun a k => (a.1 ++ [(rx k a.2).1], (rx k a.2).2)) a).2.bad = false → yAU a.1 + yAp a.2 ≤ U →
  yAU (ks.foldl (fun a k => (a.1 ++ [(rx k a.2).1], (rx k a.2).2)) a).1 + yAp (ks.foldl (fun a k => (a.1 ++ [(rx k a.2).1], (rx k a.2).2)) a).2 ≤ U
 | [], a, U, _, _, ha => ha
 | k :: r, a, U, hl, hb, ha => by rw [List.foldl_cons] at hb ⊢; refine yFK hf hk h r _ U (hk k a.2 hl) hb ?_; have hb2 := yQG hf r _ hb; have := h k a.2 hl hb2; rw [yEp]; simp only [yAU, Nat.add_zero]; omega
theorem yRQ {n : yAc} {rx : Int → Rst → Ex × Rst} (h : yHn rx) (l : List Nat) (a : List St × Rst) (hb : (l.foldl (yAL n rx) a).2.bad = false) : a.2.bad = false := by
 cases e : a.2.bad
 ·rfl
 ·rw [(yD2 n h l a).2 e] at hb; cases hb
theorem yJL {n : yAc} {rx : Int → Rst → Ex × Rst} (hk : yJJ n rx) (a : List St × Rst) (i : Nat) (h : yCT n a.2) : yCT n (yAL n rx a i).2 := by
 unfold yAL; split
 ·exact h
 ·split
  ·exact h
  ·exact yEa hk (n.rows.getD i zr).ps ([], a.2.markRow i) ⟨by simp [Rst.markRow, h.1], h.2⟩
theorem yKg {n : yAc} {rx : Int → Rst → Ex × Rst} (hk : yJJ n rx) : ∀ (l : List Nat) (a : List St × Rst), yCT n a.2 → yCT n (l.foldl (yAL n rx) a).2
 | [], a, h => h
 | i :: r, a, h => by rw [List.foldl_cons]; exact yKg hk r _ (yJL hk a i h)
theorem yKd {n : yAc} {rx : Int → Rst → Ex × Rst} (hf : yHn rx) (hk : yJJ n rx) (h : yTd n rx) : ∀ (l : List Nat) (a : List St × Rst) (U : Nat), (∀ i ∈ l, i < n.rows.length) → yCT n a.2 → (l.foldl (yAL n rx) a).2.bad = false → a.1.length + yBe a.1 + yAp a.2 ≤ U →
  (l.foldl (yAL n rx) a).1.length + yBe (l.foldl (yAL n rx) a).1 + yAp (l.foldl (yAL n rx) a).2 ≤ U
 | [], a, U, _, _, _, ha => ha
 | i :: r, a, U, hi, hl, hb, ha => by
  rw [List.foldl_cons] at hb ⊢; have hb2 := yRQ hf r _ hb; refine yKd hf hk h r _ U (fun j hj => hi j (List.mem_cons_of_mem _ hj)) (yJL hk a i hl) hb ?_; unfold yAL at hb2 ⊢; split at hb2
  ·rename_i e; rw [e] at hb2; cases hb2
  ·split at hb2
   ·cases hb2
   ·rename_i e1 e2; rw [if_neg e1, if_neg e2]; dsimp only at hb2 ⊢; have hii : i < a.2.rows.length := by rw [hl.1]; exact hi i List.mem_cons_self
    have hu : a.2.rows[i]? = some false := by rw [jg, jk hii] at e2; rw [jk hii]; simpa using e2
    have h1 := yEw hu; have h2 := yFK hf hk h (n.rows.getD i zr).ps ([], a.2.markRow i) (yAp (a.2.markRow i)) ⟨by simp [Rst.markRow, hl.1], hl.2⟩ hb2 (by simp [yAU]); simp only [yH9, jp, yBe, szT, List.length_cons, List.length_nil]; unfold yAz; omega
theorem yPk (n : yAc) : ∀ f, yJJ n (RR n f).1 ∧ ∀ a c s, yCT n s → yCT n ((RR n f).2 a c s).2
 | 0 => ⟨fun _ _ h => h, fun _ _ _ h => h⟩
 | f + 1 => by
  have ih := yPk n f; refine ⟨fun k s h => ?_, fun a c s h => ?_⟩
  ·show yCT n (yB4 n _ _ k s).2; unfold yB4; split
   ·exact h
   ·have h1 := yEa ih.1 (n.preds.getD k.toNat zp).args ([], s.markPred k.toNat) ⟨h.1, by simp [Rst.markPred, h.2]⟩; dsimp only; split
    ·exact ih.2 _ _ _ h1
    ·dsimp only; split
     ·exact h1
     ·exact h1
  ·show yCT n (yBM n _ a c s).2; unfold yBM; split
   ·exact h
   ·exact yKg ih.1 _ _ h
theorem yPp (n : yAc) : ∀ f, yTd n (RR n f).1 ∧ ∀ a c s, yCT n s → ((RR n f).2 a c s).2.bad = false → ((RR n f).2 a c s).1.length + yBe ((RR n f).2 a c s).1 + yAp ((RR n f).2 a c s).2 ≤ yAp s
 | 0 => ⟨(fun _ _ _ h => by cases h), (fun _ _ _ _ h => by cases h)⟩
 | f + 1 => by
  have ih := yPp n f; have il := yPk n f; have fw := yEH n f; refine ⟨fun k s h hb => ?_, fun a c s h hb => ?_⟩
  ·have hb : (yB4 n (RR n f).1 (RR n f).2 k s).2.bad = false := hb; show szX (yB4 n _ _ k s).1 + yAp (yB4 n _ _ k s).2 ≤ yAp s; unfold yB4 at hb ⊢; split at hb
   ·cases hb
   ·rename_i hn; rw [if_neg hn]; have hk : k.toNat < s.preds.length := by rw [h.2]; omega
    have hu : s.preds[k.toNat]? = some false := by
     rw [jk hk]; cases e : s.preds[k.toNat]
     ·rfl
     ·exact absurd (.inr (.inr (.inr (by rw [jg, jk hk, e]; rfl)))) hn
    have h1 := yEe hu; have hl : yCT n (s.markPred k.toNat) := ⟨h.1, by simp [Rst.markPred, h.2]⟩
    have hfo : (yAz (RR n f).1 (n.preds.getD k.toNat zp).args (s.markPred k.toNat)).2.bad = false → yAU (yAz (RR n f).1 (n.preds.getD k.toNat zp).args (s.markPred k.toNat)).1 + yAp (yAz (RR n f).1 (n.preds.getD k.toNat zp).args (s.markPred k.toNat)).2 ≤ yAp (s.markPred k.toNat) := fun hb => yFK (rx := (RR n f).1) fw.1 il.1 ih.1 (n.preds.getD k.toNat zp).args ([], s.markPred k.toNat) (yAp (s.markPred k.toNat)) hl hb (by simp [yAU])
    have hfl : yCT n (yAz (RR n f).1 (n.preds.getD k.toNat zp).args (s.markPred k.toNat)).2 := yEa il.1 (n.preds.getD k.toNat zp).args ([], s.markPred k.toNat) hl; dsimp only at hb ⊢; generalize yAz (RR n f).1 (n.preds.getD k.toNat zp).args (s.markPred k.toNat) = A at hb hfo hfl ⊢; split at hb
    ·rename_i h3; rw [if_pos h3]; have hb3 : A.2.bad = false := by
      cases e : A.2.bad
      ·rfl
      ·rw [(fw.2 _ _ _).2 e] at hb; cases hb
     have h4 := ih.2 _ _ _ hfl hb; have h5 := hfo hb3; unfold szX; dsimp only; omega
    ·rename_i h3; rw [if_neg h3]; dsimp only at hb ⊢; split at hb
     ·cases hb
     ·rename_i h6; rw [if_neg h6]; have h5 := hfo hb; unfold szX; simp only [yBe, List.length_nil]; omega
  ·have hb : (yBM n (RR n f).1 a c s).2.bad = false := hb; show (yBM n _ a c s).1.length + yBe (yBM n _ a c s).1 + yAp (yBM n _ a c s).2 ≤ yAp s; unfold yBM at hb ⊢; split at hb
   ·cases hb
   ·rename_i hn; rw [if_neg hn]; refine yKd fw.1 il.1 ih.1 _ ([], s) _ (fun i hi => ?_) h hb (by simp [yBe]); have := List.mem_range'_1.1 hi; omega
/-! ### the whole net -/
def yDh (n : yAc) : Rst := ⟨List.replicate n.rows.length false, List.replicate n.preds.length false, false⟩
theorem yOT (n : yAc) : yAp (yDh n) = n.rows.length + n.preds.length := by simp [yAp, yDh]
def yAE (n : yAc) : List St × Rst := (RR n (n.rows.length + n.preds.length + 1)).2 0 n.main (yDh n)
open Classical in
noncomputable def yA4 (n : yAc) : Option (List St) := if (yAE n).2.bad = true then none else if okP (yAE n).1 = true ∧ n = comp (yAE n).1 then some (yAE n).1 else none
theorem yOl {n : yAc} (h : (yAE n).2.bad = false) : szP (yAE n).1 ≤ n.rows.length + n.preds.length := by have := (yPp n (n.rows.length + n.preds.length + 1)).2 0 n.main (yDh n) ⟨by simp [yDh], by simp [yDh]⟩ h; rw [yOT] at this; unfold szP yAE; omega
theorem yQk {n : yAc} {K : Nat} (hN : yKR n K) : wTL (yAE n).1 ≤ K * szP (yAE n).1 := (RR_w hN _).2 _ _ _
theorem yIr {n : yAc} {ts : List St} (h : yA4 n = some ts) : okP ts = true ∧ n = comp ts ∧ ts = (yAE n).1 ∧ (yAE n).2.bad = false := by
 unfold yA4 at h; split at h
 ·cases h
 ·rename_i h1; split at h
  ·rename_i h2; injection h with h; subst h; exact ⟨h2.1, h2.2, rfl, by simpa using h1⟩
  ·cases h
def yQ2 (W : World) (nd : yAc) (va vb : Value) : Prop := ∃ ra rc pa pc, va = .slice ra nd.rows.length rc ∧ vb = .slice pa nd.preds.length pc ∧ yA2 W nd.rows ra nd.rows.length rc ∧ yAR W nd.preds pa nd.preds.length pc
def yHF (lo hi : Nat) (W : World) (nd : yAc) (va vb : Value) : Prop := ∀ W' : World, (∀ b, lo ≤ b → b < hi → W'.heap[b]? = W.heap[b]?) → yQ2 W' nd va vb
theorem yHF.moved {lo hi lo2 hi2 : Nat} {W W2 : World} {nd : yAc} {va vb : Value} (h : yHF lo hi W nd va vb) (h1 : lo2 ≤ lo) (h2 : hi ≤ hi2) (hk : ∀ b, lo ≤ b → b < hi → W2.heap[b]? = W.heap[b]?) : yHF lo2 hi2 W2 nd va vb :=
 fun W' hW => h W' fun b hb hb2 => (hW b (by omega) (by omega)).trans (hk b hb hb2)
/-! ### the loop over the rows, plainly -/
def yDM (st : Cst) : Prop := ∀ xs ∈ st.wh, yAQ xs = true
theorem yDs {st : Cst} (h : yDM st) : ∀ {ts : List St}, yBk ts = true → yDM (yAh st ts) := by
 intro ts hg xs hx; have hx : xs ∈ st.wh ++ ts.map yFb := hx; rcases List.mem_append.1 hx with hx | hx
 ·exact h xs hx
 ·clear h
  induction ts with
  | nil => cases hx
  | cons t r ih =>
   unfold yBk at hg; simp only [jb] at hg; rw [List.map_cons] at hx; rcases List.mem_cons.1 hx with e | e
   ·rw [e]; have h1 := hg.1; obtain ⟨ax, ts', nm, wh⟩ := t; unfold gdT at h1; simp only [jb] at h1; exact h1.2.2
   ·exact ih hg.2 (List.mem_append_right _ e) (List.mem_append_right _ e) e
mutual
theorem yOy : ∀ (x : Ex) (st : Cst), gdX x = true → yDM st → yDM (cX x st)
 | .mk op args sts nm cmp txt num, st, hg, h => by
  unfold gdX at hg; unfold cX; by_cases h3 : op = 3
  ·rw [if_pos h3] at hg ⊢; simp only [jb] at hg; exact yDs (st := yCm (addPred st op) st.preds.length sts.length nm cmp txt num) h hg.2.1.2
  ·rw [if_neg h3] at hg ⊢; simp only [jb] at hg; obtain ⟨_, _, _, _, _, _, ha⟩ := hg; exact yLZ args _ _ ha h
theorem yLZ : ∀ (l : List Ex) (k : Nat) (st : Cst), yAQ l = true → yDM st → yDM (cXL l k st)
 | [], _, st, _, h => by unfold cXL; exact h
 | x :: r, k, st, hg, h => by unfold yAQ at hg; simp only [jb] at hg; unfold cXL; exact yLZ r k _ hg.2 (show yDM (addArg (cX x st) k st.preds.length) from yOy x st hg.1 h)
end
theorem yEV : ∀ (l : List Ex) (k : Nat) (st : Cst), yAQ l = true → yDM st → yDM (yA5 k l st)
 | [], _, st, _, h => by unfold yA5; exact h
 | x :: r, k, st, hg, h => by unfold yAQ at hg; simp only [jb] at hg; unfold yA5; exact yEV r k _ hg.2 (show yDM (addRow (cX x st) k st.preds.length) from yOy x st hg.1 h)
theorem yRM : ∀ {l : List Ex} {q : Nat} {x : Ex}, yAQ l = true → l[q]? = some x → gdX x = true
 | [], q, x, _, h => by simp at h
 | y :: r, 0, x, hg, h => by simp only [List.getElem?_cons_zero, Option.some.injEq] at h; subst h; unfold yAQ at hg; simp only [jb] at hg; exact hg.1
 | y :: r, q + 1, x, hg, h => by unfold yAQ at hg; simp only [jb] at hg; rw [List.getElem?_cons_succ] at h; exact yRM hg.2 h
theorem yLU {st : Cst} {i : Nat} {xs : List Ex} (h : st.wh[i]? = some xs) : yBb st i = yAU xs + yBb st (i + 1) := by unfold yBb; obtain ⟨hi, e⟩ := ji.1 h; rw [List.drop_eq_getElem_cons hi, e, List.map_cons, List.sum_cons]
structure yK8 (N : Nat) (fin : Cst) (i : Nat) (st : Cst) : Prop where
 good : yDM st
 lw : st.wh.length = st.rows.length
 fits : Fits st (yBb st i)
 tot : st.rows.length + yBb st i ≤ N
 fin : ∃ f, st.rows.length + yBb st i + 1 ≤ f + i ∧ yDp f i st = fin
theorem yK8.next {N : Nat} {fin : Cst} {i : Nat} {st : Cst} (h : yK8 N fin i st) {xs : List Ex} (hx : st.wh[i]? = some xs) : yK8 N fin (i + 1) (yA5 i xs st) := by
 have hp := yLU hx; have hi : i < st.wh.length := (ji.1 hx).1; have hr := yCi xs i st; have hs := yDd xs; have hpe := hr.pend (i + 1) (by omega); have hrl := hr.rows; refine ⟨yEV xs i st (h.good xs (List.mem_of_getElem? hx)) h.good, by rw [hr.wh, hr.rows, h.lw], ?_, ?_, ?_⟩
 ·rw [hpe]; exact h.fits.room hr (by omega) (by omega) (by omega)
 ·have := h.tot; omega
 ·obtain ⟨f, h1, h2⟩ := h.fin; obtain ⟨f', rfl⟩ : ∃ f', f = f' + 1 := ⟨f - 1, by have := h.lw; omega⟩
  unfold yDp at h2; rw [if_pos (by rw [← h.lw]; exact hi), show st.wh.getD i [] = xs by rw [jg, hx]; rfl] at h2; exact ⟨f', by omega, h2⟩
theorem yK8.done {N : Nat} {fin : Cst} {i : Nat} {st : Cst} (h : yK8 N fin i st) (hi : st.rows.length ≤ i) : fin = st := by
 obtain ⟨f, h1, h2⟩ := h.fin; rw [← h2]; cases f with
 | zero => rfl
 | succ f =>
  unfold yDp; rw [if_neg (by omega)]
theorem yK8.start {sts : List St} (hg : yBk sts = true) (hs : szP sts ≤ 1048576) : yK8 (szP sts) (yDp (sts.length + yBe sts + 1) 0 (yAh ⟨[], [], []⟩ sts)) 0 (yAh ⟨[], [], []⟩ sts) := by
 have hr := yBU ⟨[], [], []⟩ sts; have hp : yBb (yAh ⟨[], [], []⟩ sts) 0 = yBe sts := by have := hr.pend 0 (jz _); rw [this]; simp [yBb]
 have hl : (yAh ⟨[], [], []⟩ sts).rows.length = sts.length := by simp [yAh]
 unfold szP at hs ⊢; refine ⟨yDs (by intro xs hx; cases hx) hg, by simp [yAh], ?_, by omega, ⟨_, by omega, rfl⟩⟩; rw [hp]; exact Fits.room (st := ⟨[], [], []⟩) (n := sts.length + yBe sts) ⟨by simpa using hs, by simpa using hs, by simpa using hs, ⟨0, ⟨(fun r hr => by cases hr), (fun r hr => by cases hr)⟩, by omega⟩⟩ hr (by omega) (by omega) (by omega)
end Gim
namespace Go.Proofs.YtkhejkfjhddobaaGreatDoor
open Go.RowKit Gim
section
variable {W0 : World} {M : Nat} {W : World} {main : Int} {st : Cst} {tg : Nat → Nat} {vr vp vw : Value} {cr : List NR} {cp : List NP} {cw : List NW}
theorem Mw.net (h : Mw W0 M W main st tg vr vp vw cr cp cw) (mn : Int) : yHF W0.heap.size W.heap.size W ⟨mn, st.rows, st.preds⟩ vr vp := by
 intro W' hW; obtain ⟨ar, car, e1, h1, h2, h3⟩ := yAb h.row; obtain ⟨ap, cap, e2, h4, h5, h6⟩ := yAb h.pre; have hrow := yAa (w' := W') h.row fun g hg => hW g (h.own1 g hg).1 (h.own1 g hg).2
 have hpre := yAa (w' := W') h.pre fun g hg => hW g (h.own2 g hg).1 (h.own2 g hg).2
 refine ⟨ar, car, ap, cap, by rw [e1, h.lr], by rw [e2, h.lp], ⟨rfl, by rw [← h.lr]; exact h1, h2, fun j hj => ?_⟩, rfl, by rw [← h.lp]; exact h4, h5, fun j hj => ?_⟩
 ·obtain ⟨g, e3, _⟩ := h3 j (by rw [h.lr]; exact hj); subst e3; rw [e1] at hrow; refine ⟨g, 0, rfl, fun i r hr => ?_⟩; have hi : i < cr.length := by rw [h.lr]; exact (ji.1 hr).1
  have hc := jk hi; obtain ⟨a1, a2, a3, a4, a5⟩ := h.er i _ r hc hr; have a6 := yBq (w' := W') a4 fun b hb => hW b (Row.lt a4 b hb).1 (Row.lt a4 b hb).2
  obtain ⟨ao, ca, e4, a7⟩ := Row.rd a6; have hcell : ∀ k u, k < 4 → (yB5 cr[i])[k]? = some u → W'.cell? ⟨g, 0 + i * 4 + k, none⟩ = some u := fun k u hk hu => by rw [Nat.zero_add]; exact yAq hrow ((yBI yB5 4 (fun _ => rfl) hc k hk).trans hu)
  have q0 := hcell 0 _ (by omega) rfl; rw [a1] at q0; refine ⟨lt_of_cell q0, q0, ?_, ?_, ao, r.ps.length, ca, ?_, a7⟩
  ·have := hcell 1 _ (by omega) rfl; rw [a2] at this; exact this
  ·have := hcell 2 _ (by omega) rfl; rw [a3] at this; exact this
  ·have := hcell 3 _ (by omega) rfl; rw [e4] at this; exact this
 ·obtain ⟨g, e3, _⟩ := h6 j (by rw [h.lp]; exact hj); subst e3; rw [e2] at hpre; refine ⟨g, 0, rfl, fun i r hr => ?_⟩; have hi : i < cp.length := by rw [h.lp]; exact (ji.1 hr).1
  have hc := jk hi; have hEl := h.elem hc hr; obtain ⟨_, _, _, _, _, _, _, a4, a5⟩ := h.ep i _ r hc hr; have a6 := yBq (w' := W') a4 fun b hb => hW b (Row.lt a4 b hb).1 (Row.lt a4 b hb).2
  obtain ⟨ao, ca, e4, a7⟩ := Row.rd a6; have hcell : ∀ k u, k < 8 → (yBy cp[i])[k]? = some u → W'.cell? ⟨g, 0 + i * 8 + k, none⟩ = some u := fun k u hk hu => by rw [Nat.zero_add]; exact yAq hpre ((yBI yBy 8 (fun _ => rfl) hc k hk).trans hu)
  rw [hEl, e4] at hcell; have q0 := hcell 0 _ (by omega) rfl; exact ⟨lt_of_cell q0, q0, hcell 2 _ (by omega) rfl, hcell 3 _ (by omega) rfl, hcell 4 _ (by omega) rfl, hcell 5 _ (by omega) rfl, hcell 6 _ (by omega) rfl, hcell 7 _ (by omega) rfl, ao, r.args.length, ca, hcell 1 _ (by omega) rfl, a7⟩
theorem Mw.rowAt (h : Mw W0 M W main st tg vr vp vw cr cp cw) {k : Nat} (hk : k < st.rows.length) : ∃ g cap c r, vr = .slice (some ⟨g, 0, none⟩) cr.length cap ∧ cr[k]? = some c ∧ st.rows[k]? = some r ∧ cr.length ≤ cap ∧ g < W.heap.size ∧ g ≠ M ∧ (∀ i, W.frozen? ⟨g, i, none⟩ = false) ∧ ∀ j, j < 4 → W.cell? ⟨g, k * 4 + j, none⟩ = (yB5 c)[j]? := by
 have hk' : k < cr.length := by rw [h.lr]; exact hk
 have hS := yAb h.row; obtain ⟨a, cap, e, h1, h2, h3⟩ := hS; obtain ⟨g, e2, h4, h5⟩ := h3 k hk'; subst e2; have hpre := h.row; rw [e] at hpre; refine ⟨g, cap, cr[k], st.rows[k], e, jk hk', jk hk, h1, h5, ?_, ?_, fun j hj => ?_⟩
 ·rintro rfl; have := h.t1 g (by rw [e]; rfl); rw [h.t0] at this; cases this
 ·intro i; obtain ⟨_, h6⟩ := hpre; rcases h6 with ⟨h6, _⟩ | ⟨g', cap', cur, e3, hb, hg, _⟩
  ·cases h6
  ·injection e3 with e3; injection e3 with e3; injection e3 with e3; subst e3; simp [World.frozen?, hg]
 ·have hl : ((yB5 cr[k])[j]?).isSome = true := by rw [jk (show j < (yB5 cr[k]).length from hj)]; rfl
  obtain ⟨u, hu⟩ := Option.isSome_iff_exists.1 hl; rw [hu]; exact yAq hpre ((yBI yB5 4 (fun _ => rfl) (jk hk') j hj).trans hu)
theorem Mw.whAt (h : Mw W0 M W main st tg vr vp vw cr cp cw) {k : Nat} {xs : List Ex} (hk : st.wh[k]? = some xs) : ∃ g cap a n c, vw = .slice (some ⟨g, 0, none⟩) cw.length cap ∧ cw.length ≤ cap ∧ W.cell? ⟨g, k, none⟩ = some (.slice a n c) ∧ yAM W0 xs a n c := by
 have hk0 : k < st.wh.length := (ji.1 hk).1; have hk' : k < cw.length := by rw [h.lw]; exact hk0
 have hS := yAb h.whr; obtain ⟨a, cap, e, h1, h2, h3⟩ := hS; obtain ⟨g, e2, h4, h5⟩ := h3 k hk'; subst e2; have hpre := h.whr; rw [e] at hpre; have hc := jk hk'; have hx := h.ew k _ xs hc hk; refine ⟨g, cap, cw[k].1, cw[k].2.1, cw[k].2.2, e, h1, ?_, hx⟩; have := yAq hpre ((yBI cellW 1 (fun _ => rfl) hc 0 (by omega)).trans rfl); rw [Nat.mul_one, Nat.add_zero] at this; exact this
end
theorem MkW.start (w : World) (main : Int) : MkW w w.heap.size (w.alloc (.cells #[.int .i64 main, .slice none 0 0, .slice none 0 0, .slice none 0 0] 94)) main ⟨[], [], []⟩ :=
 ⟨fun _ => 0, .slice none 0 0, .slice none 0 0, .slice none 0 0, [], [], [], (jf _ _).alloc (jr _) _, jr _, jw _ _, rfl, World.ownsRow_nil _ _ _ _, (fun g hg => by cases hg), World.ownsRow_nil _ _ _ _, (fun g hg => by cases hg), World.ownsRow_nil _ _ _ _, (fun g hg => by cases hg), rfl, (fun i c r hc => by simp at hc), rfl, (fun i c r hc => by simp at hc), rfl, (fun i c r hc => by simp at hc)⟩
structure SpM (lo : Nat) (W : World) (tg : Nat → Nat) (vr vp : Value) (cr : List NR) (cp : List NP) : Prop where
 row : W.ownsRow lo 55 4 vr cr.length (cr.flatMap yB5)
 t1 : ∀ g, vr.ownBlock = some g → tg g = 1
 pre : W.ownsRow lo 59 8 vp cp.length (cp.flatMap yBy)
 t2 : ∀ g, vp.ownBlock = some g → tg g = 2
 er : ∀ i c, cr[i]? = some c → ∃ l, Row W lo 3 .i64 c.v l ∧ ∀ g, c.v.ownBlock = some g → tg g = 4 + 2 * i
 ep : ∀ i c, cp[i]? = some c → ∃ l, Row W lo 3 .i64 c.v l ∧ ∀ g, c.v.ownBlock = some g → tg g = 5 + 2 * i
theorem Mw.spoil {W0 : World} {M : Nat} {W : World} {main : Int} {st : Cst} {tg : Nat → Nat} {vr vp vw : Value} {cr : List NR} {cp : List NP} {cw : List NW} (h : Mw W0 M W main st tg vr vp vw cr cp cw) : SpM W0.heap.size W tg vr vp cr cp :=
 ⟨h.row, h.t1, h.pre, h.t2, fun i c hc => by
  have hi : i < st.rows.length := by rw [← h.lr]; exact (ji.1 hc).1
  obtain ⟨_, _, _, a4, a5⟩ := h.er i c _ hc (jk hi); exact ⟨_, a4, a5⟩, fun i c hc => by
  have hi : i < st.preds.length := by rw [← h.lp]; exact (ji.1 hc).1
  obtain ⟨_, _, _, _, _, _, _, a4, a5⟩ := h.ep i c _ hc (jk hi); exact ⟨_, a4, a5⟩⟩
section
variable {lo : Nat} {W W' : World} {tg : Nat → Nat} {vr vp : Value} {cr : List NR} {cp : List NP}
theorem SpM.same (h : SpM lo W tg vr vp cr cp) (hk : ∀ b, lo ≤ b → b < W.heap.size → W'.heap[b]? = W.heap[b]?) : SpM lo W' tg vr vp cr cp :=
 ⟨yAa h.row fun g hg => hk g (World.ownsRow.lt h.row g hg).1 (World.ownsRow.lt h.row g hg).2, h.t1, yAa h.pre fun g hg => hk g (World.ownsRow.lt h.pre g hg).1 (World.ownsRow.lt h.pre g hg).2, h.t2,
  fun i c hc => by obtain ⟨l, h1, h2⟩ := h.er i c hc; exact ⟨l, yBq h1 fun g hg => hk g (World.ownsRow.lt h1 g hg).1 (World.ownsRow.lt h1 g hg).2, h2⟩,
  fun i c hc => by obtain ⟨l, h1, h2⟩ := h.ep i c hc; exact ⟨l, yBq h1 fun g hg => hk g (World.ownsRow.lt h1 g hg).1 (World.ownsRow.lt h1 g hg).2, h2⟩⟩
theorem yTL {B k : Nat} {t : TypeId} {n cap g : Nat} {l : List Value} {a : Option Addr} (h : W.ownsRow B t k (.slice a n cap) n l) (ha : a = some ⟨g, 0, none⟩) : ∀ j, W.frozen? ⟨g, j, none⟩ = false := by
 subst ha; intro j; rcases h.2 with ⟨h6, _⟩ | ⟨g', cap', cur, e3, hb, hg, _⟩
 ·cases h6
 ·injection e3 with e3; injection e3 with e3; injection e3 with e3; subst e3; simp [World.frozen?, hg]
theorem SpM.rowAt (h : SpM lo W tg vr vp cr cp) {k : Nat} (hk : k < cr.length) : ∃ g cap c, vr = .slice (some ⟨g, 0, none⟩) cr.length cap ∧ cr[k]? = some c ∧ cr.length ≤ cap ∧ lo ≤ g ∧ g < W.heap.size ∧ (∀ i, W.frozen? ⟨g, i, none⟩ = false) ∧ ∀ j, j < 4 → W.cell? ⟨g, k * 4 + j, none⟩ = (yB5 c)[j]? := by
 obtain ⟨a, cap, e, h1, h2, h3⟩ := yAb h.row; obtain ⟨g, e2, h4, h5⟩ := h3 k hk; subst e2; have hpre := h.row; rw [e] at hpre; refine ⟨g, cap, cr[k], e, jk hk, h1, h4, h5, yTL hpre rfl, fun j hj => ?_⟩; have hl : ((yB5 cr[k])[j]?).isSome = true := by rw [jk (show j < (yB5 cr[k]).length from hj)]; rfl
 obtain ⟨u, hu⟩ := Option.isSome_iff_exists.1 hl; rw [hu]; exact yAq hpre ((yBI yB5 4 (fun _ => rfl) (jk hk) j hj).trans hu)
theorem SpM.predAt (h : SpM lo W tg vr vp cr cp) {k : Nat} (hk : k < cp.length) : ∃ g cap c, vp = .slice (some ⟨g, 0, none⟩) cp.length cap ∧ cp[k]? = some c ∧ cp.length ≤ cap ∧ lo ≤ g ∧ g < W.heap.size ∧ (∀ i, W.frozen? ⟨g, i, none⟩ = false) ∧ ∀ j, j < 8 → W.cell? ⟨g, k * 8 + j, none⟩ = (yBy c)[j]? := by
 obtain ⟨a, cap, e, h1, h2, h3⟩ := yAb h.pre; obtain ⟨g, e2, h4, h5⟩ := h3 k hk; subst e2; have hpre := h.pre; rw [e] at hpre; refine ⟨g, cap, cp[k], e, jk hk, h1, h4, h5, yTL hpre rfl, fun j hj => ?_⟩; have hl : ((yBy cp[k])[j]?).isSome = true := by rw [jk (show j < (yBy cp[k]).length from hj)]; rfl
 obtain ⟨u, hu⟩ := Option.isSome_iff_exists.1 hl; rw [hu]; exact yAq hpre ((yBI yBy 8 (fun _ => rfl) (jk hk) j hj).trans hu)
theorem yTK {B k n t2 : Nat} {t : TypeId} {v : Value} {l : List Value} {g : Nat} (h : W.ownsRow B t k v n l) (hk : ∀ b, b ≠ g → W'.heap[b]? = W.heap[b]?) (ht : ∀ g, v.ownBlock = some g → tg g = t2) (hg : tg g ≠ t2) : W'.ownsRow B t k v n l :=
 yAa h fun g' hg' => hk g' fun e => hg (by rw [← ht g' hg', e])
theorem SpM.setList (h : SpM lo W tg vr vp cr cp) {k : Nat} {c : NR} (hc : cr[k]? = some c) {g n cap : Nat} (hv : c.v = .slice (some ⟨g, 0, none⟩) n cap) (j : Nat) (u : Int) : SpM lo (W.setCell ⟨g, j, none⟩ (.int .i64 u)) tg vr vp cr cp := by
 obtain ⟨l, h1, h2⟩ := h.er k c hc; have hg : tg g = 4 + 2 * k := h2 g (by rw [hv]; rfl); have hk : ∀ b, b ≠ g → (W.setCell ⟨g, j, none⟩ (.int .i64 u)).heap[b]? = W.heap[b]? := fun b e => js W ⟨g, j, none⟩ _ b e
 refine ⟨yTK h.row hk h.t1 (by omega), h.t1, yTK h.pre hk h.t2 (by omega), h.t2, fun i d hd => ?_, fun i d hd => ?_⟩
 ·obtain ⟨l2, k1, k2⟩ := h.er i d hd; by_cases e : i = k
  ·subst e; rw [hc] at hd; injection hd with hd; subst hd; rw [hv] at k1 k2 ⊢; exact ⟨_, Row.set' k1 j u, k2⟩
  ·exact ⟨l2, yTK k1 hk k2 (by omega), k2⟩
 ·obtain ⟨l2, k1, k2⟩ := h.ep i d hd; exact ⟨l2, yTK k1 hk k2 (by omega), k2⟩
theorem SpM.setArg (h : SpM lo W tg vr vp cr cp) {k : Nat} {c : NP} (hc : cp[k]? = some c) {g n cap : Nat} (hv : c.v = .slice (some ⟨g, 0, none⟩) n cap) (j : Nat) (u : Int) : SpM lo (W.setCell ⟨g, j, none⟩ (.int .i64 u)) tg vr vp cr cp := by
 obtain ⟨l, h1, h2⟩ := h.ep k c hc; have hg : tg g = 5 + 2 * k := h2 g (by rw [hv]; rfl); have hk : ∀ b, b ≠ g → (W.setCell ⟨g, j, none⟩ (.int .i64 u)).heap[b]? = W.heap[b]? := fun b e => js W ⟨g, j, none⟩ _ b e
 refine ⟨yTK h.row hk h.t1 (by omega), h.t1, yTK h.pre hk h.t2 (by omega), h.t2, fun i d hd => ?_, fun i d hd => ?_⟩
 ·obtain ⟨l2, k1, k2⟩ := h.er i d hd; exact ⟨l2, yTK k1 hk k2 (by omega), k2⟩
 ·obtain ⟨l2, k1, k2⟩ := h.ep i d hd; by_cases e : i = k
  ·subst e; rw [hc] at hd; injection hd with hd; subst hd; rw [hv] at k1 k2 ⊢; exact ⟨_, Row.set' k1 j u, k2⟩
  ·exact ⟨l2, yTK k1 hk k2 (by omega), k2⟩
theorem yTJ {γ : Type} (f : γ → List Value) (K : Nat) (hf : ∀ c, (f c).length = K) {B n cap g : Nat} {t : TypeId} {cs : List γ} (h : W.ownsRow B t K (.slice (some ⟨g, 0, none⟩) n cap) n (cs.flatMap f)) {k j : Nat} {c c' : γ} {u : Value} (hc : cs[k]? = some c) (hj : j < K) (he : f c' = (f c).set j u) :
  (W.setCell ⟨g, k * K + j, none⟩ u).ownsRow B t K (.slice (some ⟨g, 0, none⟩) n cap) n ((cs.set k c').flatMap f) := by rw [yE5 f K hf hc hj he]; exact yEL h _ u
theorem SpM.setRow (h : SpM lo W tg vr vp cr cp) {k : Nat} {c : NR} (hc : cr[k]? = some c) {g cap : Nat} (hv : vr = .slice (some ⟨g, 0, none⟩) cr.length cap) (ax ts : Int) (nm : ByteArray) :
  SpM lo ((((W.setCell ⟨g, k * 4, none⟩ (.int .i64 ax)).setCell ⟨g, k * 4 + 1, none⟩ (.int .i64 ts)).setCell ⟨g, k * 4 + 2, none⟩ (.string nm)).setCell ⟨g, k * 4 + 3, none⟩ (.slice none 0 0)) tg vr vp (cr.set k ⟨ax, ts, nm, .slice none 0 0⟩) cp := by
 have hk0 : k < cr.length := (ji.1 hc).1; have hrow := h.row; have hg : tg g = 1 := h.t1 g (by rw [hv]; rfl); rw [hv] at hrow; have r1 := yTJ yB5 4 (fun _ => rfl) hrow hc (j := 0) (c' := ⟨ax, c.ts, c.nm, c.v⟩) (u := .int .i64 ax) (by decide) rfl; have q1 : (cr.set k ⟨ax, c.ts, c.nm, c.v⟩)[k]? = some ⟨ax, c.ts, c.nm, c.v⟩ := by rw [List.getElem?_set_self hk0]
 have r2 := yTJ yB5 4 (fun _ => rfl) r1 q1 (j := 1) (c' := ⟨ax, ts, c.nm, c.v⟩) (u := .int .i64 ts) (by decide) rfl; rw [List.set_set] at r2; have q2 : (cr.set k ⟨ax, ts, c.nm, c.v⟩)[k]? = some ⟨ax, ts, c.nm, c.v⟩ := by rw [List.getElem?_set_self hk0]
 have r3 := yTJ yB5 4 (fun _ => rfl) r2 q2 (j := 2) (c' := ⟨ax, ts, nm, c.v⟩) (u := .string nm) (by decide) rfl; rw [List.set_set] at r3; have q3 : (cr.set k ⟨ax, ts, nm, c.v⟩)[k]? = some ⟨ax, ts, nm, c.v⟩ := by rw [List.getElem?_set_self hk0]
 have r4 := yTJ yB5 4 (fun _ => rfl) r3 q3 (j := 3) (c' := ⟨ax, ts, nm, .slice none 0 0⟩) (u := .slice none 0 0) (by decide) rfl; rw [List.set_set] at r4; have hk : ∀ b, b ≠ g → ((((W.setCell ⟨g, k * 4, none⟩ (.int .i64 ax)).setCell ⟨g, k * 4 + 1, none⟩ (.int .i64 ts)).setCell ⟨g, k * 4 + 2, none⟩ (.string nm)).setCell ⟨g, k * 4 + 3, none⟩ (.slice none 0 0)).heap[b]? = W.heap[b]? := fun b e => by rw [js _ _ _ b e, js _ _ _ b e, js _ _ _ b e, js _ _ _ b e]
 refine ⟨by rw [hv, List.length_set]; exact r4, h.t1, yTK h.pre hk h.t2 (by omega), h.t2, fun i d hd => ?_, fun i d hd => ?_⟩
 ·by_cases e : i = k
  ·subst e; rw [List.getElem?_set_self hk0] at hd; injection hd with hd; subst hd; exact ⟨[], World.ownsRow_nil _ _ _ _, fun g hg => by cases hg⟩
  ·rw [List.getElem?_set_ne (fun h => e h.symm)] at hd; obtain ⟨l2, k1, k2⟩ := h.er i d hd; exact ⟨l2, yTK k1 hk k2 (by omega), k2⟩
 ·obtain ⟨l2, k1, k2⟩ := h.ep i d hd; exact ⟨l2, yTK k1 hk k2 (by omega), k2⟩
theorem SpM.setPred (h : SpM lo W tg vr vp cr cp) {k : Nat} {c : NP} (hc : cp[k]? = some c) {g cap : Nat} (hv : vp = .slice (some ⟨g, 0, none⟩) cp.length cap) (op first count cmp num : Int) (attr txt : ByteArray) :
  SpM lo ((((((((W.setCell ⟨g, k * 8, none⟩ (.int .i64 op)).setCell ⟨g, k * 8 + 1, none⟩ (.slice none 0 0)).setCell ⟨g, k * 8 + 2, none⟩ (.int .i64 first)).setCell ⟨g, k * 8 + 3, none⟩ (.int .i64 count)).setCell ⟨g, k * 8 + 4, none⟩ (.string attr)).setCell ⟨g, k * 8 + 5, none⟩ (.int .i64 cmp)).setCell ⟨g, k * 8 + 6, none⟩ (.string txt)).setCell ⟨g, k * 8 + 7, none⟩ (.int .i64 num)) tg vr vp cr (cp.set k ⟨op, .slice none 0 0, first, count, attr, cmp, txt, num⟩) := by
 have hk0 : k < cp.length := (ji.1 hc).1; have hrow := h.pre; have hg : tg g = 2 := h.t2 g (by rw [hv]; rfl); rw [hv] at hrow; have r0 := yTJ yBy 8 (fun _ => rfl) hrow hc (j := 0) (c' := ⟨op, c.v, c.first, c.count, c.attr, c.cmp, c.txt, c.num⟩) (u := .int .i64 op) (by decide) rfl; have q0 : (cp.set k ⟨op, c.v, c.first, c.count, c.attr, c.cmp, c.txt, c.num⟩)[k]? = some ⟨op, c.v, c.first, c.count, c.attr, c.cmp, c.txt, c.num⟩ := by rw [List.getElem?_set_self hk0]
 have r1 := yTJ yBy 8 (fun _ => rfl) r0 q0 (j := 1) (c' := ⟨op, .slice none 0 0, c.first, c.count, c.attr, c.cmp, c.txt, c.num⟩) (u := .slice none 0 0) (by decide) rfl; rw [List.set_set] at r1; have q1 : (cp.set k ⟨op, .slice none 0 0, c.first, c.count, c.attr, c.cmp, c.txt, c.num⟩)[k]? = some ⟨op, .slice none 0 0, c.first, c.count, c.attr, c.cmp, c.txt, c.num⟩ := by rw [List.getElem?_set_self hk0]
 have r2 := yTJ yBy 8 (fun _ => rfl) r1 q1 (j := 2) (c' := ⟨op, .slice none 0 0, first, c.count, c.attr, c.cmp, c.txt, c.num⟩) (u := .int .i64 first) (by decide) rfl; rw [List.set_set] at r2; have q2 : (cp.set k ⟨op, .slice none 0 0, first, c.count, c.attr, c.cmp, c.txt, c.num⟩)[k]? = some ⟨op, .slice none 0 0, first, c.count, c.attr, c.cmp, c.txt, c.num⟩ := by rw [List.getElem?_set_self hk0]
 have r3 := yTJ yBy 8 (fun _ => rfl) r2 q2 (j := 3) (c' := ⟨op, .slice none 0 0, first, count, c.attr, c.cmp, c.txt, c.num⟩) (u := .int .i64 count) (by decide) rfl; rw [List.set_set] at r3; have q3 : (cp.set k ⟨op, .slice none 0 0, first, count, c.attr, c.cmp, c.txt, c.num⟩)[k]? = some ⟨op, .slice none 0 0, first, count, c.attr, c.cmp, c.txt, c.num⟩ := by rw [List.getElem?_set_self hk0]
 have r4 := yTJ yBy 8 (fun _ => rfl) r3 q3 (j := 4) (c' := ⟨op, .slice none 0 0, first, count, attr, c.cmp, c.txt, c.num⟩) (u := .string attr) (by decide) rfl; rw [List.set_set] at r4; have q4 : (cp.set k ⟨op, .slice none 0 0, first, count, attr, c.cmp, c.txt, c.num⟩)[k]? = some ⟨op, .slice none 0 0, first, count, attr, c.cmp, c.txt, c.num⟩ := by rw [List.getElem?_set_self hk0]
 have r5 := yTJ yBy 8 (fun _ => rfl) r4 q4 (j := 5) (c' := ⟨op, .slice none 0 0, first, count, attr, cmp, c.txt, c.num⟩) (u := .int .i64 cmp) (by decide) rfl; rw [List.set_set] at r5; have q5 : (cp.set k ⟨op, .slice none 0 0, first, count, attr, cmp, c.txt, c.num⟩)[k]? = some ⟨op, .slice none 0 0, first, count, attr, cmp, c.txt, c.num⟩ := by rw [List.getElem?_set_self hk0]
 have r6 := yTJ yBy 8 (fun _ => rfl) r5 q5 (j := 6) (c' := ⟨op, .slice none 0 0, first, count, attr, cmp, txt, c.num⟩) (u := .string txt) (by decide) rfl; rw [List.set_set] at r6; have q6 : (cp.set k ⟨op, .slice none 0 0, first, count, attr, cmp, txt, c.num⟩)[k]? = some ⟨op, .slice none 0 0, first, count, attr, cmp, txt, c.num⟩ := by rw [List.getElem?_set_self hk0]
 have r7 := yTJ yBy 8 (fun _ => rfl) r6 q6 (j := 7) (c' := ⟨op, .slice none 0 0, first, count, attr, cmp, txt, num⟩) (u := .int .i64 num) (by decide) rfl; rw [List.set_set] at r7; have hk : ∀ b, b ≠ g → ((((((((W.setCell ⟨g, k * 8, none⟩ (.int .i64 op)).setCell ⟨g, k * 8 + 1, none⟩ (.slice none 0 0)).setCell ⟨g, k * 8 + 2, none⟩ (.int .i64 first)).setCell ⟨g, k * 8 + 3, none⟩ (.int .i64 count)).setCell ⟨g, k * 8 + 4, none⟩ (.string attr)).setCell ⟨g, k * 8 + 5, none⟩ (.int .i64 cmp)).setCell ⟨g, k * 8 + 6, none⟩ (.string txt)).setCell ⟨g, k * 8 + 7, none⟩ (.int .i64 num)).heap[b]? = W.heap[b]? := fun b e => by rw [js _ _ _ b e, js _ _ _ b e, js _ _ _ b e, js _ _ _ b e, js _ _ _ b e, js _ _ _ b e, js _ _ _ b e, js _ _ _ b e]
 refine ⟨yTK h.row hk h.t1 (by omega), h.t1, by rw [hv, List.length_set]; exact r7, h.t2, fun i d hd => ?_, fun i d hd => ?_⟩
 ·obtain ⟨l2, k1, k2⟩ := h.er i d hd; exact ⟨l2, yTK k1 hk k2 (by omega), k2⟩
 ·by_cases e : i = k
  ·subst e; rw [List.getElem?_set_self hk0] at hd; injection hd with hd; subst hd; exact ⟨[], World.ownsRow_nil _ _ _ _, fun g hg => by cases hg⟩
  ·rw [List.getElem?_set_ne (fun h => e h.symm)] at hd; obtain ⟨l2, k1, k2⟩ := h.ep i d hd; exact ⟨l2, yTK k1 hk k2 (by omega), k2⟩
theorem SpM.rowC (h : SpM lo W tg vr vp cr cp) {k g n cap : Nat} {c : NR} (hc : cr[k]? = some c) (hv : vr = .slice (some ⟨g, 0, none⟩) n cap) : tg g = 1 ∧ lo ≤ g ∧ g < W.heap.size ∧ (∀ i, W.frozen? ⟨g, i, none⟩ = false) ∧ ∀ j, j < 4 → W.cell? ⟨g, k * 4 + j, none⟩ = (yB5 c)[j]? := by
 obtain ⟨g2, cap2, c2, e1, e2, _, h1, h2, h3, h4⟩ := h.rowAt (ji.1 hc).1; rw [hc] at e2; injection e2 with e2
 subst e2; rw [hv] at e1; injection e1 with e1; injection e1 with e1; injection e1 with e1; subst e1; exact ⟨h.t1 g (by rw [hv]; rfl), h1, h2, h3, h4⟩
theorem SpM.rowL (h : SpM lo W tg vr vp cr cp) {k : Nat} {c : NR} (hc : cr[k]? = some c) : ∃ a n cap, c.v = .slice a n cap ∧ n ≤ cap ∧ cap ≤ maxLen ∧ ∀ j, j < n → ∃ g, a = some ⟨g, 0, none⟩ := by
 obtain ⟨l, h1, _⟩ := h.er k c hc; obtain ⟨a, cap, e, k1, k2, k3⟩ := yAb h1; exact ⟨a, _, cap, e, k1, k2, fun j hj => by obtain ⟨g, e, _⟩ := k3 j hj; exact ⟨g, e⟩⟩
theorem SpM.rowN (h : SpM lo W tg vr vp cr cp) {k g n cap j : Nat} {c : NR} (hc : cr[k]? = some c) (hv : c.v = .slice (some ⟨g, 0, none⟩) n cap) (hj : j < n) : tg g = 4 + 2 * k ∧ lo ≤ g ∧ g < W.heap.size ∧ W.frozen? ⟨g, j, none⟩ = false ∧ ∃ z, W.cell? ⟨g, j, none⟩ = some (.int .i64 z) := by
 obtain ⟨l, h1, h2⟩ := h.er k c hc; have ht := h2 g (by rw [hv]; rfl); rw [hv] at h1; have hl := World.ownsRow.lt h1 g rfl; have hn : n = l.length := by
  rcases h1.2 with ⟨h', _⟩ | ⟨g', cap', cur, h', _⟩
  ·cases h'
  ·injection h' with _ h'
 exact ⟨ht, hl.1, hl.2, Row.free h1 j, _, Row.cell h1 (by omega)⟩
theorem SpM.predC (h : SpM lo W tg vr vp cr cp) {k g n cap : Nat} {c : NP} (hc : cp[k]? = some c) (hv : vp = .slice (some ⟨g, 0, none⟩) n cap) : tg g = 2 ∧ lo ≤ g ∧ g < W.heap.size ∧ (∀ i, W.frozen? ⟨g, i, none⟩ = false) ∧ ∀ j, j < 8 → W.cell? ⟨g, k * 8 + j, none⟩ = (yBy c)[j]? := by
 obtain ⟨g2, cap2, c2, e1, e2, _, h1, h2, h3, h4⟩ := h.predAt (ji.1 hc).1; rw [hc] at e2; injection e2 with e2
 subst e2; rw [hv] at e1; injection e1 with e1; injection e1 with e1; injection e1 with e1; subst e1; exact ⟨h.t2 g (by rw [hv]; rfl), h1, h2, h3, h4⟩
theorem SpM.predL (h : SpM lo W tg vr vp cr cp) {k : Nat} {c : NP} (hc : cp[k]? = some c) : ∃ a n cap, c.v = .slice a n cap ∧ n ≤ cap ∧ cap ≤ maxLen ∧ ∀ j, j < n → ∃ g, a = some ⟨g, 0, none⟩ := by
 obtain ⟨l, h1, _⟩ := h.ep k c hc; obtain ⟨a, cap, e, k1, k2, k3⟩ := yAb h1; exact ⟨a, _, cap, e, k1, k2, fun j hj => by obtain ⟨g, e, _⟩ := k3 j hj; exact ⟨g, e⟩⟩
theorem SpM.predN (h : SpM lo W tg vr vp cr cp) {k g n cap j : Nat} {c : NP} (hc : cp[k]? = some c) (hv : c.v = .slice (some ⟨g, 0, none⟩) n cap) (hj : j < n) : tg g = 5 + 2 * k ∧ lo ≤ g ∧ g < W.heap.size ∧ W.frozen? ⟨g, j, none⟩ = false ∧ ∃ z, W.cell? ⟨g, j, none⟩ = some (.int .i64 z) := by
 obtain ⟨l, h1, h2⟩ := h.ep k c hc; have ht := h2 g (by rw [hv]; rfl); rw [hv] at h1; have hl := World.ownsRow.lt h1 g rfl; have hn : n = l.length := by
  rcases h1.2 with ⟨h', _⟩ | ⟨g', cap', cur, h', _⟩
  ·cases h'
  ·injection h' with _ h'
 exact ⟨ht, hl.1, hl.2, Row.free h1 j, _, Row.cell h1 (by omega)⟩
theorem SpM.cut (h : SpM lo W tg vr vp cr cp) : SpM lo W (fun b => if b < W.heap.size then tg b else 0) vr vp cr cp :=
 ⟨h.row, fun g hg => by simp only [if_pos (World.ownsRow.lt h.row g hg).2]; exact h.t1 g hg, h.pre, fun g hg => by simp only [if_pos (World.ownsRow.lt h.pre g hg).2]; exact h.t2 g hg,
  fun i c hc => by obtain ⟨l, h1, h2⟩ := h.er i c hc; exact ⟨l, h1, fun g hg => by simp only [if_pos (World.ownsRow.lt h1 g hg).2]; exact h2 g hg⟩,
  fun i c hc => by obtain ⟨l, h1, h2⟩ := h.ep i c hc; exact ⟨l, h1, fun g hg => by simp only [if_pos (World.ownsRow.lt h1 g hg).2]; exact h2 g hg⟩⟩
end
theorem yKK {st : Cst} {args : List Ex} {q k : Nat} {x : Ex} (h : Fits st (yAU args)) (hx : args[q]? = some x) : Fits (yA5 k (args.take q) st) (szX x) := by
 have h1 := yCi (args.take q) k st; have h2 := yDd (args.take q); have h3 : yAU (args.take q) + szX x ≤ yAU args := by have e := yEp (args.take q) [x]; have e2 := (yKp args (q + 1)).2.2.2; rw [List.take_add_one, hx] at e2; simp only [Option.toList_some] at e2; rw [e] at e2; simpa [yAU] using e2
 exact h.room h1 (by omega) (by omega) (by omega)
theorem yTN {W : World} {B B2 k n : Nat} {t : TypeId} {v : Value} {l : List Value} (h : W.ownsRow B t k v n l) (hb : B2 ≤ B) : W.ownsRow B2 t k v n l :=
 ⟨h.1, h.2.imp id fun ⟨g, cap, cur, e, h1, r⟩ => ⟨g, cap, cur, e, ju hb h1, r⟩⟩
theorem SpM.lower {lo lo2 : Nat} {W : World} {tg : Nat → Nat} {vr vp : Value} {cr : List NR} {cp : List NP} (h : SpM lo W tg vr vp cr cp) (hl : lo2 ≤ lo) : SpM lo2 W tg vr vp cr cp :=
 ⟨yTN h.row hl, h.t1, yTN h.pre hl, h.t2, fun i c hc => by
  obtain ⟨l, h1, h2⟩ := h.er i c hc; exact ⟨l, yTN h1 hl, h2⟩, fun i c hc => by obtain ⟨l, h1, h2⟩ := h.ep i c hc; exact ⟨l, yTN h1 hl, h2⟩⟩
def yT4 (w : World) (sts : List St) (e : Ending) (w' : World) : Prop :=
 Below w.heap.size w w' ∧ ∃ vr vp, e = .returned (.tuple #[.agg #[.int .i64 (sts.length : Nat), vr, vp], .int .i64 0]) ∧ yHF w.heap.size w'.heap.size w' (comp sts) vr vp ∧ ∃ tg cr cp, SpM w.heap.size w' tg vr vp cr cp ∧ cr.length = (comp sts).rows.length ∧ cp.length = (comp sts).preds.length
theorem yTV {w w' : World} {sts : List St} {n : Nat} (hn : sts.length = n) (hb : Below w.heap.size w w') {vr vp : Value} (hN : yHF w.heap.size w'.heap.size w' (comp sts) vr vp) (hS : ∃ tg cr cp, SpM w.heap.size w' tg vr vp cr cp ∧ cr.length = (comp sts).rows.length ∧ cp.length = (comp sts).preds.length) : yT4 w sts (.returned (.tuple #[.agg #[.int .i64 (n : Nat), vr, vp], .int .i64 0])) w' := by subst hn; exact ⟨hb, vr, vp, rfl, hN, hS⟩
theorem yTS (sts : List St) (a : Option Addr) (n cap : Nat) (w : World) (hF : yAH w sts a n cap) (hT : yBd w) (hw : wTL sts ≤ 1152921504606846976) (hz : szP sts ≤ 1048576) (hk : okP sts = true) :
  Calls Tryz.prog 14 #[.agg #[.slice a n cap]] w (yT4 w sts) := by
 have b0 : Below w.heap.size w ((w.alloc (.cells #[.slice a n cap] 25)).alloc (.cells #[.int .i64 0, .slice none 0 0, .slice none 0 0] 36)) := ((jf _ _).alloc (jr _) _).alloc (by simp) _; obtain ⟨W1, hW1⟩ := je ((w.alloc (.cells #[.slice a n cap] 25)).alloc (.cells #[.int .i64 0, .slice none 0 0, .slice none 0 0] 36)); have x0 : W1.heap[w.heap.size]? = some (.cells #[.slice a n cap] 25) := by rw [← hW1]; exact (heap_alloc_old _ _ (by simp)).trans (jw _ _)
 have x1 : W1.heap[w.heap.size + 1]? = some (.cells #[.int .i64 0, .slice none 0 0, .slice none 0 0] 36) := by rw [← hW1]; have := jw (w.alloc (.cells #[.slice a n cap] 25)) (.cells #[.int .i64 0, .slice none 0 0, .slice none 0 0] 36); rw [World.size_alloc] at this; exact this
 rw [hW1] at b0; have hC := yDi sts a n cap W1 (hF.below b0) hw (hT.below b0); rw [hk, if_pos rfl] at hC; have c0 := jc x0 0 rfl; have hsz : w.heap.size + 1 < W1.heap.size := jl x1; have hlen := hF.len; have hg : yBk sts = true := by have := hk; unfold okP gdP at this; simp only [jb] at this; exact this.1.2
 have hINV := yK8.start hg hz; have hzP := yQO sts; have hn : n ≤ 1048576 := by unfold szP at hz; omega
 have HFW := jh (hF.below b0); have HX0 := jh x0; have HX1 := jh x1; have HB := jh b0; have HK := jh hk; have HW1 := jh hW1; have HIV := jh hINV; have HZ := jh hz; have HLN := jh hlen; clear hF hT b0 x0 x1 hk hW1 hINV hz hlen hg hzP hw; go_enter Tryz.func14, Tryz.ntmps14; go_upto_region 1 with fail; rw [HW1.out]; go_wp2_with fail; refine hC.mono ?_; rintro e w2 ⟨rfl, b2⟩; have hx0 := (b2.block w.heap.size (by omega)).trans HX0.out; have hx1 := (b2.block (w.heap.size + 1) hsz).trans HX1.out; have c0 := jc hx0 0 rfl; have hs2 : w.heap.size + 1 < w2.heap.size := jt hsz b2.size; have hs3 : w.heap.size < w2.heap.size := by omega
 have c1 : (w2.alloc (.cells #[.int .i64 n, .slice none 0 0, .slice none 0 0, .slice none 0 0] 94)).cell? ⟨w.heap.size, 0, none⟩ = some (.slice a n cap) := by simp [World.cell?, heap_alloc_old _ _ hs3, hx0]
 have HB2 := jh (HB.out.trans (b2.mono HB.out.size)); have HF2 := jh (HFW.out.below b2); have HY1 := jh hx1; have hS := yFg w2 w2.heap.size n ⟨[], [], []⟩ sts a n cap (w2.alloc (.cells #[.int .i64 n, .slice none 0 0, .slice none 0 0, .slice none 0 0] 94)) HF2.out (MkW.start w2 n) hn (jz _) (jz _); have HS := jh hS; clear hC b2 hx0 hx1 hS hsz HX0 HX1 HFW; go_upto_region 5 with fail; go_wp2_with fail; refine HS.out.mono ?_; rintro e w3 ⟨rfl, hm0⟩; have HM0 := jh hm0; clear hm0 c0 c1; go_wp2_with fail; go_loopw [6] (fun i wr => ∃ (q : Nat) (st : Cst), i = .int .i64 q ∧ q ≤ st.rows.length ∧ MkW w2 w2.heap.size wr n st ∧ yK8 (szP sts) (yDp (sts.length + yBe sts + 1) 0 (yAh ⟨[], [], []⟩ sts)) q st) (fun i _ => szP sts - (intOf i).toNat)
 case atStart => exact ⟨0, _, rfl, jz _, HM0.out, HIV.out⟩
 case round =>
  revert hrel; revert wr; intro wo hrel; obtain ⟨q, st, rfl, hq, hm, hiv⟩ := hrel; have hrl : st.rows.length ≤ 1048576 := by have := hiv.tot; have := HZ.out; omega
  have hrz : Hid (st.rows.length ≤ szP sts) := jh (by have := hiv.tot; omega); by_cases hqn : q < st.rows.length
  ·obtain ⟨xs, hxs⟩ : ∃ xs, st.wh[q]? = some xs := ⟨_, jk (by rw [hiv.lw]; exact hqn)⟩
   have hMK := hm; obtain ⟨tg, vr, vp, vw, cr, cp, cw, hm⟩ := hm; obtain ⟨gw, capw, a1, n1, c1, hvw, hcw, hcell, hfx⟩ := hm.whAt hxs; obtain ⟨ar, car, hvr, _, _⟩ := yAb hm.row; have hlr := hm.lr; have hlw := hm.lw; have m1 : wo.cell? ⟨w2.heap.size, 1, none⟩ = some (.slice ar cr.length car) := by simp [World.cell?, hm.hM, hvr]
   have m3 : wo.cell? ⟨w2.heap.size, 3, none⟩ = some (.slice (some ⟨gw, 0, none⟩) cw.length capw) := by simp [World.cell?, hm.hM, hvw]
   have hqr : (q : Int) < cr.length := by rw [hlr]; omega
   have hqw : (q : Int) < cw.length := by rw [hlw, hiv.lw]; omega
   have hcrl : cr.length ≤ 1048576 := by rw [hlr]; exact hrl
   have hcwl : cw.length ≤ 1048576 := by rw [hlw, hiv.lw]; exact hrl
   have hnx : n1 ≤ 9223372036854775807 := by have := hfx.le; have := hfx.cap_le; unfold maxLen at this; omega
   have HIV2 := jh hiv; have HXS := jh hxs; have HFX := jh hfx; have HFL := jh hfx.len; have HGX := jh (hiv.good xs (List.mem_of_getElem? hxs)); have HFT : Hid (Fits st (yAU xs)) := jh (hiv.fits.less (by rw [yLU hxs]; omega)); have HST0 : Hid (MkW w2 w2.heap.size wo n (yA5 q (xs.take 0) st)) := jh (by simp only [List.take_zero, yA5]; exact hMK); clear hm hMK hvw hvr hlr hlw hiv hxs hfx; go_wp2_with fail; clear m1 m3 hcell; go_loopw [43] (fun j wr => ∃ r : Nat, j = .int .i64 r ∧ r ≤ n1 ∧ MkW w2 w2.heap.size wr n (yA5 q (xs.take r) st)) (fun j _ => n1 - (intOf j).toNat)
   case atStart => exact ⟨0, rfl, jz _, HST0.out⟩
   case round =>
    obtain ⟨r, rfl, hr, hm⟩ := hrel; by_cases hrn : r < n1
    ·have hrn' : (r : Int) < n1 := by omega
     obtain ⟨b, o, xop, xargs, xsts, xnm, xcmp, xtxt, xnum, xa1, xn1, xc1, xa2, xn2, xc2, rfl, hb0, hq1, p0, p1, p2, p3, p4, p5, p6, hfx, hft⟩ := HFX.out.elem r hrn; have hbl : ∀ j, wr.cell? ⟨b, j, none⟩ = w2.cell? ⟨b, j, none⟩ := fun j => by obtain ⟨tg, vr, vp, vw, cr, cp, cw, hm⟩ := hm; exact hm.bel.cell (p := ⟨b, j, none⟩) hb0
     rw [← hbl] at p0 p1 p2 p3 p4 p5 p6; obtain ⟨s', hs'⟩ := je (yA5 q (xs.take r) st); have hroom := yCi (xs.take r) q st; have hfit' := (yKK (k := q) HFT.out hq1)
     have hnext := yJ0 hq1 q st; have hgx := yRM HGX.out hq1; rw [hs'] at hm hfit' hnext hroom; obtain ⟨x, hx⟩ := je (Ex.mk xop xargs xsts xnm xcmp xtxt xnum); rw [hx] at hq1 hfit' hnext hgx; have HCX : Hid (∀ W, Below wr.heap.size wr W → Calls Tryz.prog 35 #[.pointer (some ⟨w2.heap.size, 0, none⟩), .agg #[.int .i64 xop, .slice xa1 xn1 xc1, .slice xa2 xn2 xc2, .string xnm, .int .i64 xcmp, .string xtxt, .int .i64 xnum]] W fun e w' => e = .returned (.int .i64 (s'.preds.length : Nat)) ∧ MkW w2 w2.heap.size w' n (cX x s')) := jh fun W hb => yL4 x hgx w2 w2.heap.size n s' xop xargs xsts xnm xcmp xtxt xnum xa1 xn1 xc1 xa2 xn2 xc2 W hx.symm hfx hft (hm.same hb) hfit'
     have hrx := yCd x s'; have HFQ := jh (hfit'.room (m := 0) hrx (by have := yBE x; omega) (by have := yBE x; omega) (by have := yBE x; omega)); have hks2 : q < (cX x s').rows.length := by rw [hrx.rows, hroom.rows]; omega
     obtain ⟨sx, hsx⟩ := je (cX x s'); rw [hsx] at HCX HFQ hks2 hnext; have hbs : b < wr.heap.size := World.block_lt_of_cell? wr _ p0; have HNX := jh hnext; clear hq1 hfx hft hbl hfit' hnext hroom hx hrx hsx hm hs' hgx; go_upto_region 12 with fail
     go_wp2_with fail; refine (HCX.out _ ((jf _ _).alloc (jr _) _)).mono ?_; rintro e w5 ⟨rfl, h5⟩; obtain ⟨tg, vr, vp, vw, cr, cp, cw, h5⟩ := h5; obtain ⟨g, cap, c, rr, hvr, hc, hrr, hcap, hgs, hgM, hzg, hcell⟩ := h5.rowAt hks2; obtain ⟨_, _, _, hrow, htg⟩ := h5.er q c rr hc hrr; have m1 : w5.cell? ⟨w2.heap.size, 1, none⟩ = some (.slice (some ⟨g, 0, none⟩) cr.length cap) := by simp [World.cell?, h5.hM, hvr]
     have g1 : w5.cell? ⟨g, q * 4 + 3, none⟩ = some c.v := (hcell 3 (by omega)).trans rfl; have z1 := hzg (q * 4 + 3); have hMs : w2.heap.size < w5.heap.size := h5.lt; have hkp : q < cr.length := by rw [h5.lr]; exact hks2
     have hkp' : (q : Int) < cr.length := by omega
     have hpl : cr.length ≤ 1048576 := by rw [h5.lr]; exact HFQ.out.rows
     have HNG : Hid (some g ≠ c.v.ownBlock) := jh fun e => by have h1 := htg g e.symm; have h3 := h5.t1 g (by rw [hvr]; rfl); omega
     have HNM : Hid (some w2.heap.size ≠ c.v.ownBlock) := jh fun e => by have h1 := htg _ e.symm; rw [h5.t0] at h1; omega
     have HLA := jh (show rr.ps.length < 1099511627776 by obtain ⟨B, hB, hB2⟩ := HFQ.out.args; have := hB.2 rr (List.mem_of_getElem? hrr); omega); have HB5 := jh (show w2.heap.size ≤ w5.heap.size from h5.bel.size); have HGB := jh (show ∀ w3 : World, w3.heap[g]? = w5.heap[g]? → w3.cell? ⟨g, q * 4 + 3, none⟩ = some c.v ∧ w3.frozen? ⟨g, q * 4 + 3, none⟩ = false from fun w3 e => ⟨(World.cell?_of_block (w := w5) e).trans g1, (World.frozen?_of_block (w := w5) e).trans z1⟩); have HMB := jh (show ∀ w3 : World, w3.heap[w2.heap.size]? = w5.heap[w2.heap.size]? → w3.cell? ⟨w2.heap.size, 1, none⟩ = some (.slice (some ⟨g, 0, none⟩) cr.length cap) from fun w3 e => (World.cell?_of_block (w := w5) e).trans m1); have HADD := jh (show ∀ (W3 : World) (v3 : Value) (n' : Int) (cap : Nat), vr = .slice (some ⟨g, 0, none⟩) cr.length cap → Row W3 w2.heap.size 3 .i64 v3 (rr.ps ++ [n']) → w5.grownBy W3 c.v.ownBlock → (v3.ownBlock = c.v.ownBlock ∨ ∃ j, v3.ownBlock = some j ∧ w5.heap.size ≤ j) → MkW w2 w2.heap.size (W3.setCell ⟨g, q * 4 + 3, none⟩ v3) n (addRow sx q n') from fun W3 v3 n' cap e1 e2 e3 e4 => h5.addRowPred hc hrr e1 e2 e3 e4); have HVR := jh hvr; obtain ⟨cv, hcv⟩ := je (c.v); rw [hcv] at hrow g1 HNG HNM HGB HADD; have HROW : Hid ((w5.alloc (.cells #[.int .i64 (s'.preds.length : Nat)] 3)).drew.ownsRow w2.heap.size 3 1 cv rr.ps.length (rr.ps.map (Value.int .i64))) := jh (yAa (World.ownsRow.alloc hrow _) fun _ _ => rfl); have HNEW : Hid (∀ j u, ([.int .i64 (s'.preds.length : Nat)] : List Value)[j]? = some u → (w5.alloc (.cells #[.int .i64 (s'.preds.length : Nat)] 3)).drew.cell? ⟨w5.heap.size, j, none⟩ = some u) := jh fun j u hj => by have hn := jw w5 (.cells #[.int .i64 (s'.preds.length : Nat)] 3); show (w5.alloc _).cell? _ = _; unfold World.cell?; rw [hn]; simpa using hj
     have HLT : Hid (w5.heap.size < (w5.alloc (.cells #[.int .i64 (s'.preds.length : Nat)] 3)).drew.heap.size) := jh (by show _ < (w5.alloc _).heap.size; rw [World.size_alloc]; exact Nat.lt_succ_self _); clear h5 hvr hc hrr hrow htg hcell hzg hcv hks2 HCX; go_upto_region 13 with fail; go_region_law (first
      | (refine yBs _ (by rfl) (.tmp 64) (.tmp 66) 53 3 (by rfl) _ 1 8 yMI Tryz.underlying53 (by rfl) (by decide) (by decide) w2.heap.size cv rr.ps.length (rr.ps.map (Value.int .i64)) (by rfl) HROW.out [.int .i64 (s'.preds.length : Nat)] (by rfl) (by simp [Value.oneCell']) w5.heap.size (by rfl) HNEW.out HLA.out (ju HB5.out (Nat.le_of_lt HLT.out)) ?_; intro v3 w3 own3 grow3 at3; obtain ⟨a3, c3, rfl, _⟩ := yAb own3; have hgr : w5.grownBy w3 cv.ownBlock := ⟨grow3.os, grow3.tape, grow3.output, ju (Nat.le_of_lt HLT.out) grow3.size, fun b hb hne => (grow3.block b (Nat.lt_trans hb HLT.out) hne).trans (heap_alloc_old w5 _ hb)⟩; have hat : (Value.slice a3 (rr.ps.length + 1) c3).ownBlock = cv.ownBlock ∨ ∃ j, (Value.slice a3 (rr.ps.length + 1) c3).ownBlock = some j ∧ w5.heap.size ≤ j := at3.elim .inl fun e => .inr ⟨_, e, Nat.le_of_lt HLT.out⟩; have hg3 := HGB.out w3 (hgr.block _ hgs HNG.out); have hx3 := hg3.1; have hzf3 := hg3.2; have hm3 := HMB.out w3 (hgr.block _ hMs HNM.out); have hxs3 : g < w3.heap.size := jt hgs hgr.size; have HG3 := jh hgr; have HAT3 := jh hat; have HOW3 := jh own3; clear own3 grow3 at3 hgr hat hg3))
     all_goals
      have hrow3 : Row w3 w2.heap.size 3 .i64 (.slice a3 (rr.ps.length + 1) c3) (rr.ps ++ [((s'.preds.length : Nat) : Int)]) := by have := HOW3.out; unfold Row; rw [jp, List.map_append]; exact this
      have HFIN := jh (HADD.out _ _ _ _ HVR.out hrow3 HG3.out HAT3.out); clear hrow3; go_wp2_with fail; go_roundw
      case rel => exact ⟨r + 1, by go_num, by omega, by rw [HNX.out]; exact HFIN.out⟩
      case measure => simp [intOf]; omega
    ·obtain rfl : r = n1 := by omega
     have HE := jh (show MkW w2 w2.heap.size wr n (yA5 q xs st) by rw [jm (by rw [HFL.out]; exact jr _)] at hm; exact hm); clear hm; have HNXT := jh (HIV2.out.next HXS.out); have HRR := jh (yCi xs q st).rows; have hqz : q < szP sts := jt hqn hrz.out; go_wp2_with fail; go_roundw
     case rel => exact ⟨q + 1, _, by go_num, by rw [HRR.out]; omega, HE.out, HNXT.out⟩
     case measure => simp [intOf]; omega
  ·obtain rfl : q = st.rows.length := by omega
   have hdone := hiv.done (jr _); obtain ⟨tg, vr, vp, vw, cr, cp, cw, hm⟩ := hm; obtain ⟨ar, car, hvr, _, _⟩ := yAb hm.row; have hlr := hm.lr; have hNet := hm.net (sts.length : Nat); have HSP := jh hm.spoil; have HLR : Hid (cr.length = (comp sts).rows.length) := jh (by unfold comp; simp only []; rw [hdone]; exact hm.lr); have HLP : Hid (cp.length = (comp sts).preds.length) := jh (by unfold comp; simp only []; rw [hdone]; exact hm.lp); have m0 := jc hm.hM 0 rfl; have m1 : wo.cell? ⟨w2.heap.size, 1, none⟩ = some (.slice ar cr.length car) := by simp [World.cell?, hm.hM, hvr]
   have m2 := jc hm.hM 2 rfl; obtain ⟨ap, cap, hvp, _, _⟩ := yAb hm.pre; have hb := hm.bel; have hx1 := (hb.block (w.heap.size + 1) hs2).trans HY1.out; have y0 := jc hx1 0 rfl; have y1 := jc hx1 1 rfl; have y2 := jc hx1 2 rfl; have zy : ∀ i, wo.frozen? ⟨w.heap.size + 1, i, none⟩ = false := fun i => by simp [World.frozen?, hx1]
   have hso : w.heap.size + 1 < wo.heap.size := jt hs2 hb.size; have HBO := jh (HB2.out.trans (hb.mono HB2.out.size)); have hcomp : comp sts = ⟨(sts.length : Nat), st.rows, st.preds⟩ := by unfold comp; simp only []; rw [hdone]
   rw [← hcomp] at hNet; have HNT := jh hNet; have HWO := jh hb.size; rw [hvp] at m2; have HVR := jh hvr; have HVP := jh hvp; have hlt1 : ¬ ((st.rows.length : Nat) : Int) < cr.length := by rw [hlr]; omega
   clear hm hvr hvp hdone hNet hcomp hb hx1 hiv hlr; go_wp2_with fail; refine bodyPost_ret (v := .tuple #[.agg #[.int .i64 n, .slice ar cr.length car, .slice ap cp.length cap], .int .i64 0]) ?_ rfl ?_
   ·simp [results, Tryz.f14, go_sem, y0, y1, y2]
   ·have hN := HNT.out; rw [HVR.out, HVP.out] at hN; have hkeep : ∀ b, w2.heap.size ≤ b → (((wo.setCell ⟨w.heap.size + 1, 0, none⟩ (.int .i64 n)).setCell ⟨w.heap.size + 1, 1, none⟩ (.slice ar cr.length car)).setCell ⟨w.heap.size + 1, 2, none⟩ (.slice ap cp.length cap)).heap[b]? = wo.heap[b]? := fun b hb =>
     (js _ _ _ b (by show b ≠ w.heap.size + 1; omega)).trans ((js _ _ _ b (by show b ≠ w.heap.size + 1; omega)).trans (js _ _ _ b (by show b ≠ w.heap.size + 1; omega)))
    refine yTV HLN.out (((HBO.out.setCell (p := ⟨w.heap.size + 1, 0, none⟩) (Nat.le_succ _) _).setCell (p := ⟨w.heap.size + 1, 1, none⟩) (Nat.le_succ _) _).setCell (p := ⟨w.heap.size + 1, 2, none⟩) (Nat.le_succ _) _) (hN.moved HB2.out.size (by simp only [jv]; exact jr _) fun b h1 _ => hkeep b h1) ?_; have hS := HSP.out; rw [HVR.out, HVP.out] at hS; exact ⟨_, _, _, (hS.same fun b h1 _ => hkeep b h1).lower HB2.out.size, HLR.out, HLP.out⟩
def yLD (w : World) (sts : List St) (e : Ending) (w' : World) : Prop :=
 Below w.heap.size w w' ∧ if okP sts = true then ∃ vr vp, e = .returned (.tuple #[.agg #[.int .i64 (sts.length : Nat), vr, vp], .int .i64 0]) ∧ yHF w.heap.size w'.heap.size w' (comp sts) vr vp
  else e = .returned (.tuple #[.agg #[.int .i64 0, .slice none 0 0, .slice none 0 0], .int .i64 6])
theorem yQy {w w' : World} {sts : List St} (h : okP sts = false) (hb : Below w.heap.size w w') : yLD w sts (.returned (.tuple #[.agg #[.int .i64 0, .slice none 0 0, .slice none 0 0], .int .i64 6])) w' := by refine ⟨hb, ?_⟩; rw [if_neg (by rw [h]; exact Bool.noConfusion)]
theorem yOh {w w' : World} {sts : List St} {n : Nat} (hn : sts.length = n) (h : okP sts = true) (hb : Below w.heap.size w w') {vr vp : Value} (hN : yHF w.heap.size w'.heap.size w' (comp sts) vr vp) : yLD w sts (.returned (.tuple #[.agg #[.int .i64 (n : Nat), vr, vp], .int .i64 0])) w' := by subst hn; refine ⟨hb, ?_⟩; rw [if_pos h]; exact ⟨vr, vp, rfl, hN⟩
theorem yQ6 (sts : List St) (a : Option Addr) (n cap : Nat) (w : World) (hF : yAH w sts a n cap) (hT : yBd w) (hw : wTL sts ≤ 1152921504606846976) (hk : okP sts = false) :
  Calls Tryz.prog 14 #[.agg #[.slice a n cap]] w (yLD w sts) := by
 have b0 : Below w.heap.size w ((w.alloc (.cells #[.slice a n cap] 25)).alloc (.cells #[.int .i64 0, .slice none 0 0, .slice none 0 0] 36)) := ((jf _ _).alloc (jr _) _).alloc (by simp) _; obtain ⟨W1, hW1⟩ := je ((w.alloc (.cells #[.slice a n cap] 25)).alloc (.cells #[.int .i64 0, .slice none 0 0, .slice none 0 0] 36)); have x0 : W1.heap[w.heap.size]? = some (.cells #[.slice a n cap] 25) := by rw [← hW1]; exact (heap_alloc_old _ _ (by simp)).trans (jw _ _)
 have x1 : W1.heap[w.heap.size + 1]? = some (.cells #[.int .i64 0, .slice none 0 0, .slice none 0 0] 36) := by rw [← hW1]; have := jw (w.alloc (.cells #[.slice a n cap] 25)) (.cells #[.int .i64 0, .slice none 0 0, .slice none 0 0] 36); rw [World.size_alloc] at this; exact this
 rw [hW1] at b0; have hC := yDi sts a n cap W1 (hF.below b0) hw (hT.below b0); rw [hk, if_neg Bool.noConfusion] at hC; have c0 := jc x0 0 rfl; have hsz : w.heap.size + 1 < W1.heap.size := jl x1; have HX1 := jh x1; have HB := jh b0; have HK := jh hk; have HW1 := jh hW1; clear hF hT b0 x0 x1 hk hW1; go_enter Tryz.func14, Tryz.ntmps14; go_upto_region 1 with fail; rw [HW1.out]; go_wp2_with fail; refine hC.mono ?_; rintro e w2 ⟨rfl, b2⟩; have hx2 := (b2.block (w.heap.size + 1) hsz).trans HX1.out; have y0 := jc hx2 0 rfl; have y1 := jc hx2 1 rfl; have y2 := jc hx2 2 rfl; have zy : ∀ i, w2.frozen? ⟨w.heap.size + 1, i, none⟩ = false := fun i => by simp [World.frozen?, hx2]
 have hs2 : w.heap.size + 1 < w2.heap.size := jt hsz b2.size; have HB2 := jh (HB.out.trans (b2.mono HB.out.size)); clear hC b2 hx2; go_wp2_with fail; refine bodyPost_ret (v := .tuple #[.agg #[.int .i64 0, .slice none 0 0, .slice none 0 0], .int .i64 6]) ?_ rfl ?_
 ·simp [results, Tryz.f14, go_sem, y0, y1, y2]
 ·exact yQy HK.out (((HB2.out.setCell (p := ⟨w.heap.size + 1, 0, none⟩) (Nat.le_succ _) _).setCell (p := ⟨w.heap.size + 1, 1, none⟩) (Nat.le_succ _) _).setCell (p := ⟨w.heap.size + 1, 2, none⟩) (Nat.le_succ _) _)
theorem yP8 (sts : List St) (a : Option Addr) (n cap : Nat) (w : World) (hF : yAH w sts a n cap) (hT : yBd w) (hw : wTL sts ≤ 1152921504606846976) (hz : szP sts ≤ 1048576) (hk : okP sts = true) :
  Calls Tryz.prog 14 #[.agg #[.slice a n cap]] w (yLD w sts) := by refine (yTS sts a n cap w hF hT hw hz hk).mono ?_; rintro e w' ⟨hb, vr, vp, rfl, hN, _⟩; exact yOh rfl hk hb hN
theorem yD6 (sts : List St) (a : Option Addr) (n cap : Nat) (w : World) (hF : yAH w sts a n cap) (hT : yBd w) (hw : wTL sts ≤ 1152921504606846976) (hz : szP sts ≤ 1048576) :
  Calls Tryz.prog 14 #[.agg #[.slice a n cap]] w (yLD w sts) := by
 cases h : okP sts
 ·exact yQ6 sts a n cap w hF hT hw h
 ·exact yP8 sts a n cap w hF hT hw hz h
end Go.Proofs.YtkhejkfjhddobaaGreatDoor
namespace Gim
open Go Go.RowKit
structure yJk (n : yAc) : Prop where
 sum : n.rows.length + n.preds.length ≤ 1048576
 lx : ∀ k, (n.preds.getD k zp).args.length ≤ 1048576
 ly : ∀ k, (n.rows.getD k zr).ps.length ≤ 1048576
 lw : ∀ k, InR (n.preds.getD k zp).first ∧ InR (n.preds.getD k zp).count
 mn : InR n.main
 nb : yKR n 1099511627776
theorem yJk.w {n : yAc} (h : yJk n) (hb : (yAE n).2.bad = false) : wTL (yAE n).1 ≤ 1152921504606846976 ∧ szP (yAE n).1 ≤ 1048576 := by
 have h1 := yOl hb; have h2 := yQk h.nb; have h3 := h.sum; refine ⟨ju h2 ?_, by omega⟩
 calc 1099511627776 * szP (yAE n).1 ≤ 1099511627776 * 1048576 := Nat.mul_le_mul_left _ (by omega)
  _ = 1152921504606846976 := rfl
structure Made (w wx : World) (mn : Int) (ra : Option Addr) (nr rc : Nat) (pa : Option Addr) (np pc R RB PB : Nat) (tR tB : TypeId) : Prop where
 bel : Below w.heap.size w wx
 size : wx.heap.size = w.heap.size + 3
 hR : R = w.heap.size + 2
 hB : (RB = w.heap.size ∧ PB = w.heap.size + 1) ∨ (RB = w.heap.size + 1 ∧ PB = w.heap.size)
 cR : wx.heap[R]? = some (.cells #[.int .i64 mn, .slice ra nr rc, .slice pa np pc, .slice (some ⟨RB, 0, none⟩) nr nr, .slice (some ⟨PB, 0, none⟩) np np, .bool false] tR)
 cRB : wx.heap[RB]? = some (.cells (madeCells #[.bool false] nr) tB)
 cPB : wx.heap[PB]? = some (.cells (madeCells #[.bool false] np) tB)
theorem yML (n j : Nat) (h : j < n) : (madeCells #[Value.bool false] n)[j]? = some (.bool false) := by unfold madeCells; simp [h, Nat.mod_one]
theorem yKV (w : World) (o0 o1 o2 : Obj) : (((w.alloc o0).alloc o1).alloc o2).drew.heap[w.heap.size]? = some o0 ∧ (((w.alloc o0).alloc o1).alloc o2).drew.heap[w.heap.size + 1]? = some o1 ∧ (((w.alloc o0).alloc o1).alloc o2).drew.heap[w.heap.size + 2]? = some o2 ∧ (((w.alloc o0).alloc o1).alloc o2).drew.heap.size = w.heap.size + 3 ∧ Below w.heap.size w (((w.alloc o0).alloc o1).alloc o2).drew := by
 have s1 : (w.alloc o0).heap.size = w.heap.size + 1 := by simp
 have s2 : ((w.alloc o0).alloc o1).heap.size = w.heap.size + 2 := by simp
 have b : Below w.heap.size w (((w.alloc o0).alloc o1).alloc o2) := (((jf _ _).alloc (jr _) _).alloc (by omega) _).alloc (by omega) _; refine ⟨?_, ?_, ?_, by simp, b.trans ((jf _ _).drew)⟩
 ·show (((w.alloc o0).alloc o1).alloc o2).heap[_]? = _; rw [heap_alloc_old _ _ (by omega), heap_alloc_old _ _ (by omega)]; exact jw _ _
 ·show (((w.alloc o0).alloc o1).alloc o2).heap[_]? = _; rw [heap_alloc_old _ _ (by omega), ← s1]; exact jw _ _
 ·show (((w.alloc o0).alloc o1).alloc o2).heap[_]? = _; rw [← s2]; exact jw _ _
theorem yDj (w : World) (o0 o1 : Obj) : ((w.alloc o0).alloc o1).heap[w.heap.size]? = some o0 ∧ ((w.alloc o0).alloc o1).heap[w.heap.size + 1]? = some o1 ∧ ((w.alloc o0).alloc o1).heap.size = w.heap.size + 2 ∧ Below w.heap.size w ((w.alloc o0).alloc o1) := by
 have s1 : (w.alloc o0).heap.size = w.heap.size + 1 := by simp
 refine ⟨?_, ?_, by simp, ((jf _ _).alloc (jr _) _).alloc (by omega) _⟩
 ·rw [heap_alloc_old _ _ (by omega)]; exact jw _ _
 ·rw [← s1]; exact jw _ _
end Gim
namespace Go.Proofs.YtkhejkfjhddobaaGreatDoor
open Go.RowKit Gim
def yPa (w : World) (nd : yAc) (e : Ending) (w' : World) : Prop :=
 Below w.heap.size w w' ∧ ((∃ ts a n c, yA4 nd = some ts ∧ e = .returned (.tuple #[.agg #[.slice a n c], .int .i64 0]) ∧ yAH w' ts a n c) ∨ (yA4 nd = none ∧ e = .returned (.tuple #[.agg #[.slice none 0 0], .int .i64 6])))
theorem yFM {w w' : World} {nd : yAc} (h : yA4 nd = none) (hb : Below w.heap.size w w') : yPa w nd (.returned (.tuple #[.agg #[.slice none 0 0], .int .i64 6])) w' := ⟨hb, .inr ⟨h, rfl⟩⟩
theorem yNH {w w' : World} {nd : yAc} {ts : List St} {a : Option Addr} {n c : Nat} (h : yA4 nd = some ts) (hF : yAH w' ts a n c) (hb : Below w.heap.size w w') : yPa w nd (.returned (.tuple #[.agg #[.slice a n c], .int .i64 0])) w' := ⟨hb, .inl ⟨ts, a, n, c, h, rfl, hF⟩⟩
theorem yMy {nd : yAc} (h : (yAE nd).2.bad = true) : yA4 nd = none := by unfold yA4; rw [if_pos h]
theorem yHj {nd : yAc} {ts : List St} (h : (yAE nd).1 = ts) (hn : okP ts = true → nd ≠ comp ts) : yA4 nd = none := by
 unfold yA4; split
 ·rfl
 ·rw [h, if_neg fun e => hn e.1 e.2]
theorem yMv {nd : yAc} {ts : List St} (hb : (yAE nd).2.bad = false) (h : (yAE nd).1 = ts) (hk : okP ts = true) (hc : nd = comp ts) : yA4 nd = some ts := by unfold yA4; rw [if_neg (by rw [hb]; exact Bool.noConfusion), h, if_pos ⟨hk, hc⟩]
theorem yIX (nd : yAc) (ra : Option Addr) (rc : Nat) (pa : Option Addr) (pc : Nat) (w : World) (hR : yA2 w nd.rows ra nd.rows.length rc) (hP : yAR w nd.preds pa nd.preds.length pc) (hT : yBd w) (hl : yJk nd) :
  Calls Tryz.prog 37 #[.agg #[.int .i64 nd.main, .slice ra nd.rows.length rc, .slice pa nd.preds.length pc]] w (yPa w nd) := by
 obtain ⟨mn, hmn⟩ := je (nd.main); obtain ⟨nr, hnr⟩ := je (nd.rows.length); obtain ⟨np, hnp⟩ := je (nd.preds.length); have h1 : nr ≤ 1048576 := by have := hl.sum; omega
 have h2 : np ≤ 1048576 := by have := hl.sum; omega
 have hmk1 := fun w => run_make_row' (P := Tryz.prog) 114 4 (.bool false) 1 Tryz.underlying114 (by kernel_rfl) rfl .i64 .i64 nr (by omega) (by omega) w
 have hmk2 := fun w => run_make_row' (P := Tryz.prog) 114 4 (.bool false) 1 Tryz.underlying114 (by kernel_rfl) rfl .i64 .i64 np (by omega) (by omega) w
 rw [hmn, hnr, hnp]; obtain ⟨hy0, hy1, hys, hb0⟩ := yDj w (.cells #[.int .i64 mn, .slice ra nr rc, .slice pa np pc] 36) (.cells #[.slice none 0 0] 25); obtain ⟨W0, hW0⟩ := je ((w.alloc (.cells #[.int .i64 mn, .slice ra nr rc, .slice pa np pc] 36)).alloc (.cells #[.slice none 0 0] 25)); rw [hW0] at hy0 hy1 hys hb0; have HR := jh (hR.below hb0); have HP := jh (hP.below hb0); have HT := jh (hT.below hb0); have HY0 := jh hy0; have HY1 := jh hy1; have HYS := jh hys; have HB0 := jh hb0; have HW0 := jh hW0; have n0 := jc hy0 0 rfl; have n1 := jc hy0 1 rfl; have n2 := jc hy0 2 rfl; have s0 : w.heap.size < W0.heap.size := by omega
 clear hy0 hy1 hys hb0 hW0; have H1 := jh hnr; have H2 := jh hnp; have H3 := jh hmn; have HL := jh hl; clear hR hP hT hnr hnp hmn hl; go_enter Tryz.func37, Tryz.ntmps37; go_upto_region 1 with fail; rw [HW0.out]; go_cut [4] from 8 to 18 (fun v wx => ∃ R RB PB, v = .pointer (some ⟨R, 0, none⟩) ∧ Made W0 wx mn ra nr rc pa np pc R RB PB 126 4)
 case first =>
  go_region
  all_goals
   go_wp2_with fail; go_meet
  ·obtain ⟨x2, x3, x4, x5, x6⟩ := yKV W0 _ _ _; exact ⟨W0.heap.size + 2, W0.heap.size, W0.heap.size + 1, rfl, ⟨x6, x5, rfl, .inl ⟨rfl, rfl⟩, x4, x2, x3⟩⟩
  ·obtain ⟨x2, x3, x4, x5, x6⟩ := yKV W0 _ _ _; exact ⟨W0.heap.size + 2, W0.heap.size + 1, W0.heap.size, rfl, ⟨x6, x5, rfl, .inr ⟨rfl, rfl⟩, x4, x3, x2⟩⟩
 case rest =>
 obtain ⟨R, RB, PB, rfl, hM⟩ := hcut; obtain ⟨W1, hW1⟩ := je (wc); rw [hW1] at hM ⊢; clear hW1 hmk1 hmk2 n0 n1 n2 s0; have hbb := hM.hB; obtain ⟨C, hC⟩ : ∃ C : RC, C = ⟨W0, nd, R, RB, PB, ra, rc, pa, pc, some ⟨RB, 0, none⟩, nr, some ⟨PB, 0, none⟩, np, W0.heap.size + 3⟩ := ⟨_, rfl⟩
 have hok : C.Ok := by rw [hC]; have e1 := H1.out; have e2 := H2.out; have e3 := hM.hR; exact ⟨HR.out, HP.out, by dsimp only; omega, by dsimp only; omega, by dsimp only; omega, fun _ _ => rfl, by dsimp only; unfold maxLen; omega, fun _ _ => rfl, by dsimp only; unfold maxLen; omega, HL.out.lx, HL.out.ly, by dsimp only; omega, HL.out.lw⟩
 have hrd : RdW C W1 (yDh nd) := by
  rw [hC]; have e1 := H1.out; have e2 := H2.out; exact ⟨hM.bel, by rw [hM.size]; exact jr _, by simp [World.cell?, hM.cR, e1], by simp [World.cell?, hM.cR, e2], by simp [World.cell?, hM.cR, e1], by simp [World.cell?, hM.cR, e2], by simp [World.cell?, hM.cR, yDh], by simp [yDh], by simp [yDh],
   fun i b hb => by
    have hi := (ji.1 hb).1; simp only [yDh, List.length_replicate] at hi; have : b = false := by simpa [yDh, hi] using hb.symm
    subst this; have := yML nr i (by omega); simp [World.cell?, hM.cRB, this],
   fun i b hb => by
    have hi := (ji.1 hb).1; simp only [yDh, List.length_replicate] at hi; have : b = false := by simpa [yDh, hi] using hb.symm
    subst this; have := yML np i (by omega); simp [World.cell?, hM.cPB, this],
   fun i => by simp [World.frozen?, hM.cR], fun i => by simp [World.frozen?, hM.cRB], fun i => by simp [World.frozen?, hM.cPB]⟩
 have hrun := (yNc C hok (nd.rows.length + nd.preds.length + 1)).2 (yDh nd) 0 mn W1 ⟨by omega, by omega⟩ (by rw [← H3.out]; exact HL.out.mn) hrd (.inl (by rw [yOT]; omega)); have hCR : C.R = R := by rw [hC]
 have hCn : C.n = nd := by rw [hC]
 have hCW : C.W0 = W0 := by rw [hC]
 have hCT : C.top = W0.heap.size + 3 := by rw [hC]
 rw [hCR, hCn, show (RR nd (nd.rows.length + nd.preds.length + 1)).2 0 mn (yDh nd) = yAE nd by unfold yAE; rw [H3.out]] at hrun; have hx0 := (hM.bel.block w.heap.size (by have := HYS.out; omega)).trans HY0.out; have m0 := jc hx0 0 rfl; have HRUN := jh hrun; have HMD := jh hM; have HOK := jh hok; have HCE : Hid (C.R = R ∧ C.n = nd ∧ C.W0 = W0 ∧ C.top = W0.heap.size + 3) := jh ⟨hCR, hCn, hCW, hCT⟩; clear hrun hM hx0 hok hrd hbb hCR hCn hCW hCT hC; go_wp2_with fail; refine HRUN.out.mono ?_; rintro e w3 ⟨a, n, c, rfl, hrob, hrd3, honly⟩; have hb3 : Below W0.heap.size W0 w3 := by have := hrd3.bel; rw [HCE.out.2.2.1] at this; exact this
 have c5 := hrd3.c5; rw [HCE.out.1] at c5; have hx0 := (hb3.block w.heap.size (by have := HYS.out; omega)).trans HY0.out; have hx1 := (hb3.block (w.heap.size + 1) (by have := HYS.out; omega)).trans HY1.out; have hR3 : R < w3.heap.size := lt_of_cell c5; have HF3 := jh hrob.here; have HROB := jh hrob; have HB3 := jh hb3; have HX0 := jh hx0; have HX1 := jh hx1; have hs3 : w.heap.size + 1 < w3.heap.size := by have := hb3.size; have := HYS.out; omega
 have HRW := jh HMD.out.size; clear hrob hrd3 honly hb3 hx0 hx1; obtain ⟨bd, hbd⟩ := je ((yAE nd).2.bad); rw [hbd] at c5; have HBD := jh hbd; clear hbd; have y0 := jc HX1.out 0 rfl; have zy : w3.frozen? ⟨w.heap.size + 1, 0, none⟩ = false := by simp [World.frozen?, HX1.out]
 have HPB := jh (show Below w.heap.size w w3 from HB0.out.trans (HB3.out.mono HB0.out.size)); have c5' : (w3.alloc (.cells #[.slice a n c] 25)).cell? ⟨R, 5, none⟩ = some (.bool bd) := by refine (World.cell?_of_block (w := w3) (heap_alloc_old _ _ hR3)).trans c5
 have b4 : Below w3.heap.size w3 (w3.alloc (.cells #[.slice a n c] 25)) := (jf _ _).alloc (jr _) _; have hp4 := jw w3 (.cells #[.slice a n c] 25); cases bd
 ·obtain ⟨W4, hW4⟩ := je (w3.alloc (.cells #[.slice a n c] 25)); rw [hW4] at b4 hp4 c5'; have hlim := HL.out.w HBD.out; have hC := yD6 (yAE nd).1 a n c W4 (HF3.out.below b4) ((HT.out.below HB3.out).below b4) hlim.1 hlim.2; obtain ⟨ts, hts⟩ := je ((yAE nd).1); rw [hts] at hC; have hF4 := HF3.out.below b4; rw [hts] at hF4; have hs4 : w3.heap.size < W4.heap.size := by rw [← hW4]; simp
  have p0 := jc hp4 0 rfl; have HC := jh hC; have HF4 := jh hF4; have HP4 := jh hp4; have HB4 := jh b4; have HTS := jh hts; have HW4 := jh hW4; clear hC hlim hts hF4 b4 hp4 hW4 c5; go_upto_region 3 with fail; rw [HW4.out]; go_wp2_with fail; refine HC.out.mono ?_; rintro e w5 hc; have hb5 := hc.1; have hx0 := (hb5.block w.heap.size (by omega)).trans ((HB4.out.block w.heap.size (by omega)).trans HX0.out); have hx1 := (hb5.block (w.heap.size + 1) (by omega)).trans ((HB4.out.block (w.heap.size + 1) (by omega)).trans HX1.out); have hp5 := (hb5.block w3.heap.size hs4).trans HP4.out; have hs5 : w3.heap.size < w5.heap.size := jt hs4 hb5.size; have hs5' : w.heap.size + 1 < w5.heap.size := by omega
  have y0 := jc hx1 0 rfl; have zy : w5.frozen? ⟨w.heap.size + 1, 0, none⟩ = false := by simp [World.frozen?, hx1]
  have HB5 := jh (show Below w.heap.size w w5 from HPB.out.trans ((HB4.out.trans (hb5.mono (by omega))).mono (by omega))); have HX05 := jh hx0; have HX15 := jh hx1; have HP5 := jh hp5; have HBQ := jh hb5; by_cases hk : okP ts = true
  ·have hq := hc.2; rw [if_pos hk] at hq; obtain ⟨vr, vp, rfl, hN⟩ := hq; obtain ⟨ra2, rc2, pa2, pc2, rfl, rfl, hR2, hP2⟩ := hN w5 fun _ _ _ => rfl
   have b6 : Below w5.heap.size w5 (w5.alloc (.cells #[.int .i64 (ts.length : Nat), .slice ra2 (comp ts).rows.length rc2, .slice pa2 (comp ts).preds.length pc2] 36)) := (jf _ _).alloc (jr _) _; have hn6 := jw w5 (.cells #[.int .i64 (ts.length : Nat), .slice ra2 (comp ts).rows.length rc2, .slice pa2 (comp ts).preds.length pc2] 36); obtain ⟨W6, hW6⟩ := je (w5.alloc (.cells #[.int .i64 (ts.length : Nat), .slice ra2 (comp ts).rows.length rc2, .slice pa2 (comp ts).preds.length pc2] 36)); rw [hW6] at b6 hn6; have hbw : Below W0.heap.size W0 W6 := HB3.out.trans (((HB4.out.trans (hb5.mono (by omega))).trans (b6.mono (by omega))).mono HB3.out.size); have hS := yJh mn nd.rows nd.preds ra nd.rows.length rc pa nd.preds.length pc (ts.length : Nat) (comp ts).rows (comp ts).preds ra2 (comp ts).rows.length rc2 pa2 (comp ts).preds.length pc2 W6 (HR.out.below hbw) (HP.out.below hbw) (hR2.below b6) (hP2.below b6); have hcm : (⟨((ts.length : Nat) : Int), (comp ts).rows, (comp ts).preds⟩ : yAc) = comp ts := rfl; rw [hcm, ← H3.out] at hS; have hnd : (⟨nd.main, nd.rows, nd.preds⟩ : yAc) = nd := rfl; rw [hnd] at hS; rw [H1.out, H2.out, H3.out] at hS; obtain ⟨r2, hr2⟩ := je ((comp ts).rows.length); obtain ⟨p2, hp2⟩ := je ((comp ts).preds.length); rw [hr2, hp2] at hn6 hW6 hS ⊢; have hx06 := (b6.block w.heap.size (by omega)).trans hx0; have hx16 := (b6.block (w.heap.size + 1) (by omega)).trans hx1; have hp6 := (b6.block w3.heap.size hs5).trans hp5; have m0 := jc hx06 0 rfl; have m1 := jc hx06 1 rfl; have m2 := jc hx06 2 rfl; have k0 := jc hn6 0 rfl; have k1 := jc hn6 1 rfl; have k2 := jc hn6 2 rfl; have hs6 : w5.heap.size < W6.heap.size := jl hn6; have HS := jh hS; have HW6 := jh hW6; have HB6 := jh (HB5.out.trans (b6.mono HB5.out.size)); have HQ6 := jh (show Below w3.heap.size w3 W6 from (HB4.out.trans (hb5.mono (by omega))).trans (b6.mono (by omega))); have HX16 := jh hx16; have HP6 := jh hp6; have HF6 := jh ((HF4.out.below hb5).below b6); have HK := jh hk; clear hS hW6 b6 hn6 hbw hcm hnd hx06 hx16 hp6 hR2 hP2 hN hc hb5 hx0 hx1 hp5 hr2 hp2 hk; go_upto_region 6 with fail; rw [HW6.out]; go_wp2_with fail; refine HS.out.mono ?_; rintro e w7 ⟨b, rfl, hbb, b7⟩; have hx17 := (b7.block (w.heap.size + 1) (by omega)).trans HX16.out; have hp7 := (b7.block w3.heap.size (by omega)).trans HP6.out; have p0 := jc hp7 0 rfl; have y0 := jc hx17 0 rfl; have zy : w7.frozen? ⟨w.heap.size + 1, 0, none⟩ = false := by simp [World.frozen?, hx17]
   have hs7 : w3.heap.size < w7.heap.size := by have := b7.size; omega
   have hs7' : w.heap.size + 1 < w7.heap.size := by omega
   have HB7 := jh (HB6.out.trans (b7.mono HB6.out.size)); have HQ7 := jh (HQ6.out.trans (b7.mono HQ6.out.size)); have HBB := jh hbb; have HF7 := jh (HF6.out.below b7); clear b7 hx17 hp7 hbb m0 m1 m2 k0 k1 k2; cases b
   ·go_wp2_with fail; refine bodyPost_ret (v := .tuple #[.agg #[.slice none 0 0], .int .i64 6]) ?_ rfl ?_
    ·simp [results, Tryz.f37, go_sem, y0]
    ·exact yFM (yHj HTS.out fun _ e => Bool.noConfusion (HBB.out.2 e)) ((HB7.out).setCell (p := ⟨w.heap.size + 1, 0, none⟩) (Nat.le_succ _) _)
   ·go_wp2_with fail; refine bodyPost_ret (v := .tuple #[.agg #[.slice a n c], .int .i64 0]) ?_ rfl ?_
    ·simp [results, Tryz.f37, go_sem, y0]
    ·have hF : yAH (w7.setCell ⟨w.heap.size + 1, 0, none⟩ (.slice a n c)) ts a n c := by
      obtain ⟨S, s1, s2⟩ := HROB.out; rw [← HTS.out]; refine s2 _ fun b hb => (js w7 ⟨w.heap.size + 1, 0, none⟩ _ b ?_).trans (HQ7.out.block b (s1 b hb).2.1)
      have h1 := (s1 b hb).1; have h2 := HMD.out.size; have h3 := HYS.out; show b ≠ w.heap.size + 1; omega
     exact yNH (yMv HBD.out HTS.out HK.out (HBB.out.1 (by first | rfl | trivial))) hF (HB7.out.setCell (p := ⟨w.heap.size + 1, 0, none⟩) (Nat.le_succ _) _)
  ·have hq := hc.2; rw [if_neg hk] at hq; subst hq; have HK := jh hk; clear hc hb5 hx0 hx1 hp5 hk; go_wp2_with fail; have z0 : ∀ o, ((w5.setCell ⟨w.heap.size + 1, 0, none⟩ (.slice none 0 0)).alloc o).cell? ⟨w.heap.size + 1, 0, none⟩ = some (.slice none 0 0) := fun o => (World.cell?_of_block (w := w5.setCell ⟨w.heap.size + 1, 0, none⟩ (.slice none 0 0)) (heap_alloc_old _ _ (by rw [jv]; exact hs5'))).trans (World.cell?_setCell_same _ _ _ y0)
   refine bodyPost_ret (v := .tuple #[.agg #[.slice none 0 0], .int .i64 6]) ?_ rfl ?_
   ·simp [results, Tryz.f37, go_sem, z0]
   ·exact yFM (yHj HTS.out fun e => absurd e HK.out) ((HB5.out.setCell (p := ⟨w.heap.size + 1, 0, none⟩) (Nat.le_succ _) _).alloc (by rw [jv]; exact HB5.out.size) _)
 ·clear b4 hp4; go_wp2_with fail; have z0 : ∀ o, ((w3.setCell ⟨w.heap.size + 1, 0, none⟩ (.slice none 0 0)).alloc o).cell? ⟨w.heap.size + 1, 0, none⟩ = some (.slice none 0 0) := fun o => (World.cell?_of_block (w := w3.setCell ⟨w.heap.size + 1, 0, none⟩ (.slice none 0 0)) (heap_alloc_old _ _ (by rw [jv]; exact hs3))).trans (World.cell?_setCell_same _ _ _ y0)
  refine bodyPost_ret (v := .tuple #[.agg #[.slice none 0 0], .int .i64 6]) ?_ rfl ?_
  ·simp [results, Tryz.f37, go_sem, z0]
  ·exact yFM (yMy HBD.out) ((HPB.out.setCell (p := ⟨w.heap.size + 1, 0, none⟩) (Nat.le_succ _) _).alloc (by rw [jv]; exact HPB.out.size) _)
theorem yIR (nd : yAc) (ra : Option Addr) (rc : Nat) (pa : Option Addr) (pc : Nat) (w : World) (hR : yA2 w nd.rows ra nd.rows.length rc) (hP : yAR w nd.preds pa nd.preds.length pc) (hT : yBd w) (hl : yJk nd) :
  Calls Tryz.prog 36 #[.agg #[.int .i64 nd.main, .slice ra nd.rows.length rc, .slice pa nd.preds.length pc]] w fun e w' => Below w.heap.size w w' ∧ ((∃ ts, yA4 nd = some ts) ∧ e = .returned (.int .i64 0) ∨ yA4 nd = none ∧ e = .returned (.int .i64 6)) := by
 obtain ⟨mn, hmn⟩ := je (nd.main); obtain ⟨nr, hnr⟩ := je (nd.rows.length); obtain ⟨np, hnp⟩ := je (nd.preds.length); have b1 : Below w.heap.size w (w.alloc (.cells #[.int .i64 nd.main, .slice ra nd.rows.length rc, .slice pa nd.preds.length pc] 36)) := (jf _ _).alloc (jr _) _; have hC := yIX nd ra rc pa pc _ (hR.below b1) (hP.below b1) (hT.below b1) hl; rw [hmn, hnr, hnp] at hC b1 ⊢; have HB1 := jh b1; clear hR hP hT hl hmn hnr hnp b1; go_enter Tryz.func36, Tryz.ntmps36; go_wp2_with fail; refine hC.mono ?_; rintro e w2 hp; have HB2 := jh (HB1.out.trans (hp.1.mono HB1.out.size)); rcases hp.2 with ⟨ts, a, n, c, h1, rfl, h2⟩ | ⟨h1, rfl⟩
 ·have H1 := jh h1; clear hC hp h1 h2; go_wp2_with fail; go_ret; exact ⟨HB2.out.trans ((jf _ _).alloc HB2.out.size _), .inl ⟨⟨ts, H1.out⟩, rfl⟩⟩
 ·have H1 := jh h1; clear hC hp h1; go_wp2_with fail; go_ret; exact ⟨HB2.out.trans ((jf _ _).alloc HB2.out.size _), .inr ⟨H1.out, rfl⟩⟩
end Go.Proofs.YtkhejkfjhddobaaGreatDoor
