/- How a compiled path lies in its net: every expression at its number. Plain laws. -/
import Derived.Test.YtkhejkfjhddobaaGreatDoorNCompM
namespace Gim
open Go Go.RowKit
theorem yM6 : ∀ (a b : List Ex), yAN (a ++ b) = yAN a + yAN b
 | [], b => by simp [yAN]
 | x :: r, b => by simp only [List.cons_append, yAN, yM6 r b]; omega
theorem yMT : ∀ (a b : List Ex), yAV (a ++ b) = yAV a + yAV b
 | [], b => by simp [yAV]
 | x :: r, b => by simp only [List.cons_append, yAV, yMT r b]; omega
def pN (wh : List (List Ex)) (n : Nat) : Nat := yAN (wh.take n).flatten
def rN (L0 : Nat) (wh : List (List Ex)) (n : Nat) : Nat := L0 + yAV (wh.take n).flatten
theorem yCN {wh : List (List Ex)} {n : Nat} (h : n < wh.length) : pN wh (n + 1) = pN wh n + yAN (wh.getD n []) := by unfold pN; rw [List.take_add_one, jk h, List.flatten_append, yM6, jg, jk h]; simp
theorem yGa {L0 : Nat} {wh : List (List Ex)} {n : Nat} (h : n < wh.length) : rN L0 wh (n + 1) = rN L0 wh n + yAV (wh.getD n []) := by unfold rN; rw [List.take_add_one, jk h, List.flatten_append, yMT, jg, jk h]; simp; omega
theorem yEU {α : Type} {l : List α} {n : Nat} (h : l.length ≤ n) : l.take n = l := jm h
theorem yBN {wh : List (List Ex)} {a b : Nat} (h : a ≤ b) : pN wh a ≤ pN wh b := by
 induction b with
 | zero =>
  obtain rfl : a = 0 := by omega
  exact jr _
 | succ b ih =>
  by_cases e : a = b + 1
  ·subst e; exact jr _
  ·have := ih (by omega); by_cases hb : b < wh.length
   ·rw [yCN hb]; omega
   ·have e2 : pN wh (b + 1) = pN wh b := by unfold pN; rw [yEU (by omega), yEU (by omega)]
    omega
theorem yEb {L0 : Nat} {wh : List (List Ex)} {a b : Nat} (h : a ≤ b) : rN L0 wh a ≤ rN L0 wh b := by
 induction b with
 | zero =>
  obtain rfl : a = 0 := by omega
  exact jr _
 | succ b ih =>
  by_cases e : a = b + 1
  ·subst e; exact jr _
  ·have := ih (by omega); by_cases hb : b < wh.length
   ·rw [yGa hb]; omega
   ·have e2 : rN L0 wh (b + 1) = rN L0 wh b := by unfold rN; rw [yEU (by omega), yEU (by omega)]
    omega
def yBx : List Ex → Nat → List Int
 | [], _ => []
 | x :: l, k => (k : Int) :: yBx l (k + pcX x)
theorem yJN : ∀ (l : List Ex) (k : Nat), (yBx l k).length = l.length
 | [], _ => rfl
 | x :: l, k => by simp [yBx, yJN l]
mutual
/-- the expression lies there: its predicates from k on, the rows that it adds at once from r on -/
def yCP (st : Cst) : Ex → Nat → Nat → Prop
 | .mk op args sts nm cmp txt num, k, r =>
  if op = 3 then st.preds[k]? = some ⟨op, [], r, sts.length, nm, cmp, txt, num⟩ ∧ ∀ (j : Nat) (t : St), sts[j]? = some t → (∃ ps, st.rows[r + j]? = some { yCx t with ps := ps }) ∧ st.wh[r + j]? = some (yFb t)
  else st.preds[k]? = some ⟨op, yBx args (k + 1), 0, 0, ByteArray.empty, 0, ByteArray.empty, 0⟩ ∧ yA7 st args (k + 1) r
def yA7 (st : Cst) : List Ex → Nat → Nat → Prop
 | [], _, _ => True
 | x :: l, k, r => yCP st x k r ∧ yA7 st l (k + pcX x) (r + rcX x)
end
def yF7 (st st' : Cst) : Prop := (∀ (j : Nat) (rw : yCK), st.rows[j]? = some rw → ∃ ps, st'.rows[j]? = some { rw with ps := ps }) ∧ ∀ (j : Nat) (w : List Ex), st.wh[j]? = some w → st'.wh[j]? = some w
theorem yF7.trans {a b c : Cst} (h : yF7 a b) (k : yF7 b c) : yF7 a c :=
 ⟨fun j rw e => by obtain ⟨ps, h1⟩ := h.1 j rw e; obtain ⟨ps2, h2⟩ := k.1 j _ h1; exact ⟨ps2, h2⟩, fun j w e => k.2 j w (h.2 j w e)⟩
mutual
theorem yCP.keep {st st' : Cst} (hk : yF7 st st') : ∀ {x : Ex} {k r : Nat}, yCP st x k r → (∀ p, k ≤ p → p < k + pcX x → st'.preds[p]? = st.preds[p]?) → yCP st' x k r
 | .mk op args sts nm cmp txt num, k, r, h, hp => by
  unfold yCP at h ⊢; unfold pcX at hp; by_cases h3 : op = 3
  ·rw [if_pos h3] at h hp ⊢; refine ⟨(hp k (jr _) (by omega)).trans h.1, fun j t ht => ?_⟩; obtain ⟨⟨ps, h1⟩, h2⟩ := h.2 j t ht; obtain ⟨ps2, h3⟩ := hk.1 _ _ h1; exact ⟨⟨ps2, h3⟩, hk.2 _ _ h2⟩
  ·rw [if_neg h3] at h hp ⊢; exact ⟨(hp k (jr _) (by omega)).trans h.1, yA7.keep hk h.2 fun p h1 h2 => hp p (by omega) (by omega)⟩
theorem yA7.keep {st st' : Cst} (hk : yF7 st st') : ∀ {l : List Ex} {k r : Nat}, yA7 st l k r → (∀ p, k ≤ p → p < k + yAN l → st'.preds[p]? = st.preds[p]?) → yA7 st' l k r
 | [], _, _, _, _ => by unfold yA7; trivial
 | x :: l, k, r, h, hp => by unfold yA7 at h ⊢; unfold yAN at hp; exact ⟨yCP.keep hk h.1 fun p h1 h2 => hp p h1 (by omega), yA7.keep hk h.2 fun p h1 h2 => hp p (by omega) (by omega)⟩
end
def yGg (st st' : Cst) : Prop := (∀ j, j < st.rows.length → st'.rows[j]? = st.rows[j]?) ∧ ∀ j, j < st.wh.length → st'.wh[j]? = st.wh[j]?
theorem yGg.keep {st st' : Cst} (h : yGg st st') : yF7 st st' :=
 ⟨fun j rw e => ⟨rw.ps, (h.1 j (ji.1 e).1).trans e⟩, fun j _ e => (h.2 j (ji.1 e).1).trans e⟩
theorem yGg.trans {a b c : Cst} (h : yGg a b) (k : yGg b c) (h1 : a.rows.length ≤ b.rows.length) (h2 : a.wh.length ≤ b.wh.length) : yGg a c :=
 ⟨fun j hj => (k.1 j (by omega)).trans (h.1 j hj), fun j hj => (k.2 j (by omega)).trans (h.2 j hj)⟩
mutual
theorem yQ0 : ∀ (x : Ex) (st : Cst), st.wh.length = st.rows.length → yCP (cX x st) x st.preds.length st.rows.length ∧ (∀ p, p < st.preds.length → (cX x st).preds[p]? = st.preds[p]?) ∧ yGg st (cX x st)
 | .mk op args sts nm cmp txt num, st, hw => by
  unfold cX yCP; by_cases h3 : op = 3
  ·rw [if_pos h3, if_pos h3]; refine ⟨⟨?_, fun j t ht => ?_⟩, fun p hp => ?_, fun j hj => ?_, fun j hj => ?_⟩
   ·show ((st.preds ++ [yBf op]).modify st.preds.length _)[st.preds.length]? = _; rw [List.getElem?_modify_eq, List.getElem?_append_right (jr _), Nat.sub_self]; rfl
   ·refine ⟨⟨[], ?_⟩, ?_⟩
    ·show (st.rows ++ sts.map yCx)[st.rows.length + j]? = _; rw [List.getElem?_append_right (by omega), Nat.add_sub_cancel_left, List.getElem?_map, ht]; cases t; rfl
    ·show (st.wh ++ sts.map yFb)[st.rows.length + j]? = _; rw [List.getElem?_append_right (by omega), show st.rows.length + j - st.wh.length = j by omega, List.getElem?_map, ht]; rfl
   ·show ((st.preds ++ [yBf op]).modify st.preds.length _)[p]? = _; rw [List.getElem?_modify_ne _ _ (by omega), List.getElem?_append_left hp]
   ·show (st.rows ++ sts.map yCx)[j]? = _; exact List.getElem?_append_left hj
   ·show (st.wh ++ sts.map yFb)[j]? = _; exact List.getElem?_append_left hj
  ·rw [if_neg h3, if_neg h3]; have hq : (addPred st op).preds[st.preds.length]? = some (yBf op) := by show (st.preds ++ [yBf op])[st.preds.length]? = _; rw [List.getElem?_append_right (jr _), Nat.sub_self]; rfl
   have hl : (addPred st op).preds.length = st.preds.length + 1 := by simp [addPred]
   obtain ⟨h1, h2, h4, h5⟩ := yOJ args st.preds.length (addPred st op) (yBf op) hw hq; rw [hl] at h1 h4; refine ⟨⟨?_, h1⟩, fun p hp => (h2 p (by omega) (by omega)).trans ?_, h5⟩
   ·rw [h4]; rfl
   ·show (st.preds ++ [yBf op])[p]? = _; exact List.getElem?_append_left hp
theorem yOJ : ∀ (l : List Ex) (at_ : Nat) (st : Cst) (q : yAG), st.wh.length = st.rows.length → st.preds[at_]? = some q →
  yA7 (cXL l at_ st) l st.preds.length st.rows.length ∧ (∀ p, p < st.preds.length → p ≠ at_ → (cXL l at_ st).preds[p]? = st.preds[p]?) ∧ (cXL l at_ st).preds[at_]? = some { q with args := q.args ++ yBx l st.preds.length } ∧ yGg st (cXL l at_ st)
 | [], at_, st, q, hw, hq => by unfold cXL yA7 yBx; exact ⟨trivial, fun _ _ _ => rfl, by rw [hq, List.append_nil], fun _ _ => rfl, fun _ _ => rfl⟩
 | x :: r, at_, st, q, hw, hq => by
  have hat := (ji.1 hq).1; obtain ⟨h1, h2, h3⟩ := yQ0 x st hw; have hr := yCd x st; have hq2 : (addArg (cX x st) at_ st.preds.length).preds[at_]? = some { q with args := q.args ++ [(st.preds.length : Int)] } := by show ((cX x st).preds.modify at_ _)[at_]? = _; rw [List.getElem?_modify_eq, h2 at_ hat, hq]; rfl
  have hl2 : (addArg (cX x st) at_ st.preds.length).preds.length = st.preds.length + pcX x := by show ((cX x st).preds.modify at_ _).length = _; rw [List.length_modify, hr.preds]
  have hrl : (addArg (cX x st) at_ st.preds.length).rows.length = st.rows.length + rcX x := hr.rows; obtain ⟨k1, k2, k3, k4⟩ := yOJ r at_ (addArg (cX x st) at_ st.preds.length) _ (by show (cX x st).wh.length = (cX x st).rows.length; rw [hr.wh, hr.rows, hw]) hq2; rw [hl2] at k1 k3; rw [hrl] at k1; have hs : yGg (cX x st) (addArg (cX x st) at_ st.preds.length) := ⟨fun _ _ => rfl, fun _ _ => rfl⟩
  unfold cXL yA7; refine ⟨⟨yCP.keep (hs.keep.trans k4.keep) h1 fun p p1 p2 => ?_, k1⟩, fun p hp hne => ?_, ?_, ?_⟩
  ·refine (k2 p (by omega) (by omega)).trans ?_; show ((cX x st).preds.modify at_ _)[p]? = _; exact List.getElem?_modify_ne _ _ (by omega)
  ·refine (k2 p (by omega) hne).trans (Eq.trans ?_ (h2 p hp)); show ((cX x st).preds.modify at_ _)[p]? = _; exact List.getElem?_modify_ne _ _ (Ne.symm hne)
  ·rw [k3]; simp [yBx]
  ·exact (h3.trans hs (by rw [hr.rows]; omega) (by rw [hr.wh]; omega)).trans k4 (by rw [hrl]; omega) (by show st.wh.length ≤ (cX x st).wh.length; rw [hr.wh]; omega)
end
mutual
/-- new rows have no predicates yet -/
theorem yLT : ∀ (x : Ex) (st : Cst) (j : Nat) (rw : yCK), st.rows.length ≤ j → (cX x st).rows[j]? = some rw → rw.ps = []
 | .mk op args sts nm cmp txt num, st, j, rw, hj, h => by
  unfold cX at h; by_cases h3 : op = 3
  ·rw [if_pos h3] at h; have h : (st.rows ++ sts.map yCx)[j]? = some rw := h; rw [List.getElem?_append_right hj, List.getElem?_map] at h; cases e : sts[j - st.rows.length]? with
   | none => rw [e] at h; cases h
   | some t =>
    rw [e] at h; injection h with h; subst h; cases t; rfl
  ·rw [if_neg h3] at h; exact yJU args _ (addPred st op) j rw hj h
theorem yJU : ∀ (l : List Ex) (at_ : Nat) (st : Cst) (j : Nat) (rw : yCK), st.rows.length ≤ j → (cXL l at_ st).rows[j]? = some rw → rw.ps = []
 | [], at_, st, j, rw, hj, h => by unfold cXL at h; exact absurd (ji.1 h).1 (by omega)
 | x :: r, at_, st, j, rw, hj, h => by
  unfold cXL at h; have hr := yCd x st; by_cases hj2 : (cX x st).rows.length ≤ j
  ·exact yJU r at_ (addArg (cX x st) at_ st.preds.length) j rw hj2 h
  ·have h2 := yFJ r at_ (addArg (cX x st) at_ st.preds.length) j (by show j < (cX x st).rows.length; omega); rw [h2] at h; exact yLT x st j rw hj h
theorem yQa : ∀ (x : Ex) (st : Cst) (j : Nat), j < st.rows.length → (cX x st).rows[j]? = st.rows[j]?
 | .mk op args sts nm cmp txt num, st, j, hj => by
  unfold cX; by_cases h3 : op = 3
  ·rw [if_pos h3]; show (st.rows ++ sts.map yCx)[j]? = _; exact List.getElem?_append_left hj
  ·rw [if_neg h3]; exact yFJ args _ (addPred st op) j hj
theorem yFJ : ∀ (l : List Ex) (at_ : Nat) (st : Cst) (j : Nat), j < st.rows.length → (cXL l at_ st).rows[j]? = st.rows[j]?
 | [], at_, st, j, hj => by unfold cXL; rfl
 | x :: r, at_, st, j, hj => by unfold cXL; have hr := yCd x st; rw [yFJ r at_ (addArg (cX x st) at_ st.preds.length) j (by show j < (cX x st).rows.length; rw [hr.rows]; omega)]; exact yQa x st j hj
end
theorem yNb : ∀ (l : List Ex) (i : Nat) (st : Cst) (q : yCK), st.wh.length = st.rows.length → st.rows[i]? = some q →
  yA7 (yA5 i l st) l st.preds.length st.rows.length ∧ (∀ p, p < st.preds.length → (yA5 i l st).preds[p]? = st.preds[p]?) ∧ (yA5 i l st).rows[i]? = some { q with ps := q.ps ++ yBx l st.preds.length } ∧
  (∀ j, j < st.rows.length → j ≠ i → (yA5 i l st).rows[j]? = st.rows[j]?) ∧ (∀ j, j < st.wh.length → (yA5 i l st).wh[j]? = st.wh[j]?) ∧ ∀ j rw, st.rows.length ≤ j → (yA5 i l st).rows[j]? = some rw → rw.ps = []
 | [], i, st, q, hw, hq => by unfold yA5 yA7 yBx; exact ⟨trivial, fun _ _ => rfl, by rw [hq, List.append_nil], fun _ _ _ => rfl, fun _ _ => rfl, fun j rw hj h => absurd (ji.1 h).1 (by omega)⟩
 | x :: r, i, st, q, hw, hq => by
  have hi := (ji.1 hq).1; obtain ⟨h1, h2, h3⟩ := yQ0 x st hw; have hr := yCd x st; have hq2 : (addRow (cX x st) i st.preds.length).rows[i]? = some { q with ps := q.ps ++ [(st.preds.length : Int)] } := by show ((cX x st).rows.modify i _)[i]? = _; rw [List.getElem?_modify_eq, h3.1 i hi, hq]; rfl
  have hl2 : (addRow (cX x st) i st.preds.length).preds.length = st.preds.length + pcX x := hr.preds; have hrl : (addRow (cX x st) i st.preds.length).rows.length = st.rows.length + rcX x := by show ((cX x st).rows.modify i _).length = _; rw [List.length_modify, hr.rows]
  obtain ⟨k1, k2, k3, k4, k5, k6⟩ := yNb r i (addRow (cX x st) i st.preds.length) _ (by rw [hrl]; show (cX x st).wh.length = _; rw [hr.wh, hw]) hq2; rw [hl2] at k1 k2 k3; rw [hrl] at k1 k4 k6; have hs : yF7 (cX x st) (yA5 i r (addRow (cX x st) i st.preds.length)) := by
   refine ⟨fun j rw e => ?_, fun j w e => ?_⟩
   ·have hj := (ji.1 e).1; rw [hr.rows] at hj; by_cases e2 : j = i
    ·subst e2; rw [h3.1 j hi, hq] at e; injection e with e; subst e; exact ⟨_, k3⟩
    ·refine ⟨rw.ps, (k4 j hj e2).trans (Eq.trans ?_ e)⟩; show ((cX x st).rows.modify i _)[j]? = _; exact List.getElem?_modify_ne _ _ (Ne.symm e2)
   ·exact (k5 j (ji.1 e).1).trans e
  unfold yA5 yA7; refine ⟨⟨yCP.keep hs h1 fun p p1 p2 => k2 p (by omega), k1⟩, fun p hp => (k2 p (by omega)).trans (h2 p hp), ?_, fun j hj hne => ?_, fun j hj => ?_, fun j rw hj e => ?_⟩
  ·rw [k3]; simp [yBx]
  ·refine (k4 j (by omega) hne).trans (Eq.trans ?_ (h3.1 j hj)); show ((cX x st).rows.modify i _)[j]? = _; exact List.getElem?_modify_ne _ _ (Ne.symm hne)
  ·exact (k5 j (by show j < (cX x st).wh.length; rw [hr.wh]; omega)).trans (h3.2 j hj)
  ·by_cases hj2 : st.rows.length + rcX x ≤ j
   ·exact k6 j rw hj2 e
   ·rw [k4 j (by omega) (by omega)] at e; have e2 : ((cX x st).rows.modify i fun r => { r with ps := r.ps ++ [(st.preds.length : Int)] })[j]? = some rw := e; rw [List.getElem?_modify_ne _ _ (by omega)] at e2; exact yLT x st j rw hj e2
mutual
/-- of a good expression all that is counted is made -/
theorem parts_eq : ∀ x : Ex, gdX x = true → pcX x + rcX x + inX x = szX x
 | .mk op args sts nm cmp txt num, h => by
  unfold gdX at h; unfold pcX rcX inX szX; by_cases h3 : op = 3
  ·rw [if_pos h3, jb, decide_eq_true_eq] at h; rw [if_pos h3, if_pos h3, if_pos h3]; obtain rfl : args = [] := List.length_eq_zero_iff.1 h.1; simp only [yAU]; omega
  ·rw [if_neg h3, jb, decide_eq_true_eq] at h; rw [if_neg h3, if_neg h3, if_neg h3]; obtain rfl : sts = [] := List.length_eq_zero_iff.1 h.1; simp only [jb] at h; have := yE1 args h.2.2.2.2.2.2; simp only [yBe, List.length_nil]; omega
theorem yE1 : ∀ l : List Ex, yAQ l = true → yAN l + yAV l + yDq l = yAU l
 | [], _ => by simp [yAN, yAV, yDq, yAU]
 | x :: r, h => by unfold yAQ at h; rw [jb] at h; unfold yAN yAV yDq yAU; have h1 := parts_eq x h.1; have h2 := yE1 r h.2; omega
end
theorem yTf {t : St} (h : gdT t = true) : yAQ (yFb t) = true := by
 cases t
 unfold gdT at h; simp only [jb] at h; exact h.2.2
structure Stg (ts : List St) (i : Nat) (st : Cst) : Prop where
 wl : st.wh.length = st.rows.length
 pl : st.preds.length = pN st.wh i
 rl : st.rows.length = rN ts.length st.wh i
 lt : ∀ j, j < i → j < rN ts.length st.wh j
 le : i ≤ st.rows.length
 row : ∀ j, j < i → ∃ rw, st.rows[j]? = some rw ∧ rw.ps = yBx (st.wh.getD j []) (pN st.wh j) ∧ yA7 st (st.wh.getD j []) (pN st.wh j) (rN ts.length st.wh j)
 nil : ∀ j rw, i ≤ j → st.rows[j]? = some rw → rw.ps = []
 own : ∀ (j : Nat) (t : St), ts[j]? = some t → (∃ ps, st.rows[j]? = some { yCx t with ps := ps }) ∧ st.wh[j]? = some (yFb t)
 good : yDM st
 sum : st.rows.length + st.preds.length + yBb st i = ts.length + yBe ts
theorem ySW {ts : List St} (h : yBk ts = true) : Stg ts 0 (yAh ⟨[], [], []⟩ ts) := by
 refine ⟨by simp [yAh], by simp [yAh, pN, yAN], by simp [yAh, rN, yAV], fun j hj => absurd hj (Nat.not_lt_zero _), jz _, fun j hj => absurd hj (Nat.not_lt_zero _), fun j rw _ e => ?_, fun j t ht => ⟨⟨[], ?_⟩, ?_⟩, yDs (fun _ hx => by cases hx) h, ?_⟩
 ·have e : ([] ++ ts.map yCx)[j]? = some rw := e; rw [List.nil_append, List.getElem?_map] at e; cases e2 : ts[j]? with
  | none => rw [e2] at e; cases e
  | some t =>
   rw [e2] at e; injection e with e; subst e; cases t; rfl
 ·show ([] ++ ts.map yCx)[j]? = _; rw [List.nil_append, List.getElem?_map, ht]; cases t; rfl
 ·show ([] ++ ts.map yFb)[j]? = _; rw [List.nil_append, List.getElem?_map, ht]; rfl
 ·have := (yBU ⟨[], [], []⟩ ts).pend 0 (jz _); rw [this]; simp [yAh, yBb]
theorem yJb {α : Type} {a b : List α} (n : Nat) (hn : n ≤ a.length) (h : ∀ j, j < a.length → b[j]? = a[j]?) : b.take n = a.take n := by
 refine List.ext_getElem? fun i => ?_
 rw [List.getElem?_take, List.getElem?_take]; by_cases hi : i < n
 ·rw [if_pos hi, if_pos hi]; exact h i (by omega)
 ·rw [if_neg hi, if_neg hi]
theorem ySG {a b : List (List Ex)} {n : Nat} (hn : n ≤ a.length) (h : ∀ j, j < a.length → b[j]? = a[j]?) : pN b n = pN a n := by unfold pN; rw [yJb n hn h]
theorem ySr {L0 : Nat} {a b : List (List Ex)} {n : Nat} (hn : n ≤ a.length) (h : ∀ j, j < a.length → b[j]? = a[j]?) : rN L0 b n = rN L0 a n := by unfold rN; rw [yJb n hn h]
theorem yPV {α : Type} {a b : List α} {n : Nat} {z : α} (h : b[n]? = a[n]?) : b.getD n z = a.getD n z := by rw [jg, jg, h]
theorem yLm {ts : List St} {i : Nat} {st : Cst} (h : Stg ts i st) (hi : i < st.rows.length) : Stg ts (i + 1) (yA5 i (st.wh.getD i []) st) := by
 have hq := jk hi; have hiw : i < st.wh.length := by rw [h.wl]; exact hi
 have hm : st.wh.getD i [] ∈ st.wh := by rw [jg, jk hiw]; exact List.getElem_mem hiw
 have hg := h.good _ hm; obtain ⟨k1, k2, k3, k4, k5, k6⟩ := yNb (st.wh.getD i []) i st _ h.wl hq; have hr := yCi (st.wh.getD i []) i st; have hpe : yBb st i = yAU (st.wh.getD i []) + yBb st (i + 1) := by unfold yBb; rw [List.drop_eq_getElem_cons hiw, jg, jk hiw]; rfl
 have hpe2 := hr.pend (i + 1) hiw; have hsz := yE1 _ hg; have hwl := h.wl; have hl : ∀ j, j ≤ st.rows.length → pN (yA5 i (st.wh.getD i []) st).wh j = pN st.wh j := fun j hj => ySG (by omega) k5
 have hl2 : ∀ j, j ≤ st.rows.length → rN ts.length (yA5 i (st.wh.getD i []) st).wh j = rN ts.length st.wh j := fun j hj => ySr (by omega) k5
 have hl3 : ∀ j, j < st.rows.length → (yA5 i (st.wh.getD i []) st).wh.getD j [] = st.wh.getD j [] := fun j hj => yPV (k5 j (by omega))
 have hke : yF7 st (yA5 i (st.wh.getD i []) st) := by
  refine ⟨fun j rw e => ?_, fun j w e => (k5 j (ji.1 e).1).trans e⟩; by_cases hj : j = i
  ·subst hj; rw [hq] at e; injection e with e; subst e; exact ⟨_, k3⟩
  ·exact ⟨rw.ps, (k4 j (ji.1 e).1 hj).trans e⟩
 have hle := h.le; have hpl := h.pl; have hrl := h.rl; have hsum := h.sum; have hpi : pN st.wh (i + 1) = pN st.wh i + yAN (st.wh.getD i []) := yCN hiw; have hri : rN ts.length st.wh (i + 1) = rN ts.length st.wh i + yAV (st.wh.getD i []) := yGa hiw; refine ⟨by rw [hr.wh, hr.rows, h.wl], by rw [hr.preds, hl _ (by omega), hpi, hpl], by rw [hr.rows, hl2 _ (by omega), hri]; omega, fun j hj => ?_, by rw [hr.rows]; omega, fun j hj => ?_, fun j rw hj e => ?_, fun j t ht => ?_, yEV _ i st hg h.good, ?_⟩
 ·rw [hl2 j (by omega)]; by_cases e : j = i
  ·subst e; omega
  ·exact h.lt j (by omega)
 ·by_cases e : j = i
  ·subst e; refine ⟨_, k3, ?_, ?_⟩
   ·show st.rows[j].ps ++ _ = _; rw [h.nil j _ (jr _) hq, List.nil_append, hl3 j hi, hl j (by omega), hpl]
   ·rw [hl3 j hi, hl j (by omega), hl2 j (by omega), ← hpl, ← hrl]; exact k1
  ·obtain ⟨rw, e1, e2, e3⟩ := h.row j (by omega); refine ⟨rw, (k4 j (by omega) e).trans e1, by rw [hl3 j (by omega), hl j (by omega)]; exact e2, ?_⟩; rw [hl3 j (by omega), hl j (by omega), hl2 j (by omega)]; refine yA7.keep hke e3 fun p h1 h2 => k2 p ?_
   have hpj : pN st.wh (j + 1) = pN st.wh j + yAN (st.wh.getD j []) := yCN (by omega); have := yBN (wh := st.wh) (show j + 1 ≤ i by omega); omega
 ·by_cases hj2 : st.rows.length ≤ j
  ·exact k6 j rw hj2 e
  ·rw [k4 j (by omega) (by omega)] at e; exact h.nil j rw (by omega) e
 ·obtain ⟨⟨ps, e1⟩, e2⟩ := h.own j t ht; obtain ⟨ps2, e3⟩ := hke.1 _ _ e1; exact ⟨⟨ps2, e3⟩, hke.2 _ _ e2⟩
 ·rw [hr.rows, hr.preds, hpe2]; omega
theorem yPc {ts : List St} : ∀ (f i : Nat) (st : Cst), Stg ts i st → st.rows.length - i + yBb st i < f → Stg ts (yDp f i st).rows.length (yDp f i st)
 | 0, i, st, h, hf => by omega
 | f + 1, i, st, h, hf => by
  unfold yDp; by_cases hi : i < st.rows.length
  ·rw [if_pos hi]; have hn := yLm h hi; refine yPc f (i + 1) _ hn ?_; have h1 := h.sum; have h2 := hn.sum; have hr := yCi (st.wh.getD i []) i st; have := hr.rows; have := hr.preds; have hle := hn.le; have hiw : i < st.wh.length := by rw [h.wl]; exact hi
   have hpe : yBb st i = yAU (st.wh.getD i []) + yBb st (i + 1) := by unfold yBb; rw [List.drop_eq_getElem_cons hiw, jg, jk hiw]; rfl
   have hpe2 := hr.pend (i + 1) hiw; have hm : st.wh.getD i [] ∈ st.wh := by rw [jg, jk hiw]; exact List.getElem_mem hiw
   have hsz := yE1 _ (h.good _ hm); omega
  ·rw [if_neg hi]; have e : i = st.rows.length := by have := h.le; omega
   rw [← e]; exact h
def yAe (ts : List St) : Cst := yDp (ts.length + yBe ts + 1) 0 (yAh ⟨[], [], []⟩ ts)
theorem yR9 (ts : List St) : comp ts = ⟨ts.length, (yAe ts).rows, (yAe ts).preds⟩ := rfl
theorem yDv {ts : List St} (h : yBk ts = true) : Stg ts (yAe ts).rows.length (yAe ts) := by have h0 := ySW h; refine yPc _ 0 _ h0 ?_; have := h0.sum; omega
/-! ### generations of rows -/
def itR (R : Nat → Nat) : Nat → Nat → Nat
 | 0, a => a
 | g + 1, a => itR R g (R a)
def InF (R : Nat → Nat) (a b n : Nat) : Prop := ∃ g, itR R g a ≤ n ∧ n < itR R g b
structure RU (R : Nat → Nat) (N : Nat) : Prop where
 mono : ∀ a b, a ≤ b → R a ≤ R b
 top : ∀ a, a ≤ N → R a ≤ N
 lt : ∀ a, a < N → a < R a
 eq : R N = N
section
variable {R : Nat → Nat} {N : Nat} (hR : RU R N)
include hR
theorem RU.up {a : Nat} (h : a ≤ N) : a ≤ R a := by
 by_cases e : a = N
 ·rw [e, hR.eq]; exact jr _
 ·exact Nat.le_of_lt (hR.lt a (by omega))
theorem yEv : ∀ (g : Nat) {a b : Nat}, a ≤ b → itR R g a ≤ itR R g b
 | 0, _, _, h => h
 | g + 1, _, _, h => yEv g (hR.mono _ _ h)
theorem yOP : ∀ (g : Nat) {a : Nat}, a ≤ N → itR R g a ≤ N
 | 0, _, h => h
 | g + 1, _, h => yOP g (hR.top _ h)
theorem yPj : ∀ (d g : Nat) {a : Nat}, a ≤ N → itR R g a ≤ itR R (g + d) a
 | 0, g, _, _ => jr _
 | d + 1, g, a, h => by have h1 := yPj d g h; have h2 : itR R (g + d) a ≤ itR R (g + d) (R a) := yEv hR _ (RU.up hR h); exact ju h1 h2
theorem yNM {g g' a : Nat} (h : g ≤ g') (ha : a ≤ N) : itR R g a ≤ itR R g' a := by have := yPj hR (g' - g) g ha; rwa [show g + (g' - g) = g' by omega] at this
theorem yBZ {a b c n : Nat} (h1 : a ≤ b) (h2 : b ≤ c) : InF R a c n ↔ InF R a b n ∨ InF R b c n := by
 constructor
 ·rintro ⟨g, h3, h4⟩; by_cases h5 : n < itR R g b
  ·exact .inl ⟨g, h3, h5⟩
  ·exact .inr ⟨g, by omega, h4⟩
 ·rintro (⟨g, h3, h4⟩ | ⟨g, h3, h4⟩)
  ·exact ⟨g, h3, jt h4 (yEv hR g h2)⟩
  ·exact ⟨g, ju (yEv hR g h1) h3, h4⟩
theorem yMM {a b c n : Nat} (h1 : a ≤ b) (h2 : b ≤ c) (h3 : c ≤ R a) (h4 : c ≤ N) (hx : InF R a b n) (hy : InF R b c n) : False := by
 obtain ⟨g, x1, x2⟩ := hx; obtain ⟨g', y1, y2⟩ := hy; by_cases hg : g ≤ g'
 ·have := yNM hR hg (show b ≤ N by omega); omega
 ·have e1 := yNM hR (show g' + 1 ≤ g by omega) (show a ≤ N by omega); have e2 : itR R g' c ≤ itR R g' (R a) := yEv hR g' h3; have e3 : itR R (g' + 1) a = itR R g' (R a) := rfl; omega
theorem yGQ {a b n : Nat} (ha : a ≤ N) (h : InF R a b n) : a ≤ n := by obtain ⟨g, x1, _⟩ := h; have := yNM hR (jz g) ha; have e : itR R 0 a = a := rfl; omega
theorem yTw {a b n : Nat} (hb : b ≤ N) (h : InF R a b n) : n < N := by obtain ⟨g, _, x2⟩ := h; have := yOP hR g hb; omega
omit hR in
theorem yEQ {a n : Nat} : InF R a (a + 1) n ↔ n = a ∨ InF R (R a) (R (a + 1)) n := by
 constructor
 ·rintro ⟨g, x1, x2⟩; cases g with
  | zero =>
   have x1 : a ≤ n := x1; have x2 : n < a + 1 := x2; exact .inl (by omega)
  | succ g => exact .inr ⟨g, x1, x2⟩
 ·rintro (rfl | ⟨g, x1, x2⟩)
  ·exact ⟨0, jr _, Nat.lt_succ_self _⟩
  ·exact ⟨g + 1, x1, x2⟩
end
/-! ### what is not read yet; what a reading leaves -/
def yD7 (P R : Nat → Nat) (s : Rst) (a b : Nat) : Prop := ∀ n, InF R a b n → s.rows[n]? = some false ∧ ∀ p, P n ≤ p → p < P (n + 1) → s.preds[p]? = some false
structure yS3 (P R : Nat → Nat) (s s' : Rst) (k m a b : Nat) : Prop where
 rows : ∀ n, ¬ InF R a b n → s'.rows[n]? = s.rows[n]?
 preds : ∀ p, p < k ∨ k + m ≤ p → (∀ n, InF R a b n → p < P n ∨ P (n + 1) ≤ p) → s'.preds[p]? = s.preds[p]?
theorem ySZ {s : ByteArray} (h : emB s = true) : s = ByteArray.empty := by unfold emB at h; rw [ByteArray.toList_eq, List.isEmpty_iff] at h; cases s; rename_i d; cases d; simp at h; subst h; rfl
section
variable {ts : List St} (hg : yBk ts = true)
include hg
theorem yGx : RU (rN ts.length (yAe ts).wh) (yAe ts).rows.length := by have h := yDv hg; have e : rN ts.length (yAe ts).wh (yAe ts).rows.length = (yAe ts).rows.length := h.rl.symm; exact ⟨fun a b hab => yEb hab, fun a ha => by rw [← e]; exact ju (yEb ha) (by rw [e]; exact jr _), fun a ha => h.lt a ha, e⟩
omit hg in
theorem yKn {n n' p : Nat} (hn : n ≠ n') (h1 : pN (yAe ts).wh n ≤ p) (h2 : p < pN (yAe ts).wh (n + 1)) : p < pN (yAe ts).wh n' ∨ pN (yAe ts).wh (n' + 1) ≤ p := by
 rcases Nat.lt_or_gt_of_ne hn with h | h
 ·exact .inl (jt h2 (yBN h))
 ·exact .inr (ju (yBN h) h1)
mutual
theorem yTH : ∀ (x : Ex), gdX x = true → ∀ (k r f : Nat) (s : Rst), yCP (yAe ts) x k r → r + rcX x ≤ (yAe ts).rows.length → k + pcX x ≤ pN (yAe ts).wh r → r + rcX x ≤ rN ts.length (yAe ts).wh r → szX x ≤ f → yCT (comp ts) s → s.bad = false →
  (∀ p, k ≤ p → p < k + pcX x → s.preds[p]? = some false) → yD7 (pN (yAe ts).wh) (rN ts.length (yAe ts).wh) s r (r + rcX x) →
  ∃ s', (RR (comp ts) f).1 k s = (x, s') ∧ s'.bad = false ∧ yCT (comp ts) s' ∧ yS3 (pN (yAe ts).wh) (rN ts.length (yAe ts).wh) s s' k (pcX x) r (r + rcX x)
 | .mk op args sts nm cmp txt num, hx, k, r, f, s, hl, h1, h2, h3, h4, hL, hb, hp, hc => by
  obtain ⟨f, rfl⟩ : ∃ g, f = g + 1 := ⟨f - 1, by unfold szX at h4; omega⟩
  have hkp : ∀ q, (yAe ts).preds[k]? = some q → k < (comp ts).preds.length := fun q e => (ji.1 e).1
  have hmk : ∀ p, p ≠ k → (s.markPred k).preds[p]? = s.preds[p]? := fun p hne => List.getElem?_set_ne (Ne.symm hne)
  have hLm : yCT (comp ts) (s.markPred k) := ⟨hL.1, by simp [Rst.markPred, hL.2]⟩
  unfold yCP at hl; unfold gdX at hx; have hsz := h4; unfold szX at hsz; unfold pcX at hp h2 ⊢; unfold rcX at hc h1 h3 ⊢; by_cases ho : op = 3
  ·rw [if_pos ho] at hl hx hp hc h1 h2 h3 ⊢; rw [if_pos ho]; simp only [jb, decide_eq_true_eq] at hx; obtain ⟨ha, ⟨hs0, hs⟩, _⟩ := hx; obtain rfl : args = [] := List.length_eq_zero_iff.1 ha; obtain ⟨hq, hrw⟩ := hl; have hk := hkp _ hq; have hqd : (comp ts).preds.getD k zp = ⟨op, [], r, sts.length, nm, cmp, txt, num⟩ := by rw [jg]; show ((yAe ts).preds[k]?).getD zp = _; rw [hq]; rfl
   obtain ⟨f, rfl⟩ : ∃ g, f = g + 1 := ⟨f - 1, by simp only [yAU] at hsz; omega⟩
   have hcm : yD7 (pN (yAe ts).wh) (rN ts.length (yAe ts).wh) (s.markPred k) r (r + sts.length) := fun n hn => by refine ⟨(hc n hn).1, fun p p1 p2 => (hmk p ?_).trans ((hc n hn).2 p p1 p2)⟩; have := yGQ (yGx hg) (by omega) hn; have := yBN (wh := (yAe ts).wh) this; omega
   obtain ⟨s', e1, e2, e3, e4⟩ := yNq sts hs r f (s.markPred k) [] hrw h1 h3 (by simp only [yAU] at hsz; omega) hLm hb hcm; rw [List.nil_append] at e1; refine ⟨s', ?_, e2, e3, e4.rows, fun p p1 p2 => (e4.preds p (by omega) p2).trans (hmk p (by omega))⟩; show yB4 (comp ts) (RR (comp ts) (f + 1)).1 (RR (comp ts) (f + 1)).2 k s = _; have hnb : ¬ (s.bad = true ∨ (k : Int) < 0 ∨ ((comp ts).preds.length : Int) ≤ k ∨ s.preds.getD (k : Int).toNat true = true) := by
    rintro (e | e | e | e)
    ·rw [hb] at e; cases e
    ·omega
    ·omega
    ·rw [Int.toNat_natCast, jg, hp k (jr _) (by omega)] at e; cases e
   unfold yB4; rw [if_neg hnb]; dsimp only; rw [Int.toNat_natCast, hqd]; dsimp only; rw [if_pos ho, yQC]; have hnp : ¬ ((r : Int) < 0 ∨ (sts.length : Int) < 1 ∨ ((comp ts).rows.length : Int) - sts.length < r) := by have : (comp ts).rows.length = (yAe ts).rows.length := rfl; omega
   have hpa : (RR (comp ts) (f + 1)).2 (r : Int) (sts.length : Int) (s.markPred k) = (sts, s') := by show yBM (comp ts) (RR (comp ts) f).1 r sts.length (s.markPred k) = _; unfold yBM; rw [if_neg hnp, Int.toNat_natCast, Int.toNat_natCast]; exact e1
   show (Ex.mk op [] ((RR (comp ts) (f + 1)).2 (r : Int) (sts.length : Int) (s.markPred k)).1 nm cmp txt num, ((RR (comp ts) (f + 1)).2 (r : Int) (sts.length : Int) (s.markPred k)).2) = _; rw [hpa]
  ·rw [if_neg ho] at hl hx hp hc h1 h2 h3 ⊢; rw [if_neg ho]; simp only [jb, decide_eq_true_eq] at hx; obtain ⟨hs0, hnm, hcm0, htx, hnu, _, hga⟩ := hx; obtain rfl : sts = [] := List.length_eq_zero_iff.1 hs0; obtain rfl := ySZ hnm; obtain rfl := ySZ htx; subst hcm0 hnu; obtain ⟨hq, hrw⟩ := hl; have hk := hkp _ hq; have hqd : (comp ts).preds.getD k zp = ⟨op, yBx args (k + 1), 0, 0, ByteArray.empty, 0, ByteArray.empty, 0⟩ := by rw [jg]; show ((yAe ts).preds[k]?).getD zp = _; rw [hq]; rfl
   have hcm : yD7 (pN (yAe ts).wh) (rN ts.length (yAe ts).wh) (s.markPred k) r (r + yAV args) := fun n hn => by refine ⟨(hc n hn).1, fun p p1 p2 => (hmk p ?_).trans ((hc n hn).2 p p1 p2)⟩; have := yGQ (yGx hg) (by omega) hn; have := yBN (wh := (yAe ts).wh) this; omega
   obtain ⟨s', e1, e2, e3, e4⟩ := yN6 args hga (k + 1) r f (s.markPred k) [] hrw h1 (by omega) h3 (by omega) hLm hb (fun p p1 p2 => (hmk p (by omega)).trans (hp p (by omega) (by omega))) hcm; rw [List.nil_append] at e1; refine ⟨s', ?_, e2, e3, e4.rows, fun p p1 p2 => (e4.preds p (by omega) p2).trans (hmk p (by omega))⟩; show yB4 (comp ts) (RR (comp ts) f).1 (RR (comp ts) f).2 k s = _; have hnb : ¬ (s.bad = true ∨ (k : Int) < 0 ∨ ((comp ts).preds.length : Int) ≤ k ∨ s.preds.getD (k : Int).toNat true = true) := by
    rintro (e | e | e | e)
    ·rw [hb] at e; cases e
    ·omega
    ·omega
    ·rw [Int.toNat_natCast, jg, hp k (jr _) (by omega)] at e; cases e
   unfold yB4; rw [if_neg hnb]; dsimp only; rw [Int.toNat_natCast, hqd]; dsimp only; rw [if_neg ho]; have hfo : yAz (RR (comp ts) f).1 (yBx args (k + 1)) (s.markPred k) = (args, s') := e1; rw [hfo]; simp
theorem yN6 : ∀ (l : List Ex), yAQ l = true → ∀ (k r f : Nat) (s : Rst) (acc : List Ex), yA7 (yAe ts) l k r → r + yAV l ≤ (yAe ts).rows.length → k + yAN l ≤ pN (yAe ts).wh r → r + yAV l ≤ rN ts.length (yAe ts).wh r → yAU l ≤ f → yCT (comp ts) s → s.bad = false →
  (∀ p, k ≤ p → p < k + yAN l → s.preds[p]? = some false) → yD7 (pN (yAe ts).wh) (rN ts.length (yAe ts).wh) s r (r + yAV l) →
  ∃ s', (yBx l k).foldl (fun a k => (a.1 ++ [((RR (comp ts) f).1 k a.2).1], ((RR (comp ts) f).1 k a.2).2)) (acc, s) = (acc ++ l, s') ∧ s'.bad = false ∧ yCT (comp ts) s' ∧ yS3 (pN (yAe ts).wh) (rN ts.length (yAe ts).wh) s s' k (yAN l) r (r + yAV l)
 | [], _, k, r, f, s, acc, _, _, _, _, _, hL, hb, _, _ => ⟨s, by simp [yBx], hb, hL, fun _ _ => rfl, fun _ _ _ => rfl⟩
 | x :: l, hx, k, r, f, s, acc, hl, h1, h2, h3, h4, hL, hb, hp, hc => by
  unfold yA7 at hl; unfold yAQ at hx; rw [jb] at hx; unfold yAU at h4; unfold yAN at hp h2 ⊢; unfold yAV at hc h1 h3 ⊢; have hru := yGx hg; have hRup : rN ts.length (yAe ts).wh r ≤ rN ts.length (yAe ts).wh (r + rcX x) := yEb (by omega); have hPup : pN (yAe ts).wh r ≤ pN (yAe ts).wh (r + rcX x) := yBN (by omega); obtain ⟨s1, e1, e2, e3, e4⟩ := yTH x hx.1 k r f s hl.1 (by omega) (by omega) (by omega) (by omega) hL hb (fun p p1 p2 => hp p p1 (by omega)) (fun n hn => hc n ((yBZ hru (Nat.le_add_right _ _) (by omega)).2 (.inl hn))); have hdis : ∀ n, InF (rN ts.length (yAe ts).wh) (r + rcX x) (r + (rcX x + yAV l)) n → ¬ InF (rN ts.length (yAe ts).wh) r (r + rcX x) n := fun n hy hx => yMM hru (Nat.le_add_right _ _) (by omega) h3 h1 hx hy
  have hc1 : yD7 (pN (yAe ts).wh) (rN ts.length (yAe ts).wh) s1 (r + rcX x) (r + rcX x + yAV l) := fun n hn => by rw [Nat.add_assoc] at hn; have h5 := hc n ((yBZ hru (Nat.le_add_right _ _) (by omega)).2 (.inr hn)); have hge := yGQ hru (by omega) hn; have hpn : pN (yAe ts).wh r ≤ pN (yAe ts).wh n := yBN (by omega); refine ⟨(e4.rows n (hdis n hn)).trans h5.1, fun p p1 p2 => (e4.preds p (by omega) fun n' hn' => ?_).trans (h5.2 p p1 p2)⟩; exact yKn (n := n) (fun e => hdis n hn (by rw [e]; exact hn')) p1 p2
  obtain ⟨s2, k1, k2, k3, k4⟩ := yN6 l hx.2 (k + pcX x) (r + rcX x) f s1 (acc ++ [x]) hl.2 (by omega) (by omega) (by omega) (by omega) e3 e2 (fun p p1 p2 => (e4.preds p (by omega) fun n hn => by have hge := yGQ hru (by omega) hn; have : pN (yAe ts).wh r ≤ pN (yAe ts).wh n := yBN hge; omega).trans (hp p (by omega) (by omega))) hc1; refine ⟨s2, ?_, k2, k3, fun n hn => ?_, fun p p1 p2 => ?_⟩
  ·show (yBx l (k + pcX x)).foldl _ (acc ++ [((RR (comp ts) f).1 (k : Int) s).1], ((RR (comp ts) f).1 (k : Int) s).2) = _; rw [e1, k1]; simp
  ·rw [yBZ hru (Nat.le_add_right r (rcX x)) (by omega), not_or] at hn; rw [← Nat.add_assoc] at hn; exact (k4.rows n hn.2).trans (e4.rows n hn.1)
  ·refine (k4.preds p (by omega) fun n hn => p2 n ?_).trans (e4.preds p (by omega) fun n hn => p2 n ?_)
   ·rw [Nat.add_assoc] at hn; exact (yBZ hru (Nat.le_add_right _ _) (by omega)).2 (.inr hn)
   ·exact (yBZ hru (Nat.le_add_right _ _) (by omega)).2 (.inl hn)
theorem yNq : ∀ (l : List St), yBk l = true → ∀ (a f : Nat) (s : Rst) (acc : List St), (∀ (j : Nat) (t : St), l[j]? = some t → (∃ ps, (yAe ts).rows[a + j]? = some { yCx t with ps := ps }) ∧ (yAe ts).wh[a + j]? = some (yFb t)) → a + l.length ≤ (yAe ts).rows.length → a + l.length ≤ rN ts.length (yAe ts).wh a → yBe l ≤ f → yCT (comp ts) s → s.bad = false →
  yD7 (pN (yAe ts).wh) (rN ts.length (yAe ts).wh) s a (a + l.length) →
  ∃ s', (List.range' a l.length).foldl (yAL (comp ts) (RR (comp ts) f).1) (acc, s) = (acc ++ l, s') ∧ s'.bad = false ∧ yCT (comp ts) s' ∧ yS3 (pN (yAe ts).wh) (rN ts.length (yAe ts).wh) s s' 0 0 a (a + l.length)
 | [], _, a, f, s, acc, _, _, _, _, hL, hb, _ => ⟨s, by simp, hb, hL, fun _ _ => rfl, fun _ _ _ => rfl⟩
 | .mk ax tt nm wh :: l, hx, a, f, s, acc, hl, h1, h3, h4, hL, hb, hc => by
  unfold yBk at hx; rw [jb] at hx; have hgw := yTf hx.1; have hgw : yAQ wh = true := hgw; unfold yBe szT at h4; rw [List.length_cons] at h1 h3 hc ⊢; have hru := yGx hg; have hst := yDv hg; obtain ⟨⟨ps, e0⟩, e0'⟩ := hl 0 _ rfl; rw [Nat.add_zero] at e0 e0'; have e0' : (yAe ts).wh[a]? = some wh := e0'; have haN : a < (yAe ts).rows.length := by omega
  obtain ⟨rw0, g1, g2, g3⟩ := hst.row a haN; have hwd : (yAe ts).wh.getD a [] = wh := by rw [jg, e0']; rfl
  rw [hwd] at g2 g3; have hps : rw0.ps = ps := by rw [e0] at g1; injection g1 with g1; rw [← g1]
  have hrd : (comp ts).rows.getD a zr = ⟨ax, tt, nm, yBx wh (pN (yAe ts).wh a)⟩ := by rw [jg]; show ((yAe ts).rows[a]?).getD zr = _; rw [e0, ← hps, g2]; rfl
  have haw : a < (yAe ts).wh.length := by rw [hst.wl]; exact haN
  have hP1 : pN (yAe ts).wh (a + 1) = pN (yAe ts).wh a + yAN wh := by rw [yCN haw, hwd]
  have hR1 : rN ts.length (yAe ts).wh (a + 1) = rN ts.length (yAe ts).wh a + yAV wh := by rw [yGa haw, hwd]
  have hlt := hst.lt a haN; have hRR : rN ts.length (yAe ts).wh (a + 1) ≤ rN ts.length (yAe ts).wh (rN ts.length (yAe ts).wh a) := yEb hlt; have hPP : pN (yAe ts).wh (a + 1) ≤ pN (yAe ts).wh (rN ts.length (yAe ts).wh a) := yBN hlt; have hRN : rN ts.length (yAe ts).wh (a + 1) ≤ (yAe ts).rows.length := hru.top _ haN; have h1c : ∀ n, InF (rN ts.length (yAe ts).wh) a (a + 1) n → InF (rN ts.length (yAe ts).wh) a (a + (l.length + 1)) n := fun n hn => (yBZ hru (Nat.le_succ a) (by omega)).2 (.inl hn)
  have hca := hc a (h1c a (yEQ.2 (.inl rfl))); have hmk : ∀ n, n ≠ a → (s.markRow a).rows[n]? = s.rows[n]? := fun n hne => List.getElem?_set_ne (Ne.symm hne)
  have hLm : yCT (comp ts) (s.markRow a) := ⟨by simp [Rst.markRow, hL.1], hL.2⟩
  have hcm : yD7 (pN (yAe ts).wh) (rN ts.length (yAe ts).wh) (s.markRow a) (rN ts.length (yAe ts).wh a) (rN ts.length (yAe ts).wh a + yAV wh) := fun n hn => by rw [← hR1] at hn; have h5 := hc n (h1c n (yEQ.2 (.inr hn))); have hge := yGQ hru (hru.top _ (by omega)) hn; exact ⟨(hmk n (by omega)).trans h5.1, h5.2⟩
  obtain ⟨s1, e1, e2, e3, e4⟩ := yN6 wh hgw (pN (yAe ts).wh a) (rN ts.length (yAe ts).wh a) f (s.markRow a) [] g3 (by omega) (by omega) (by omega) (by omega) hLm hb (fun p p1 p2 => hca.2 p p1 (by omega)) hcm; rw [List.nil_append] at e1; rw [← hR1] at e4; have hdis : ∀ n, InF (rN ts.length (yAe ts).wh) (a + 1) (a + (l.length + 1)) n → ¬ InF (rN ts.length (yAe ts).wh) a (a + 1) n := fun n hy hx => yMM hru (Nat.le_succ a) (by omega) h3 h1 hx hy
  have hc1 : yD7 (pN (yAe ts).wh) (rN ts.length (yAe ts).wh) s1 (a + 1) (a + 1 + l.length) := fun n hn => by rw [Nat.add_assoc, Nat.add_comm 1] at hn; have h5 := hc n ((yBZ hru (Nat.le_succ a) (by omega)).2 (.inr hn)); have hge := yGQ hru (by omega) hn; have hpn : pN (yAe ts).wh (a + 1) ≤ pN (yAe ts).wh n := yBN hge; have hnd := hdis n hn; rw [yEQ, not_or] at hnd; refine ⟨(e4.rows n hnd.2).trans ((hmk n hnd.1).trans h5.1), fun p p1 p2 => (e4.preds p (by omega) fun n' hn' => ?_).trans (h5.2 p p1 p2)⟩; exact yKn (n := n) (fun e => hnd.2 (by rw [e]; exact hn')) p1 p2
  obtain ⟨s2, k1, k2, k3, k4⟩ := yNq l hx.2 (a + 1) f s1 (acc ++ [.mk ax tt nm wh]) (fun j t ht => by have := hl (j + 1) t (by simpa using ht); rwa [show a + (j + 1) = a + 1 + j by omega] at this) (by omega) (by have := yEb (L0 := ts.length) (wh := (yAe ts).wh) (Nat.le_succ a); omega) (by omega) e3 e2 hc1; refine ⟨s2, ?_, k2, k3, fun n hn => ?_, fun p p1 p2 => ?_⟩
  ·rw [List.range'_succ, List.foldl_cons]; have hrow : yAL (comp ts) (RR (comp ts) f).1 (acc, s) a = (acc ++ [.mk ax tt nm wh], s1) := by unfold yAL; rw [if_neg (by show ¬ s.bad = true; rw [hb]; decide), if_neg (by show ¬ s.rows.getD a true = true; rw [jg, hca.1]; decide)]; dsimp only; rw [hrd]; dsimp only; have hfo : yAz (RR (comp ts) f).1 (yBx wh (pN (yAe ts).wh a)) (s.markRow a) = (wh, s1) := e1; rw [hfo]
   rw [hrow, k1]; simp
  ·rw [yBZ hru (Nat.le_succ a) (show a.succ ≤ a + (l.length + 1) by omega), not_or] at hn; have hna := hn.1; rw [show a.succ = a + 1 from rfl, yEQ, not_or] at hna; have hnb := hn.2; rw [show a + (l.length + 1) = a + 1 + l.length by omega] at hnb; exact (k4.rows n hnb).trans ((e4.rows n hna.2).trans (hmk n hna.1))
  ·refine (k4.preds p (by omega) fun n hn => p2 n ?_).trans (e4.preds p ?_ fun n hn => p2 n (h1c n (yEQ.2 (.inr hn))))
   ·rw [show a + 1 + l.length = a + (l.length + 1) by omega] at hn; exact (yBZ hru (Nat.le_succ a) (by omega)).2 (.inr hn)
   ·have := p2 a (h1c a (yEQ.2 (.inl rfl))); omega
end
end
theorem yKL {ts : List St} (hg : yBk ts = true) (hn : 0 < ts.length) : (yAE (comp ts)).1 = ts ∧ (yAE (comp ts)).2.bad = false := by
 have hst := yDv hg; have hsum := hst.sum; have hpe : yBb (yAe ts) (yAe ts).rows.length = 0 := by unfold yBb; rw [List.drop_of_length_le (by rw [hst.wl]; exact jr _)]; rfl
 have hrn0 : rN ts.length (yAe ts).wh 0 = ts.length := by simp [rN, yAV]
 have hLN : ts.length ≤ (yAe ts).rows.length := by have h1 := yEb (L0 := ts.length) (wh := (yAe ts).wh) (jz (yAe ts).rows.length); rw [← hst.rl, hrn0] at h1; exact h1
 have hrows : (comp ts).rows.length = (yAe ts).rows.length := rfl; have hpreds : (comp ts).preds.length = (yAe ts).preds.length := rfl; have hcl : yD7 (pN (yAe ts).wh) (rN ts.length (yAe ts).wh) (yDh (comp ts)) 0 (0 + ts.length) := fun n hnF => by
  have hlt := yTw (yGx hg) (by omega) hnF; refine ⟨by simp [yDh, hrows, hlt], fun p _ p2 => ?_⟩; have h1 := yBN (wh := (yAe ts).wh) (show n + 1 ≤ (yAe ts).rows.length from hlt); have h2 := hst.pl; have : p < (comp ts).preds.length := by rw [hpreds]; omega
  simp [yDh, this]
 obtain ⟨s', e1, e2, _, _⟩ := yNq hg ts hg 0 ((comp ts).rows.length + (comp ts).preds.length) (yDh (comp ts)) [] (fun j t ht => by rw [Nat.zero_add]; exact hst.own j t ht) (by omega) (by rw [hrn0]; omega) (by rw [hrows, hpreds]; omega) ⟨by simp [yDh], by simp [yDh]⟩ rfl hcl; have hr : yAE (comp ts) = (ts, s') := by unfold yAE; show yBM (comp ts) (RR (comp ts) ((comp ts).rows.length + (comp ts).preds.length)).1 0 (ts.length : Int) (yDh (comp ts)) = _; unfold yBM; rw [if_neg (by omega), Int.toNat_natCast]; rw [List.nil_append] at e1; exact e1
 rw [hr]; exact ⟨rfl, e2⟩
theorem yF6 {ts : List St} (h : okP ts = true) : yA4 (comp ts) = some ts := by
 have hg : gdP ts = true := by unfold okP at h; simp only [jb] at h; exact h.1
 unfold gdP at hg; rw [jb, decide_eq_true_eq] at hg; obtain ⟨h1, h2⟩ := yKL hg.2 hg.1; unfold yA4; rw [if_neg (by rw [h2]; decide), h1, if_pos ⟨h, rfl⟩]
structure yFL (nd : yAc) : Prop where
 args : ∀ k, k < nd.preds.length → ∀ a ∈ (nd.preds.getD k zp).args, (k : Int) < a ∧ a < nd.preds.length
 rows : ∀ k, k < nd.preds.length → 0 ≤ (nd.preds.getD k zp).first ∧ 0 ≤ (nd.preds.getD k zp).count ∧ (nd.preds.getD k zp).first + (nd.preds.getD k zp).count ≤ nd.rows.length
 ps : ∀ k, k < nd.preds.length → ∀ i : Nat, (nd.preds.getD k zp).first ≤ i → (i : Int) < (nd.preds.getD k zp).first + (nd.preds.getD k zp).count → ∀ q ∈ (nd.rows.getD i zr).ps, (k : Int) < q ∧ q < nd.preds.length
theorem yGV : ∀ {l : List Ex} {k : Nat} {a : Int}, a ∈ yBx l k → (k : Int) ≤ a ∧ a < k + yAN l
 | x :: l, k, a, h => by
  have hx := (yBE x).2; unfold yBx at h; unfold yAN; rcases List.mem_cons.1 h with rfl | h
  ·omega
  ·have := yGV h; omega
mutual
/-- predicate k within an expression that lies from k0 on, rows from r0 on -/
theorem ySk {st : Cst} : ∀ {x : Ex} {k0 r0 : Nat}, yCP st x k0 r0 → ∀ k, k0 ≤ k → k < k0 + pcX x → ∃ p, st.preds[k]? = some p ∧ (∀ a ∈ p.args, (k : Int) < a ∧ a < k0 + pcX x) ∧ (p.op = 3 → p.args = []) ∧ (p.op ≠ 3 → p.first = 0 ∧ p.count = 0) ∧ 0 ≤ p.first ∧ 0 ≤ p.count ∧ ((p.first = 0 ∧ p.count = 0) ∨ (r0 : Int) ≤ p.first ∧ p.first + p.count ≤ r0 + rcX x)
 | .mk op args sts nm cmp txt num, k0, r0, h, k, h1, h2 => by
  unfold yCP at h; unfold pcX at h2 ⊢; unfold rcX; by_cases h3 : op = 3
  ·rw [if_pos h3] at h h2 ⊢; rw [if_pos h3]; obtain rfl : k = k0 := by omega
   exact ⟨_, h.1, fun a ha => by simp at ha, fun _ => rfl, fun e => absurd h3 e, by show (0 : Int) ≤ (r0 : Int); omega, by show (0 : Int) ≤ (sts.length : Int); omega, .inr ⟨by show (r0 : Int) ≤ (r0 : Int); omega, by show (r0 : Int) + (sts.length : Int) ≤ r0 + sts.length; omega⟩⟩
  ·rw [if_neg h3] at h h2 ⊢; rw [if_neg h3]; by_cases hk : k = k0
   ·subst hk; refine ⟨_, h.1, fun a ha => ?_, fun e => absurd e h3, fun _ => ⟨rfl, rfl⟩, by show (0 : Int) ≤ 0; omega, by show (0 : Int) ≤ 0; omega, .inl ⟨rfl, rfl⟩⟩; have := yGV (show a ∈ yBx args (k + 1) from ha); omega
   ·obtain ⟨p, e1, e2, e3⟩ := yIk h.2 k (by omega) (by omega); exact ⟨p, e1, fun a ha => by have := e2 a ha; omega, e3⟩
theorem yIk {st : Cst} : ∀ {l : List Ex} {k0 r0 : Nat}, yA7 st l k0 r0 → ∀ k, k0 ≤ k → k < k0 + yAN l → ∃ p, st.preds[k]? = some p ∧ (∀ a ∈ p.args, (k : Int) < a ∧ a < k0 + yAN l) ∧ (p.op = 3 → p.args = []) ∧ (p.op ≠ 3 → p.first = 0 ∧ p.count = 0) ∧ 0 ≤ p.first ∧ 0 ≤ p.count ∧ ((p.first = 0 ∧ p.count = 0) ∨ (r0 : Int) ≤ p.first ∧ p.first + p.count ≤ r0 + yAV l)
 | [], k0, r0, _, k, h1, h2 => by unfold yAN at h2; omega
 | x :: l, k0, r0, h, k, h1, h2 => by
  unfold yA7 at h; unfold yAN at h2 ⊢; unfold yAV; by_cases hk : k < k0 + pcX x
  ·obtain ⟨p, e1, e2, e3, e4, e5, e6, e7⟩ := ySk h.1 k h1 hk; exact ⟨p, e1, fun a ha => by have := e2 a ha; omega, e3, e4, e5, e6, by omega⟩
  ·obtain ⟨p, e1, e2, e3, e4, e5, e6, e7⟩ := yIk h.2 k (by omega) (by omega); exact ⟨p, e1, fun a ha => by have := e2 a ha; omega, e3, e4, e5, e6, by omega⟩
end
theorem yPb {wh : List (List Ex)} : ∀ (n k : Nat), k < pN wh n → ∃ i, i < n ∧ pN wh i ≤ k ∧ k < pN wh (i + 1)
 | 0, k, h => by simp [pN, yAN] at h
 | n + 1, k, h => by
  by_cases hk : k < pN wh n
  ·obtain ⟨i, h1, h2⟩ := yPb n k hk; exact ⟨i, by omega, h2⟩
  ·exact ⟨n, by omega, by omega, h⟩
theorem yCD {ts : List St} (hg : yBk ts = true) {k : Nat} (hk : k < (comp ts).preds.length) : ∃ i, i < (comp ts).rows.length ∧ pN (yAe ts).wh i ≤ k ∧ k < pN (yAe ts).wh (i + 1) ∧
  (∀ a ∈ ((comp ts).preds.getD k zp).args, (k : Int) < a ∧ a < pN (yAe ts).wh (i + 1)) ∧ (((comp ts).preds.getD k zp).op = 3 → ((comp ts).preds.getD k zp).args = []) ∧ (((comp ts).preds.getD k zp).op ≠ 3 → ((comp ts).preds.getD k zp).first = 0 ∧ ((comp ts).preds.getD k zp).count = 0) ∧ 0 ≤ ((comp ts).preds.getD k zp).first ∧ 0 ≤ ((comp ts).preds.getD k zp).count ∧
  ((((comp ts).preds.getD k zp).first = 0 ∧ ((comp ts).preds.getD k zp).count = 0) ∨ (rN ts.length (yAe ts).wh i : Int) ≤ ((comp ts).preds.getD k zp).first ∧ ((comp ts).preds.getD k zp).first + ((comp ts).preds.getD k zp).count ≤ rN ts.length (yAe ts).wh (i + 1)) := by
 have hst := yDv hg; have hpl := hst.pl; have hk : k < (yAe ts).preds.length := hk; obtain ⟨i, h1, h2, h3⟩ := yPb _ k (by rw [hpl] at hk; exact hk); obtain ⟨rw0, _, _, g3⟩ := hst.row i h1; have hiw : i < (yAe ts).wh.length := by rw [hst.wl]; exact h1
 have hP1 := yCN hiw; have hR1 := yGa (L0 := ts.length) hiw; rw [hP1] at h3; obtain ⟨p, e1, e2, e3, e4, e5, e6, e7⟩ := yIk g3 k h2 h3; have hp : (comp ts).preds.getD k zp = p := by rw [jg]; show ((yAe ts).preds[k]?).getD zp = _; rw [e1]; rfl
 refine ⟨i, h1, h2, by omega, ?_⟩; rw [hp, hP1, hR1]; exact ⟨ fun a ha => by have := e2 a ha; omega, e3, e4, e5, e6, by omega⟩
theorem yGp {ts : List St} (hg : yBk ts = true) : yFL (comp ts) := by
 have hst := yDv hg; have hru := yGx hg; have hpl := hst.pl; have hpr : (comp ts).preds.length = (yAe ts).preds.length := rfl; have hrr : (comp ts).rows.length = (yAe ts).rows.length := rfl; have hle : ∀ i, i < (comp ts).rows.length → pN (yAe ts).wh (i + 1) ≤ (comp ts).preds.length := fun i hi => by rw [hpr, hpl]; exact yBN hi
 refine ⟨fun k hk a ha => ?_, fun k hk => ?_, fun k hk j hj1 hj2 q hq => ?_⟩
 ·obtain ⟨i, h1, _, _, h4, _⟩ := yCD hg hk; have := h4 a ha; have := hle i h1; omega
 ·obtain ⟨i, h1, _, _, _, _, h6, h7, h8, h9⟩ := yCD hg hk; have h10 := hru.top (i + 1) (by rw [← hrr]; exact h1); refine ⟨h7, h8, ?_⟩; rcases h9 with e | e
  ·omega
  ·omega
 ·obtain ⟨i, h1, h2, h3, _, _, _, h7, h8, h9⟩ := yCD hg hk; rcases h9 with e | ⟨e1, e2⟩
  ·omega
  ·have hlt := hst.lt i h1; have h10 := hru.top (i + 1) (by rw [← hrr]; exact h1); have hjN : j < (yAe ts).rows.length := by omega
   obtain ⟨rw0, g1, g2, _⟩ := hst.row j hjN; have hrd : (comp ts).rows.getD j zr = rw0 := by rw [jg]; show ((yAe ts).rows[j]?).getD zr = _; rw [g1]; rfl
   rw [hrd, g2] at hq; have h11 := yGV hq; have hjw : j < (yAe ts).wh.length := by rw [hst.wl]; exact hjN
   have h12 := yCN hjw; have h13 := yBN (wh := (yAe ts).wh) (show i + 1 ≤ j by omega); have h14 := hle j hjN; omega
end Gim
namespace Go.Proofs.YtkhejkfjhddobaaGreatDoor
open Go.RowKit Gim
/-! ### a net's predicates as expressions -/
def exN (nd : yAc) : Nat → Nat → Ex
 | 0, _ => zx
 | f + 1, k => .mk (nd.preds.getD k zp).op ((nd.preds.getD k zp).args.map fun a => exN nd f a.toNat)
   ((List.range' (nd.preds.getD k zp).first.toNat (nd.preds.getD k zp).count.toNat).map fun i => .mk (nd.rows.getD i zr).ax (nd.rows.getD i zr).ts (nd.rows.getD i zr).nm ((nd.rows.getD i zr).ps.map fun q => exN nd f q.toNat))
   (nd.preds.getD k zp).attr (nd.preds.getD k zp).cmp (nd.preds.getD k zp).txt (nd.preds.getD k zp).num
theorem yIQ {nd : yAc} (hd : yFL nd) : ∀ (f g k : Nat), k < nd.preds.length → nd.preds.length - k ≤ f → nd.preds.length - k ≤ g → exN nd f k = exN nd g k
 | 0, g, k, hk, hf, _ => by omega
 | f + 1, 0, k, hk, _, hg => by omega
 | f + 1, g + 1, k, hk, hf, hg => by
  unfold exN; have e1 : ((nd.preds.getD k zp).args.map fun a => exN nd f a.toNat) = ((nd.preds.getD k zp).args.map fun a => exN nd g a.toNat) := List.map_congr_left fun a ha => by have := hd.args k hk a ha; exact yIQ hd f g a.toNat (by omega) (by omega) (by omega)
  have e2 : ((List.range' (nd.preds.getD k zp).first.toNat (nd.preds.getD k zp).count.toNat).map fun i => Gim.St.mk (nd.rows.getD i zr).ax (nd.rows.getD i zr).ts (nd.rows.getD i zr).nm ((nd.rows.getD i zr).ps.map fun q => exN nd f q.toNat)) =
    ((List.range' (nd.preds.getD k zp).first.toNat (nd.preds.getD k zp).count.toNat).map fun i => Gim.St.mk (nd.rows.getD i zr).ax (nd.rows.getD i zr).ts (nd.rows.getD i zr).nm ((nd.rows.getD i zr).ps.map fun q => exN nd g q.toNat)) := List.map_congr_left fun i hi => by
   have hi := List.mem_range'_1.1 hi; have h0 := hd.rows k hk; congr 1; refine List.map_congr_left fun q hq => ?_
   have := hd.ps k hk i (by omega) (by omega) q hq; exact yIQ hd f g q.toNat (by omega) (by omega) (by omega)
  rw [e1, e2]
def xN (nd : yAc) (k : Nat) : Ex := exN nd nd.preds.length k
def tN (nd : yAc) (i : Nat) : Gim.St := .mk (nd.rows.getD i zr).ax (nd.rows.getD i zr).ts (nd.rows.getD i zr).nm ((nd.rows.getD i zr).ps.map fun q => xN nd q.toNat)
theorem yMq {nd : yAc} (hd : yFL nd) {k : Nat} (hk : k < nd.preds.length) : xN nd k = .mk (nd.preds.getD k zp).op ((nd.preds.getD k zp).args.map fun a => xN nd a.toNat) ((List.range' (nd.preds.getD k zp).first.toNat (nd.preds.getD k zp).count.toNat).map (tN nd))
  (nd.preds.getD k zp).attr (nd.preds.getD k zp).cmp (nd.preds.getD k zp).txt (nd.preds.getD k zp).num := by unfold xN; rw [yIQ hd _ (nd.preds.length + 1) k hk (by omega) (by omega)]; rfl
end Go.Proofs.YtkhejkfjhddobaaGreatDoor
