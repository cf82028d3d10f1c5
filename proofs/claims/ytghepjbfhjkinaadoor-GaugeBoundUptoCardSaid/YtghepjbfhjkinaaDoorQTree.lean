/- Paths, steps and expressions in memory. -/
import Derived.Test.YtghepjbfhjkinaaDoorNames
namespace Gim
open Go Go.RowKit
mutual
inductive St where
  | mk (ax ts : Int) (nm : ByteArray) (wh : List Ex) : St
inductive Ex where
  | mk (op : Int) (args : List Ex) (sts : List St) (nm : ByteArray) (cmp : Int) (txt : ByteArray) (num : Int) : Ex
end
mutual
/-- the cells from ⟨b, o⟩ on hold the step -/
def FitT (W : World) : St → Nat → Nat → Prop
  | .mk ax ts nm wh, b, o => b < W.heap.size ∧ W.cell? ⟨b, o, none⟩ = some (.int .i64 ax) ∧ W.cell? ⟨b, o + 1, none⟩ = some (.int .i64 ts) ∧ W.cell? ⟨b, o + 2, none⟩ = some (.string nm) ∧
      ∃ a n cap, W.cell? ⟨b, o + 3, none⟩ = some (.slice a n cap) ∧ wh.length = n ∧ n ≤ cap ∧ cap ≤ maxLen ∧ ∀ j, j < n → ∃ b2 o2, a = some ⟨b2, o2, none⟩ ∧ FitXL W wh b2 o2
/-- the cells from ⟨b, o⟩ on hold the expression -/
def FitX (W : World) : Ex → Nat → Nat → Prop
  | .mk op args sts nm cmp txt num, b, o => b < W.heap.size ∧ W.cell? ⟨b, o, none⟩ = some (.int .i64 op) ∧ W.cell? ⟨b, o + 3, none⟩ = some (.string nm) ∧ W.cell? ⟨b, o + 4, none⟩ = some (.int .i64 cmp) ∧ W.cell? ⟨b, o + 5, none⟩ = some (.string txt) ∧ W.cell? ⟨b, o + 6, none⟩ = some (.int .i64 num) ∧
      (∃ a n cap, W.cell? ⟨b, o + 1, none⟩ = some (.slice a n cap) ∧ args.length = n ∧ n ≤ cap ∧ cap ≤ maxLen ∧ ∀ j, j < n → ∃ b2 o2, a = some ⟨b2, o2, none⟩ ∧ FitXL W args b2 o2) ∧
      (∃ a n cap, W.cell? ⟨b, o + 2, none⟩ = some (.slice a n cap) ∧ sts.length = n ∧ n ≤ cap ∧ cap ≤ maxLen ∧ ∀ j, j < n → ∃ b2 o2, a = some ⟨b2, o2, none⟩ ∧ FitTL W sts b2 o2)
def FitXL (W : World) : List Ex → Nat → Nat → Prop
  | [], _, _ => True
  | x :: r, b, o => FitX W x b o ∧ FitXL W r b (o + 7)
def FitTL (W : World) : List St → Nat → Nat → Prop
  | [], _, _ => True
  | t :: r, b, o => FitT W t b o ∧ FitTL W r b (o + 4)
end
/-- the slice holds the expressions -/
structure FitXS (W : World) (xs : List Ex) (a : Option Addr) (n cap : Nat) : Prop where
  len : xs.length = n
  le : n ≤ cap
  cap_le : cap ≤ maxLen
  fit : ∀ j, j < n → ∃ b2 o2, a = some ⟨b2, o2, none⟩ ∧ FitXL W xs b2 o2
/-- the slice holds the steps -/
structure FitTS (W : World) (ts : List St) (a : Option Addr) (n cap : Nat) : Prop where
  len : ts.length = n
  le : n ≤ cap
  cap_le : cap ≤ maxLen
  fit : ∀ j, j < n → ∃ b2 o2, a = some ⟨b2, o2, none⟩ ∧ FitTL W ts b2 o2
mutual
theorem FitT.below {w w' : World} (hb : Below w.heap.size w w') : ∀ {t : St} {b o : Nat}, FitT w t b o → FitT w' t b o
  | .mk ax ts nm wh, b, o, h => by
    unfold FitT at h ⊢
    obtain ⟨h0, h1, h2, h3, a, n, cap, h4, h5, h6, h7, h8⟩ := h
    exact ⟨Nat.lt_of_lt_of_le h0 hb.size, (hb.cell (p := ⟨b, o, none⟩) h0).trans h1, (hb.cell (p := ⟨b, o + 1, none⟩) h0).trans h2, (hb.cell (p := ⟨b, o + 2, none⟩) h0).trans h3, a, n, cap, (hb.cell (p := ⟨b, o + 3, none⟩) h0).trans h4, h5, h6, h7, fun j hj => by
      obtain ⟨b2, o2, e, h⟩ := h8 j hj
      exact ⟨b2, o2, e, FitXL.below hb h⟩⟩
theorem FitX.below {w w' : World} (hb : Below w.heap.size w w') : ∀ {x : Ex} {b o : Nat}, FitX w x b o → FitX w' x b o
  | .mk op args sts nm cmp txt num, b, o, h => by
    unfold FitX at h ⊢
    obtain ⟨h0, h1, h2, h3, h4, h5, ⟨a, n, cap, k1, k2, k3, k4, k5⟩, a2, n2, cap2, j1, j2, j3, j4, j5⟩ := h
    exact ⟨Nat.lt_of_lt_of_le h0 hb.size, (hb.cell (p := ⟨b, o, none⟩) h0).trans h1, (hb.cell (p := ⟨b, o + 3, none⟩) h0).trans h2, (hb.cell (p := ⟨b, o + 4, none⟩) h0).trans h3, (hb.cell (p := ⟨b, o + 5, none⟩) h0).trans h4, (hb.cell (p := ⟨b, o + 6, none⟩) h0).trans h5,
      ⟨a, n, cap, (hb.cell (p := ⟨b, o + 1, none⟩) h0).trans k1, k2, k3, k4, fun j hj => by
        obtain ⟨b2, o2, e, h⟩ := k5 j hj
        exact ⟨b2, o2, e, FitXL.below hb h⟩⟩,
      a2, n2, cap2, (hb.cell (p := ⟨b, o + 2, none⟩) h0).trans j1, j2, j3, j4, fun j hj => by
        obtain ⟨b2, o2, e, h⟩ := j5 j hj
        exact ⟨b2, o2, e, FitTL.below hb h⟩⟩
theorem FitXL.below {w w' : World} (hb : Below w.heap.size w w') : ∀ {xs : List Ex} {b o : Nat}, FitXL w xs b o → FitXL w' xs b o
  | [], _, _, _ => by unfold FitXL; trivial
  | x :: r, b, o, h => by
    unfold FitXL at h ⊢
    exact ⟨FitX.below hb h.1, FitXL.below hb h.2⟩
theorem FitTL.below {w w' : World} (hb : Below w.heap.size w w') : ∀ {ts : List St} {b o : Nat}, FitTL w ts b o → FitTL w' ts b o
  | [], _, _, _ => by unfold FitTL; trivial
  | x :: r, b, o, h => by
    unfold FitTL at h ⊢
    exact ⟨FitT.below hb h.1, FitTL.below hb h.2⟩
end
theorem FitXS.below {w w' : World} {xs : List Ex} {a : Option Addr} {n cap : Nat} (h : FitXS w xs a n cap) (hb : Below w.heap.size w w') : FitXS w' xs a n cap :=
  ⟨h.len, h.le, h.cap_le, fun j hj => by
    obtain ⟨b2, o2, e, k⟩ := h.fit j hj
    exact ⟨b2, o2, e, FitXL.below hb k⟩⟩
theorem FitTS.below {w w' : World} {xs : List St} {a : Option Addr} {n cap : Nat} (h : FitTS w xs a n cap) (hb : Below w.heap.size w w') : FitTS w' xs a n cap :=
  ⟨h.len, h.le, h.cap_le, fun j hj => by
    obtain ⟨b2, o2, e, k⟩ := h.fit j hj
    exact ⟨b2, o2, e, FitTL.below hb k⟩⟩
theorem FitXL.at_ {w : World} : ∀ {xs : List Ex} {b o : Nat} (i : Nat) (hi : i < xs.length), FitXL w xs b o → FitX w xs[i] b (o + i * 7)
  | f :: r, b, o, 0, _, h => by unfold FitXL at h; simpa using h.1
  | f :: r, b, o, i + 1, hi, h => by
    unfold FitXL at h
    have := FitXL.at_ i (by simpa using hi) h.2
    rw [show o + (i + 1) * 7 = o + 7 + i * 7 by omega]
    exact this
theorem FitTL.at_ {w : World} : ∀ {xs : List St} {b o : Nat} (i : Nat) (hi : i < xs.length), FitTL w xs b o → FitT w xs[i] b (o + i * 4)
  | f :: r, b, o, 0, _, h => by unfold FitTL at h; simpa using h.1
  | f :: r, b, o, i + 1, hi, h => by
    unfold FitTL at h
    have := FitTL.at_ i (by simpa using hi) h.2
    rw [show o + (i + 1) * 4 = o + 4 + i * 4 by omega]
    exact this
theorem FitXS.elem {w : World} {xs : List Ex} {a : Option Addr} {n cap : Nat} (h : FitXS w xs a n cap) (i : Nat) (hi : i < n) : ∃ b o op args sts nm cmp txt num a1 n1 c1 a2 n2 c2, a = some ⟨b, o, none⟩ ∧ b < w.heap.size ∧ xs[i]? = some (.mk op args sts nm cmp txt num) ∧
    w.cell? ⟨b, o + i * 7, none⟩ = some (.int .i64 op) ∧ w.cell? ⟨b, o + i * 7 + 1, none⟩ = some (.slice a1 n1 c1) ∧ w.cell? ⟨b, o + i * 7 + 2, none⟩ = some (.slice a2 n2 c2) ∧ w.cell? ⟨b, o + i * 7 + 3, none⟩ = some (.string nm) ∧ w.cell? ⟨b, o + i * 7 + 4, none⟩ = some (.int .i64 cmp) ∧ w.cell? ⟨b, o + i * 7 + 5, none⟩ = some (.string txt) ∧ w.cell? ⟨b, o + i * 7 + 6, none⟩ = some (.int .i64 num) ∧ FitXS w args a1 n1 c1 ∧ FitTS w sts a2 n2 c2 := by
  obtain ⟨b, o, e, k⟩ := h.fit i hi
  have hi' : i < xs.length := by rw [h.len]; exact hi
  have hA := k.at_ i hi'
  rcases hf : xs[i] with ⟨op, args, sts, nm, cmp, txt, num⟩
  rw [hf] at hA
  unfold FitX at hA
  obtain ⟨h0, h1, h2, h3, h4, h5, ⟨a1, n1, c1, k1, k2, k3, k4, k5⟩, a2, n2, c2, j1, j2, j3, j4, j5⟩ := hA
  exact ⟨b, o, op, args, sts, nm, cmp, txt, num, a1, n1, c1, a2, n2, c2, e, h0, by rw [List.getElem?_eq_getElem hi', hf], h1, k1, j1, h2, h3, h4, h5, ⟨k2, k3, k4, k5⟩, j2, j3, j4, j5⟩
theorem FitTS.elem {w : World} {xs : List St} {a : Option Addr} {n cap : Nat} (h : FitTS w xs a n cap) (i : Nat) (hi : i < n) : ∃ b o ax ts nm wh a1 n1 c1, a = some ⟨b, o, none⟩ ∧ b < w.heap.size ∧ xs[i]? = some (.mk ax ts nm wh) ∧
    w.cell? ⟨b, o + i * 4, none⟩ = some (.int .i64 ax) ∧ w.cell? ⟨b, o + i * 4 + 1, none⟩ = some (.int .i64 ts) ∧ w.cell? ⟨b, o + i * 4 + 2, none⟩ = some (.string nm) ∧ w.cell? ⟨b, o + i * 4 + 3, none⟩ = some (.slice a1 n1 c1) ∧ FitXS w wh a1 n1 c1 := by
  obtain ⟨b, o, e, k⟩ := h.fit i hi
  have hi' : i < xs.length := by rw [h.len]; exact hi
  have hA := k.at_ i hi'
  rcases hf : xs[i] with ⟨ax, ts, nm, wh⟩
  rw [hf] at hA
  unfold FitT at hA
  obtain ⟨h0, h1, h2, h3, a1, n1, c1, k1, k2, k3, k4, k5⟩ := hA
  exact ⟨b, o, ax, ts, nm, wh, a1, n1, c1, e, h0, by rw [List.getElem?_eq_getElem hi', hf], h1, h2, h3, k1, k2, k3, k4, k5⟩
/-! ### weights -/
mutual
def wT : St → Nat
  | .mk _ _ nm wh => 1 + nm.size + wXL wh
def wX : Ex → Nat
  | .mk _ args sts nm _ txt _ => 1 + nm.size + txt.size + wXL args + wTL sts
def wXL : List Ex → Nat
  | [] => 0
  | x :: r => wX x + wXL r
def wTL : List St → Nat
  | [] => 0
  | x :: r => wT x + wTL r
end
mutual
def restXL : List Ex → Int → Int
  | [], n => n
  | x :: r, n => if 0 ≤ n then restXL r (restX x n) else n
def restX : Ex → Int → Int
  | .mk _ args sts nm _ txt _, n => restTL sts (restXL args (n - 1 - nm.size - txt.size))
def restTL : List St → Int → Int
  | [], n => n
  | x :: r, n => if 0 ≤ n then restTL r (restT x n) else n
def restT : St → Int → Int
  | .mk _ _ nm wh, n => restXL wh (n - 1 - nm.size)
end
theorem restXL_neg : ∀ (l : List Ex) (n : Int), n < 0 → restXL l n = n
  | [], n, _ => by unfold restXL; rfl
  | x :: r, n, h => by unfold restXL; rw [if_neg (by omega)]
theorem restTL_neg : ∀ (l : List St) (n : Int), n < 0 → restTL l n = n
  | [], n, _ => by unfold restTL; rfl
  | x :: r, n, h => by unfold restTL; rw [if_neg (by omega)]
theorem restXL_app : ∀ (a b : List Ex) (n : Int), restXL (a ++ b) n = restXL b (restXL a n)
  | [], b, n => by simp [restXL]
  | f :: r, b, n => by
    simp only [List.cons_append, restXL]
    split
    · rw [restXL_app r b]
    · rw [restXL_neg b n (by omega)]
theorem restTL_app : ∀ (a b : List St) (n : Int), restTL (a ++ b) n = restTL b (restTL a n)
  | [], b, n => by simp [restTL]
  | f :: r, b, n => by
    simp only [List.cons_append, restTL]
    split
    · rw [restTL_app r b]
    · rw [restTL_neg b n (by omega)]
mutual
theorem restXL_le : ∀ (l : List Ex) (n : Int), n - (wXL l : Int) ≤ restXL l n ∧ restXL l n ≤ n ∧ (0 ≤ restXL l n → restXL l n = n - (wXL l : Int))
  | [], n => by unfold restXL wXL; omega
  | x :: r, n => by
    unfold restXL wXL
    have h1 := restX_le x n
    have h2 := restXL_le r (restX x n)
    split <;> omega
theorem restX_le : ∀ (x : Ex) (n : Int), n - (wX x : Int) ≤ restX x n ∧ restX x n ≤ n ∧ (0 ≤ restX x n → restX x n = n - (wX x : Int))
  | .mk op args sts nm cmp txt num, n => by
    unfold restX wX
    have h1 := restXL_le args (n - 1 - nm.size - txt.size)
    have h2 := restTL_le sts (restXL args (n - 1 - nm.size - txt.size))
    omega
theorem restTL_le : ∀ (l : List St) (n : Int), n - (wTL l : Int) ≤ restTL l n ∧ restTL l n ≤ n ∧ (0 ≤ restTL l n → restTL l n = n - (wTL l : Int))
  | [], n => by unfold restTL wTL; omega
  | x :: r, n => by
    unfold restTL wTL
    have h1 := restT_le x n
    have h2 := restTL_le r (restT x n)
    split <;> omega
theorem restT_le : ∀ (x : St) (n : Int), n - (wT x : Int) ≤ restT x n ∧ restT x n ≤ n ∧ (0 ≤ restT x n → restT x n = n - (wT x : Int))
  | .mk ax ts nm wh, n => by
    unfold restT wT
    have h1 := restXL_le wh (n - 1 - nm.size)
    omega
end
theorem wXL_app : ∀ (a b : List Ex), wXL (a ++ b) = wXL a + wXL b
  | [], b => by simp [wXL]
  | f :: r, b => by simp only [List.cons_append, wXL, wXL_app r b]; omega
theorem wTL_app : ∀ (a b : List St), wTL (a ++ b) = wTL a + wTL b
  | [], b => by simp [wTL]
  | f :: r, b => by simp only [List.cons_append, wTL, wTL_app r b]; omega
theorem wX_mem : ∀ {l : List Ex} {i : Nat} {x : Ex}, l[i]? = some x → wX x ≤ wXL l
  | [], i, x, h => by simp at h
  | y :: r, 0, x, h => by simp at h; subst h; unfold wXL; omega
  | y :: r, i + 1, x, h => by
    have := wX_mem (l := r) (i := i) (by simpa using h)
    unfold wXL
    omega
theorem wT_mem : ∀ {l : List St} {i : Nat} {x : St}, l[i]? = some x → wT x ≤ wTL l
  | [], i, x, h => by simp at h
  | y :: r, 0, x, h => by simp at h; subst h; unfold wTL; omega
  | y :: r, i + 1, x, h => by
    have := wT_mem (l := r) (i := i) (by simpa using h)
    unfold wTL
    omega
theorem wXL_len : ∀ l : List Ex, l.length ≤ wXL l
  | [] => Nat.zero_le _
  | .mk _ _ _ _ _ _ _ :: r => by
    have := wXL_len r
    unfold wXL wX
    simp only [List.length_cons]
    omega
theorem wTL_len : ∀ l : List St, l.length ≤ wTL l
  | [] => Nat.zero_le _
  | .mk _ _ _ _ :: r => by
    have := wTL_len r
    unfold wTL wT
    simp only [List.length_cons]
    omega
theorem sizeX_mem : ∀ {l : List Ex} {i : Nat} {x : Ex}, l[i]? = some x → SizeOf.sizeOf x < SizeOf.sizeOf l
  | [], i, x, h => by simp at h
  | y :: r, 0, x, h => by simp at h; subst h; simp; omega
  | y :: r, i + 1, x, h => by
    have := sizeX_mem (l := r) (i := i) (by simpa using h)
    simp
    omega
theorem sizeT_mem : ∀ {l : List St} {i : Nat} {x : St}, l[i]? = some x → SizeOf.sizeOf x < SizeOf.sizeOf l
  | [], i, x, h => by simp at h
  | y :: r, 0, x, h => by simp at h; subst h; simp; omega
  | y :: r, i + 1, x, h => by
    have := sizeT_mem (l := r) (i := i) (by simpa using h)
    simp
    omega
theorem takeL_next {α : Type} {l : List α} {q : Nat} {x : α} (h : l[q]? = some x) : l.take (q + 1) = l.take q ++ [x] := by
  rw [List.take_add_one, h]
  rfl
/-! ### how many -/
mutual
def szX : Ex → Nat
  | .mk _ args sts _ _ _ _ => 1 + (sts.length + szIn sts) + szXL args
def szXL : List Ex → Nat
  | [] => 0
  | x :: r => szX x + szXL r
/-- the expressions of the steps -/
def szIn : List St → Nat
  | [] => 0
  | t :: r => szT t + szIn r
def szT : St → Nat
  | .mk _ _ _ wh => szXL wh
end
theorem szXL_app : ∀ (a b : List Ex), szXL (a ++ b) = szXL a + szXL b
  | [], b => by simp [szXL]
  | f :: r, b => by simp only [List.cons_append, szXL, szXL_app r b]; omega
theorem szIn_app : ∀ (a b : List St), szIn (a ++ b) = szIn a + szIn b
  | [], b => by simp [szIn]
  | f :: r, b => by simp only [List.cons_append, szIn, szIn_app r b]; omega
mutual
theorem szX_le : ∀ x : Ex, szX x ≤ wX x
  | .mk op args sts nm cmp txt num => by
    unfold szX wX
    have h1 := szXL_le args
    have h2 := szIn_le sts
    omega
theorem szXL_le : ∀ l : List Ex, szXL l ≤ wXL l
  | [] => Nat.le_refl _
  | x :: r => by
    unfold szXL wXL
    have h1 := szX_le x
    have h2 := szXL_le r
    omega
theorem szIn_le : ∀ l : List St, l.length + szIn l ≤ wTL l
  | [] => by unfold szIn wTL; simp
  | x :: r => by
    unfold szIn wTL
    have h1 := szT_le x
    have h2 := szIn_le r
    simp only [List.length_cons]
    omega
theorem szT_le : ∀ x : St, 1 + szT x ≤ wT x
  | .mk ax ts nm wh => by
    unfold szT wT
    have h1 := szXL_le wh
    omega
end
/-! ### how deep -/
def brB (a b : Int) : Bool := (decide (b = 1) && decide (a ≠ 2)) || (decide (a = 0) && decide (b = 0))
def opX : Ex → Int
  | .mk op _ _ _ _ _ _ => op
mutual
def dpX : Ex → Int
  | .mk op args sts _ cmp _ _ => if op = 3 then (if 3 ≤ cmp then dpIn 0 sts + 1 else dpIn 0 sts) else if op = 2 then dpHd args else dpA op 0 args
def dpHd : List Ex → Int
  | [] => 0
  | x :: _ => 1 + dpX x
def dpA : Int → Int → List Ex → Int
  | _, n, [] => n
  | op, n, x :: r => dpA op (max n (if brB op (opX x) = true then dpX x + 1 else dpX x)) r
def dpIn : Int → List St → Int
  | n, [] => n
  | n, t :: r => dpIn (dpT n t) r
def dpT : Int → St → Int
  | n, .mk _ _ _ wh => dpXL n wh
def dpXL : Int → List Ex → Int
  | n, [] => n
  | n, x :: r => dpXL (max n (1 + dpX x)) r
end
theorem dpA_app (op : Int) : ∀ (n : Int) (a b : List Ex), dpA op n (a ++ b) = dpA op (dpA op n a) b
  | n, [], b => by simp [dpA]
  | n, f :: r, b => by simp only [List.cons_append, dpA, dpA_app op _ r b]
theorem dpXL_app : ∀ (n : Int) (a b : List Ex), dpXL n (a ++ b) = dpXL (dpXL n a) b
  | n, [], b => by simp [dpXL]
  | n, f :: r, b => by simp only [List.cons_append, dpXL, dpXL_app _ r b]
theorem dpIn_app : ∀ (n : Int) (a b : List St), dpIn n (a ++ b) = dpIn (dpIn n a) b
  | n, [], b => by simp [dpIn]
  | n, f :: r, b => by simp only [List.cons_append, dpIn, dpIn_app _ r b]
mutual
theorem dpX_le : ∀ x : Ex, 0 ≤ dpX x ∧ dpX x ≤ 2 * (wX x : Int)
  | .mk op args sts nm cmp txt num => by
    unfold dpX wX
    have h1 := dpIn_le 0 sts (by omega)
    have h2 := dpHd_le args
    have h3 := dpA_le op 0 args (by omega)
    split
    · split <;> omega
    · split <;> omega
theorem dpHd_le : ∀ l : List Ex, 0 ≤ dpHd l ∧ dpHd l ≤ 1 + 2 * (wXL l : Int)
  | [] => by unfold dpHd wXL; omega
  | x :: r => by
    unfold dpHd wXL
    have h1 := dpX_le x
    omega
theorem dpA_le (op : Int) : ∀ (n : Int) (l : List Ex), 0 ≤ n → n ≤ dpA op n l ∧ dpA op n l ≤ max n (1 + 2 * (wXL l : Int))
  | n, [], _ => by unfold dpA wXL; omega
  | n, x :: r, hn => by
    unfold dpA wXL
    have h1 := dpX_le x
    have h4 : 1 ≤ wX x := by cases x; unfold wX; omega
    have h5 : 0 ≤ (if brB op (opX x) = true then dpX x + 1 else dpX x) ∧ (if brB op (opX x) = true then dpX x + 1 else dpX x) ≤ dpX x + 1 := by split <;> omega
    generalize (if brB op (opX x) = true then dpX x + 1 else dpX x) = v at h5 ⊢
    have h2 := dpA_le op (max n v) r (by omega)
    omega
theorem dpIn_le : ∀ (n : Int) (l : List St), 0 ≤ n → n ≤ dpIn n l ∧ dpIn n l ≤ max n (2 * (wTL l : Int))
  | n, [], _ => by unfold dpIn wTL; omega
  | n, x :: r, hn => by
    unfold dpIn wTL
    have h1 := dpT_le n x hn
    have h2 := dpIn_le (dpT n x) r (by omega)
    omega
theorem dpT_le : ∀ (n : Int) (x : St), 0 ≤ n → n ≤ dpT n x ∧ dpT n x ≤ max n (2 * (wT x : Int))
  | n, .mk ax ts nm wh, hn => by
    unfold dpT wT
    have h1 := dpXL_le n wh hn
    omega
theorem dpXL_le : ∀ (n : Int) (l : List Ex), 0 ≤ n → n ≤ dpXL n l ∧ dpXL n l ≤ max n (1 + 2 * (wXL l : Int))
  | n, [], _ => by unfold dpXL wXL; omega
  | n, x :: r, hn => by
    unfold dpXL wXL
    have h1 := dpX_le x
    have h4 : 1 ≤ wX x := by cases x; unfold wX; omega
    have h2 := dpXL_le (max n (1 + dpX x)) r (by omega)
    omega
end
end Gim
