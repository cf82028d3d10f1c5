/- Formulas in memory. -/
import Derived.Test.YtmdanfeilgeoaaaKCmp
namespace Gim
open Go Go.RowKit
inductive Fm where
  | mk (op v x : Int) (args : List Fm)
mutual
/-- the cells from ⟨b, o⟩ on hold the formula -/
def FitA (W : World) : Fm → Nat → Nat → Prop
  | .mk op v x gs, b, o => b < W.heap.size ∧ W.cell? ⟨b, o, none⟩ = some (.int .i64 op) ∧ W.cell? ⟨b, o + 1, none⟩ = some (.int .i64 v) ∧ W.cell? ⟨b, o + 2, none⟩ = some (.int .i64 x) ∧
      ∃ a n cap, W.cell? ⟨b, o + 3, none⟩ = some (.slice a n cap) ∧ gs.length = n ∧ n ≤ cap ∧ cap ≤ maxLen ∧ ∀ j, j < n → ∃ b2 o2, a = some ⟨b2, o2, none⟩ ∧ FitL W gs b2 o2
def FitL (W : World) : List Fm → Nat → Nat → Prop
  | [], _, _ => True
  | f :: r, b, o => FitA W f b o ∧ FitL W r b (o + 4)
end
/-- the slice holds the formulas -/
structure FitS (W : World) (gs : List Fm) (a : Option Addr) (n cap : Nat) : Prop where
  len : gs.length = n
  le : n ≤ cap
  cap_le : cap ≤ maxLen
  fit : ∀ j, j < n → ∃ b2 o2, a = some ⟨b2, o2, none⟩ ∧ FitL W gs b2 o2
mutual
theorem FitA.below {w w' : World} (hb : Below w.heap.size w w') : ∀ {f : Fm} {b o : Nat}, FitA w f b o → FitA w' f b o
  | .mk op v x gs, b, o, h => by
    unfold FitA at h ⊢
    obtain ⟨h0, h1, h2, h3, a, n, cap, h4, h5, h6, h7, h8⟩ := h
    exact ⟨Nat.lt_of_lt_of_le h0 hb.size, (hb.cell (p := ⟨b, o, none⟩) h0).trans h1, (hb.cell (p := ⟨b, o + 1, none⟩) h0).trans h2, (hb.cell (p := ⟨b, o + 2, none⟩) h0).trans h3, a, n, cap, (hb.cell (p := ⟨b, o + 3, none⟩) h0).trans h4, h5, h6, h7, fun j hj => by
      obtain ⟨b2, o2, e, h⟩ := h8 j hj
      exact ⟨b2, o2, e, FitL.below hb h⟩⟩
theorem FitL.below {w w' : World} (hb : Below w.heap.size w w') : ∀ {gs : List Fm} {b o : Nat}, FitL w gs b o → FitL w' gs b o
  | [], _, _, _ => by unfold FitL; trivial
  | f :: r, b, o, h => by
    unfold FitL at h ⊢
    exact ⟨FitA.below hb h.1, FitL.below hb h.2⟩
end
theorem FitS.below {w w' : World} {gs : List Fm} {a : Option Addr} {n cap : Nat} (h : FitS w gs a n cap) (hb : Below w.heap.size w w') : FitS w' gs a n cap :=
  ⟨h.len, h.le, h.cap_le, fun j hj => by
    obtain ⟨b2, o2, e, k⟩ := h.fit j hj
    exact ⟨b2, o2, e, FitL.below hb k⟩⟩
theorem FitL.at_ {w : World} : ∀ {gs : List Fm} {b o : Nat} (i : Nat) (hi : i < gs.length), FitL w gs b o → FitA w gs[i] b (o + i * 4)
  | f :: r, b, o, 0, _, h => by unfold FitL at h; simpa using h.1
  | f :: r, b, o, i + 1, hi, h => by
    unfold FitL at h
    have := FitL.at_ i (by simpa using hi) h.2
    rw [show o + (i + 1) * 4 = o + 4 + i * 4 by omega]
    exact this
/-- an element's cells -/
theorem FitS.elem {w : World} {gs : List Fm} {a : Option Addr} {n cap : Nat} (h : FitS w gs a n cap) (i : Nat) (hi : i < n) : ∃ b o op v x bs a2 n2 cap2, a = some ⟨b, o, none⟩ ∧ b < w.heap.size ∧ gs[i]? = some (.mk op v x bs) ∧
    w.cell? ⟨b, o + i * 4, none⟩ = some (.int .i64 op) ∧ w.cell? ⟨b, o + i * 4 + 1, none⟩ = some (.int .i64 v) ∧ w.cell? ⟨b, o + i * 4 + 2, none⟩ = some (.int .i64 x) ∧ w.cell? ⟨b, o + i * 4 + 3, none⟩ = some (.slice a2 n2 cap2) ∧ FitS w bs a2 n2 cap2 := by
  obtain ⟨b, o, e, k⟩ := h.fit i hi
  have hi' : i < gs.length := by rw [h.len]; exact hi
  have hA := k.at_ i hi'
  rcases hf : gs[i] with ⟨op, v, x, bs⟩
  rw [hf] at hA
  unfold FitA at hA
  obtain ⟨h0, h1, h2, h3, a2, n2, cap2, h4, h5, h6, h7, h8⟩ := hA
  exact ⟨b, o, op, v, x, bs, a2, n2, cap2, e, h0, by rw [List.getElem?_eq_getElem hi', hf], h1, h2, h3, h4, h5, h6, h7, h8⟩
/-- the node alone is one of a formula's -/
def okB (op v x : Int) (n : Nat) : Bool :=
  if op = 0 then decide (0 ≤ v ∧ v ≤ 2) && decide (x = 0) && decide (n = 0)
  else if op = 1 then decide (v = 0) && decide (0 ≤ x) && decide (x < 65536) && decide (n = 0)
  else if op = 2 ∨ op = 3 then decide (v = 0) && decide (x = 0)
  else if op = 4 then decide (v = 0) && decide (x = 0) && decide (n = 1)
  else false
mutual
def isB : Fm → Bool
  | .mk op v x gs => okB op v x gs.length && isL gs
def isL : List Fm → Bool
  | [] => true
  | f :: r => isB f && isL r
end
theorem isL_snoc : ∀ (gs : List Fm) (f : Fm), isL (gs ++ [f]) = (isL gs && isB f)
  | [], f => by simp [isL]
  | g :: r, f => by simp only [List.cons_append, isL, isL_snoc r f, Bool.and_assoc]
theorem isL_app : ∀ (gs bs : List Fm), isL (gs ++ bs) = (isL gs && isL bs)
  | [], f => by simp [isL]
  | g :: r, f => by simp only [List.cons_append, isL, isL_app r f, Bool.and_assoc]
def chkE (f : Fm) : Int := if isB f = true then 0 else 6
theorem mem_small {gs : List Fm} {op v x : Int} {i : Nat} {f : Fm} (h : gs[i]? = some f) : sizeOf f < sizeOf (Fm.mk op v x gs) := by
  have hm := List.mem_of_getElem? h
  have := List.sizeOf_lt_of_mem hm
  simp
  omega
end Gim
