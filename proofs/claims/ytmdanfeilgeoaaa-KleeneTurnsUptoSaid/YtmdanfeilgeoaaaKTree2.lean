/- What gimletlaw14.KleeneChecks asks of a formula: its size, its variables. Plain laws. -/
import Derived.Test.YtmdanfeilgeoaaaKTree
namespace Gim
open Go Go.RowKit
mutual
def szF : Fm → Nat
  | .mk _ _ _ gs => 1 + szL gs
def szL : List Fm → Nat
  | [] => 0
  | f :: r => szF f + szL r
end
mutual
def varsF : Fm → List Int
  | .mk op _ x gs => (if op = 1 then [x] else []) ++ varsL gs
def varsL : List Fm → List Int
  | [] => []
  | f :: r => varsF f ++ varsL r
end
mutual
def grtF : Fm → Int
  | .mk op _ x gs => grtL (if op = 1 then x else -1) gs
def grtL : Int → List Fm → Int
  | a, [] => a
  | a, f :: r => grtL (max a (grtF f)) r
end
mutual
def hldF (k : Int) : Fm → Bool
  | .mk op _ x gs => (decide (op = 1) && decide (x = k)) || hldL k gs
def hldL (k : Int) : List Fm → Bool
  | [] => false
  | f :: r => hldF k f || hldL k r
end
mutual
def restF : Fm → Int → Int
  | .mk _ _ _ gs, n => restL gs (n - 1)
def restL : List Fm → Int → Int
  | [], n => n
  | f :: r, n => if 0 ≤ n then restL r (restF f n) else n
end
theorem szL_app : ∀ (a b : List Fm), szL (a ++ b) = szL a + szL b
  | [], b => by simp [szL]
  | f :: r, b => by simp only [List.cons_append, szL, szL_app r b]; omega
theorem varsL_app : ∀ (a b : List Fm), varsL (a ++ b) = varsL a ++ varsL b
  | [], b => by simp [varsL]
  | f :: r, b => by simp only [List.cons_append, varsL, varsL_app r b, List.append_assoc]
theorem grtL_app : ∀ (c : Int) (a b : List Fm), grtL c (a ++ b) = grtL (grtL c a) b
  | c, [], b => by simp [grtL]
  | c, f :: r, b => by simp only [List.cons_append, grtL, grtL_app _ r b]
theorem hldL_app (k : Int) : ∀ (a b : List Fm), hldL k (a ++ b) = (hldL k a || hldL k b)
  | [], b => by simp [hldL]
  | f :: r, b => by simp only [List.cons_append, hldL, hldL_app k r b, Bool.or_assoc]
theorem restL_neg : ∀ (a : List Fm) (n : Int), n < 0 → restL a n = n
  | [], n, _ => rfl
  | f :: r, n, h => by unfold restL; rw [if_neg (by omega)]
theorem restL_app : ∀ (a b : List Fm) (n : Int), restL (a ++ b) n = restL b (restL a n)
  | [], b, n => by simp [restL]
  | f :: r, b, n => by
    simp only [List.cons_append, restL]
    split
    · exact restL_app r b _
    · rename_i h
      exact (restL_neg b n (by omega)).symm
mutual
theorem restF_le : ∀ (f : Fm) (n : Int), 0 ≤ n → -1 ≤ restF f n ∧ restF f n ≤ n ∧ (0 ≤ restF f n → restF f n = n - (szF f : Int))
  | .mk op v x gs, n, hn => by
    unfold restF szF
    have := restL_le gs (n - 1) (by omega)
    omega
theorem restL_le : ∀ (gs : List Fm) (n : Int), -1 ≤ n → -1 ≤ restL gs n ∧ restL gs n ≤ n ∧ (0 ≤ restL gs n → restL gs n = n - (szL gs : Int))
  | [], n, hn => by unfold restL szL; omega
  | f :: r, n, hn => by
    unfold restL szL
    split
    · rename_i h
      have h1 := restF_le f n h
      have h2 := restL_le r (restF f n) h1.1
      omega
    · omega
end
theorem sz_small {f : Fm} (h : ¬ restF f 65536 < 0) : szF f ≤ 65536 := by
  have := restF_le f 65536 (by omega)
  omega
theorem mem_app_iff {a b : List Int} {k : Int} : k ∈ a ++ b ↔ k ∈ a ∨ k ∈ b := List.mem_append
mutual
theorem hldF_iff (k : Int) : ∀ f : Fm, hldF k f = true ↔ k ∈ varsF f
  | .mk op v x gs => by
    unfold hldF varsF
    rw [List.mem_append, ← hldL_iff k gs]
    have hc : (x = k ∨ hldL k gs = true) ↔ (k = x ∨ hldL k gs = true) := ⟨fun h => h.imp Eq.symm id, fun h => h.imp Eq.symm id⟩
    by_cases h : op = 1
    · simpa [h] using hc
    · simp [h]
theorem hldL_iff (k : Int) : ∀ gs : List Fm, hldL k gs = true ↔ k ∈ varsL gs
  | [] => by simp [hldL, varsL]
  | f :: r => by
    unfold hldL varsL
    rw [List.mem_append, ← hldF_iff k f, ← hldL_iff k r]
    simp
end
mutual
theorem grtF_ge : ∀ (f : Fm), (∀ y ∈ varsF f, y ≤ grtF f) ∧ -1 ≤ grtF f ∨ ∃ y ∈ varsF f, y < 0
  | .mk op v x gs => by
    unfold grtF varsF
    by_cases hneg : ∃ y ∈ (if op = 1 then [x] else []) ++ varsL gs, y < 0
    · exact .inr hneg
    · left
      have hall : ∀ y ∈ varsL gs, 0 ≤ y := fun y hy => by
        refine Int.not_lt.1 fun h => hneg ⟨y, by simp [hy], h⟩
      have := grtL_ge (if op = 1 then x else -1) gs hall
      refine ⟨fun y hy => ?_, ?_⟩
      · rcases List.mem_append.1 hy with h | h
        · by_cases ho : op = 1
          · rw [if_pos ho] at h this ⊢
            simp at h
            subst h
            exact this.1
          · rw [if_neg ho] at h
            cases h
        · exact this.2 y h
      · by_cases ho : op = 1
        · rw [if_pos ho] at this ⊢
          have hx : 0 ≤ x := Int.not_lt.1 fun h => hneg ⟨x, by simp [ho], h⟩
          have := this.1
          omega
        · rw [if_neg ho] at this ⊢
          exact this.1
theorem grtL_ge : ∀ (a : Int) (gs : List Fm), (∀ y ∈ varsL gs, 0 ≤ y) → a ≤ grtL a gs ∧ ∀ y ∈ varsL gs, y ≤ grtL a gs
  | a, [], _ => by unfold grtL varsL; exact ⟨Int.le_refl _, fun y h => by cases h⟩
  | a, f :: r, h => by
    unfold grtL varsL
    unfold varsL at h
    have h1 := grtL_ge (max a (grtF f)) r (fun y hy => h y (by simp [hy]))
    have hm : a ≤ max a (grtF f) ∧ grtF f ≤ max a (grtF f) := by omega
    refine ⟨by omega, fun y hy => ?_⟩
    rcases List.mem_append.1 hy with hy | hy
    · rcases grtF_ge f with hf | ⟨z, hz, hz0⟩
      · have := hf.1 y hy
        omega
      · have := h z (by simp [hz])
        omega
    · exact h1.2 y hy
end
/-- the variables that the document lists: those from 0 on that stand in the formula -/
def refVars (f : Fm) : List Int := ((List.range (grtF f + 1).toNat).map (fun i : Nat => (i : Int))).filter (fun k => hldF k f)
theorem szL_take_le (gs : List Fm) (q : Nat) : szL (gs.take q) ≤ szL gs := by
  have := szL_app (gs.take q) (gs.drop q)
  rw [List.take_append_drop] at this
  omega
theorem take_next {gs : List Fm} {q : Nat} {f : Fm} (h : gs[q]? = some f) : gs.take (q + 1) = gs.take q ++ [f] := by
  rw [List.take_add_one, h]
  rfl
theorem fm_len : ∀ gs : List Fm, gs.length ≤ szL gs
  | [] => Nat.zero_le _
  | .mk _ _ _ hs :: r => by
    have := fm_len r
    simp only [List.length_cons, szL, szF]
    omega
end Gim
