/- What a Feed gives of all that lies ahead: plain. -/
import Derived.Test.YtpkdbfnnbbkkiaaDoorFeedNext
namespace Gim
open Go Go.Lib
abbrev Pl := Int × Int × Int × Int
abbrev Ch6 := Int × Pl × Int
/-- the characters taken, what lies behind them, its place -/
def drainF : Nat → List Int → Pl → Bool → List Ch6 × List Int × Pl
  | 0, xs, p, _ => ([], xs, p)
  | n + 1, xs, p, e => if (firstB xs e).2.2 = 0 then
      (((firstB xs e).1, p, (firstB xs e).2.1) :: (drainF n (xs.drop (firstB xs e).2.1.toNat) (behind p (firstB xs e).1 (firstB xs e).2.1) e).1, (drainF n (xs.drop (firstB xs e).2.1.toNat) (behind p (firstB xs e).1 (firstB xs e).2.1) e).2)
    else ([], xs, p)
def drainB (xs : List Int) (p : Pl) (e : Bool) : List Ch6 × List Int × Pl := drainF xs.length xs p e
theorem first_nil (e : Bool) : (firstB [] e).2.2 ≠ 0 := by
  unfold firstB
  rw [if_pos List.length_nil]
  cases e <;> decide
theorem drainF_stop {n : Nat} {xs : List Int} {p : Pl} {e : Bool} (h : (firstB xs e).2.2 ≠ 0) : drainF n xs p e = ([], xs, p) := by
  cases n with
  | zero => rfl
  | succ n => rw [drainF, if_neg h]
theorem drainF_fuel {e : Bool} : ∀ (n m : Nat) (xs : List Int) (p : Pl), xs.length ≤ n → xs.length ≤ m → drainF n xs p e = drainF m xs p e
  | 0, m, xs, p, h1, _ => by
    obtain rfl : xs = [] := List.eq_nil_of_length_eq_zero (by omega)
    rw [drainF_stop (first_nil e), drainF_stop (first_nil e)]
  | n + 1, 0, xs, p, _, h2 => by
    obtain rfl : xs = [] := List.eq_nil_of_length_eq_zero (by omega)
    rw [drainF_stop (first_nil e), drainF_stop (first_nil e)]
  | n + 1, m + 1, xs, p, h1, h2 => by
    by_cases h : (firstB xs e).2.2 = 0
    · have hw := first_have h
      rw [drainF, drainF, if_pos h, if_pos h, drainF_fuel n m (xs.drop (firstB xs e).2.1.toNat) _ (by rw [List.length_drop]; omega) (by rw [List.length_drop]; omega)]
    · rw [drainF_stop h, drainF_stop h]
theorem drainB_stop {xs : List Int} {p : Pl} {e : Bool} (h : (firstB xs e).2.2 ≠ 0) : drainB xs p e = ([], xs, p) := drainF_stop h
theorem drainB_have {xs : List Int} {p : Pl} {e : Bool} (h : (firstB xs e).2.2 = 0) : drainB xs p e =
    (((firstB xs e).1, p, (firstB xs e).2.1) :: (drainB (xs.drop (firstB xs e).2.1.toNat) (behind p (firstB xs e).1 (firstB xs e).2.1) e).1, (drainB (xs.drop (firstB xs e).2.1.toNat) (behind p (firstB xs e).1 (firstB xs e).2.1) e).2) := by
  have hw := first_have h
  unfold drainB
  obtain ⟨n, hn⟩ : ∃ n, xs.length = n + 1 := ⟨xs.length - 1, by omega⟩
  rw [hn, drainF, if_pos h, drainF_fuel n _ _ _ (by rw [List.length_drop]; omega) (Nat.le_refl _)]
/-- it stops where no character is whole -/
theorem drainB_end (e : Bool) : ∀ (n : Nat) (xs : List Int) (p : Pl), xs.length ≤ n → (firstB (drainB xs p e).2.1 e).2.2 ≠ 0
  | n, xs, p, hn => by
    by_cases h : (firstB xs e).2.2 = 0
    · have hw := first_have h
      rw [drainB_have h]
      cases n with
      | zero => omega
      | succ n => exact drainB_end e n _ _ (by rw [List.length_drop]; omega)
    · rw [drainB_stop h]
      exact h
theorem drop_of_drain (e : Bool) : ∀ (n : Nat) (xs : List Int) (p : Pl), xs.length ≤ n → ∃ k, k ≤ xs.length ∧ (drainB xs p e).2.1 = xs.drop k
  | n, xs, p, hn => by
    by_cases h : (firstB xs e).2.2 = 0
    · have hw := first_have h
      rw [drainB_have h]
      cases n with
      | zero => omega
      | succ n =>
        obtain ⟨k, hk, hd⟩ := drop_of_drain e n (xs.drop (firstB xs e).2.1.toNat) (behind p (firstB xs e).1 (firstB xs e).2.1) (by rw [List.length_drop]; omega)
        rw [List.length_drop] at hk
        exact ⟨(firstB xs e).2.1.toNat + k, by omega, by rw [hd, List.drop_drop]⟩
    · rw [drainB_stop h]
      exact ⟨0, Nat.zero_le _, rfl⟩
/-- what comes later changes nothing of what was given -/
theorem drainB_more {ys : List Int} (e : Bool) : ∀ (n : Nat) (xs : List Int) (p : Pl), xs.length ≤ n → (∀ x ∈ xs ++ ys, 0 ≤ x ∧ x ≤ 255) →
    drainB (xs ++ ys) p e = ((drainB xs p false).1 ++ (drainB ((drainB xs p false).2.1 ++ ys) (drainB xs p false).2.2 e).1, (drainB ((drainB xs p false).2.1 ++ ys) (drainB xs p false).2.2 e).2)
  | n, xs, p, hn, hb => by
    by_cases h : (firstB xs false).2.2 = 0
    · have hw := first_have h
      have hm := first_more (ys := ys) hb e (by rw [h]; decide)
      have h2 : (firstB (xs ++ ys) e).2.2 = 0 := by rw [hm]; exact h
      rw [drainB_have h2, drainB_have h, hm, List.drop_append_of_le_length (by omega)]
      cases n with
      | zero => omega
      | succ n =>
        have ih := drainB_more e n (xs.drop (firstB xs false).2.1.toNat) (behind p (firstB xs false).1 (firstB xs false).2.1) (by rw [List.length_drop]; omega) (fun x hx => hb x (by
          rcases List.mem_append.1 hx with h | h
          · exact List.mem_append_left _ (List.mem_of_mem_drop h)
          · exact List.mem_append_right _ h))
        rw [ih]
        rfl
    · rw [drainB_stop h]
      rfl
/-- a place that has room for so many more -/
def Pok (p : Pl) (n : Nat) : Prop := 0 ≤ p.1 ∧ p.1 + n ≤ 1152921504606846976 ∧ 0 ≤ p.2.1 ∧ p.2.1 + n ≤ 1152921504606846976 ∧ 0 ≤ p.2.2.1 ∧ p.2.2.1 + n ≤ 1152921504606846976 ∧ 0 ≤ p.2.2.2 ∧ p.2.2.2 + n ≤ 1152921504606846976
theorem Pok.mono {p : Pl} {n m : Nat} (h : Pok p n) (hm : m ≤ n) : Pok p m := by
  unfold Pok at *
  omega
theorem Pok.next {p : Pl} {xs : List Int} {e : Bool} {k : Nat} (h : Pok p (xs.length + k)) (hh : (firstB xs e).2.2 = 0) : Pok (behind p (firstB xs e).1 (firstB xs e).2.1) ((xs.drop (firstB xs e).2.1.toNat).length + k) := by
  have hw := first_have hh
  rw [List.length_drop]
  unfold Pok behind at *
  generalize (firstB xs e).2.1 = w at *
  generalize (firstB xs e).1 = r at *
  split
  · split
    all_goals
      simp only []
      omega
  · simp only []
    omega
theorem Pok.drain {e : Bool} {k : Nat} : ∀ (n : Nat) (xs : List Int) (p : Pl), xs.length ≤ n → Pok p (xs.length + k) → Pok (drainB xs p e).2.2 ((drainB xs p e).2.1.length + k)
  | n, xs, p, hn, h => by
    by_cases hh : (firstB xs e).2.2 = 0
    · have hw := first_have hh
      rw [drainB_have hh]
      cases n with
      | zero => omega
      | succ n => exact Pok.drain n _ _ (by rw [List.length_drop]; omega) (h.next hh)
    · rw [drainB_stop hh]
      exact h
theorem drain_len (e : Bool) : ∀ (n : Nat) (xs : List Int) (p : Pl), xs.length ≤ n → (drainB xs p e).1.length + (drainB xs p e).2.1.length ≤ xs.length
  | n, xs, p, hn => by
    by_cases h : (firstB xs e).2.2 = 0
    · have hw := first_have h
      rw [drainB_have h]
      cases n with
      | zero => omega
      | succ n =>
        have ih := drain_len e n (xs.drop (firstB xs e).2.1.toNat) (behind p (firstB xs e).1 (firstB xs e).2.1) (by rw [List.length_drop]; omega)
        rw [List.length_drop] at ih
        simp only [List.length_cons]
        omega
    · rw [drainB_stop h]
      simp
theorem first_ended (xs : List Int) : (firstB xs true).2.2 ≠ 1 := by
  by_cases h0 : xs.length = 0
  · unfold firstB; rw [if_pos h0]; decide
  by_cases h13 : gt xs 0 = 13
  · rw [firstB_cr true h0 h13]
    split
    · decide
    · rw [if_pos (.inr rfl)]; decide
  · rw [firstB_ne true h0 h13]
    repeat' split
    all_goals first | (show (2 : Int) ≠ 1; decide) | (show (0 : Int) ≠ 1; decide) | (exfalso; contradiction)
theorem first_open (xs : List Int) : (firstB xs false).2.2 ≠ 3 := by
  by_cases h0 : xs.length = 0
  · unfold firstB; rw [if_pos h0]; decide
  by_cases h13 : gt xs 0 = 13
  · rw [firstB_cr false h0 h13]
    repeat' split
    all_goals decide
  · rw [firstB_ne false h0 h13]
    repeat' split
    all_goals first | (show (2 : Int) ≠ 3; decide) | (show (0 : Int) ≠ 3; decide) | (show (1 : Int) ≠ 3; decide) | (exfalso; contradiction)
theorem first_range (xs : List Int) (e : Bool) : (firstB xs e).2.2 = 0 ∨ (firstB xs e).2.2 = 1 ∨ (firstB xs e).2.2 = 2 ∨ (firstB xs e).2.2 = 3 := by
  have := first_width xs e
  omega
end Gim
