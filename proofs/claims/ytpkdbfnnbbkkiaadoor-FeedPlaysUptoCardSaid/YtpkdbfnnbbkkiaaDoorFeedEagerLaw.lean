/- Byte by byte: widths come to what was taken; what waits is short. Plain. -/
import Derived.Test.YtpkdbfnnbbkkiaaDoorFeedRest
namespace Gim
open Go Go.Lib
/-- the widths' sum -/
def wsum (cs : List Ch6) : Nat := (cs.map (·.2.2.toNat)).sum
theorem wsum_take : ∀ (cs : List Ch6) (i : Nat) (c : Ch6), cs[i]? = some c → wsum (cs.take (i + 1)) = wsum (cs.take i) + c.2.2.toNat
  | [], i, c, h => by simp at h
  | d :: cs, 0, c, h => by
    simp only [List.getElem?_cons_zero, Option.some.injEq] at h
    subst h
    simp [wsum]
  | d :: cs, i + 1, c, h => by
    rw [List.getElem?_cons_succ] at h
    have := wsum_take cs i c h
    simp only [wsum, List.take_succ_cons, List.map_cons, List.sum_cons] at this ⊢
    omega
theorem wsum_le : ∀ (cs : List Ch6) (i : Nat), wsum (cs.take i) ≤ wsum cs
  | [], i => by simp
  | d :: cs, 0 => by simp [wsum]
  | d :: cs, i + 1 => by
    have := wsum_le cs i
    simp only [wsum, List.take_succ_cons, List.map_cons, List.sum_cons] at this ⊢
    omega
theorem behind_byte (p : Pl) (r n : Int) : (behind p r n).1 = p.1 + n := by
  unfold behind
  split <;> rfl
theorem drain_sum (e : Bool) : ∀ (n : Nat) (xs : List Int) (p : Pl), xs.length ≤ n →
    wsum (drainB xs p e).1 ≤ xs.length ∧ (drainB xs p e).2.1 = xs.drop (wsum (drainB xs p e).1) ∧ (drainB xs p e).2.2.1 = p.1 + wsum (drainB xs p e).1 ∧ ∀ c ∈ (drainB xs p e).1, 0 ≤ c.2.2
  | n, xs, p, hn => by
    by_cases h : (firstB xs e).2.2 = 0
    · have hw := first_have h
      rw [drainB_have h]
      cases n with
      | zero => omega
      | succ n =>
        obtain ⟨h1, h2, h3, h4⟩ := drain_sum e n (xs.drop (firstB xs e).2.1.toNat) (behind p (firstB xs e).1 (firstB xs e).2.1) (by rw [List.length_drop]; omega)
        rw [List.length_drop] at h1
        have hc : ∀ l, wsum (((firstB xs e).1, p, (firstB xs e).2.1) :: l) = (firstB xs e).2.1.toNat + wsum l := fun l => by simp [wsum]
        simp only [hc]
        refine ⟨by omega, by rw [h2, List.drop_drop], by rw [h3, behind_byte]; omega, ?_⟩
        intro c hcm
        rcases List.mem_cons.1 hcm with rfl | hcm
        · show 0 ≤ (firstB xs e).2.1
          omega
        · exact h4 c hcm
    · rw [drainB_stop h]
      refine ⟨Nat.zero_le _, rfl, ?_, fun c hc => by cases hc⟩
      show p.1 = p.1 + ((0 : Nat) : Int)
      omega
theorem full_short {xs : List Int} (h : fullB xs = false) : xs.length ≤ 3 := by
  unfold fullB at h
  split at h
  · omega
  · unfold fullN at h
    split at h
    · cases h
    · rename_i h1
      have h5 : firstT (bn xs 0) % 8 ≤ 4 := by
        generalize bn xs 0 = b
        unfold firstT
        repeat' split
        all_goals omega
      omega
/-- what waits: a carriage return, or the beginning of a character -/
theorem wait_law {xs : List Int} (h : (firstB xs false).2.2 = 1) : xs.length ≤ 3 ∧ (xs.length ≠ 0 → gt xs 0 ≠ 13 → (nextB xs 0).2.2.1 = 1) := by
  by_cases h0 : xs.length = 0
  · exact ⟨by omega, fun hh => absurd h0 hh⟩
  by_cases h13 : gt xs 0 = 13
  · refine ⟨?_, fun _ hh => absurd h13 hh⟩
    rw [firstB_cr false h0 h13] at h
    split at h
    · cases h
    · split at h
      · cases h
      · omega
  · rw [firstB_ne false h0 h13] at h
    by_cases hf : fullB xs = false
    · refine ⟨full_short hf, fun _ _ => ?_⟩
      unfold nextB
      rw [if_neg (by omega), if_neg (by omega), Int.toNat_zero, List.drop_zero, if_pos hf]
    · rw [if_neg hf] at h
      split at h <;> cases h
theorem bad_ne {xs : List Int} {e : Bool} (h : (firstB xs e).2.2 = 2) : 1 ≤ xs.length := by
  by_cases h0 : xs.length = 0
  · exfalso
    unfold firstB at h
    rw [if_pos h0] at h
    cases e <;> cases h
  · omega
theorem take_next {b : List Int} {t i : Nat} (hti : t ≤ i) (hi : i < b.length) : (b.drop t).take (i - t) ++ [gt b i] = (b.drop t).take (i + 1 - t) := by
  have e : i + 1 - t = (i - t) + 1 := by omega
  rw [e, List.take_add_one]
  congr 1
  rw [List.getElem?_drop, show t + (i - t) = i by omega]
  simp [gt, hi]
/-- one more byte -/
theorem eager_step {b : List Int} {t i : Nat} {pl : Pl} (hti : t ≤ i) (hi : i < b.length) (hp : pl.1 = t) :
    t + wsum (drainB ((b.drop t).take (i - t) ++ [gt b i]) pl false).1 ≤ i + 1 ∧
    (drainB ((b.drop t).take (i - t) ++ [gt b i]) pl false).2.1 = (b.drop (t + wsum (drainB ((b.drop t).take (i - t) ++ [gt b i]) pl false).1)).take (i + 1 - (t + wsum (drainB ((b.drop t).take (i - t) ++ [gt b i]) pl false).1)) ∧
    (drainB ((b.drop t).take (i - t) ++ [gt b i]) pl false).2.2.1 = ((t + wsum (drainB ((b.drop t).take (i - t) ++ [gt b i]) pl false).1 : Nat) : Int) ∧
    ∀ c ∈ (drainB ((b.drop t).take (i - t) ++ [gt b i]) pl false).1, 0 ≤ c.2.2 := by
  obtain ⟨h1, h2, h3, h4⟩ := drain_sum false _ ((b.drop t).take (i - t) ++ [gt b i]) pl (Nat.le_refl _)
  have hl : ((b.drop t).take (i - t) ++ [gt b i]).length = i + 1 - t := by rw [take_next hti hi, List.length_take, List.length_drop]; omega
  generalize drainB ((b.drop t).take (i - t) ++ [gt b i]) pl false = X at *
  rw [hl] at h1
  refine ⟨by omega, ?_, by rw [h3, hp]; omega, h4⟩
  rw [h2, take_next hti hi, List.drop_take, List.drop_drop]
  congr 1
  omega
end Gim
