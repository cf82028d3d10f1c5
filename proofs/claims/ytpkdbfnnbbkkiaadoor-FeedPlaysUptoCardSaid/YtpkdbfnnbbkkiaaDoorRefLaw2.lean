/- The document's characters, places and texts are Go's: plain. -/
import Derived.Test.YtpkdbfnnbbkkiaaDoorTakesLaw
import Derived.Test.YtpkdbfnnbbkkiaaDoorPlacesLaw
import Derived.Lib.MapLaws
namespace Gim
open Go Go.Lib
theorem bn_drop (xs : List Int) (p j : Nat) : bn (xs.drop p) j = bn xs (p + j) := by
  unfold bn gt
  rw [List.getElem?_drop]
theorem fitR_drop (xs : List Int) (p j : Nat) : fitR (xs.drop p) 0 j = fitR xs p j := by
  unfold fitR
  rw [bn_drop, bn_drop, Nat.zero_add, Nat.add_zero]
theorem frF_drop (xs : List Int) (p n : Nat) (hp : p ≤ xs.length) : ∀ f k, frF (xs.drop p) 0 n f k = frF xs p n f k
  | 0, _ => rfl
  | f + 1, k => by
    rw [frF, frF, fitR_drop, frF_drop xs p n hp f (k + 1), List.length_drop, Nat.zero_add]
    by_cases h : k < n ∧ p + k < xs.length ∧ fitR xs p k = true
    · rw [if_pos h, if_pos ⟨h.1, by omega, h.2.2⟩]
    · rw [if_neg h, if_neg (fun k => h ⟨k.1, by omega, k.2.2⟩)]
theorem frontB_drop {xs : List Int} {p : Nat} (h : p ≤ xs.length) : frontB (xs.drop p) 0 = frontB xs p := by
  unfold frontB
  rw [List.length_drop, bn_drop, Nat.add_zero]
  by_cases hp : xs.length ≤ p
  · rw [if_pos hp, if_pos (by omega)]
  · rw [if_neg hp, if_neg (by omega)]
    unfold frK
    rw [frF_drop xs p _ h]
/-- where a beginning ends -/
structure Stops (t : List Int) (n k : Nat) : Prop where
  lo : 1 ≤ k
  hi : k ≤ n
  fit : ∀ j, 1 ≤ j → j < k → j < t.length ∧ fitR t 0 j = true
  stop : ¬ (k < n ∧ k < t.length ∧ fitR t 0 k = true)
theorem frF_stops (t : List Int) (n : Nat) : ∀ f k, 1 ≤ k → k ≤ n → n ≤ k + f → (∀ j, 1 ≤ j → j < k → j < t.length ∧ fitR t 0 j = true) → Stops t n (frF t 0 n f k)
  | 0, k, h1, h2, h3, hf => show Stops t n k from ⟨h1, h2, hf, by omega⟩
  | f + 1, k, h1, h2, h3, hf => by
    rw [frF]
    by_cases h : k < n ∧ 0 + k < t.length ∧ fitR t 0 k = true
    · rw [if_pos h]
      refine frF_stops t n f (k + 1) (by omega) (by omega) (by omega) (fun j hj1 hj2 => ?_)
      by_cases hjk : j = k
      · rw [hjk]; exact ⟨by omega, h.2.2⟩
      · exact hf j hj1 (by omega)
    · rw [if_neg h]
      exact ⟨h1, h2, hf, fun k => h ⟨k.1, by omega, k.2.2⟩⟩
theorem frK_stops {t : List Int} {n : Nat} (h : 1 ≤ n) : Stops t n (frK t 0 n 1) := frF_stops t n _ 1 (by omega) h (by omega) (by omega)
theorem Stops.eq {t : List Int} {n k r : Nat} (h : Stops t n k) (g : Stops t n r) : k = r := by
  rcases Nat.lt_trichotomy k r with hl | hl | hl
  · have := g.fit k h.lo hl
    exact absurd ⟨by have := g.hi; omega, this.1, this.2⟩ h.stop
  · exact hl
  · have := h.fit r g.lo hl
    exact absurd ⟨by have := h.hi; omega, this.1, this.2⟩ g.stop
theorem fitR_take {t : List Int} {m j : Nat} (h0 : 0 < m) (h : j < m) : fitR (t.take m) 0 j = fitR t 0 j := by
  unfold fitR
  rw [Nat.zero_add, bn_take h, bn_take h0]
theorem frontB_zero {t : List Int} {k : Nat} (h : frontB t 0 = (k, 0)) : k = 0 := by
  unfold frontB at h
  repeat' split at h
  all_goals
    simp only [Prod.mk.injEq] at h
    omega
theorem frontB_some {t : List Int} {k n : Nat} (h : frontB t 0 = (k, n)) (hn : n ≠ 0) : szR (bn t 0) = n ∧ 1 ≤ t.length ∧ Stops t n k := by
  have hz := frontB_snd h hn
  by_cases hl : t.length ≤ 0
  · rw [frontB, if_pos hl] at h
    simp only [Prod.mk.injEq] at h
    omega
  · rw [frontB, if_neg hl, if_neg (by omega), hz] at h
    simp only [Prod.mk.injEq] at h
    exact ⟨hz, by omega, h.1 ▸ frK_stops (by omega)⟩
theorem frontB_of {t : List Int} {k n : Nat} (hl : 1 ≤ t.length) (hz : szR (bn t 0) = n) (hn : n ≠ 0) (hs : Stops t n k) : frontB t 0 = (k, n) := by
  rw [frontB, if_neg (by omega), hz, if_neg hn, (frK_stops (by omega)).eq hs]
theorem frontB_take {t : List Int} {k n m : Nat} (h : frontB t 0 = (k, n)) (hm : 1 ≤ m) (hl : m ≤ t.length) : frontB (t.take m) 0 = (min k m, n) := by
  have hlen : (t.take m).length = m := by rw [List.length_take]; omega
  by_cases hn : n = 0
  · subst hn
    obtain rfl := frontB_zero h
    have hz : szR (bn t 0) = 0 := by
      by_cases h0 : szR (bn t 0) = 0
      · exact h0
      · rw [frontB, if_neg (by omega), if_neg h0] at h
        simp only [Prod.mk.injEq] at h
        omega
    rw [frontB, if_neg (by omega), bn_take (by omega), if_pos hz, Nat.zero_min]
  · obtain ⟨hz, _, hs⟩ := frontB_some h hn
    refine frontB_of (by omega) (by rw [bn_take (by omega)]; exact hz) hn ⟨by have := hs.lo; omega, by have := hs.hi; omega, fun j h1 h2 => ?_, fun hh => ?_⟩
    · rw [hlen, fitR_take (by omega) (by omega)]
      exact ⟨by omega, (hs.fit j h1 (by omega)).2⟩
    · rw [hlen] at hh
      have hk : min k m = k := by omega
      rw [hk] at hh
      rw [fitR_take (by omega) (by omega)] at hh
      exact hs.stop ⟨hh.1, by omega, hh.2.2⟩
theorem runF_eq {xs : List Int} {p k : Nat} : ∀ f n, n ≤ k → xs.length ≤ p + n + f → (∀ j, n ≤ j → j < k → p + j < xs.length ∧ beginsB ((xs.drop p).take (j + 1)) = true) → ¬ (p + k < xs.length ∧ beginsB ((xs.drop p).take (k + 1)) = true) → runF xs p f n = k
  | 0, n, h1, h2, h3, _ => by
    rw [runF]
    by_cases hk : n = k
    · exact hk
    · have := (h3 n (Nat.le_refl _) (by omega)).1
      omega
  | f + 1, n, h1, h2, h3, h4 => by
    by_cases hk : n = k
    · subst hk; exact runF_end _ h4
    · rw [runF, if_pos (h3 n (Nat.le_refl _) (by omega))]
      exact runF_eq f (n + 1) (by omega) (by omega) (fun j hj1 hj2 => h3 j (by omega) hj2) h4
theorem bn_lt {xs : List Int} (h : ∀ x ∈ xs, 0 ≤ x ∧ x ≤ 255) (j : Nat) : bn xs j < 256 := by
  unfold bn gt
  cases hj : xs[j]? with
  | none => simp
  | some x =>
    have := h x (List.mem_of_getElem? hj)
    simp only [Option.getD_some]
    omega
/-- the longest piece that can go on is what Front finds -/
theorem piece_front {xs : List Int} {p k n : Nat} (hb : ∀ x ∈ xs, 0 ≤ x ∧ x ≤ 255) (hp : p < xs.length) (h : frontB xs p = (k, n)) (hno : k ≠ n ∨ n = 0) : pieceN xs p = k := by
  rw [← frontB_drop (by omega)] at h
  obtain ⟨t, ht⟩ : ∃ t, t = xs.drop p := ⟨_, rfl⟩
  have htl : t.length = xs.length - p := by rw [ht, List.length_drop]
  have htb : ∀ x ∈ t, 0 ≤ x ∧ x ≤ 255 := fun x hx => hb x (List.mem_of_mem_drop (ht ▸ hx))
  rw [← ht] at h
  unfold pieceN
  have hal : ∀ m, 1 ≤ m → m ≤ t.length → Alike (t.take m) ∧ frontB (t.take m) 0 = (min k m, n) ∧ (t.take m).length = m := fun m h1 h2 =>
    ⟨alike (by rw [List.length_take]; omega) (bn_lt (fun x hx => htb x (List.mem_of_mem_take hx))), frontB_take h h1 h2, by rw [List.length_take]; omega⟩
  have hk : k < n ∨ n = 0 ∧ k = 0 := by
    by_cases hn : n = 0
    · subst hn; exact .inr ⟨rfl, frontB_zero h⟩
    · have := (frontB_some h hn).2.2.hi
      omega
  have hkl : k ≤ t.length := by
    by_cases hn : n = 0
    · omega
    · have hs := (frontB_some h hn).2.2
      have := hs.lo
      by_cases h1 : k = 1
      · omega
      · have := (hs.fit (k - 1) (by omega) (by omega)).1
        omega
  refine runF_eq _ 0 (by omega) (by omega) (fun j _ hj => ⟨by omega, ?_⟩) (fun hh => ?_)
  · rw [← ht]
    obtain ⟨ha, hf, hl⟩ := hal (j + 1) (by omega) (by omega)
    rcases ha with ⟨m, hF, h1, _, _, _, _, _, _⟩ | ⟨m, hF, hlt, hfu, _⟩ | ⟨k', m, hF, hk', hfu, hd⟩
    · rw [hf] at hF; simp only [Prod.mk.injEq] at hF; omega
    · unfold beginsB; rw [hfu]; rfl
    · rw [hf] at hF; simp only [Prod.mk.injEq] at hF; omega
  · rw [← ht] at hh
    obtain ⟨ha, hf, hl⟩ := hal (k + 1) (by omega) (by omega)
    rcases ha with ⟨m, hF, h1, _, _, _, _, _, _⟩ | ⟨m, hF, hlt, hfu, _⟩ | ⟨k', m, hF, hk', hfu, hd⟩
    · rw [hf] at hF; simp only [Prod.mk.injEq] at hF; omega
    · rw [hf] at hF; simp only [Prod.mk.injEq] at hF; omega
    · have := hh.2
      unfold beginsB validB at this
      rw [hfu, hd] at this
      simp at this
end Gim
