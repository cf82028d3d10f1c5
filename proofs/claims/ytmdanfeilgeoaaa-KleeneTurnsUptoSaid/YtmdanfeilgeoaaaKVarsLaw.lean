/- Sorted and freed of what is there twice, a formula's variables are those that the document lists. -/
import Derived.Test.YtmdanfeilgeoaaaKTree2
import Derived.Lib.SlicesCompact
namespace Gim
open Go Go.Lib
theorem strict_unique : ∀ (a b : List Int), a.Pairwise (· < ·) → b.Pairwise (· < ·) → (∀ k, k ∈ a ↔ k ∈ b) → a = b
  | [], [], _, _, _ => rfl
  | [], y :: t, _, _, h => by have := (h y).2 (by simp); simp at this
  | x :: l, [], _, _, h => by have := (h x).1 (by simp); simp at this
  | x :: l, y :: t, ha, hb, h => by
    obtain ⟨ha1, ha2⟩ := List.pairwise_cons.1 ha
    obtain ⟨hb1, hb2⟩ := List.pairwise_cons.1 hb
    have hxy : x = y := by
      rcases List.mem_cons.1 ((h x).1 (by simp)) with e | e
      · exact e
      · rcases List.mem_cons.1 ((h y).2 (by simp)) with e2 | e2
        · exact e2.symm
        · have h1 := hb1 x e
          have h2 := ha1 y e2
          omega
    subst hxy
    rw [strict_unique l t ha2 hb2 fun k => ⟨fun hk => ?_, fun hk => ?_⟩]
    · rcases List.mem_cons.1 ((h k).1 (by simp [hk])) with e | e
      · have := ha1 k hk
        omega
      · exact e
    · rcases List.mem_cons.1 ((h k).2 (by simp [hk])) with e | e
      · have := hb1 k hk
        omega
      · exact e
theorem compact_upTo (d : Array Int) (hs : ∀ j, j + 1 < d.size → d[j]! ≤ d[j + 1]!) : ∀ m, m ≤ d.size → (compactUpTo d m).Pairwise (· < ·) ∧ (∀ y, y ∈ compactUpTo d m ↔ ∃ j, j < m ∧ d[j]! = y) ∧ (∀ y ∈ compactUpTo d m, y ≤ d[m - 1]!)
  | 0, _ => by
    refine ⟨by simp [compactUpTo], fun y => ?_, fun y hy => by simp [compactUpTo] at hy⟩
    simp [compactUpTo]
  | m + 1, hm => by
    obtain ⟨h1, h2, h3⟩ := compact_upTo d hs m (by omega)
    rw [compactUpTo_succ]
    cases hk : keeps d m
    · have hm0 : 0 < m := by
        rcases Nat.eq_zero_or_pos m with e | e
        · subst e; rw [keeps_lt_one d 0 (by omega)] at hk; cases hk
        · exact e
      have he : d[m]! = d[m - 1]! := by
        refine Decidable.byContradiction fun h => ?_
        rw [keeps_pos h] at hk
        cases hk
      simp only [Bool.false_eq_true, if_false, List.append_nil, Nat.add_sub_cancel]
      refine ⟨h1, fun y => ?_, fun y hy => by rw [he]; exact h3 y hy⟩
      rw [h2]
      refine ⟨fun ⟨j, hj, e⟩ => ⟨j, by omega, e⟩, fun ⟨j, hj, e⟩ => ?_⟩
      by_cases hjm : j = m
      · subst hjm; exact ⟨j - 1, by omega, by rw [← he]; exact e⟩
      · exact ⟨j, by omega, e⟩
    · simp only [if_true, Nat.add_sub_cancel]
      have hlt : ∀ y ∈ compactUpTo d m, y < d[m]! := fun y hy => by
        rcases Nat.eq_zero_or_pos m with e | e
        · subst e; simp [compactUpTo] at hy
        · have hne : d[m]! ≠ d[m - 1]! := fun h => by rw [keeps_neg e h] at hk; cases hk
          have h4 := h3 y hy
          have h5 := hs (m - 1) (by omega)
          rw [show m - 1 + 1 = m by omega] at h5
          omega
      refine ⟨List.pairwise_append.2 ⟨h1, by simp, fun a ha b hb => by simp at hb; rw [hb]; exact hlt a ha⟩, fun y => ?_, fun y hy => ?_⟩
      · rw [List.mem_append, h2]
        refine ⟨fun h => ?_, fun ⟨j, hj, e⟩ => ?_⟩
        · rcases h with ⟨j, hj, e⟩ | h
          · exact ⟨j, by omega, e⟩
          · simp at h
            exact ⟨m, by omega, h.symm⟩
        · by_cases hjm : j = m
          · subst hjm; right; simp [e]
          · exact .inl ⟨j, by omega, e⟩
      · rcases List.mem_append.1 hy with h | h
        · exact Int.le_of_lt (hlt y h)
        · simp at h
          rw [h]
          exact Int.le_refl _
theorem compact_law (l : List Int) (hs : l.Pairwise (· ≤ ·)) : (compact l).Pairwise (· < ·) ∧ ∀ y, y ∈ compact l ↔ y ∈ l := by
  have hs2 : ∀ j, j + 1 < l.toArray.size → l.toArray[j]! ≤ l.toArray[j + 1]! := fun j hj => by
    have hj2 : j + 1 < l.length := by simpa using hj
    have h := List.pairwise_iff_getElem.1 hs j (j + 1) (by omega) hj2 (by omega)
    simpa [getElem!_pos, hj2, show j < l.length by omega] using h
  obtain ⟨h1, h2, _⟩ := compact_upTo l.toArray hs2 l.length (by simp)
  refine ⟨h1, fun y => (h2 y).trans ⟨fun ⟨j, hj, e⟩ => ?_, fun hy => ?_⟩⟩
  · have e2 : l[j] = y := by simpa [getElem!_pos, hj] using e
    rw [← e2]
    exact List.getElem_mem hj
  · obtain ⟨j, hj, e⟩ := List.getElem_of_mem hy
    exact ⟨j, hj, by simpa [getElem!_pos, hj] using e⟩
mutual
theorem vars_ok : ∀ f : Fm, isB f = true → ∀ y ∈ varsF f, 0 ≤ y ∧ y < 65536
  | .mk op v x gs, h, y, hy => by
    unfold isB at h
    rw [Bool.and_eq_true] at h
    unfold varsF at hy
    rcases List.mem_append.1 hy with hy | hy
    · by_cases ho : op = 1
      · rw [if_pos ho] at hy
        simp at hy
        subst hy
        have h1 := h.1
        unfold okB at h1
        rw [if_neg (by omega), if_pos ho] at h1
        simp at h1
        omega
      · rw [if_neg ho] at hy
        cases hy
    · exact varsL_ok gs h.2 y hy
theorem varsL_ok : ∀ gs : List Fm, isL gs = true → ∀ y ∈ varsL gs, 0 ≤ y ∧ y < 65536
  | [], _, y, hy => by unfold varsL at hy; cases hy
  | f :: r, h, y, hy => by
    unfold isL at h
    rw [Bool.and_eq_true] at h
    unfold varsL at hy
    rcases List.mem_append.1 hy with hy | hy
    · exact vars_ok f h.1 y hy
    · exact varsL_ok r h.2 y hy
end
theorem grt_le : ∀ (f : Fm), isB f = true → -1 ≤ grtF f ∧ ∀ y ∈ varsF f, y ≤ grtF f := fun f h => by
  rcases grtF_ge f with h1 | ⟨y, hy, h2⟩
  · exact ⟨h1.2, h1.1⟩
  · have := vars_ok f h y hy
    omega
/-- the law -/
theorem vars_law (f : Fm) (h : isB f = true) : compact ((varsF f).mergeSort fun x y => decide (x ≤ y)) = refVars f := by
  have hs : ((varsF f).mergeSort fun x y => decide (x ≤ y)).Pairwise (· ≤ ·) := by
    have := List.pairwise_mergeSort (le := fun x y : Int => decide (x ≤ y)) (fun a b c h1 h2 => by simp at *; omega) (fun a b => by simp; omega) (varsF f)
    simpa using this
  obtain ⟨h1, h2⟩ := compact_law _ hs
  refine strict_unique _ _ h1 ?_ fun k => ?_
  · unfold refVars
    refine List.Pairwise.filter _ (List.pairwise_map.2 ?_)
    exact List.pairwise_lt_range.imp fun hab => by omega
  · rw [h2, List.mem_mergeSort]
    unfold refVars
    rw [List.mem_filter, hldF_iff, List.mem_map]
    refine ⟨fun hk => ⟨?_, hk⟩, fun hk => hk.2⟩
    have hk1 := vars_ok f h k hk
    have hk2 := (grt_le f h).2 k hk
    exact ⟨k.toNat, by rw [List.mem_range]; omega, by omega⟩
end Gim
