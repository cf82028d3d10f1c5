/- What lies ahead of a Feed does not change when more comes: plain. -/
import Derived.Test.YtpkdbfnnbbkkiaaDoorFeedFirst
import Derived.Test.YtpkdbfnnbbkkiaaDoorRefLaw2
import Derived.Lib.DecodeNEq
namespace Gim
open Go Go.Lib
theorem bn_app {xs : List Int} (ys : List Int) {j : Nat} (h : j < xs.length) : bn (xs ++ ys) j = bn xs j := by
  unfold bn gt
  rw [List.getElem?_append_left h]
theorem firstT_high {b : Nat} (h : ¬ firstT b < 240) : b < 128 ∨ (128 ≤ b ∧ b < 194) ∨ 245 ≤ b := by
  unfold firstT at h
  repeat' split at h
  all_goals omega
set_option maxRecDepth 100000 in
theorem dec_high (n b0 b1 b2 b3 : Nat) (h : ¬ firstT b0 < 240) : decodeN n b0 b1 b2 b3 = if b0 < 128 then (b0, 1) else (65533, 1) := by
  have h := firstT_high h
  unfold decodeN
  repeat' split
  all_goals first | rfl | (exfalso; omega)
theorem firstT_sz {b : Nat} (h : firstT b < 240) : 2 ≤ firstT b % 8 ∧ firstT b % 8 ≤ 4 := by
  rcases firstT_low h with h | h | h | h | h | h | h
  · rw [firstT_C2 h]; omega
  · rw [firstT_E0 h]; omega
  · rw [firstT_E1 h]; omega
  · rw [firstT_ED h]; omega
  · rw [firstT_F0 h]; omega
  · rw [firstT_F1 h]; omega
  · rw [firstT_F4 h]; omega
/-- where a whole character or a wrong byte lies ahead, more behind it changes nothing -/
theorem dec_more {n n' b0 b1 b2 b3 b1' b2' b3' : Nat} (hn : 1 ≤ n) (hnn : n ≤ n') (e1 : 1 < n → b1' = b1) (e2 : 2 < n → b2' = b2) (e3 : 3 < n → b3' = b3) (h1 : b1 < 256) (h2 : b2 < 256) (h3 : b3 < 256) (h1' : b1' < 256) (h2' : b2' < 256) (h3' : b3' < 256)
    (hf : fullN n b0 b1 b2 = true) : decodeN n' b0 b1' b2' b3' = decodeN n b0 b1 b2 b3 ∧ fullN n' b0 b1' b2' = true := by
  by_cases hx : firstT b0 < 240
  · have hsz := firstT_sz hx
    rw [← slow_eq n b0 b1 b2 b3 hn h1 h2 h3 hx, ← slow_eq n' b0 b1' b2' b3' (by omega) h1' h2' h3' hx]
    unfold fullN at hf ⊢
    generalize firstT b0 % 8 = sz at *
    generalize accLo (firstT b0 / 16) = lo at *
    generalize accHi (firstT b0 / 16) = hi at *
    by_cases hs : sz ≤ n
    · obtain rfl := e1 (by omega)
      refine ⟨?_, by rw [if_pos (by omega)]⟩
      unfold slowN
      have q1 : ¬ n' < sz := by omega
      have q2 : ¬ n < sz := by omega
      rw [if_neg q1, if_neg q2]
      by_cases hs2 : sz ≤ 2
      · rw [if_pos hs2, if_pos hs2]
      · obtain rfl := e2 (by omega)
        by_cases hs3 : sz ≤ 3
        · rw [if_pos hs3, if_pos hs3]
        · obtain rfl := e3 (by omega)
          rfl
    · rw [if_neg hs] at hf
      unfold slowN
      rw [if_pos (show n < sz by omega)]
      by_cases hb1 : 1 < n ∧ (b1 < lo ∨ hi < b1)
      · obtain rfl := e1 hb1.1
        refine ⟨?_, ?_⟩
        · split
          · rfl
          · rw [if_pos hb1.2]
        · split
          · rfl
          · rw [if_pos ⟨by omega, hb1.2⟩]
      · rw [if_neg hb1] at hf
        split at hf
        · rename_i hb2
          obtain rfl := e1 (by omega)
          obtain rfl := e2 hb2.1
          refine ⟨?_, ?_⟩
          · split
            · rfl
            · split
              · rfl
              · rw [if_neg (by omega), if_pos hb2.2]
          · split
            · rfl
            · split
              · rfl
              · rw [if_pos ⟨by omega, hb2.2⟩]
        · cases hf
  · refine ⟨by rw [dec_high _ _ _ _ _ hx, dec_high _ _ _ _ _ hx], ?_⟩
    unfold fullN at hf ⊢
    have h1 : firstT b0 % 8 ≤ 1 := by
      have h := firstT_high hx
      unfold firstT
      repeat' split
      all_goals omega
    rw [if_pos (by omega)]
theorem full_more {xs ys : List Int} (hb : ∀ x ∈ xs ++ ys, 0 ≤ x ∧ x ≤ 255) (h : fullB xs = true) : decB (xs ++ ys) = decB xs ∧ fullB (xs ++ ys) = true := by
  have h0 : xs.length ≠ 0 := fun h0 => by
    unfold fullB at h
    rw [if_pos h0] at h
    cases h
  have hb1 : ∀ x ∈ xs, 0 ≤ x ∧ x ≤ 255 := fun x hx => hb x (List.mem_append_left _ hx)
  unfold fullB at h ⊢
  rw [if_neg h0] at h
  have hl : (xs ++ ys).length = xs.length + ys.length := List.length_append
  have := dec_more (n := xs.length) (n' := (xs ++ ys).length) (b1' := bn (xs ++ ys) 1) (b2' := bn (xs ++ ys) 2) (b3' := bn (xs ++ ys) 3) (b3 := bn xs 3) (by omega) (by omega) (fun h => bn_app ys h) (fun h => bn_app ys h) (fun h => bn_app ys h) (bn_lt hb1 1) (bn_lt hb1 2) (bn_lt hb1 3) (bn_lt hb 1) (bn_lt hb 2) (bn_lt hb 3) h
  rw [bn_app ys (by omega : 0 < xs.length)]
  unfold decB
  rw [if_neg (by omega), if_neg h0, bn_app ys (by omega : 0 < xs.length), if_neg (by omega)]
  exact this
/-- the piece at the beginning, where a wrong byte lies in it -/
theorem piece_more {xs ys : List Int} (h0 : xs ≠ []) (h : beginsB xs = false) : pieceN (xs ++ ys) 0 = pieceN xs 0 := by
  have hl : (xs ++ ys).length = xs.length + ys.length := List.length_append
  have hpos : 0 < xs.length := List.length_pos_iff.2 h0
  -- where it stops
  have hex : ∃ k, k < xs.length ∧ beginsB (xs.take (k + 1)) = false ∧ ∀ j, j < k → beginsB (xs.take (j + 1)) = true := by
    have : ∃ k, k < xs.length ∧ beginsB (xs.take (k + 1)) = false := ⟨xs.length - 1, by omega, by rw [show xs.length - 1 + 1 = xs.length by omega, List.take_length]; exact h⟩
    obtain ⟨k, hk⟩ := this
    induction k using Nat.strongRecOn with
    | _ k ih =>
      by_cases hj : ∃ j, j < k ∧ beginsB (xs.take (j + 1)) = false
      · obtain ⟨j, hj1, hj2⟩ := hj
        exact ih j hj1 ⟨by omega, hj2⟩
      · exact ⟨k, hk.1, hk.2, fun j hjk => by
          cases hb : beginsB (xs.take (j + 1))
          · exact absurd ⟨j, hjk, hb⟩ hj
          · rfl⟩
  obtain ⟨k, hk, hk2, hk3⟩ := hex
  unfold pieceN
  rw [runF_eq (k := k) _ 0 (by omega) (by omega) (fun j _ hj => ⟨by omega, by rw [List.drop_zero, List.take_append_of_le_length (by omega)]; exact hk3 j hj⟩) (fun hh => by
      have := hh.2
      rw [List.drop_zero, List.take_append_of_le_length (by omega), hk2] at this
      cases this),
    runF_eq (k := k) _ 0 (by omega) (by omega) (fun j _ hj => ⟨by omega, by rw [List.drop_zero]; exact hk3 j hj⟩) (fun hh => by
      have := hh.2
      rw [List.drop_zero, hk2] at this
      cases this)]
theorem dec_four {n b0 b1 b2 b3 : Nat} (hn : 4 ≤ n) : decodeN 4 b0 b1 b2 b3 = decodeN n b0 b1 b2 b3 ∧ (fullN 4 b0 b1 b2 = fullN n b0 b1 b2) := by
  have a1 : (1 < n) = True := eq_true (by omega)
  have a2 : (2 < n) = True := eq_true (by omega)
  have a3 : (3 < n) = True := eq_true (by omega)
  have c1 : (1 < 4) = True := eq_true (by omega)
  have c2 : (2 < 4) = True := eq_true (by omega)
  have c3 : (3 < 4) = True := eq_true (by omega)
  refine ⟨by unfold decodeN; simp only [a1, a2, a3, c1, c2, c3], ?_⟩
  unfold fullN
  have hs : firstT b0 % 8 ≤ 4 := by
    by_cases hx : firstT b0 < 240
    · exact (firstT_sz hx).2
    · have h := firstT_high hx
      unfold firstT
      repeat' split
      all_goals omega
  rw [if_pos hs, if_pos (by omega)]
theorem take_four {xs : List Int} : decB (xs.take 4) = decB xs ∧ fullB (xs.take 4) = fullB xs := by
  by_cases h : xs.length ≤ 4
  · rw [List.take_of_length_le h]; exact ⟨rfl, rfl⟩
  · have hl : (xs.take 4).length = 4 := by simp; omega
    have hb : ∀ j, j < 4 → bn (xs.take 4) j = bn xs j := fun j hj => by simp [bn, gt, hj]
    have := dec_four (n := xs.length) (b0 := bn xs 0) (b1 := bn xs 1) (b2 := bn xs 2) (b3 := bn xs 3) (by omega)
    unfold decB fullB
    rw [hl, hb 0 (by omega), hb 1 (by omega), hb 2 (by omega), hb 3 (by omega), if_neg (by omega), if_neg (by omega), if_neg (by omega), if_neg (by omega)]
    exact this
theorem good_bad {xs : List Int} (hf : fullB xs = true) (hb : (decB xs).1 = 65533 ∧ (decB xs).2 = 1) : goodB xs = pieceN xs 0 ∧ beginsB xs = false := by
  have hv : validB xs = false := by
    unfold validB
    rw [decide_eq_true ⟨hb.1, by omega⟩]
    rfl
  have h0 : goodAt xs 0 = 0 := by
    unfold goodAt
    refine goodF_end _ (fun h => ?_)
    rw [List.drop_zero, hv] at h
    cases h.2.2
  unfold goodB beginsB
  rw [h0, hf, hv]
  exact ⟨Nat.zero_add _, rfl⟩
/-- what Good answers of a wrong byte ahead -/
theorem good_more {xs ys : List Int} (hb : ∀ x ∈ xs ++ ys, 0 ≤ x ∧ x ≤ 255) (hf : fullB xs = true) (hd : (decB xs).1 = 65533 ∧ (decB xs).2 = 1) : goodB ((xs ++ ys).take 4) = goodB (xs.take 4) := by
  by_cases h4 : 4 ≤ xs.length
  · rw [List.take_append_of_le_length h4]
  · have ht : xs.take 4 = xs := List.take_of_length_le (by omega)
    have ht2 : (xs ++ ys).take 4 = xs ++ ys.take (4 - xs.length) := by rw [List.take_append, ht]
    have h0 : xs ≠ [] := fun h => by subst h; cases hf
    have hm := full_more (xs := xs) (ys := ys.take (4 - xs.length)) (fun x hx => hb x (by
      rcases List.mem_append.1 hx with h | h
      · exact List.mem_append_left _ h
      · exact List.mem_append_right _ (List.mem_of_mem_take h))) hf
    have g1 := good_bad hf hd
    have g2 := good_bad hm.2 (by rw [hm.1]; exact hd)
    rw [ht, ht2, g1.1, g2.1, piece_more h0 g1.2]
theorem firstB_ne {xs : List Int} (e : Bool) (h0 : xs.length ≠ 0) (h13 : gt xs 0 ≠ 13) : firstB xs e = if fullB xs = false then (if e then (0, (xs.length : Int), 2) else (0, 0, 1)) else if (decB xs).1 = 65533 ∧ (decB xs).2 = 1 then (0, (goodB (xs.take 4) : Int), 2) else (((decB xs).1 : Int), ((decB xs).2 : Int), 0) := by
  unfold firstB
  rw [if_neg h0, if_neg (fun h => h13 h.1), if_neg (fun h => h13 h.1), if_neg h13]
theorem firstB_cr {xs : List Int} (e : Bool) (h0 : xs.length ≠ 0) (h13 : gt xs 0 = 13) : firstB xs e = if 1 < xs.length ∧ gt xs 1 = 10 then (10, 2, 0) else if 1 < xs.length ∨ e = true then (10, 1, 0) else (0, 0, 1) := by
  unfold firstB
  rw [if_neg h0]
  simp only [h13, true_and, if_true]
/-- what is known of what lies ahead stays known -/
theorem first_more {xs ys : List Int} (hb : ∀ x ∈ xs ++ ys, 0 ≤ x ∧ x ≤ 255) (e : Bool) (h : (firstB xs false).2.2 ≠ 1) : firstB (xs ++ ys) e = firstB xs false := by
  have hl : (xs ++ ys).length = xs.length + ys.length := List.length_append
  have hgt : ∀ j, j < xs.length → gt (xs ++ ys) j = gt xs j := fun j hj => by unfold gt; rw [List.getElem?_append_left hj]
  by_cases h0 : xs.length = 0
  · exact absurd (by unfold firstB; rw [if_pos h0]; rfl) h
  have n0 : ¬ (xs ++ ys).length = 0 := by omega
  have g0 := hgt 0 (by omega)
  by_cases h13 : gt xs 0 = 13
  · rw [firstB_cr false h0 h13] at h ⊢
    rw [firstB_cr e n0 (g0.trans h13)]
    by_cases h1 : 1 < xs.length
    · rw [hgt 1 h1]
      by_cases h10 : gt xs 1 = 10
      · rw [if_pos ⟨by omega, h10⟩, if_pos ⟨h1, h10⟩]
      · rw [if_neg (fun k => h10 k.2), if_pos (.inl (by omega)), if_neg (fun k => h10 k.2), if_pos (.inl h1)]
    · exfalso
      rw [if_neg (fun k => h1 k.1), if_neg (fun k => k.elim (fun k => h1 k) (fun k => by cases k))] at h
      exact h rfl
  · rw [firstB_ne false h0 h13] at h ⊢
    rw [firstB_ne e n0 (by rw [g0]; exact h13)]
    cases hf : fullB xs
    · rw [hf, if_pos rfl] at h
      exact absurd rfl h
    · have hm := full_more hb hf
      have tf : ¬ (true = false) := by decide
      rw [hm.2, hm.1, if_neg tf, if_neg tf]
      by_cases hd : (decB xs).1 = 65533 ∧ (decB xs).2 = 1
      · rw [if_pos hd, if_pos hd, good_more hb hf hd]
      · rw [if_neg hd, if_neg hd]
end Gim
