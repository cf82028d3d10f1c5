/- feed.first: what lies ahead; its walk. -/
import Derived.Test.YtpkdbfnnbbkkiaaDoorGoodWalk
import Derived.Test.YtpkdbfnnbbkkiaaDoorNext2Walk
namespace Gim
/-- what feed.first answers: the character, its width, how it stands (0 have, 1 wait, 2 bad, 3 done) -/
def firstB (xs : List Int) (ended : Bool) : Int × Int × Int :=
  if xs.length = 0 then (0, 0, if ended then 3 else 1)
  else if gt xs 0 = 13 ∧ 1 < xs.length ∧ gt xs 1 = 10 then (10, 2, 0)
  else if gt xs 0 = 13 ∧ (1 < xs.length ∨ ended = true) then (10, 1, 0)
  else if gt xs 0 = 13 then (0, 0, 1)
  else if fullB xs = false then (if ended then (0, xs.length, 2) else (0, 0, 1))
  else if (decB xs).1 = 65533 ∧ (decB xs).2 = 1 then (0, goodB (xs.take 4), 2)
  else ((decB xs).1, (decB xs).2, 0)
theorem nextB_zero {xs : List Int} (h0 : xs.length ≠ 0) (hf : fullB xs = true) : nextB xs 0 = if (decB xs).1 = 65533 ∧ (decB xs).2 = 1 then (65533, 1, 2, 0) else (((decB xs).1 : Int), ((decB xs).2 : Int), 0, 0) := by
  unfold nextB
  rw [if_neg (by omega), if_neg (by omega), Int.toNat_zero, List.drop_zero, hf]
  rfl
end Gim
namespace Go.Proofs.YtpkdbfnnbbkkiaaDoor
open Go.RowKit Go.Lib Gim
theorem results_tmp3 {fn : Func} {t u v : Tmp} (h : fn.results = #[.tmp t, .tmp u, .tmp v]) (tmps : Array Value) (P : Program) (w : World) :
    (results fn tmps).run P w = .ok (.tuple #[tmps.getD t undef, tmps.getD u undef, tmps.getD v undef]) w := by
  simp [results, h]
/-- what first hands back -/
def FirstP (w : World) (p : Int × Int × Int) (e : Ending) (w' : World) : Prop := e = .returned (.tuple #[.int .i32 p.1, .int .i64 p.2.1, .int .i64 p.2.2]) ∧ Below w.heap.size w w'
set_option maxRecDepth 100000 in
set_option maxHeartbeats 4000000 in
theorem first_calls (w : World) (ao : Option Addr) (n cap : Nat) (xs : List Int) (ended : Bool) (h : Rb w ao n cap xs) (hT : U8 w) (hn : n ≤ 140737488351232) :
    Calls Tryd.prog 27 #[.slice ao n cap, .bool ended] w (FirstP w (firstB xs ended)) := by
  have hl := h.rd.len
  have hle := h.rd.le
  have hcap := h.rd.cap_le
  by_cases h0 : n = 0
  · subst h0
    have hv : firstB xs ended = (0, 0, if ended then 3 else 1) := if_pos hl
    rw [hv]
    unfold FirstP
    clear hv
    cases ended
    all_goals
      go_enter Tryd.func27, Tryd.ntmps27
      go_wp2
      refine bodyPost_ret (results_tmp3 rfl _ _ _) rfl ?_
      exact ⟨rfl, Below.refl _ _⟩
  obtain ⟨b, o, rfl, hb, hc⟩ := h.rd.cell 0 (by omega)
  have hc0 := hc 0 (by omega)
  rw [Nat.add_zero] at hc0
  have hn0 : ¬ (n : Int) = 0 := by omega
  have hnb : ((n : Int) == 0) = false := beq_eq_false_iff_ne.2 hn0
  by_cases h13 : gt xs 0 = 13
  · rw [h13] at hc0
    by_cases h1 : 1 < n
    · have hc1 := hc 1 h1
      have h1' : (1 : Int) < n := by omega
      by_cases h10 : gt xs 1 = 10
      · have hv : firstB xs ended = (10, 2, 0) := by
          unfold firstB
          rw [if_neg (by omega), if_pos ⟨h13, by omega, h10⟩]
        rw [h10] at hc1
        rw [hv]
        unfold FirstP
        clear hv hc h13 h10 hT
        go_enter Tryd.func27, Tryd.ntmps27
        go_wp2
        refine bodyPost_ret (results_tmp3 rfl _ _ _) rfl ?_
        exact ⟨rfl, Below.refl _ _⟩
      · have hv : firstB xs ended = (10, 1, 0) := by
          unfold firstB
          rw [if_neg (by omega), if_neg (fun h => h10 h.2.2), if_pos ⟨h13, .inl (by omega)⟩]
        obtain ⟨y, hy⟩ : ∃ y, y = gt xs 1 := ⟨_, rfl⟩
        rw [← hy] at hc1 h10
        have hyb : (y == 10) = false := beq_eq_false_iff_ne.2 h10
        rw [hv]
        unfold FirstP
        clear hv hc h13 hy hT
        go_enter Tryd.func27, Tryd.ntmps27
        go_wp2
        refine bodyPost_ret (results_tmp3 rfl _ _ _) rfl ?_
        exact ⟨rfl, Below.refl _ _⟩
    · have h1' : ¬ (1 : Int) < n := by omega
      have hn1 : n = 1 := by omega
      cases ended
      · have hv : firstB xs false = (0, 0, 1) := by
          unfold firstB
          rw [if_neg (by omega), if_neg (fun h => by omega), if_neg (fun h => h.2.elim (fun h => by omega) (fun h => by cases h)), if_pos h13]
        rw [hv]
        unfold FirstP
        clear hv hc h13 hT hn1
        go_enter Tryd.func27, Tryd.ntmps27
        go_wp2
        refine bodyPost_ret (results_tmp3 rfl _ _ _) rfl ?_
        exact ⟨rfl, Below.refl _ _⟩
      · have hv : firstB xs true = (10, 1, 0) := by
          unfold firstB
          rw [if_neg (by omega), if_neg (fun h => by omega), if_pos ⟨h13, .inr rfl⟩]
        rw [hv]
        unfold FirstP
        clear hv hc h13 hT hn1
        go_enter Tryd.func27, Tryd.ntmps27
        go_wp2
        refine bodyPost_ret (results_tmp3 rfl _ _ _) rfl ?_
        exact ⟨rfl, Below.refl _ _⟩
  · obtain ⟨y, hy⟩ : ∃ y, y = gt xs 0 := ⟨_, rfl⟩
    rw [← hy] at hc0 h13
    have hyb : (y == 13) = false := beq_eq_false_iff_ne.2 h13
    have hF := full_calls w _ n cap xs h hT
    have hv0 : firstB xs ended = if fullB xs = false then (if ended then (0, (xs.length : Int), 2) else (0, 0, 1)) else if (decB xs).1 = 65533 ∧ (decB xs).2 = 1 then (0, (goodB (xs.take 4) : Int), 2) else (((decB xs).1 : Int), ((decB xs).2 : Int), 0) := by
      unfold firstB
      rw [if_neg (by omega), if_neg (fun h => h13 (hy.trans h.1)), if_neg (fun h => h13 (hy.trans h.1)), if_neg (fun h => h13 (hy.trans h))]
    rw [hv0]
    clear hv0 hc
    cases hf : fullB xs
    · rw [hf] at hF
      rw [if_pos rfl, hl]
      have hF2 := fun w1 (hb1 : Below w.heap.size w w1) => full_calls w1 _ n cap xs (h.below hb1) (hT.below hb1)
      rw [hf] at hF2
      have HF2 := Lib.hid hF2
      clear hF2 hf hT
      unfold FirstP
      cases ended
      all_goals
        go_enter Tryd.func27, Tryd.ntmps27
        go_wp2_with fail
        refine hF.mono ?_
        rintro e w1 ⟨rfl, b1⟩
        go_wp2_with fail
        try (refine (HF2.out _ b1).mono ?_; rintro e w2 ⟨rfl, b2⟩; go_wp2)
        refine bodyPost_ret (results_tmp3 rfl _ _ _) rfl ?_
        first | exact ⟨rfl, b1⟩ | exact ⟨rfl, b1.trans (b2.mono b1.size)⟩
    · rw [hf] at hF
      rw [if_neg (by decide)]
      have hF2 := fun w1 (hb1 : Below w.heap.size w w1) => full_calls w1 _ n cap xs (h.below hb1) (hT.below hb1)
      have hN2 := fun w1 (hb1 : Below w.heap.size w w1) => next_calls 0 w1 _ n cap xs (h.below hb1) (hT.below hb1) (by omega)
      rw [hf] at hF2
      have hnx := nextB_zero (xs := xs) (by omega) hf
      obtain ⟨d, hd⟩ : ∃ d, d = decB xs := ⟨_, rfl⟩
      rw [← hd] at hnx ⊢
      obtain ⟨m, hm⟩ : ∃ m : Nat, m = min n 4 := ⟨_, rfl⟩
      have hG2 := fun w1 (hb1 : Below w.heap.size w w1) => good_calls w1 _ m cap (xs.take 4) (by
        have := (h.below hb1).take (m := m) (by omega)
        rwa [show xs.take m = xs.take 4 by rw [hm]; rcases Nat.le_total n 4 with h | h
                                           · rw [Nat.min_eq_left h, List.take_of_length_le (by omega), List.take_of_length_le (by omega)]
                                           · rw [Nat.min_eq_right h]] at this) (hT.below hb1) (by omega)
      obtain ⟨q, hq⟩ : ∃ q, q = goodB (xs.take 4) := ⟨_, rfl⟩
      simp only [← hq] at hG2
      rw [← hq]
      have hmz : min (n : Int) 4 = (m : Int) := by omega
      have hmn : (m : Int) ≤ n := by omega
      have HF2 := Lib.hid hF2
      have HG2 := Lib.hid hG2
      unfold FirstP
      by_cases hB : d.1 = 65533 ∧ d.2 = 1
      · rw [if_pos hB] at hnx ⊢
        simp only [hnx] at hN2
        have HN2 := Lib.hid hN2
        clear hN2 hF2 hG2 hnx hB hd hq hm hf hT h
        cases ended
        all_goals
          go_enter Tryd.func27, Tryd.ntmps27
          go_wp2_with fail
          refine hF.mono ?_
          rintro e w1 ⟨rfl, b1⟩
          go_wp2_with fail
          refine (HF2.out _ b1).mono ?_
          rintro e w2 ⟨rfl, b2⟩
          have b2 := b1.trans (b2.mono b1.size)
          go_wp2_with fail
          refine (HN2.out _ b2).mono ?_
          rintro e w3 ⟨rfl, b3⟩
          have b3 := b2.trans (b3.mono b2.size)
          go_wp2_with fail
          refine (HG2.out _ b3).mono ?_
          rintro e w4 ⟨rfl, b4⟩
          have b4 := b3.trans (b4.mono b3.size)
          go_wp2
          refine bodyPost_ret (results_tmp3 rfl _ _ _) rfl ?_
          exact ⟨rfl, b4⟩
      · rw [if_neg hB] at hnx ⊢
        simp only [hnx] at hN2
        have HN2 := Lib.hid hN2
        clear hN2 hF2 hG2 hnx hB hd hq hm hf hT h
        cases ended
        all_goals
          go_enter Tryd.func27, Tryd.ntmps27
          go_wp2_with fail
          refine hF.mono ?_
          rintro e w1 ⟨rfl, b1⟩
          go_wp2_with fail
          refine (HF2.out _ b1).mono ?_
          rintro e w2 ⟨rfl, b2⟩
          have b2 := b1.trans (b2.mono b1.size)
          go_wp2_with fail
          refine (HN2.out _ b2).mono ?_
          rintro e w3 ⟨rfl, b3⟩
          have b3 := b2.trans (b3.mono b2.size)
          go_wp2
          refine bodyPost_ret (results_tmp3 rfl _ _ _) rfl ?_
          exact ⟨rfl, b3⟩
end Go.Proofs.YtpkdbfnnbbkkiaaDoor
