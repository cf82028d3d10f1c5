/- gauge.Bound of any path that is not too great. -/
import Derived.Test.YtghepjbfhjkinaaDoorQBound
namespace Go.Proofs.YtghepjbfhjkinaaDoor
open Go.RowKit Gim
set_option maxHeartbeats 4000000 in
/-- gauge.Bound of a path that is not too great -/
theorem bound_calls (sts : List St) (a : Option Addr) (n cap : Nat) (depth : Int) (w : World) (hF : FitTS w sts a n cap) (hw : wTL sts ≤ 262144) (hT : Laid w) :
    Calls Tryd.prog 6 #[.agg #[.slice a n cap], .int .i64 depth] w fun e w' =>
      e = .returned (if okP sts = true then (if 0 ≤ depth ∧ depth ≤ 100000 then .tuple #[.int .i64 ((16 * (depth.toNat + 1) * (szP sts * szP sts) : Nat) : Int), .int .i64 0] else .tuple #[.int .i64 0, .int .i64 2]) else .tuple #[.int .i64 0, .int .i64 6]) ∧ Below w.heap.size w w' := by
  have b0 : Below w.heap.size w (w.alloc (.cells #[.slice a n cap] 24)) := (Below.refl _ _).alloc (Nat.le_refl _) _
  have hP := askSize_calls sts a n cap _ (hF.below b0) (by omega) (hT.below b0)
  have hs := Nat.le_trans (szP_le sts) hw
  have HB := Lib.hid b0
  clear hF hT b0 hw
  cases hg : okP sts
  · rw [hg] at hP
    simp only [Bool.false_eq_true, if_false] at hP ⊢
    clear hg hs
    go_enter Tryd.func6, Tryd.ntmps6
    go_wp2_with fail
    refine hP.mono ?_
    rintro e w1 ⟨rfl, b1⟩
    have HB1 := Lib.hid (HB.out.trans (b1.mono HB.out.size))
    clear hP b1
    go_wp2_with fail
    (try simp only [Exit.inBlock, Exit.then]); refine bodyPost_ret (results_tmp2 rfl _ _ _) rfl ?_
    exact ⟨rfl, HB1.out⟩
  · rw [hg] at hP
    simp only [if_true] at hP ⊢
    obtain ⟨s, hss⟩ : ∃ s, szP sts = s := ⟨_, rfl⟩
    rw [hss] at hP hs ⊢
    clear hg hss
    by_cases h0 : 0 ≤ depth
    · by_cases h1 : depth ≤ 100000
      · rw [if_pos ⟨h0, h1⟩]
        obtain ⟨D, rfl⟩ := Int.eq_ofNat_of_zero_le h0
        simp only [Int.toNat_natCast]
        have hD : D ≤ 100000 := by omega
        obtain ⟨K, hK⟩ : ∃ K, 16 * (D + 1) = K := ⟨_, rfl⟩
        have hKb : K ≤ 1600016 := by omega
        obtain ⟨q1, q2, q3, q4⟩ := sq_small hs hKb
        have hM1 := fun W => mul64_calls s s W (by omega) (by omega) (by omega)
        have hM2 := fun W => mul64_calls (s * s) K W (by rw [Nat.mul_comm]; omega) (by omega) (by omega)
        rw [Nat.mul_comm (s * s) K] at hM2
        rw [hK]
        obtain ⟨P, hPP⟩ : ∃ P, s * s = P := ⟨_, rfl⟩
        simp only [hPP] at hM1 hM2 q1 q3 ⊢
        obtain ⟨T, hTT⟩ : ∃ T, K * P = T := ⟨_, rfl⟩
        simp only [hTT] at hM2 q3 ⊢
        obtain ⟨u1, u2, u3, u4, u5, u6, u7⟩ := bound_facts hs hD hK q1 q3
        have HM1 := Lib.hid hM1
        have HM2 := Lib.hid hM2
        clear hPP hTT hK hM1 hM2 q1 q2 q3 q4 hKb
        go_enter Tryd.func6, Tryd.ntmps6
        go_wp2_with fail
        refine hP.mono ?_
        rintro e w1 ⟨rfl, b1⟩
        have HB1 := Lib.hid (HB.out.trans (b1.mono HB.out.size))
        clear hP b1
        go_wp2_with fail
        refine (HM1.out _).mono ?_
        rintro e w2 ⟨rfl, rfl⟩
        go_wp2_with fail
        refine (HM2.out _).mono ?_
        rintro e w3 ⟨rfl, rfl⟩
        go_wp2_with fail
        (try simp only [Exit.inBlock, Exit.then]); refine bodyPost_ret (results_tmp2 rfl _ _ _) rfl ?_
        exact ⟨rfl, HB1.out⟩
      · rw [if_neg (fun h => h1 h.2)]
        have h2 : 100000 < depth := by omega
        have h3 : ¬ depth < 0 := by omega
        clear h0 h1 hs
        go_enter Tryd.func6, Tryd.ntmps6
        go_wp2_with fail
        refine hP.mono ?_
        rintro e w1 ⟨rfl, b1⟩
        have HB1 := Lib.hid (HB.out.trans (b1.mono HB.out.size))
        clear hP b1
        go_wp2_with fail
        (try simp only [Exit.inBlock, Exit.then]); refine bodyPost_ret (results_tmp2 rfl _ _ _) rfl ?_
        exact ⟨rfl, HB1.out⟩
    · rw [if_neg (fun h => h0 h.1)]
      have h2 : depth < 0 := by omega
      clear h0 hs
      go_enter Tryd.func6, Tryd.ntmps6
      go_wp2_with fail
      refine hP.mono ?_
      rintro e w1 ⟨rfl, b1⟩
      have HB1 := Lib.hid (HB.out.trans (b1.mono HB.out.size))
      clear hP b1
      go_wp2_with fail
      (try simp only [Exit.inBlock, Exit.then]); refine bodyPost_ret (results_tmp2 rfl _ _ _) rfl ?_
      exact ⟨rfl, HB1.out⟩
end Go.Proofs.YtghepjbfhjkinaaDoor
