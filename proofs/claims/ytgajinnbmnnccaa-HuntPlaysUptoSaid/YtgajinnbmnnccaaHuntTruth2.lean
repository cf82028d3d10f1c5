/- The walk of hunt's Truth. -/
import Derived.Test.YtgajinnbmnnccaaHuntTruth
namespace Gim
theorem truth0 (num : Int) (n came k : Nat) (off fnd whole : Bool) : truthZ 0 num n came k off fnd whole = 2 := rfl
theorem truth1 (num : Int) (n came k : Nat) (off fnd whole : Bool) : truthZ 1 num n came k off fnd whole = toldZ (whole && decide (came = n) && !off) (off || decide (n < came)) whole := rfl
theorem truth2 (num : Int) (n came k : Nat) (off fnd whole : Bool) : truthZ 2 num n came k off fnd whole = 2 - toldZ (whole && decide (came = n) && !off) (off || decide (n < came)) whole := rfl
end Gim
namespace Go.Proofs.Ytgajinnbmnnccaa
open Go.RowKit Gim
set_option maxHeartbeats 1000000 in
theorem truth_calls (w : World) (B H : Nat) (c num : Int) (T : List Int) (tv bv : Value) (came k : Nat) (off fnd whole : Bool) (h : Hm w B H c num T tv bv came k off fnd whole) (hc0 : 0 ≤ c) (hc8 : c ≤ 8) :
    Calls Try.prog 12 #[.pointer (some ⟨H, 0, none⟩)] w fun e w' => e = .returned (.int .i64 (truthZ c num T.length came k off fnd whole)) ∧ ∃ m, w' = w.drewN m := by
  have hT : ∀ a b n, Calls Try.prog 31 #[.pointer (some ⟨H, 0, none⟩), .bool a, .bool b] (w.drewN n) fun e w' => e = .returned (.int .i64 (toldZ a b whole)) ∧ w' = w.drewN n := fun a b n => told_calls (w.drewN n) H a b _ _ _ _ _ _ _ _ whole h.hH
  have hE : ∀ n, Calls Try.prog 29 #[.pointer (some ⟨H, 0, none⟩)] (w.drewN n) fun e w' => e = .returned (.int .i64 (toldZ (whole && decide (came = T.length) && !off) (off || decide (T.length < came)) whole)) ∧ ∃ m, w' = (w.drewN n).drewN m := fun n =>
    equal_calls _ B H c num T tv bv came k off fnd whole (h.fr ((Fr.refl (fun _ => False) w).drewN n) (fun x => x) (fun _ _ x => x))
  have hN := not_calls
  obtain ⟨eq, heq⟩ : ∃ z, z = toldZ (whole && decide (came = T.length) && !off) (off || decide (T.length < came)) whole := ⟨_, rfl⟩
  have heq0 : 0 ≤ eq ∧ eq ≤ 2 := by rw [heq]; exact toldZ_range _ _ _
  obtain ⟨ao, cap, rfl, rd⟩ := h.rt.rd
  have c0 : w.cell? ⟨H, 0, none⟩ = some (.int .i64 c) := by simp [World.cell?, h.hH]
  have c1 : w.cell? ⟨H, 1, none⟩ = some (.slice ao T.length cap) := by simp [World.cell?, h.hH]
  have c3 : w.cell? ⟨H, 3, none⟩ = some (.int .i64 num) := by simp [World.cell?, h.hH]
  have c4 : w.cell? ⟨H, 4, none⟩ = some (.int .i64 came) := by simp [World.cell?, h.hH]
  have c5 : w.cell? ⟨H, 5, none⟩ = some (.int .i64 k) := by simp [World.cell?, h.hH]
  have c6 : w.cell? ⟨H, 6, none⟩ = some (.bool off) := by simp [World.cell?, h.hH]
  have c7 : w.cell? ⟨H, 7, none⟩ = some (.bool fnd) := by simp [World.cell?, h.hH]
  have c8 : w.cell? ⟨H, 8, none⟩ = some (.bool whole) := by simp [World.cell?, h.hH]
  have HT := Lib.hid hT
  rw [← heq] at hE
  have HE := Lib.hid hE
  have HQ := Lib.hid heq
  clear hT hE heq
  have e1 : (((k : Nat) : Int) == ((T.length : Nat) : Int)) = decide (k = T.length) := by
    by_cases h : k = T.length
    · simp [h]
    · simp only [h, decide_false]; exact beq_eq_false_iff_ne.2 (by omega)
  have e2 : (((came : Nat) : Int) == num) = decide ((came : Int) = num) := by
    by_cases h : (came : Int) = num
    · simp [h]
    · simp only [h, decide_false]; exact beq_eq_false_iff_ne.2 h
  obtain rfl | rfl | rfl | rfl | rfl | rfl | rfl | rfl | rfl : c = 0 ∨ c = 1 ∨ c = 2 ∨ c = 3 ∨ c = 4 ∨ c = 5 ∨ c = 6 ∨ c = 7 ∨ c = 8 := by omega
  · rw [truth0]
    go_enter Try.func12, Try.ntmps12
    go_wp2
    all_goals (try (go_quiet (fail); go_wp2))
    go_ret
    exact ⟨rfl, 0, rfl⟩
  · rw [truth1, ← HQ.out]
    go_enter Try.func12, Try.ntmps12
    go_wp2_with fail
    refine (HE.out 0).mono ?_
    rintro e w1 ⟨rfl, m, rfl⟩
    go_wp2
    go_ret
    exact ⟨rfl, _, rfl⟩
  · rw [truth2, ← HQ.out]
    go_enter Try.func12, Try.ntmps12
    go_wp2_with fail
    refine (HE.out 0).mono ?_
    rintro e w1 ⟨rfl, m, rfl⟩
    go_wp2_with fail
    refine (hN _ eq heq0.1 heq0.2).mono ?_
    rintro e w1 ⟨rfl, rfl⟩
    go_wp2
    go_ret
    exact ⟨rfl, _, rfl⟩
  · go_enter Try.func12, Try.ntmps12
    cases off
    · go_wp2
      go_quiet ((exact Calls.quiet_of_same (HT.out _ _ _)))
      go_wp2
      go_ret
      exact ⟨by simp [truthZ], _, rfl⟩
    · go_wp2
      go_quiet ((exact Calls.quiet_of_same (HT.out _ _ _)))
      go_wp2
      go_ret
      exact ⟨by simp [truthZ], _, rfl⟩
  · go_enter Try.func12, Try.ntmps12
    cases whole
    all_goals
      go_wp2_with fail
      first
        | go_quiet ((exact Calls.quiet_of_same (HT.out _ _ _)))
        | (refine (HT.out _ _ 0).mono ?_
           rintro e w1 ⟨rfl, rfl⟩)
      go_wp2
      go_ret
      refine ⟨?_, _, rfl⟩
      simp [truthZ]
  · go_enter Try.func12, Try.ntmps12
    cases whole
    all_goals
      go_wp2_with fail
      first
        | go_quiet ((exact Calls.quiet_of_same (HT.out _ _ _)))
        | (refine (HT.out _ _ 0).mono ?_
           rintro e w1 ⟨rfl, rfl⟩)
      go_wp2
      go_ret
      refine ⟨?_, _, rfl⟩
      simp [truthZ]
  · go_enter Try.func12, Try.ntmps12
    cases whole
    all_goals
      go_wp2_with fail
      first
        | go_quiet ((exact Calls.quiet_of_same (HT.out _ _ _)))
        | (refine (HT.out _ _ 0).mono ?_
           rintro e w1 ⟨rfl, rfl⟩)
      go_wp2
      go_ret
      refine ⟨?_, _, rfl⟩
      simp [truthZ]
  · go_enter Try.func12, Try.ntmps12
    cases whole
    all_goals
      go_wp2_with fail
      first
        | go_quiet ((exact Calls.quiet_of_same (HT.out _ _ _)))
        | (refine (HT.out _ _ 0).mono ?_
           rintro e w1 ⟨rfl, rfl⟩)
      go_wp2
      go_ret
      refine ⟨?_, _, rfl⟩
      simp [truthZ]
  · go_enter Try.func12, Try.ntmps12
    cases whole
    all_goals
      go_wp2_with fail
      first
        | go_quiet ((exact Calls.quiet_of_same (HT.out _ _ _)))
        | (refine (HT.out _ _ 0).mono ?_
           rintro e w1 ⟨rfl, rfl⟩)
      go_wp2
      go_ret
      refine ⟨?_, _, rfl⟩
      simp [truthZ]
end Go.Proofs.Ytgajinnbmnnccaa
