/- The walks of hunt's equal, Truth, Close and Kept. -/
import Derived.Test.YtgajinnbmnnccaaHuntTold
namespace Go.Proofs.Ytgajinnbmnnccaa
open Go.RowKit Gim
set_option maxHeartbeats 1000000 in
theorem equal_calls (w : World) (B H : Nat) (c num : Int) (T : List Int) (tv bv : Value) (came k : Nat) (off fnd whole : Bool) (h : Hm w B H c num T tv bv came k off fnd whole) :
    Calls Try.prog 29 #[.pointer (some ⟨H, 0, none⟩)] w fun e w' => e = .returned (.int .i64 (toldZ (whole && decide (came = T.length) && !off) (off || decide (T.length < came)) whole)) ∧ ∃ m, w' = w.drewN m := by
  obtain ⟨ao, cap, rfl, rd⟩ := h.rt.rd
  have c1 : w.cell? ⟨H, 1, none⟩ = some (.slice ao T.length cap) := by simp [World.cell?, h.hH]
  have c4 : w.cell? ⟨H, 4, none⟩ = some (.int .i64 came) := by simp [World.cell?, h.hH]
  have c6 : w.cell? ⟨H, 6, none⟩ = some (.bool off) := by simp [World.cell?, h.hH]
  have c8 : w.cell? ⟨H, 8, none⟩ = some (.bool whole) := by simp [World.cell?, h.hH]
  have t1 : (((came : Nat) : Int) == ((T.length : Nat) : Int)) = decide (came = T.length) := by
    by_cases h : came = T.length
    · simp [h]
    · simp only [h, decide_false]; exact beq_eq_false_iff_ne.2 (by omega)
  have t2 : decide (((T.length : Nat) : Int) < ((came : Nat) : Int)) = decide (T.length < came) := decide_eq_decide.2 (by omega)
  have hT : ∀ a b n, Calls Try.prog 31 #[.pointer (some ⟨H, 0, none⟩), .bool a, .bool b] (w.drewN n) fun e w' => e = .returned (.int .i64 (toldZ a b whole)) ∧ w' = w.drewN n := fun a b n => told_calls (w.drewN n) H a b _ _ _ _ _ _ _ _ whole h.hH
  have HT := Lib.hid hT
  clear hT
  obtain ⟨b1, hb1⟩ : ∃ b, decide (came = T.length) = b := ⟨_, rfl⟩
  obtain ⟨b2, hb2⟩ : ∃ b, decide (T.length < came) = b := ⟨_, rfl⟩
  rw [hb1] at t1
  rw [hb2] at t2
  rw [hb1, hb2]
  go_enter Try.func29, Try.ntmps29
  cases whole <;> cases off <;> cases b1 <;> cases b2
  all_goals
    go_wp2
    go_quiet ((exact Calls.quiet_of_same (HT.out _ _ _)))
    go_wp2
    go_ret
    exact ⟨by simp_all, _, rfl⟩
def Closes (w : World) (B H : Nat) (c num : Int) (T : List Int) (tv bv : Value) (came k : Nat) (off fnd whole : Bool) (e : Ending) (w' : World) : Prop :=
  e = .returned (.int .i64 (if whole then 5 else 0)) ∧ Hm w' B H c num T tv bv came k off fnd true ∧ Fr (fun j => j = H) w w'
set_option maxHeartbeats 1000000 in
theorem close_calls (w : World) (B H : Nat) (c num : Int) (T : List Int) (tv bv : Value) (came k : Nat) (off fnd whole : Bool) (h : Hm w B H c num T tv bv came k off fnd whole) :
    Calls Try.prog 11 #[.pointer (some ⟨H, 0, none⟩)] w (Closes w B H c num T tv bv came k off fnd whole) := by
  have c8 : w.cell? ⟨H, 8, none⟩ = some (.bool whole) := by simp [World.cell?, h.hH]
  have hfz : w.frozen? ⟨H, 8, none⟩ = false := by simp [World.frozen?, h.hH]
  cases whole with
  | true =>
    go_enter Try.func11, Try.ntmps11
    go_wp2
    go_ret
    exact ⟨rfl, h, .refl _ _⟩
  | false =>
    have hS : Closes w B H c num T tv bv came k off fnd false (.returned (.int .i64 0)) (w.setCell ⟨H, 8, none⟩ (.bool true)) :=
      ⟨rfl, h.set ((Fr.refl _ _).set H 8 _ rfl) (by rw [set_at h.hH]; rfl), (Fr.refl _ _).set H 8 _ rfl⟩
    go_enter Try.func11, Try.ntmps11
    go_wp2
    go_ret
    exact hS
theorem kept_calls (w : World) (H : Nat) :
    Calls Try.prog 20 #[.pointer (some ⟨H, 0, none⟩)] w fun e w' => e = .returned (.int .i64 4) ∧ w' = w := by
  go_enter Try.func20, Try.ntmps20
  go_wp2
  go_ret
  exact ⟨rfl, rfl⟩
theorem nil_kept (w : World) : Calls Try.prog 20 #[.pointer none] w (fun e w' => e = .returned (.int .i64 0) ∧ w' = w) := by
  go_enter Try.func20, Try.ntmps20
  go_wp2
  go_ret
  exact ⟨rfl, rfl⟩
theorem nil_truth (w : World) : Calls Try.prog 12 #[.pointer none] w (fun e w' => e = .returned (.int .i64 0) ∧ w' = w) := by
  go_enter Try.func12, Try.ntmps12
  go_wp2
  go_ret
  exact ⟨by simp, rfl⟩
theorem nil_close (w : World) : Calls Try.prog 11 #[.pointer none] w (fun e w' => e = .returned (.int .i64 1) ∧ w' = w) := by
  go_enter Try.func11, Try.ntmps11
  go_wp2
  go_ret
  exact ⟨rfl, rfl⟩
theorem nil_add (w : World) (s : ByteArray) : Calls Try.prog 10 #[.pointer none, .string s] w (fun e w' => e = .returned (.int .i64 1) ∧ w' = w) := by
  go_enter Try.func10, Try.ntmps10
  go_wp2
  go_ret
  exact ⟨rfl, rfl⟩
end Go.Proofs.Ytgajinnbmnnccaa
