/- The contract of hunt's take, by the characters that came. -/
import Derived.Test.YtgajinnbmnnccaaHuntTakeA
import Derived.Test.YtgajinnbmnnccaaHuntTakeB
import Derived.Test.YtgajinnbmnnccaaHuntTakeC
import Derived.Test.YtgajinnbmnnccaaHuntTakeD
namespace Go.Proofs.Ytgajinnbmnnccaa
open Go.RowKit Gim
/-- a Hunt of the text T to which the characters l have come -/
def St (w : World) (B H : Nat) (c : Int) (N : Nat) (T : List Int) (tv bv : Value) (l : List Int) (whole : Bool) : Prop :=
  ∃ k, Hm w B H c N T tv bv (cameN l T N) k (offB l T) (fdB c l T) whole ∧ Mx l T k
def Adds (w : World) (B H : Nat) (c : Int) (N : Nat) (T : List Int) (tv bv : Value) (l : List Int) (whole : Bool) (v : Value) (e : Ending) (w' : World) : Prop :=
  e = .returned v ∧ Fr (fun j => j = H) w w' ∧ St w' B H c N T tv bv l whole
theorem take_some (w : World) (B H : Nat) (c : Int) (N : Nat) (T : List Int) (tv bv : Value) (came k : Nat) (off fnd whole : Bool) (l : List Int) (r : Int) (h : Hm w B H c N T tv bv came k off fnd whole) (hk : Mx l T k) (hT : 0 < T.length) (hcm : came ≤ 2 ^ 62) :
    Calls Try.prog 28 #[.pointer (some ⟨H, 0, none⟩), .int .i32 r] w (Took w B H c N T tv bv (if came ≤ max N T.length then came + 1 else came) (off || (decide (came < T.length) && (gt T came != r))) fnd whole l r) := by
  by_cases h1 : came < T.length
  · by_cases h2 : gt T came = r
    · exact takeA w B H c N T tv bv came k off fnd whole l r h hk hT hcm h1 h2 _ _ rfl rfl
    · exact takeB w B H c N T tv bv came k off fnd whole l r h hk hT hcm h1 h2 _ _ rfl rfl
  · by_cases h2 : came ≤ max N T.length
    · exact takeC w B H c N T tv bv came k off fnd whole l r h hk hT hcm h1 h2 _ _ rfl rfl
    · exact takeD w B H c N T tv bv came k off fnd whole l r h hk hT hcm h1 h2 _ _ rfl rfl
def TookNil (w : World) (B H : Nat) (c num : Int) (T : List Int) (tv bv : Value) (came k : Nat) (off fnd whole : Bool) (e : Ending) (w' : World) : Prop :=
  e = .returned (.tuple #[]) ∧ Fr (fun j => j = H) w w' ∧ Hm w' B H c num T tv bv came k off fnd whole
set_option maxHeartbeats 1000000 in
theorem take_none (w : World) (B H : Nat) (c : Int) (N : Nat) (T : List Int) (tv bv : Value) (came k : Nat) (off fnd whole : Bool) (r : Int) (h : Hm w B H c N T tv bv came k off fnd whole) (hT : T.length = 0) (hcm : came ≤ 2 ^ 62) (came2 : Nat) (hc2 : came2 = if came ≤ max N T.length then came + 1 else came) :
    Calls Try.prog 28 #[.pointer (some ⟨H, 0, none⟩), .int .i32 r] w (TookNil w B H c N T tv bv came2 k off fnd whole) := by
  obtain ⟨ao, cap, rfl, rd⟩ := h.rt.rd
  have c1 : w.cell? ⟨H, 1, none⟩ = some (.slice ao T.length cap) := by simp [World.cell?, h.hH]
  have c3 : w.cell? ⟨H, 3, none⟩ = some (.int .i64 N) := by simp [World.cell?, h.hH]
  have c4 : w.cell? ⟨H, 4, none⟩ = some (.int .i64 came) := by simp [World.cell?, h.hH]
  have f4 : w.frozen? ⟨H, 4, none⟩ = false := by simp [World.frozen?, h.hH]
  have HM := Lib.hid h
  have HE := Lib.hid hc2
  clear h hc2
  have t1 : ¬ (came < T.length) := by omega
  have t0 : (((T.length : Nat) : Int) == 0) = true := beq_iff_eq.2 (by omega)
  obtain ⟨M, hM⟩ : ∃ M : Nat, (if N < T.length then (T.length : Int) else (N : Int)) = M := ⟨max N T.length, by split <;> omega⟩
  have HX := Lib.hid (show M = max N T.length by split at hM <;> omega)
  have HT := Lib.hid hT
  clear hT rd
  by_cases h1 : came ≤ M
  · obtain rfl : came2 = came + 1 := by rw [HE.out, if_pos (by rw [← HX.out]; exact h1)]
    clear HE
    go_enter Try.func28, Try.ntmps28
    go_wp2
    go_quiet (fail)
    go_wp2
    go_quiet (fail)
    go_wp2
    trace_state
    exact bodyPost_ret (results_none rfl _ _ _) rfl ⟨rfl, ((Fr.refl (fun j => j = H) w).drewN _).set H 4 _ rfl, (HM.out.drewN _).setCame ((came : Int) + 1) (came + 1) rfl⟩
  · obtain rfl : came2 = came := by rw [HE.out, if_neg (by rw [← HX.out]; exact h1)]
    clear HE
    go_enter Try.func28, Try.ntmps28
    go_wp2
    go_quiet (fail)
    go_wp2
    go_quiet (fail)
    go_wp2
    exact bodyPost_ret (results_none rfl _ _ _) rfl ⟨rfl, (Fr.refl (fun j => j = H) w).drewN _, HM.out.drewN _⟩
end Go.Proofs.Ytgajinnbmnnccaa
