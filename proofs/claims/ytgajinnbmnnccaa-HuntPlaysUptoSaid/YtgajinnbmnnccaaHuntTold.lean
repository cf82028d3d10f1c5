/- The walks of hunt's back, told, equal, Close, Truth, Kept and of kleene.Not. -/
import Derived.Test.YtgajinnbmnnccaaHuntBase
namespace Gim
/-- told's answer -/
def toldZ (holds never whole : Bool) : Int := if holds then 2 else if never || whole then 0 else 1
/-- what is known of a comparison -/
def truthZ (c num : Int) (n came k : Nat) (off fnd whole : Bool) : Int :=
  if c = 0 then 2
  else if c = 1 then toldZ (whole && decide (came = n) && !off) (off || decide (n < came)) whole
  else if c = 2 then 2 - toldZ (whole && decide (came = n) && !off) (off || decide (n < came)) whole
  else if c = 3 then toldZ (!off && decide (n ≤ came)) off whole
  else if c = 4 then toldZ (whole && decide (k = n)) false whole
  else if c = 5 then toldZ fnd false whole
  else if c = 6 then toldZ (whole && decide ((came : Int) = num)) (decide (num < came)) whole
  else if c = 7 then toldZ (decide (num < came)) false whole
  else toldZ (whole && decide ((came : Int) < num)) (decide (num ≤ came)) whole
theorem toldZ_range (a b w : Bool) : 0 ≤ toldZ a b w ∧ toldZ a b w ≤ 2 := by
  unfold toldZ
  repeat' split
  all_goals omega
end Gim
namespace Go.Proofs.Ytgajinnbmnnccaa
open Go.RowKit Gim
set_option maxHeartbeats 1000000 in
theorem told_calls (w : World) (H : Nat) (a b : Bool) (x0 x1 x2 x3 x4 x5 x6 x7 : Value) (whole : Bool) (hH : w.heap[H]? = some (.cells #[x0, x1, x2, x3, x4, x5, x6, x7, .bool whole] 63)) :
    Calls Try.prog 31 #[.pointer (some ⟨H, 0, none⟩), .bool a, .bool b] w fun e w' => e = .returned (.int .i64 (toldZ a b whole)) ∧ w' = w := by
  have c8 : w.cell? ⟨H, 8, none⟩ = some (.bool whole) := by simp [World.cell?, hH]
  cases a <;> cases b <;> cases whole
  all_goals
    go_enter Try.func31, Try.ntmps31
    go_wp2
    go_ret
    exact ⟨rfl, rfl⟩
set_option maxHeartbeats 1000000 in
theorem not_calls (w : World) (z : Int) (h0 : 0 ≤ z) (h2 : z ≤ 2) : Calls Try.prog 30 #[.int .i64 z] w fun e w' => e = .returned (.int .i64 (2 - z)) ∧ w' = w := by
  have cG : ∀ wx, Calls Try.prog 49 #[.int .i64 z] wx fun e w' => e = .returned (.bool true) ∧ w' = wx := fun wx => by
    go_enter Try.func49, Try.ntmps49
    go_wp2
    go_ret
    exact ⟨rfl, rfl⟩
  have cS : ∀ wx, Calls Try.prog 43 #[.int .i64 z] wx fun e w' => e = .returned (.int .i64 z) ∧ w' = wx := fun wx => by
    go_enter Try.func43, Try.ntmps43
    go_wp2_with fail
    refine (cG _).mono ?_
    rintro e w1 ⟨rfl, rfl⟩
    go_wp2
    go_ret
    exact ⟨rfl, rfl⟩
  go_enter Try.func30, Try.ntmps30
  go_wp2_with fail
  refine (cS _).mono ?_
  rintro e w1 ⟨rfl, rfl⟩
  go_wp2
  go_ret
  exact ⟨rfl, rfl⟩
end Go.Proofs.Ytgajinnbmnnccaa
