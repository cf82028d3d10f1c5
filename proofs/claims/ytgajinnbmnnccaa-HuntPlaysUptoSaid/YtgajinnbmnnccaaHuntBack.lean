/- The walk of hunt's back. -/
import Derived.Test.YtgajinnbmnnccaaHuntTruth2
namespace Gim
open Go Go.RowKit
theorem Row.shape {w : World} {B : Nat} {e : TypeId} {k : IntKind} {v : Value} {xs : List Int} (h : Row w B e k v xs) (hx : 0 < xs.length) :
    ∃ g cap, v = .slice (some ⟨g, 0, none⟩) xs.length cap ∧ B ≤ g ∧ g < w.heap.size ∧ (xs.length ≤ cap ∧ cap ≤ maxLen) ∧ ∀ i, i < xs.length → w.cell? ⟨g, i, none⟩ = some (.int k (gt xs i)) := by
  rcases h.2 with ⟨_, h0⟩ | ⟨g, cap, cur, rfl, hb, hg, hn, hc, hs, ht⟩
  · omega
  · exact ⟨g, cap, rfl, hb, (Array.getElem?_eq_some_iff.1 hg).1, ⟨hn, hc⟩, fun i hi => h.cell hi⟩
theorem Fr.of_drew {p : Nat → Prop} {a b : World} (h : ∃ m, b = a.drewN m) : Fr p a b := by
  obtain ⟨m, rfl⟩ := h
  exact (Fr.refl p a).drewN m
end Gim
namespace Go.Proofs.Ytgajinnbmnnccaa
open Go.RowKit Gim
set_option maxHeartbeats 1000000 in
theorem back_calls (w : World) (B H : Nat) (c num : Int) (T : List Int) (tv bv : Value) (came k : Nat) (off fnd whole : Bool) (h : Hm w B H c num T tv bv came k off fnd whole) (n : Nat) (h1 : 0 < n) (h2 : n ≤ T.length) :
    Calls Try.prog 42 #[.pointer (some ⟨H, 0, none⟩), .int .i64 n] w fun e w' => e = .returned (.int .i64 (br T n)) ∧ ∃ m, w' = w.drewN m := by
  have hbl := brs_length T
  obtain ⟨g, cap, rfl, hg, hgz, ⟨hn1, hn2⟩, hcell⟩ := h.rb.shape (by omega)
  rw [hbl] at hn1
  have c2 : w.cell? ⟨H, 2, none⟩ = some (.slice (some ⟨g, 0, none⟩) T.length cap) := by simp [World.cell?, h.hH, hbl]
  have cx : w.cell? ⟨g, n - 1, none⟩ = some (.int .i64 (br T n)) := by
    rw [hcell (n - 1) (by omega), brs_get (by omega), show n - 1 + 1 = n by omega]
  have hlt : T.length ≤ 9223372036854775807 := by unfold maxLen at hn2; omega
  have e1 : ((n : Int) - 1).toNat = n - 1 := by omega
  have e2 : (n : Int) - 1 < (T.length : Int) := by omega
  have e3 : (0 : Int) ≤ (n : Int) - 1 := by omega
  go_enter Try.func42, Try.ntmps42
  go_wp2
  all_goals (try (go_quiet (fail); go_wp2))
  go_ret
  exact ⟨rfl, 0, rfl⟩
def Took (w : World) (B H : Nat) (c num : Int) (T : List Int) (tv bv : Value) (came : Nat) (off fnd whole : Bool) (l : List Int) (r : Int) (e : Ending) (w' : World) : Prop :=
  e = .returned (.tuple #[]) ∧ Fr (fun j => j = H) w w' ∧ ∃ k', Mx (l ++ [r]) T k' ∧ Hm w' B H c num T tv bv came k' off (fnd || decide (k' = T.length)) whole
end Go.Proofs.Ytgajinnbmnnccaa
