/- runes.At at any place. -/
import Derived.Test.YtbbfifaojepjiaaDoorAtWalk
namespace Gim
open Go
/-- what At answers: the byte, the character, the line, the column; the error -/
def atB (xs : List Int) (i : Int) : (Int × Int × Int × Int) × Int :=
  if i < 0 ∨ (xs.length : Int) < i then ((0, 0, 0, 0), 2) else ((i, (placeB xs i.toNat).1, (placeB xs i.toNat).2.1, (placeB xs i.toNat).2.2), 0)
end Gim
namespace Go.Proofs.YtbbfifaojepjiaaDoor
open Go.RowKit Go.Shelf Gim
attribute [local go_sem] Oper.semAt_some
set_option maxRecDepth 100000 in
set_option maxHeartbeats 2000000 in
theorem at_out (i : Int) (w : World) (ao : Option Addr) (n cap : Nat) (hr : i < 0 ∨ (n : Int) < i) :
    CallsIn Fence.wide 6 Tryd.prog 29 #[.slice ao n cap, .int .i64 i] w fun e w' => e = .returned (.tuple #[.agg #[.int .i64 0, .int .i64 0, .int .i64 0, .int .i64 0], .int .i64 2]) ∧ Below w.heap.size w w' := by
  refine callsIn_of_wp_marks Tryd.func29 rfl trivial ?_ rfl
  simp only [Tryd.ntmps29, List.size_toArray, List.length_cons, List.length_nil, Nat.reduceAdd, Nat.reduceSub, Array.replicate_succ, Array.replicate_zero, List.push_toArray, List.append_toArray, List.nil_append, List.cons_append]
  rcases hr with hr | hr
  all_goals
    gi_wp2
    have hh := heap_alloc_new (w.alloc (.cells #[.slice ao n cap] 32)) (.cells #[.int .i64 0, .int .i64 0, .int .i64 0, .int .i64 0] 61)
    rw [World.size_alloc] at hh
    have hbV : Below w.heap.size w ((w.alloc (.cells #[.slice ao n cap] 32)).alloc (.cells #[.int .i64 0, .int .i64 0, .int .i64 0, .int .i64 0] 61)) := ((Below.refl _ _).alloc (Nat.le_refl _) _).alloc (by simp) _
    obtain ⟨V, hV⟩ : ∃ V, V = ((w.alloc (.cells #[.slice ao n cap] 32)).alloc (.cells #[.int .i64 0, .int .i64 0, .int .i64 0, .int .i64 0] 61)) := ⟨_, rfl⟩
    rw [← hV] at hh hbV ⊢
    clear hV
    have k0 : V.cell? ⟨w.heap.size + 1, 0, none⟩ = some (.int .i64 0) := by simp [World.cell?, hh]
    have k1 : V.cell? ⟨w.heap.size + 1, 1, none⟩ = some (.int .i64 0) := by simp [World.cell?, hh]
    have k2 : V.cell? ⟨w.heap.size + 1, 2, none⟩ = some (.int .i64 0) := by simp [World.cell?, hh]
    have k3 : V.cell? ⟨w.heap.size + 1, 3, none⟩ = some (.int .i64 0) := by simp [World.cell?, hh]
    refine ⟨.tuple #[.agg #[.int .i64 0, .int .i64 0, .int .i64 0, .int .i64 0], .int .i64 2], ?_, rfl, hbV⟩
    simp [results, Tryd.f29, go_sem, k0, k1, k2, k3]
/-- runes.At at any place -/
theorem at_calls (i : Int) (w : World) (ao : Option Addr) (n cap : Nat) (xs : List Int) (h : Rb w ao n cap xs) (hn : n ≤ 1125899906842624) :
    Calls Tryd.prog 29 #[.slice ao n cap, .int .i64 i] w fun e w' => e = .returned (.tuple #[.agg #[.int .i64 (atB xs i).1.1, .int .i64 (atB xs i).1.2.1, .int .i64 (atB xs i).1.2.2.1, .int .i64 (atB xs i).1.2.2.2], .int .i64 (atB xs i).2]) ∧ Below w.heap.size w w' := by
  have hl := h.rd.len
  by_cases hr : i < 0 ∨ (n : Int) < i
  · rw [show atB xs i = ((0, 0, 0, 0), 2) by rw [atB, if_pos (by rw [hl]; exact hr)]]
    exact callsIn_wide.1 (at_out i w ao n cap hr)
  · rw [show atB xs i = ((i, (placeB xs i.toNat).1, (placeB xs i.toNat).2.1, (placeB xs i.toNat).2.2), 0) by rw [atB, if_neg (by rw [hl]; exact hr)]]
    obtain ⟨m, rfl⟩ := Int.eq_ofNat_of_zero_le (show 0 ≤ i by omega)
    exact callsIn_wide.1 (at_in m w ao n cap xs h hn (by omega))
end Go.Proofs.YtbbfifaojepjiaaDoor
