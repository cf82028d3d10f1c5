/- The walk of gimletlaw16.asked. -/
import Derived.Test.YtgajinnbmnnccaaHuntAwake
import Derived.Deep.RegionHeld3
namespace Go.Proofs.Ytgajinnbmnnccaa
open Go.RowKit Gim
/-- a Hunt, new, of a comparison and number brought into range -/
def AskedOK (w : World) (c0 : Int) (N : Nat) (s : ByteArray) (e : Ending) (w' : World) : Prop :=
  ∃ H tv bv, e = .returned (.tuple #[.pointer (some ⟨H, 0, none⟩), .bool true]) ∧ w.heap.size ≤ H ∧ St w' (H + 1) H (c0 % 9) N (askedT (c0 % 9) s) tv bv [] false ∧ Below w.heap.size w w'
set_option maxHeartbeats 1000000 in
theorem asked_calls (c0 n0 : Int) (s : ByteArray) (hn : n0 ≤ 9223372036854775807) (hs : s.size ≤ 1099511627776) (w : World) :
    Calls Try.prog 13 #[.agg #[.int .i64 c0, .string s, .int .i64 n0]] w (AskedOK w c0 n0.toNat s) := by
  have hI : ∀ w, Calls Try.prog 15 #[.int .i64 c0, .int .i64 9] w fun e w' => e = .returned (.int .i64 (c0 % 9)) ∧ w' = w := fun w => into_calls c0 9 (by decide) (by decide) w
  have h0 : 0 ≤ c0 % 9 := Int.emod_nonneg _ (by decide)
  have h8 : c0 % 9 < 9 := Int.emod_lt_of_pos _ (by decide)
  obtain ⟨c, hc⟩ : ∃ c, c = c0 % 9 := ⟨_, rfl⟩
  unfold AskedOK
  rw [← hc] at hI h0 h8 ⊢
  clear hc
  obtain ⟨z, hz, hN⟩ : ∃ z : Int, (if n0 < 0 then (0 : Int) else n0) = z ∧ ∀ w, Calls Try.prog 9 #[.int .i64 c, .string s, .int .i64 z] w (NewOK w c n0.toNat (askedT c s)) :=
    ⟨((n0.toNat : Nat) : Int), by split <;> omega, fun w => new_calls w c s n0.toNat h0 (by omega) hs⟩
  go_enter Try.func13, Try.ntmps13
  go_wp2_with fail
  have b1 : Below w.heap.size w (w.alloc (Obj.cells #[.int .i64 c0, .string s, .int .i64 n0] 23)) := (Below.refl _ _).alloc (Nat.le_refl _) _
  have x0 : (w.alloc (Obj.cells #[.int .i64 c0, .string s, .int .i64 n0] 23)).heap[w.heap.size]? = some (Obj.cells #[.int .i64 c0, .string s, .int .i64 n0] 23) := heap_alloc_new w _
  generalize w.alloc (Obj.cells #[.int .i64 c0, .string s, .int .i64 n0] 23) = W1 at b1 x0 ⊢
  have y0 : W1.cell? ⟨w.heap.size, 0, none⟩ = some (.int .i64 c0) := by simp [World.cell?, x0]
  have y1 : W1.cell? ⟨w.heap.size, 1, none⟩ = some (.string s) := by simp [World.cell?, x0]
  have y2 : W1.cell? ⟨w.heap.size, 2, none⟩ = some (.int .i64 n0) := by simp [World.cell?, x0]
  have hlt : w.heap.size < W1.heap.size := (Array.getElem?_eq_some_iff.1 x0).1
  clear x0
  go_region_held3 (fun W => W.cell? ⟨w.heap.size, 0, none⟩ = some (.int .i64 c0) ∧ W.cell? ⟨w.heap.size, 1, none⟩ = some (.string s) ∧ W.cell? ⟨w.heap.size, 2, none⟩ = some (.int .i64 n0)) (first | go_keep | exact ⟨by assumption, by assumption, by assumption⟩) (first | (go_at_call 15; refine (hI _).mono ?_; rintro e w2 ⟨rfl, rfl⟩) | (go_at_call 9; refine (hN _).mono ?_; rintro e w3 ⟨tv, bv, rfl, s3, b3⟩; have k0 := (b3.cell (p := ⟨w.heap.size, 0, none⟩) hlt).trans y0; have k1 := (b3.cell (p := ⟨w.heap.size, 1, none⟩) hlt).trans y1; have k2 := (b3.cell (p := ⟨w.heap.size, 2, none⟩) hlt).trans y2))
  all_goals
    go_wp2
    go_ret2
    exact ⟨_, _, _, rfl, b1.size, s3, b1.drew.trans (b3.mono b1.size)⟩
end Go.Proofs.Ytgajinnbmnnccaa
