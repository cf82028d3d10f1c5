/- gimletlaw04.awake holds. -/
import Derived.Test.YtpkdbfnnbbkkiaaDoorFeedNext
import Derived.Lib.SmallJoins
namespace Gim
open Go
set_option maxRecDepth 100000 in
theorem peek_a : peekB [13] (0, 0, 1, 1) false = ((0, (0, 0, 0, 0), 0), 1) := by decide +kernel
set_option maxRecDepth 100000 in
theorem first_b : firstB [13, 10, 195, 169] false = (10, 2, 0) := by decide +kernel
set_option maxRecDepth 100000 in
theorem peek_b : peekB [13, 10, 195, 169] (0, 0, 1, 1) false = ((10, (0, 0, 1, 1), 2), 0) := by decide +kernel
set_option maxRecDepth 100000 in
theorem peek_c : peekB [195, 169] (2, 2, 2, 1) false = ((233, (2, 2, 2, 1), 2), 0) := by decide +kernel
theorem behind_b : behind (0, 0, 1, 1) 10 2 = (2, 2, 2, 1) := by decide +kernel
end Gim
namespace Go.Proofs.YtpkdbfnnbbkkiaaDoor
open Go.RowKit Gim
theorem rd_new (w : World) (t : TypeId) (fr : Nat × Nat) (xs : List Int) (h4 : xs.length ≤ 4) : Rd (w.alloc (.cells (xs.map (Value.int .u8)).toArray t fr)) .u8 (some ⟨w.heap.size, 0, none⟩) xs.length xs.length xs :=
  ⟨rfl, Nat.le_refl _, by unfold maxLen; omega, fun j hj => ⟨_, _, rfl, by simp, fun i hi => by
    have hh := heap_alloc_new w (.cells (xs.map (Value.int .u8)).toArray t fr)
    unfold World.cell?
    rw [hh]
    simp [gt, hi]⟩⟩
set_option maxRecDepth 100000 in
set_option maxHeartbeats 2000000 in
theorem feed_awake (w : World) (hT : U8 w) : Calls Tryd.prog 11 #[] w fun e w' => e = .returned (.bool true) ∧ Below w.heap.size w w' := by
  go_enter Tryd.func11, Tryd.ntmps11
  go_wp2_with fail
  refine (feedNew w).mono ?_
  rintro e w1 ⟨rfl, m1, b1⟩
  obtain ⟨F, hF⟩ : ∃ F, Hid (F = w.heap.size) := ⟨_, rfl⟩
  rw [← hF.out] at m1 ⊢
  have hFl := m1.lt.1
  have hcv := Go.Joins.run_convert_bytes_const_at (P := Tryd.prog) w1 22 5 #[.int .u8 13] 1 1 w1.heap.size rfl Tryd.underlying22 Tryd.underlying5
  have r1 := rd_new w1 5 (1, 2) [13] (by decide)
  have b2 : Below w1.heap.size w1 (w1.alloc (.cells ([13].map (Value.int .u8)).toArray 5 (1, 2))) := (Below.refl _ _).alloc (Nat.le_refl _) _
  have hC := push_calls _ F F _ [] _ (m1.fresh b2) _ _ _ [13] r1 (by decide) (fun h => by cases h) (by decide)
  have HB := Lib.hid (b1.trans (b2.mono b1.size))
  have HC := Lib.hid hC
  clear b2 r1 hC m1
  go_wp2_with fail
  refine HC.out.mono ?_
  rintro e w2 ⟨rfl, v2, m2, f2, n2⟩
  have hb2 : Below w.heap.size w w2 := HB.out.trans (f2.below HB.out.size (fun j hj => by rcases hj with rfl | hj; (rw [hF.out]; exact Nat.le_refl _); cases hj))
  clear HC HB f2 n2 hcv b1
  have hC := peek_calls w2 F F v2 [13] _ false m2 (hT.below hb2) (by decide) (by decide)
  rw [peek_a] at hC
  unfold charV at hC
  have HC := Lib.hid hC
  clear hC
  go_wp2_with fail
  refine HC.out.mono ?_
  rintro e w3 ⟨rfl, b3⟩
  clear HC
  have b4 := b3.alloc b3.size (Obj.cells #[.int .i32 0, .int .i64 0, .int .i64 0, .int .i64 0, .int .i64 0, .int .i64 0] 32)
  have m3 := m2.fresh b4
  have hb4 := hb2.trans (b4.mono hb2.size)
  obtain ⟨w4, hw4⟩ : ∃ w4, Hid (w4 = w3.alloc (Obj.cells #[.int .i32 0, .int .i64 0, .int .i64 0, .int .i64 0, .int .i64 0, .int .i64 0] 32)) := ⟨_, rfl⟩
  rw [← hw4.out] at b4 m3 hb4
  have hcv := Go.Joins.run_convert_bytes_const_at (P := Tryd.prog) w4 22 5 #[.int .u8 10, .int .u8 195, .int .u8 169] 3 3 w4.heap.size rfl Tryd.underlying22 Tryd.underlying5
  have r1 := rd_new w4 5 (3, 4) [10, 195, 169] (by decide)
  have b5 : Below w4.heap.size w4 (w4.alloc (.cells ([10, 195, 169].map (Value.int .u8)).toArray 5 (3, 4))) := (Below.refl _ _).alloc (Nat.le_refl _) _
  have hC := push_calls _ F F _ _ _ (m3.fresh b5) _ _ _ [10, 195, 169] r1 (by decide) (fun h => by cases h) (by decide)
  have HB := Lib.hid (hb4.trans (b5.mono hb4.size))
  have HC := Lib.hid hC
  have hF2 := fun g hg => (m2.own.lt g hg).1
  clear b5 r1 hC m2 m3 b4 hb4 b3
  go_upto_region 6 with fail
  rw [← hw4.out]
  go_wp2_with fail
  refine HC.out.mono ?_
  rintro e w5 ⟨rfl, v5, m5, f5, n5⟩
  have hb5 : Below w.heap.size w w5 := HB.out.trans (f5.below HB.out.size (fun j hj => by rw [← hF.out]; rcases hj with rfl | hj; (exact Nat.le_refl _); exact hF2 _ hj))
  clear HC HB f5 n5 hcv hF2 hw4
  have hC := next_feed w5 F F v5 [13, 10, 195, 169] _ false m5 (hT.below hb5) (by decide) (by decide) (by decide)
  unfold Nexted at hC
  rw [peek_b, first_b] at hC
  unfold charV at hC
  simp only [behind_b] at hC
  have HC := Lib.hid hC
  clear hC
  go_wp2_with fail
  refine HC.out.mono ?_
  rintro e w6 ⟨rfl, hE⟩
  obtain ⟨hE, _⟩ | ⟨_, v6, m6, f6, _⟩ := hE
  · exact absurd rfl hE
  clear HC
  have m6' : Fm w6 F F v6 [195, 169] (2, 2, 2, 1) false := m6
  have b7 := (Below.refl w6.heap.size w6).alloc (Nat.le_refl _) (Obj.cells #[.int .i32 10, .int .i64 0, .int .i64 0, .int .i64 1, .int .i64 1, .int .i64 2] 32)
  have hFr : ∀ j, j = F → w.heap.size ≤ j := fun j hj => by rw [hj, hF.out]; exact Nat.le_refl _
  have hb6 : Below w.heap.size w w6 := hb5.trans (f6.below hb5.size hFr)
  have hb7 := hb6.trans (b7.mono hb6.size)
  have m7 := m6'.fresh b7
  have y7 := heap_alloc_new w6 (Obj.cells #[.int .i32 10, .int .i64 0, .int .i64 0, .int .i64 1, .int .i64 1, .int .i64 2] 32)
  have hFc := m6'.lt.1
  obtain ⟨C, hCC⟩ : ∃ C, Hid (C = w6.heap.size) := ⟨_, rfl⟩
  rw [← hCC.out] at hFc y7
  clear m6 m6' b7 hb5 f6 m5
  have hC := next_feed _ F F v6 [195, 169] _ false m7 (hT.below hb7) (by decide) (by decide) (by decide)
  unfold Nexted at hC
  rw [peek_c] at hC
  unfold charV at hC
  have HC := Lib.hid hC
  clear hC
  have HB7 := Lib.hid hb7
  clear hb7
  go_wp2_with fail
  refine HC.out.mono ?_
  rintro e w8 ⟨rfl, hE⟩
  clear HC
  have f8 : Fr (fun j => j = F) (w6.alloc (Obj.cells #[.int .i32 10, .int .i64 0, .int .i64 0, .int .i64 1, .int .i64 1, .int .i64 2] 32)) w8 := by
    rcases hE with ⟨_, b⟩ | ⟨_, _, _, f, _⟩
    · exact Fr.of b
    · exact f
  have hb8 : Below w.heap.size w w8 := HB7.out.trans (f8.below HB7.out.size hFr)
  have y8 := (f8.block C (Array.getElem?_eq_some_iff.1 y7).1 (fun e => by have e : C = F := e; omega)).trans y7
  clear hE f8 m7 HB7 hFr y7
  have b9 := (Below.refl w8.heap.size w8).alloc (Nat.le_refl _) (Obj.cells #[.int .i32 233, .int .i64 2, .int .i64 2, .int .i64 2, .int .i64 1, .int .i64 2] 32)
  have hb9 := hb8.trans (b9.mono hb8.size)
  have y9 := (b9.block C (Array.getElem?_eq_some_iff.1 y8).1).trans y8
  have z9 := heap_alloc_new w8 (Obj.cells #[.int .i32 233, .int .i64 2, .int .i64 2, .int .i64 2, .int .i64 1, .int .i64 2] 32)
  go_upto_region 9 with fail
  rw [← hCC.out]
  generalize w8.alloc (Obj.cells #[.int .i32 233, .int .i64 2, .int .i64 2, .int .i64 2, .int .i64 1, .int .i64 2] 32) = w9 at hb9 y9 z9 ⊢
  generalize w8.heap.size = C2 at z9 ⊢
  have e0 : w9.cell? ⟨C, 0, none⟩ = some (.int .i32 10) := by simp [World.cell?, y9]
  have e5 : w9.cell? ⟨C, 5, none⟩ = some (.int .i64 2) := by simp [World.cell?, y9]
  have g0 : w9.cell? ⟨C2, 0, none⟩ = some (.int .i32 233) := by simp [World.cell?, z9]
  have g1 : w9.cell? ⟨C2, 1, none⟩ = some (.int .i64 2) := by simp [World.cell?, z9]
  have g2 : w9.cell? ⟨C2, 2, none⟩ = some (.int .i64 2) := by simp [World.cell?, z9]
  have g3 : w9.cell? ⟨C2, 3, none⟩ = some (.int .i64 2) := by simp [World.cell?, z9]
  have g4 : w9.cell? ⟨C2, 4, none⟩ = some (.int .i64 1) := by simp [World.cell?, z9]
  go_wp2
  go_ret
  exact ⟨rfl, hb9⟩
end Go.Proofs.YtpkdbfnnbbkkiaaDoor
