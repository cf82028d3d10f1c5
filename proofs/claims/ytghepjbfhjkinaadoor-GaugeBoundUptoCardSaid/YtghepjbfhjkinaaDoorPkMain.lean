/- The walk of gimletlaw24.GaugePeak. -/
import Derived.Test.YtghepjbfhjkinaaDoorPkWalk
namespace Go.Proofs.YtghepjbfhjkinaaDoor
open Go.RowKit Gim
theorem cd_two (w : World) : Cd (w.alloc (.cells #[.int .i64 1, .int .i64 2, .int .i64 3, .int .i64 3, .int .i64 0, .int .i64 1] 39)) (some ⟨w.heap.size, 0, none⟩) 2 2 [(1, 2, 3), (3, 0, 1)] :=
  ⟨rfl, Nat.le_refl _, by decide, fun _ _ => ⟨w.heap.size, 0, rfl, by simp, fun i y hy => by
    have h := heap_alloc_new w (.cells #[.int .i64 1, .int .i64 2, .int .i64 3, .int .i64 3, .int .i64 0, .int .i64 1] 39)
    have hi : i < 2 := (List.getElem?_eq_some_iff.1 hy).1
    match i, hi with
    | 0, _ => simp at hy; subst hy; refine ⟨?_, ?_, ?_⟩ <;> (unfold World.cell?; rw [h]; rfl)
    | 1, _ => simp at hy; subst hy; refine ⟨?_, ?_, ?_⟩ <;> (unfold World.cell?; rw [h]; rfl)⟩⟩
set_option maxHeartbeats 2000000 in
theorem awake_calls (w : World) (hT : Laid w) : Calls Tryd.prog 5 #[] w fun e w' => e = .returned (.bool true) ∧ Below w.heap.size w w' := by
  have b0 : Below w.heap.size w (w.alloc (.cells #[.int .i64 0, .int .i64 0, .string ⟨#[97]⟩, .slice none 0 0] 37)) := (Below.refl _ _).alloc (Nat.le_refl _) _
  have hN := bound_a w.heap.size _ (hT.below b0) (heap_alloc_new w (.cells #[.int .i64 0, .int .i64 0, .string ⟨#[97]⟩, .slice none 0 0] 37))
  have HB := Lib.hid b0
  have heq : ∀ W : World, (binOp .eql 39 (.agg #[.int .i64 3, .int .i64 2, .int .i64 3]) (.agg #[.int .i64 3, .int .i64 2, .int .i64 3])).run Tryd.prog W = .ok (.bool true) W := fun _ => by kernel_rfl
  clear b0 hT
  go_enter Tryd.func5, Tryd.ntmps5
  go_wp2_with fail
  refine hN.mono ?_
  rintro e w1 ⟨rfl, b1⟩
  have HB1 := Lib.hid (HB.out.trans (b1.mono HB.out.size))
  have hP := peak_calls _ _ _ _ _ (cd_two w1)
  rw [show pkF [(1, 2, 3), (3, 0, 1)] = (3, 2, 3) by decide] at hP
  clear hN b1
  go_wp2_with fail
  refine hP.mono ?_
  rintro e w2 ⟨rfl, b2⟩
  have b3 : Below w1.heap.size w1 (w1.alloc (.cells #[.int .i64 1, .int .i64 2, .int .i64 3, .int .i64 3, .int .i64 0, .int .i64 1] 39)) := (Below.refl _ _).alloc (Nat.le_refl _) _
  have HB2 := Lib.hid (HB1.out.trans ((b3.trans (b2.mono b3.size)).mono HB1.out.size))
  clear hP b2 b3
  go_wp2_with fail
  go_ret
  exact ⟨rfl, HB2.out⟩
end Go.Proofs.YtghepjbfhjkinaaDoor
