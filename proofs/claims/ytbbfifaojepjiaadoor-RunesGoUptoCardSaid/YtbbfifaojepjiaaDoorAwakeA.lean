/- gimletlaw01.awake holds. -/
import Derived.Test.YtbbfifaojepjiaaDoorMendWalk
import Derived.Test.YtbbfifaojepjiaaDoorAt2Walk
import Derived.Lib.SmallJoins
namespace Gim
open Go
set_option maxRecDepth 100000 in
theorem next_euro : nextB [226, 130, 172] 0 = (8364, 3, 0, 0) := by decide +kernel
set_option maxRecDepth 100000 in
theorem at_line : atB [97, 13, 10, 98] 3 = ((3, 3, 2, 1), 0) := by decide +kernel
set_option maxRecDepth 100000 in
theorem parts_a : parts [226, 130, 65] = [65533, 65] := by decide +kernel
set_option maxRecDepth 100000 in
theorem bytes_a : runesBytes [65533, 65] = ⟨#[239, 191, 189, 65]⟩ := by decide +kernel
end Gim
namespace Go.Proofs.YtbbfifaojepjiaaDoor
open Go.RowKit Gim
theorem rb_new (w : World) (t : TypeId) (fr : Nat × Nat) (xs : List Int) (h4 : xs.length ≤ 4) (hx : ∀ x ∈ xs, 0 ≤ x ∧ x ≤ 255) : Rb (w.alloc (.cells (xs.map (Value.int .u8)).toArray t fr)) (some ⟨w.heap.size, 0, none⟩) xs.length xs.length xs :=
  ⟨⟨rfl, Nat.le_refl _, by unfold maxLen; omega, fun j hj => ⟨_, _, rfl, by simp, fun i hi => by
    have hh := heap_alloc_new w (.cells (xs.map (Value.int .u8)).toArray t fr)
    unfold World.cell?
    rw [hh]
    simp [gt, hi]⟩⟩, gt_all rfl hx⟩
set_option maxRecDepth 100000 in
set_option maxHeartbeats 1000000 in
theorem awake_calls (w : World) (hT : U8 w) : Calls Tryd.prog 17 #[] w fun e w' => e = .returned (.bool true) ∧ Below w.heap.size w w' := by
  have r1 := rb_new w 5 (0, 0) [226, 130, 172] (by decide) (by decide)
  have hb1 : Below w.heap.size w (w.alloc (.cells ([226, 130, 172].map (Value.int .u8)).toArray 5)) := (Below.refl _ _).alloc (Nat.le_refl _) _
  have cN := next_calls 0 _ _ _ _ _ r1 (U8.below hT hb1) (by decide)
  rw [next_euro] at cN
  go_enter Tryd.func17, Tryd.ntmps17
  go_wp2_with fail
  refine cN.mono ?_
  rintro e w1 ⟨rfl, hb2⟩
  have hb3 := hb1.trans (hb2.mono hb1.size)
  clear hb1 hb2 r1 cN
  have hcv := Go.Joins.run_convert_bytes_const_at (P := Tryd.prog) w1 32 5 #[.int .u8 97, .int .u8 13, .int .u8 10, .int .u8 98] 4 4 w1.heap.size rfl Tryd.underlying32 Tryd.underlying5
  have r2 := rb_new w1 5 (4, 5) [97, 13, 10, 98] (by decide) (by decide)
  have hb4 : Below w.heap.size w (w1.alloc (.cells ([97, 13, 10, 98].map (Value.int .u8)).toArray 5 (4, 5))) := hb3.alloc hb3.size _
  have CA := Lib.hid (at_calls 3 _ _ _ _ _ r2 (by decide))
  rw [at_line] at CA
  have HB4 := Lib.hid hb4
  clear r2 hb4
  go_wp2_with fail
  refine CA.out.mono ?_
  rintro e w2 ⟨rfl, hb5⟩
  have hb6 := HB4.out.trans (hb5.mono HB4.out.size)
  clear HB4 hb5 CA hcv hb3
  go_wp2_with fail
  have hb7 : Below w.heap.size w (w2.alloc (.cells #[.int .i64 3, .int .i64 3, .int .i64 2, .int .i64 1] 61)) := hb6.alloc hb6.size _
  refine ((mendParts_calls ⟨#[226, 130, 65]⟩ _ (by decide) (U8.below hT hb7))).mono ?_
  rintro e w3 ⟨rfl, hb8⟩
  rw [show bz (⟨#[226, 130, 65]⟩ : ByteArray).data.toList = [226, 130, 65] from by decide, parts_a, bytes_a]
  go_wp2
  go_ret
  exact ⟨rfl, hb7.trans (hb8.mono hb7.size)⟩
end Go.Proofs.YtbbfifaojepjiaaDoor
