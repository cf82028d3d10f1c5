/- The walk of gimletlaw03.awake: it answers true, and leaves what was. -/
import Derived.Test.YtnhhnlbfgipebaaDoorOrd
import Derived.Test.YtnhhnlbfgipebaaDoorFind
import Derived.Test.YtnhhnlbfgipebaaDoorRev
namespace Go.Proofs.YtnhhnlbfgipebaaDoor
open Go.RowKit Gim

theorem aw1 (w : World) : Calls Tryd.prog 6 #[.string ⟨#[97, 255, 98]⟩] w fun e w' => e = .returned (.int .i64 3) ∧ Below w.heap.size w w' := by
  have h := wordsLength ⟨#[97, 255, 98]⟩ w (by decide)
  rwa [show (rs ⟨#[97, 255, 98]⟩).length = 3 from by decide +kernel] at h
theorem aw2 (w : World) : Calls Tryd.prog 19 #[.string ⟨#[97, 98, 97, 98, 99]⟩, .string ⟨#[97, 98, 99]⟩] w fun e w' => e = .returned (.int .i64 2) ∧ Below w.heap.size w w' := by
  have h := find ⟨#[97, 98, 97, 98, 99]⟩ ⟨#[97, 98, 99]⟩ w (by decide) (by decide)
  rwa [show findI (rs ⟨#[97, 98, 97, 98, 99]⟩) (rs ⟨#[97, 98, 99]⟩) = 2 from by decide +kernel] at h
theorem aw3 (w : World) : Calls Tryd.prog 14 #[.string ⟨#[97]⟩, .string ⟨#[98]⟩] w fun e w' => e = .returned (.int .i64 (-1)) ∧ Below w.heap.size w w' := by
  have h := compare ⟨#[97]⟩ ⟨#[98]⟩ w (by decide) (by decide)
  rwa [show ordI (rs ⟨#[97]⟩) (rs ⟨#[98]⟩) = -1 from by decide +kernel] at h
theorem aw4 (w : World) : Calls Tryd.prog 12 #[.string ⟨#[97, 98]⟩] w fun e w' => e = .returned (.string ⟨#[98, 97]⟩) ∧ Below w.heap.size w w' := by
  have h := reverse ⟨#[97, 98]⟩ w (by decide)
  rwa [show runesBytes (rs ⟨#[97, 98]⟩).reverse = ⟨#[98, 97]⟩ from by decide +kernel] at h

set_option maxHeartbeats 400000 in
theorem awake (w : World) : Calls Tryd.prog 5 #[] w fun e w' => e = .returned (.bool true) ∧ Below w.heap.size w w' := by
  go_enter Tryd.func5, Tryd.ntmps5
  go_wp2_with fail
  refine (aw1 _).mono ?_
  rintro e w1 ⟨rfl, hb1⟩
  go_wp2_with fail
  refine (aw2 _).mono ?_
  rintro e w2 ⟨rfl, hb2⟩
  go_wp2_with fail
  refine (aw3 _).mono ?_
  rintro e w3 ⟨rfl, hb3⟩
  go_wp2_with fail
  refine (aw4 _).mono ?_
  rintro e w4 ⟨rfl, hb4⟩
  go_wp2_with fail
  go_ret
  have h2 := hb1.trans (hb2.mono hb1.size)
  have h3 := h2.trans (hb3.mono h2.size)
  exact ⟨rfl, h3.trans (hb4.mono h3.size)⟩
end Go.Proofs.YtnhhnlbfgipebaaDoor
