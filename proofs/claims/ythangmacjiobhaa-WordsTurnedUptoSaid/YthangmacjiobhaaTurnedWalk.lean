/- The walk of gimletlaw03.WordsTurned. -/
import Derived.Test.YthangmacjiobhaaAwake
import Derived.Test.YthangmacjiobhaaTr
namespace Go.Proofs.Ythangmacjiobhaa
open Go.RowKit Gim

set_option maxHeartbeats 400000 in
theorem wordsTurnedWalk (s f t : ByteArray) (w : World) (hs : s.size ≤ 1048576) (hf : f.size ≤ 1048576) (ht : t.size ≤ 1048576) :
    Calls Try.prog 5 #[.string s, .string f, .string t] w fun e w' => e = .returned (.bool true) ∧ Below w.heap.size w w' := by
  go_enter Try.func5, Try.ntmps5
  go_wp2_with fail
  refine (awake _).mono ?_
  rintro e w1 ⟨rfl, h1⟩
  go_wp2_with fail
  refine (translate _ _ _ _ (by omega) (by omega) (by omega)).mono ?_
  rintro e w2 ⟨rfl, b2⟩
  have h2 := h1.trans (b2.mono h1.size)
  go_wp2_with fail
  refine (refTranslate _ _ _ _ (by omega) (by omega) (by omega)).mono ?_
  rintro e w3 ⟨rfl, b3⟩
  have h3 := h2.trans (b3.mono h2.size)
  go_wp2_with fail
  go_ret
  exact ⟨rfl, h3⟩
end Go.Proofs.Ythangmacjiobhaa
