/- The walk of gimletlaw02.CharsTexts. -/
import Derived.Test.YtianmebhmjdakaaDoorReadWalk
namespace Go.Proofs.YtianmebhmjdakaaDoor
open Go.RowKit Gim
set_option maxHeartbeats 1000000 in
theorem charsTexts_walk (s : ByteArray) (w : World) (hs : s.size ≤ 140737488351232) (hT : Laid w) :
    Calls Tryd.prog 3 #[.string s] w fun e w' => e = .returned (.bool true) ∧ Below w.heap.size w w' := by
  go_enter Tryd.func3, Tryd.ntmps3
  go_wp2_with fail
  refine (fixed_calls _ hT).mono ?_
  rintro e w1 ⟨rfl, hb1⟩
  have hT1 := hT.below hb1
  go_wp2_with fail
  refine (name_calls s _ (by omega) hT1).mono ?_
  rintro e w2 ⟨rfl, hb2⟩
  have hT2 := hT1.below hb2
  go_wp2_with fail
  refine (refName_calls s _ hs).mono ?_
  rintro e w3 ⟨rfl, hb3⟩
  have hT3 := hT2.below hb3
  go_wp2_with fail
  refine (texts_calls s _ (by omega) hT3).mono ?_
  rintro e w4 ⟨rfl, hb4⟩
  have hT4 := hT3.below hb4
  go_wp2_with fail
  refine (refTexts_calls s _ hs).mono ?_
  rintro e w5 ⟨rfl, hb5⟩
  go_wp2
  go_ret
  have h2 := hb1.trans (hb2.mono hb1.size)
  have h3 := h2.trans (hb3.mono h2.size)
  have h4 := h3.trans (hb4.mono h3.size)
  exact ⟨rfl, h4.trans (hb5.mono h4.size)⟩
end Go.Proofs.YtianmebhmjdakaaDoor
