/- The walks of words.Translate, gimletref03.text, gimletref03.Translate. -/
import Derived.Test.YtnhhnlbfgipebaaDoorTrMath
import Derived.Test.YtnhhnlbfgipebaaDoorRunes
namespace Go.Proofs.YtnhhnlbfgipebaaDoor
open Go.RowKit Gim Go.Maps

theorem keyLaw : Keyed Tryd.prog 21 := int_keyed Tryd.underlying21
theorem zeroInt (w : World) : (zeroValue 3).run Tryd.prog w = .ok (.int .i64 0) w := by kernel_rfl

set_option maxHeartbeats 400000 in
theorem text (v : Value) (xs : List Int) (B : Nat) (w : World) (h : Row w B 21 .i32 v xs) :
    Calls Tryd.prog 24 #[v] w fun e w' => e = .returned (.string (runesBytes xs)) ∧ w = w' := by
  obtain ⟨a, c, rfl, rd⟩ := h.rd
  have hcv := rd.conv (P := Tryd.prog) (src := 33) (dst := 9) (e := 21) rfl rfl rfl
  go_enter Tryd.func24, Tryd.ntmps24
  go_wp2
  go_ret
  exact ⟨rfl, rfl⟩

end Go.Proofs.YtnhhnlbfgipebaaDoor
