/-
  DERIVED. GIVEN WITH THE SEED: THE CARDS: each row of YtghepjbfhjkinaaDoorRows.lean that lists a variable, with what it lists TIED to the program's text (the seventh form; the later family's looks); each row that meets fmt, with fmt's text TOLD by the authors' own Lean function (tested against real Go, not proved from fmt's source: count such statements apart). THE CARD IS WHAT COUNTS. Prove the row's statement (the work); the ties are given (YtghepjbfhjkinaaDoorTie.lean); close each card by the builder's one call (the guide's Derived/Test/ToyasCard.lean, 'card_holds'). Laid BY PROGRAM, IN A SANDBOX (cutbox-door.mjs). By AI agents, Wed Nov 11 2026. No macro, syntax, notation, axiom, sorry.
-/
import Derived.Test.YtghepjbfhjkinaaDoorRows
import GoSem.ClaimSeven
namespace Go.Proofs.YtghepjbfhjkinaaDoor
namespace Rows

/-- THE TIED CARD OF 'gimletlaw24.GaugeBound'. -/
def gaugeBoundCard : Claim7 := { stood := { row := gaugeBoundRow, standIns := [], harness := (true, "796ca959c79027afe63462c521591ee69c188eb7d848e5460dc794ba8d8c8f0b"), looks := false }, kinds := [], alts := [], laidByText := true, laidKinds := [.data, .widerDeep, .pinned], laidTests := true, laidLooks := .later }
def GaugeBoundCardSaid : Prop := Claim7.holds Tryd.pinned (.plain (OpenSpec.ofChange gaugeBoundSpec)) gaugeBoundCard

/-- THE SECOND FORM's CARD OF 'gimletlaw24.GaugeBound'. -/
def gaugeBoundUptoCard : Claim7 := { stood := { row := gaugeBoundUptoRow, standIns := [], harness := (true, "796ca959c79027afe63462c521591ee69c188eb7d848e5460dc794ba8d8c8f0b"), looks := false }, kinds := [], alts := [], laidByText := true, laidKinds := [.data, .widerDeep, .pinned], laidTests := true, laidLooks := .later }
def GaugeBoundUptoCardSaid : Prop := Claim7.holds Tryd.pinned (.plain (OpenSpec.upto gaugeBoundSpec)) gaugeBoundUptoCard
end Rows
end Go.Proofs.YtghepjbfhjkinaaDoor
