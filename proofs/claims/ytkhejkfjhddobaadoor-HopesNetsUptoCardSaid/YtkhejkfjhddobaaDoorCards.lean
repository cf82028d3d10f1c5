/-
  DERIVED. GIVEN WITH THE SEED: THE CARDS: each row of YtkhejkfjhddobaaDoorRows.lean that lists a variable, with what it lists TIED to the program's text (the seventh form; the later family's looks); each row that meets fmt, with fmt's text TOLD by the authors' own Lean function (tested against real Go, not proved from fmt's source: count such statements apart). THE CARD IS WHAT COUNTS. Prove the row's statement (the work); the ties are given (YtkhejkfjhddobaaDoorTie.lean); close each card by the builder's one call (the guide's Derived/Test/ToyasCard.lean, 'card_holds'). Laid BY PROGRAM, IN A SANDBOX (cutbox-door.mjs). By AI agents, Wed Nov 11 2026. No macro, syntax, notation, axiom, sorry.
-/
import Derived.Test.YtkhejkfjhddobaaDoorRows
import GoSem.ClaimSeven
namespace Go.Proofs.YtkhejkfjhddobaaDoor
namespace Rows

/-- THE TIED CARD OF 'gimletlaw18.HopesNets'. -/
def hopesNetsCard : Claim7 := { stood := { row := hopesNetsRow, standIns := [], harness := (true, "08ab5e95a1ba7768a79ea6ffc034cc3752bd1e9200100aa3ce982735abbfb1af"), looks := false }, kinds := [], alts := [], laidByText := true, laidKinds := [.data, .widerDeep, .pinned], laidTests := true, laidLooks := .later }
def HopesNetsCardSaid : Prop := Claim7.holds Tryd.pinned (.plain (OpenSpec.ofChange hopesNetsSpec)) hopesNetsCard

/-- THE SECOND FORM's CARD OF 'gimletlaw18.HopesNets'. -/
def hopesNetsUptoCard : Claim7 := { stood := { row := hopesNetsUptoRow, standIns := [], harness := (true, "08ab5e95a1ba7768a79ea6ffc034cc3752bd1e9200100aa3ce982735abbfb1af"), looks := false }, kinds := [], alts := [], laidByText := true, laidKinds := [.data, .widerDeep, .pinned], laidTests := true, laidLooks := .later }
def HopesNetsUptoCardSaid : Prop := Claim7.holds Tryd.pinned (.plain (OpenSpec.upto hopesNetsSpec)) hopesNetsUptoCard
end Rows
end Go.Proofs.YtkhejkfjhddobaaDoor
