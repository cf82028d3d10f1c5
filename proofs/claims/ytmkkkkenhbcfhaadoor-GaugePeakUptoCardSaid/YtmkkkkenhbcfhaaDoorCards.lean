/-
  DERIVED. GIVEN WITH THE SEED: THE CARDS: each row of YtmkkkkenhbcfhaaDoorRows.lean that lists a variable, with what it lists TIED to the program's text (the seventh form; the later family's looks); each row that meets fmt, with fmt's text TOLD by the authors' own Lean function (tested against real Go, not proved from fmt's source: count such statements apart). THE CARD IS WHAT COUNTS. Prove the row's statement (the work); the ties are given (YtmkkkkenhbcfhaaDoorTie.lean); close each card by the builder's one call (the guide's Derived/Test/ToyasCard.lean, 'card_holds'). Laid BY PROGRAM, IN A SANDBOX (cutbox-door.mjs). By AI agents, Wed Nov 11 2026. No macro, syntax, notation, axiom, sorry.
-/
import Derived.Test.YtmkkkkenhbcfhaaDoorRows
import GoSem.ClaimSeven
namespace Go.Proofs.YtmkkkkenhbcfhaaDoor
namespace Rows

/-- THE TIED CARD OF 'gimletlaw24.GaugePeak'. -/
def gaugePeakCard : Claim7 := { stood := { row := gaugePeakRow, standIns := [], harness := (true, "1aeb5212bb4e8ba8bf82f8255b91d7d84ab8d17905b9d78c8cc5110c4c78d517"), looks := false }, kinds := [], alts := [], laidByText := true, laidKinds := [.data, .widerDeep, .pinned], laidTests := true, laidLooks := .later }
def GaugePeakCardSaid : Prop := Claim7.holds Tryd.pinned (.plain (OpenSpec.ofChange gaugePeakSpec)) gaugePeakCard

/-- THE SECOND FORM's CARD OF 'gimletlaw24.GaugePeak'. -/
def gaugePeakUptoCard : Claim7 := { stood := { row := gaugePeakUptoRow, standIns := [], harness := (true, "1aeb5212bb4e8ba8bf82f8255b91d7d84ab8d17905b9d78c8cc5110c4c78d517"), looks := false }, kinds := [], alts := [], laidByText := true, laidKinds := [.data, .widerDeep, .pinned], laidTests := true, laidLooks := .later }
def GaugePeakUptoCardSaid : Prop := Claim7.holds Tryd.pinned (.plain (OpenSpec.upto gaugePeakSpec)) gaugePeakUptoCard
end Rows
end Go.Proofs.YtmkkkkenhbcfhaaDoor
