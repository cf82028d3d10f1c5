/-
  DERIVED. GIVEN WITH THE SEED: THE CARDS: each row of YtnhhnlbfgipebaaDoorRows.lean that lists a variable, with what it lists TIED to the program's text (the seventh form; the later family's looks); each row that meets fmt, with fmt's text TOLD by the authors' own Lean function (tested against real Go, not proved from fmt's source: count such statements apart). THE CARD IS WHAT COUNTS. Prove the row's statement (the work); the ties are given (YtnhhnlbfgipebaaDoorTie.lean); close each card by the builder's one call (the guide's Derived/Test/ToyasCard.lean, 'card_holds'). Laid BY PROGRAM, IN A SANDBOX (cutbox-door.mjs). By AI agents, Wed Nov 11 2026. No macro, syntax, notation, axiom, sorry.
-/
import Derived.Test.YtnhhnlbfgipebaaDoorRows
import GoSem.ClaimSeven
namespace Go.Proofs.YtnhhnlbfgipebaaDoor
namespace Rows

/-- THE TIED CARD OF 'gimletlaw03.WordsAsked'. -/
def wordsAskedCard : Claim7 := { stood := { row := wordsAskedRow, standIns := [], harness := (true, "ab7fc910f02f4fb789d5f5744acaca07b95a9384726bffca2be65facc4971d8e"), looks := false }, kinds := [], alts := [], laidByText := true, laidKinds := [.widerDeep], laidTests := true, laidLooks := .later }
def WordsAskedCardSaid : Prop := Claim7.holds Tryd.pinned (.plain (OpenSpec.ofChange wordsAskedSpec)) wordsAskedCard

/-- THE TIED CARD OF 'gimletlaw03.WordsPieces'. -/
def wordsPiecesCard : Claim7 := { stood := { row := wordsPiecesRow, standIns := [], harness := (true, "ab7fc910f02f4fb789d5f5744acaca07b95a9384726bffca2be65facc4971d8e"), looks := false }, kinds := [], alts := [], laidByText := true, laidKinds := [.data, .pinned], laidTests := true, laidLooks := .later }
def WordsPiecesCardSaid : Prop := Claim7.holds Tryd.pinned (.plain (OpenSpec.ofChange wordsPiecesSpec)) wordsPiecesCard

/-- THE SECOND FORM's CARD OF 'gimletlaw03.WordsAsked'. -/
def wordsAskedUptoCard : Claim7 := { stood := { row := wordsAskedUptoRow, standIns := [], harness := (true, "ab7fc910f02f4fb789d5f5744acaca07b95a9384726bffca2be65facc4971d8e"), looks := false }, kinds := [], alts := [], laidByText := true, laidKinds := [.widerDeep], laidTests := true, laidLooks := .later }
def WordsAskedUptoCardSaid : Prop := Claim7.holds Tryd.pinned (.plain (OpenSpec.upto wordsAskedSpec)) wordsAskedUptoCard

/-- THE SECOND FORM's CARD OF 'gimletlaw03.WordsPieces'. -/
def wordsPiecesUptoCard : Claim7 := { stood := { row := wordsPiecesUptoRow, standIns := [], harness := (true, "ab7fc910f02f4fb789d5f5744acaca07b95a9384726bffca2be65facc4971d8e"), looks := false }, kinds := [], alts := [], laidByText := true, laidKinds := [.data, .pinned], laidTests := true, laidLooks := .later }
def WordsPiecesUptoCardSaid : Prop := Claim7.holds Tryd.pinned (.plain (OpenSpec.upto wordsPiecesSpec)) wordsPiecesUptoCard
end Rows
end Go.Proofs.YtnhhnlbfgipebaaDoor
