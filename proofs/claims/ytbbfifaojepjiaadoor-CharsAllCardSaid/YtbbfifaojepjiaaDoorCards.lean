/-
  DERIVED. GIVEN WITH THE SEED: THE CARDS: each row of YtbbfifaojepjiaaDoorRows.lean that lists a variable, with what it lists TIED to the program's text (the seventh form; the later family's looks); each row that meets fmt, with fmt's text TOLD by the authors' own Lean function (tested against real Go, not proved from fmt's source: count such statements apart). THE CARD IS WHAT COUNTS. Prove the row's statement (the work); the ties are given (YtbbfifaojepjiaaDoorTie.lean); close each card by the builder's one call (the guide's Derived/Test/ToyasCard.lean, 'card_holds'). Laid BY PROGRAM, IN A SANDBOX (cutbox-door.mjs). By AI agents, Wed Nov 11 2026. No macro, syntax, notation, axiom, sorry.
-/
import Derived.Test.YtbbfifaojepjiaaDoorRows
import GoSem.ClaimSeven
namespace Go.Proofs.YtbbfifaojepjiaaDoor
namespace Rows

/-- THE TIED CARD OF 'gimletlaw02.CharsAll'. -/
def charsAllCard : Claim7 := { stood := { row := charsAllRow, standIns := [], harness := (true, "d781554a7a08b6a7356c94907e48035b9db0fdb1eb98bc47e6c67cdd195ef39c"), looks := false }, kinds := [], alts := [], laidByText := true, laidKinds := [.data, .widerDeep, .pinned], laidTests := true, laidLooks := .later }
def CharsAllCardSaid : Prop := Claim7.holds Tryd.pinned (.plain (OpenSpec.ofChange charsAllSpec)) charsAllCard

/-- THE TIED CARD OF 'gimlettop.WholeRunes'. -/
def wholeRunesCard : Claim7 := { stood := { row := wholeRunesRow, standIns := [], harness := (true, "d781554a7a08b6a7356c94907e48035b9db0fdb1eb98bc47e6c67cdd195ef39c"), looks := false }, kinds := [], alts := [], laidByText := true, laidKinds := [.data, .pinned], laidTests := true, laidLooks := .later }
def WholeRunesCardSaid : Prop := Claim7.holds Tryd.pinned (.plain (OpenSpec.ofChange wholeRunesSpec)) wholeRunesCard

/-- THE TIED CARD OF 'gimletlaw01.RunesGo'. -/
def runesGoCard : Claim7 := { stood := { row := runesGoRow, standIns := [], harness := (true, "d781554a7a08b6a7356c94907e48035b9db0fdb1eb98bc47e6c67cdd195ef39c"), looks := false }, kinds := [], alts := [], laidByText := true, laidKinds := [.data, .pinned], laidTests := true, laidLooks := .later }
def RunesGoCardSaid : Prop := Claim7.holds Tryd.pinned (.plain (OpenSpec.ofChange runesGoSpec)) runesGoCard

/-- THE SECOND FORM's CARD OF 'gimletlaw02.CharsAll'. -/
def charsAllUptoCard : Claim7 := { stood := { row := charsAllUptoRow, standIns := [], harness := (true, "d781554a7a08b6a7356c94907e48035b9db0fdb1eb98bc47e6c67cdd195ef39c"), looks := false }, kinds := [], alts := [], laidByText := true, laidKinds := [.data, .widerDeep, .pinned], laidTests := true, laidLooks := .later }
def CharsAllUptoCardSaid : Prop := Claim7.holds Tryd.pinned (.plain (OpenSpec.upto charsAllSpec)) charsAllUptoCard

/-- THE SECOND FORM's CARD OF 'gimlettop.WholeRunes'. -/
def wholeRunesUptoCard : Claim7 := { stood := { row := wholeRunesUptoRow, standIns := [], harness := (true, "d781554a7a08b6a7356c94907e48035b9db0fdb1eb98bc47e6c67cdd195ef39c"), looks := false }, kinds := [], alts := [], laidByText := true, laidKinds := [.data, .pinned], laidTests := true, laidLooks := .later }
def WholeRunesUptoCardSaid : Prop := Claim7.holds Tryd.pinned (.plain (OpenSpec.upto wholeRunesSpec)) wholeRunesUptoCard

/-- THE SECOND FORM's CARD OF 'gimletlaw01.RunesGo'. -/
def runesGoUptoCard : Claim7 := { stood := { row := runesGoUptoRow, standIns := [], harness := (true, "d781554a7a08b6a7356c94907e48035b9db0fdb1eb98bc47e6c67cdd195ef39c"), looks := false }, kinds := [], alts := [], laidByText := true, laidKinds := [.data, .pinned], laidTests := true, laidLooks := .later }
def RunesGoUptoCardSaid : Prop := Claim7.holds Tryd.pinned (.plain (OpenSpec.upto runesGoSpec)) runesGoUptoCard
end Rows
end Go.Proofs.YtbbfifaojepjiaaDoor
