/-
  DERIVED. GIVEN WITH THE SEED: THE CARDS: each row of YtianmebhmjdakaaDoorRows.lean that lists a variable, with what it lists TIED to the program's text (the seventh form; the later family's looks); each row that meets fmt, with fmt's text TOLD by the authors' own Lean function (tested against real Go, not proved from fmt's source: count such statements apart). THE CARD IS WHAT COUNTS. Prove the row's statement (the work); the ties are given (YtianmebhmjdakaaDoorTie.lean); close each card by the builder's one call (the guide's Derived/Test/ToyasCard.lean, 'card_holds'). Laid BY PROGRAM, IN A SANDBOX (cutbox-door.mjs). By AI agents, Wed Nov 11 2026. No macro, syntax, notation, axiom, sorry.
-/
import Derived.Test.YtianmebhmjdakaaDoorRows
import GoSem.ClaimSeven
namespace Go.Proofs.YtianmebhmjdakaaDoor
namespace Rows

/-- THE TIED CARD OF 'gimletlaw02.CharsTexts'. -/
def charsTextsCard : Claim7 := { stood := { row := charsTextsRow, standIns := [], harness := (true, "3c0ae659b386404402719923df10e01e3f560f33005edd49a08967f6ba227c66"), looks := false }, kinds := [], alts := [], laidByText := true, laidKinds := [.data, .widerDeep, .pinned], laidTests := true, laidLooks := .later }
def CharsTextsCardSaid : Prop := Claim7.holds Tryd.pinned (.plain (OpenSpec.ofChange charsTextsSpec)) charsTextsCard

/-- THE TIED CARD OF 'gimletlaw02.CharsRange'. -/
def charsRangeCard : Claim7 := { stood := { row := charsRangeRow, standIns := [], harness := (true, "3c0ae659b386404402719923df10e01e3f560f33005edd49a08967f6ba227c66"), looks := false }, kinds := [], alts := [], laidByText := true, laidKinds := [.data, .widerDeep, .pinned], laidTests := true, laidLooks := .later }
def CharsRangeCardSaid : Prop := Claim7.holds Tryd.pinned (.plain (OpenSpec.ofChange charsRangeSpec)) charsRangeCard

/-- THE TIED CARD OF 'gimletlaw02.CharsIs'. -/
def charsIsCard : Claim7 := { stood := { row := charsIsRow, standIns := [], harness := (true, "3c0ae659b386404402719923df10e01e3f560f33005edd49a08967f6ba227c66"), looks := false }, kinds := [], alts := [], laidByText := true, laidKinds := [.data, .widerDeep, .pinned], laidTests := true, laidLooks := .later }
def CharsIsCardSaid : Prop := Claim7.holds Tryd.pinned (.plain (OpenSpec.ofChange charsIsSpec)) charsIsCard

/-- THE TIED CARD OF 'gimletlaw02.CharsChain'. -/
def charsChainCard : Claim7 := { stood := { row := charsChainRow, standIns := [], harness := (true, "3c0ae659b386404402719923df10e01e3f560f33005edd49a08967f6ba227c66"), looks := false }, kinds := [], alts := [], laidByText := true, laidKinds := [.data, .widerDeep, .pinned], laidTests := true, laidLooks := .later }
def CharsChainCardSaid : Prop := Claim7.holds Tryd.pinned (.plain (OpenSpec.ofChange charsChainSpec)) charsChainCard

/-- THE TIED CARD OF 'gimletlaw02.CharsWithin'. -/
def charsWithinCard : Claim7 := { stood := { row := charsWithinRow, standIns := [], harness := (true, "3c0ae659b386404402719923df10e01e3f560f33005edd49a08967f6ba227c66"), looks := false }, kinds := [], alts := [], laidByText := true, laidKinds := [.data, .widerDeep, .pinned], laidTests := true, laidLooks := .later }
def CharsWithinCardSaid : Prop := Claim7.holds Tryd.pinned (.plain (OpenSpec.ofChange charsWithinSpec)) charsWithinCard

/-- THE TIED CARD OF 'gimletlaw02.CharsAll'. -/
def charsAllCard : Claim7 := { stood := { row := charsAllRow, standIns := [], harness := (true, "3c0ae659b386404402719923df10e01e3f560f33005edd49a08967f6ba227c66"), looks := false }, kinds := [], alts := [], laidByText := true, laidKinds := [.data, .widerDeep, .pinned], laidTests := true, laidLooks := .later }
def CharsAllCardSaid : Prop := Claim7.holds Tryd.pinned (.plain (OpenSpec.ofChange charsAllSpec)) charsAllCard

/-- THE TIED CARD OF 'gimletlaw02.CharsBegins'. -/
def charsBeginsCard : Claim7 := { stood := { row := charsBeginsRow, standIns := [], harness := (true, "3c0ae659b386404402719923df10e01e3f560f33005edd49a08967f6ba227c66"), looks := false }, kinds := [], alts := [], laidByText := true, laidKinds := [.data, .widerDeep, .pinned], laidTests := true, laidLooks := .later }
def CharsBeginsCardSaid : Prop := Claim7.holds Tryd.pinned (.plain (OpenSpec.ofChange charsBeginsSpec)) charsBeginsCard

/-- THE TIED CARD OF 'gimletlaw02.CharsBytes'. -/
def charsBytesCard : Claim7 := { stood := { row := charsBytesRow, standIns := [], harness := (true, "3c0ae659b386404402719923df10e01e3f560f33005edd49a08967f6ba227c66"), looks := false }, kinds := [], alts := [], laidByText := true, laidKinds := [.data, .widerDeep, .pinned], laidTests := true, laidLooks := .later }
def CharsBytesCardSaid : Prop := Claim7.holds Tryd.pinned (.plain (OpenSpec.ofChange charsBytesSpec)) charsBytesCard

/-- THE SECOND FORM's CARD OF 'gimletlaw02.CharsTexts'. -/
def charsTextsUptoCard : Claim7 := { stood := { row := charsTextsUptoRow, standIns := [], harness := (true, "3c0ae659b386404402719923df10e01e3f560f33005edd49a08967f6ba227c66"), looks := false }, kinds := [], alts := [], laidByText := true, laidKinds := [.data, .widerDeep, .pinned], laidTests := true, laidLooks := .later }
def CharsTextsUptoCardSaid : Prop := Claim7.holds Tryd.pinned (.plain (OpenSpec.upto charsTextsSpec)) charsTextsUptoCard

/-- THE SECOND FORM's CARD OF 'gimletlaw02.CharsRange'. -/
def charsRangeUptoCard : Claim7 := { stood := { row := charsRangeUptoRow, standIns := [], harness := (true, "3c0ae659b386404402719923df10e01e3f560f33005edd49a08967f6ba227c66"), looks := false }, kinds := [], alts := [], laidByText := true, laidKinds := [.data, .widerDeep, .pinned], laidTests := true, laidLooks := .later }
def CharsRangeUptoCardSaid : Prop := Claim7.holds Tryd.pinned (.plain (OpenSpec.upto charsRangeSpec)) charsRangeUptoCard

/-- THE SECOND FORM's CARD OF 'gimletlaw02.CharsIs'. -/
def charsIsUptoCard : Claim7 := { stood := { row := charsIsUptoRow, standIns := [], harness := (true, "3c0ae659b386404402719923df10e01e3f560f33005edd49a08967f6ba227c66"), looks := false }, kinds := [], alts := [], laidByText := true, laidKinds := [.data, .widerDeep, .pinned], laidTests := true, laidLooks := .later }
def CharsIsUptoCardSaid : Prop := Claim7.holds Tryd.pinned (.plain (OpenSpec.upto charsIsSpec)) charsIsUptoCard

/-- THE SECOND FORM's CARD OF 'gimletlaw02.CharsChain'. -/
def charsChainUptoCard : Claim7 := { stood := { row := charsChainUptoRow, standIns := [], harness := (true, "3c0ae659b386404402719923df10e01e3f560f33005edd49a08967f6ba227c66"), looks := false }, kinds := [], alts := [], laidByText := true, laidKinds := [.data, .widerDeep, .pinned], laidTests := true, laidLooks := .later }
def CharsChainUptoCardSaid : Prop := Claim7.holds Tryd.pinned (.plain (OpenSpec.upto charsChainSpec)) charsChainUptoCard

/-- THE SECOND FORM's CARD OF 'gimletlaw02.CharsWithin'. -/
def charsWithinUptoCard : Claim7 := { stood := { row := charsWithinUptoRow, standIns := [], harness := (true, "3c0ae659b386404402719923df10e01e3f560f33005edd49a08967f6ba227c66"), looks := false }, kinds := [], alts := [], laidByText := true, laidKinds := [.data, .widerDeep, .pinned], laidTests := true, laidLooks := .later }
def CharsWithinUptoCardSaid : Prop := Claim7.holds Tryd.pinned (.plain (OpenSpec.upto charsWithinSpec)) charsWithinUptoCard

/-- THE SECOND FORM's CARD OF 'gimletlaw02.CharsAll'. -/
def charsAllUptoCard : Claim7 := { stood := { row := charsAllUptoRow, standIns := [], harness := (true, "3c0ae659b386404402719923df10e01e3f560f33005edd49a08967f6ba227c66"), looks := false }, kinds := [], alts := [], laidByText := true, laidKinds := [.data, .widerDeep, .pinned], laidTests := true, laidLooks := .later }
def CharsAllUptoCardSaid : Prop := Claim7.holds Tryd.pinned (.plain (OpenSpec.upto charsAllSpec)) charsAllUptoCard

/-- THE SECOND FORM's CARD OF 'gimletlaw02.CharsBegins'. -/
def charsBeginsUptoCard : Claim7 := { stood := { row := charsBeginsUptoRow, standIns := [], harness := (true, "3c0ae659b386404402719923df10e01e3f560f33005edd49a08967f6ba227c66"), looks := false }, kinds := [], alts := [], laidByText := true, laidKinds := [.data, .widerDeep, .pinned], laidTests := true, laidLooks := .later }
def CharsBeginsUptoCardSaid : Prop := Claim7.holds Tryd.pinned (.plain (OpenSpec.upto charsBeginsSpec)) charsBeginsUptoCard

/-- THE SECOND FORM's CARD OF 'gimletlaw02.CharsBytes'. -/
def charsBytesUptoCard : Claim7 := { stood := { row := charsBytesUptoRow, standIns := [], harness := (true, "3c0ae659b386404402719923df10e01e3f560f33005edd49a08967f6ba227c66"), looks := false }, kinds := [], alts := [], laidByText := true, laidKinds := [.data, .widerDeep, .pinned], laidTests := true, laidLooks := .later }
def CharsBytesUptoCardSaid : Prop := Claim7.holds Tryd.pinned (.plain (OpenSpec.upto charsBytesSpec)) charsBytesUptoCard
end Rows
end Go.Proofs.YtianmebhmjdakaaDoor
