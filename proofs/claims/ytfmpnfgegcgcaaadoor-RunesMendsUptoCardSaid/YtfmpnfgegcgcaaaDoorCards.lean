/-
  DERIVED. GIVEN WITH THE SEED: THE CARDS: each row of YtfmpnfgegcgcaaaDoorRows.lean that lists a variable, with what it lists TIED to the program's text (the seventh form; the later family's looks); each row that meets fmt, with fmt's text TOLD by the authors' own Lean function (tested against real Go, not proved from fmt's source: count such statements apart). THE CARD IS WHAT COUNTS. Prove the row's statement (the work); the ties are given (YtfmpnfgegcgcaaaDoorTie.lean); close each card by the builder's one call (the guide's Derived/Test/ToyasCard.lean, 'card_holds'). Laid BY PROGRAM, IN A SANDBOX (cutbox-door.mjs). By AI agents, Wed Nov 11 2026. No macro, syntax, notation, axiom, sorry.
-/
import Derived.Test.YtfmpnfgegcgcaaaDoorRows
import GoSem.ClaimSeven
namespace Go.Proofs.YtfmpnfgegcgcaaaDoor
namespace Rows

/-- THE TIED CARD OF 'gimletlaw01.RunesGo'. -/
def runesGoCard : Claim7 := { stood := { row := runesGoRow, standIns := [], harness := (true, "3abfc386242a55e145c7e492c22b26bded6b197a9c85e4cc8d8a590364ec5b31"), looks := false }, kinds := [], alts := [], laidByText := true, laidKinds := [.data, .pinned], laidTests := true, laidLooks := .later }
def RunesGoCardSaid : Prop := Claim7.holds Tryd.pinned (.plain (OpenSpec.ofChange runesGoSpec)) runesGoCard

/-- THE TIED CARD OF 'gimletlaw01.RunesOrder'. -/
def runesOrderCard : Claim7 := { stood := { row := runesOrderRow, standIns := [], harness := (true, "3abfc386242a55e145c7e492c22b26bded6b197a9c85e4cc8d8a590364ec5b31"), looks := false }, kinds := [], alts := [], laidByText := true, laidKinds := [.data, .pinned], laidTests := true, laidLooks := .later }
def RunesOrderCardSaid : Prop := Claim7.holds Tryd.pinned (.plain (OpenSpec.ofChange runesOrderSpec)) runesOrderCard

/-- THE TIED CARD OF 'gimletlaw01.RunesBytes'. -/
def runesBytesCard : Claim7 := { stood := { row := runesBytesRow, standIns := [], harness := (true, "3abfc386242a55e145c7e492c22b26bded6b197a9c85e4cc8d8a590364ec5b31"), looks := false }, kinds := [], alts := [], laidByText := true, laidKinds := [.data, .pinned], laidTests := true, laidLooks := .later }
def RunesBytesCardSaid : Prop := Claim7.holds Tryd.pinned (.plain (OpenSpec.ofChange runesBytesSpec)) runesBytesCard

/-- THE TIED CARD OF 'gimletlaw01.RunesPlaces'. -/
def runesPlacesCard : Claim7 := { stood := { row := runesPlacesRow, standIns := [], harness := (true, "3abfc386242a55e145c7e492c22b26bded6b197a9c85e4cc8d8a590364ec5b31"), looks := false }, kinds := [], alts := [], laidByText := true, laidKinds := [.data, .pinned], laidTests := true, laidLooks := .later }
def RunesPlacesCardSaid : Prop := Claim7.holds Tryd.pinned (.plain (OpenSpec.ofChange runesPlacesSpec)) runesPlacesCard

/-- THE TIED CARD OF 'gimletlaw01.RunesTakes'. -/
def runesTakesCard : Claim7 := { stood := { row := runesTakesRow, standIns := [], harness := (true, "3abfc386242a55e145c7e492c22b26bded6b197a9c85e4cc8d8a590364ec5b31"), looks := false }, kinds := [], alts := [], laidByText := true, laidKinds := [.data, .pinned], laidTests := true, laidLooks := .later }
def RunesTakesCardSaid : Prop := Claim7.holds Tryd.pinned (.plain (OpenSpec.ofChange runesTakesSpec)) runesTakesCard

/-- THE TIED CARD OF 'gimletlaw01.RunesTexts'. -/
def runesTextsCard : Claim7 := { stood := { row := runesTextsRow, standIns := [], harness := (true, "3abfc386242a55e145c7e492c22b26bded6b197a9c85e4cc8d8a590364ec5b31"), looks := false }, kinds := [], alts := [], laidByText := true, laidKinds := [.data, .pinned], laidTests := true, laidLooks := .later }
def RunesTextsCardSaid : Prop := Claim7.holds Tryd.pinned (.plain (OpenSpec.ofChange runesTextsSpec)) runesTextsCard

/-- THE TIED CARD OF 'gimletlaw01.RunesMends'. -/
def runesMendsCard : Claim7 := { stood := { row := runesMendsRow, standIns := [], harness := (true, "3abfc386242a55e145c7e492c22b26bded6b197a9c85e4cc8d8a590364ec5b31"), looks := false }, kinds := [], alts := [], laidByText := true, laidKinds := [.data, .pinned], laidTests := true, laidLooks := .later }
def RunesMendsCardSaid : Prop := Claim7.holds Tryd.pinned (.plain (OpenSpec.ofChange runesMendsSpec)) runesMendsCard

/-- THE TIED CARD OF 'gimletlaw01.RunesBack'. -/
def runesBackCard : Claim7 := { stood := { row := runesBackRow, standIns := [], harness := (true, "3abfc386242a55e145c7e492c22b26bded6b197a9c85e4cc8d8a590364ec5b31"), looks := false }, kinds := [], alts := [], laidByText := true, laidKinds := [.data, .pinned], laidTests := true, laidLooks := .later }
def RunesBackCardSaid : Prop := Claim7.holds Tryd.pinned (.plain (OpenSpec.ofChange runesBackSpec)) runesBackCard

/-- THE TIED CARD OF 'gimletlaw04.FeedCuts'. -/
def feedCutsCard : Claim7 := { stood := { row := feedCutsRow, standIns := [], harness := (true, "3abfc386242a55e145c7e492c22b26bded6b197a9c85e4cc8d8a590364ec5b31"), looks := false }, kinds := [], alts := [], laidByText := true, laidKinds := [.data, .pinned], laidTests := true, laidLooks := .later }
def FeedCutsCardSaid : Prop := Claim7.holds Tryd.pinned (.plain (OpenSpec.ofChange feedCutsSpec)) feedCutsCard

/-- THE TIED CARD OF 'gimletlaw04.FeedEager'. -/
def feedEagerCard : Claim7 := { stood := { row := feedEagerRow, standIns := [], harness := (true, "3abfc386242a55e145c7e492c22b26bded6b197a9c85e4cc8d8a590364ec5b31"), looks := false }, kinds := [], alts := [], laidByText := true, laidKinds := [.data, .pinned], laidTests := true, laidLooks := .later }
def FeedEagerCardSaid : Prop := Claim7.holds Tryd.pinned (.plain (OpenSpec.ofChange feedEagerSpec)) feedEagerCard

/-- THE TIED CARD OF 'gimletlaw04.FeedPlays'. -/
def feedPlaysCard : Claim7 := { stood := { row := feedPlaysRow, standIns := [], harness := (true, "3abfc386242a55e145c7e492c22b26bded6b197a9c85e4cc8d8a590364ec5b31"), looks := false }, kinds := [], alts := [], laidByText := true, laidKinds := [.data, .pinned], laidTests := true, laidLooks := .later }
def FeedPlaysCardSaid : Prop := Claim7.holds Tryd.pinned (.plain (OpenSpec.ofChange feedPlaysSpec)) feedPlaysCard

/-- THE TIED CARD OF 'gimletlaw04.FeedChars'. -/
def feedCharsCard : Claim7 := { stood := { row := feedCharsRow, standIns := [], harness := (true, "3abfc386242a55e145c7e492c22b26bded6b197a9c85e4cc8d8a590364ec5b31"), looks := false }, kinds := [], alts := [], laidByText := true, laidKinds := [.data, .pinned], laidTests := true, laidLooks := .later }
def FeedCharsCardSaid : Prop := Claim7.holds Tryd.pinned (.plain (OpenSpec.ofChange feedCharsSpec)) feedCharsCard

/-- THE TIED CARD OF 'gimlettop.WholeRunes'. -/
def wholeRunesCard : Claim7 := { stood := { row := wholeRunesRow, standIns := [], harness := (true, "3abfc386242a55e145c7e492c22b26bded6b197a9c85e4cc8d8a590364ec5b31"), looks := false }, kinds := [], alts := [], laidByText := true, laidKinds := [.data, .pinned], laidTests := true, laidLooks := .later }
def WholeRunesCardSaid : Prop := Claim7.holds Tryd.pinned (.plain (OpenSpec.ofChange wholeRunesSpec)) wholeRunesCard

/-- THE TIED CARD OF 'gimlettop.WholeFeeds'. -/
def wholeFeedsCard : Claim7 := { stood := { row := wholeFeedsRow, standIns := [], harness := (true, "3abfc386242a55e145c7e492c22b26bded6b197a9c85e4cc8d8a590364ec5b31"), looks := false }, kinds := [], alts := [], laidByText := true, laidKinds := [.data, .pinned], laidTests := true, laidLooks := .later }
def WholeFeedsCardSaid : Prop := Claim7.holds Tryd.pinned (.plain (OpenSpec.ofChange wholeFeedsSpec)) wholeFeedsCard

/-- THE SECOND FORM's CARD OF 'gimletlaw01.RunesGo'. -/
def runesGoUptoCard : Claim7 := { stood := { row := runesGoUptoRow, standIns := [], harness := (true, "3abfc386242a55e145c7e492c22b26bded6b197a9c85e4cc8d8a590364ec5b31"), looks := false }, kinds := [], alts := [], laidByText := true, laidKinds := [.data, .pinned], laidTests := true, laidLooks := .later }
def RunesGoUptoCardSaid : Prop := Claim7.holds Tryd.pinned (.plain (OpenSpec.upto runesGoSpec)) runesGoUptoCard

/-- THE SECOND FORM's CARD OF 'gimletlaw01.RunesOrder'. -/
def runesOrderUptoCard : Claim7 := { stood := { row := runesOrderUptoRow, standIns := [], harness := (true, "3abfc386242a55e145c7e492c22b26bded6b197a9c85e4cc8d8a590364ec5b31"), looks := false }, kinds := [], alts := [], laidByText := true, laidKinds := [.data, .pinned], laidTests := true, laidLooks := .later }
def RunesOrderUptoCardSaid : Prop := Claim7.holds Tryd.pinned (.plain (OpenSpec.upto runesOrderSpec)) runesOrderUptoCard

/-- THE SECOND FORM's CARD OF 'gimletlaw01.RunesBytes'. -/
def runesBytesUptoCard : Claim7 := { stood := { row := runesBytesUptoRow, standIns := [], harness := (true, "3abfc386242a55e145c7e492c22b26bded6b197a9c85e4cc8d8a590364ec5b31"), looks := false }, kinds := [], alts := [], laidByText := true, laidKinds := [.data, .pinned], laidTests := true, laidLooks := .later }
def RunesBytesUptoCardSaid : Prop := Claim7.holds Tryd.pinned (.plain (OpenSpec.upto runesBytesSpec)) runesBytesUptoCard

/-- THE SECOND FORM's CARD OF 'gimletlaw01.RunesPlaces'. -/
def runesPlacesUptoCard : Claim7 := { stood := { row := runesPlacesUptoRow, standIns := [], harness := (true, "3abfc386242a55e145c7e492c22b26bded6b197a9c85e4cc8d8a590364ec5b31"), looks := false }, kinds := [], alts := [], laidByText := true, laidKinds := [.data, .pinned], laidTests := true, laidLooks := .later }
def RunesPlacesUptoCardSaid : Prop := Claim7.holds Tryd.pinned (.plain (OpenSpec.upto runesPlacesSpec)) runesPlacesUptoCard

/-- THE SECOND FORM's CARD OF 'gimletlaw01.RunesTakes'. -/
def runesTakesUptoCard : Claim7 := { stood := { row := runesTakesUptoRow, standIns := [], harness := (true, "3abfc386242a55e145c7e492c22b26bded6b197a9c85e4cc8d8a590364ec5b31"), looks := false }, kinds := [], alts := [], laidByText := true, laidKinds := [.data, .pinned], laidTests := true, laidLooks := .later }
def RunesTakesUptoCardSaid : Prop := Claim7.holds Tryd.pinned (.plain (OpenSpec.upto runesTakesSpec)) runesTakesUptoCard

/-- THE SECOND FORM's CARD OF 'gimletlaw01.RunesTexts'. -/
def runesTextsUptoCard : Claim7 := { stood := { row := runesTextsUptoRow, standIns := [], harness := (true, "3abfc386242a55e145c7e492c22b26bded6b197a9c85e4cc8d8a590364ec5b31"), looks := false }, kinds := [], alts := [], laidByText := true, laidKinds := [.data, .pinned], laidTests := true, laidLooks := .later }
def RunesTextsUptoCardSaid : Prop := Claim7.holds Tryd.pinned (.plain (OpenSpec.upto runesTextsSpec)) runesTextsUptoCard

/-- THE SECOND FORM's CARD OF 'gimletlaw01.RunesMends'. -/
def runesMendsUptoCard : Claim7 := { stood := { row := runesMendsUptoRow, standIns := [], harness := (true, "3abfc386242a55e145c7e492c22b26bded6b197a9c85e4cc8d8a590364ec5b31"), looks := false }, kinds := [], alts := [], laidByText := true, laidKinds := [.data, .pinned], laidTests := true, laidLooks := .later }
def RunesMendsUptoCardSaid : Prop := Claim7.holds Tryd.pinned (.plain (OpenSpec.upto runesMendsSpec)) runesMendsUptoCard

/-- THE SECOND FORM's CARD OF 'gimletlaw01.RunesBack'. -/
def runesBackUptoCard : Claim7 := { stood := { row := runesBackUptoRow, standIns := [], harness := (true, "3abfc386242a55e145c7e492c22b26bded6b197a9c85e4cc8d8a590364ec5b31"), looks := false }, kinds := [], alts := [], laidByText := true, laidKinds := [.data, .pinned], laidTests := true, laidLooks := .later }
def RunesBackUptoCardSaid : Prop := Claim7.holds Tryd.pinned (.plain (OpenSpec.upto runesBackSpec)) runesBackUptoCard

/-- THE SECOND FORM's CARD OF 'gimletlaw04.FeedCuts'. -/
def feedCutsUptoCard : Claim7 := { stood := { row := feedCutsUptoRow, standIns := [], harness := (true, "3abfc386242a55e145c7e492c22b26bded6b197a9c85e4cc8d8a590364ec5b31"), looks := false }, kinds := [], alts := [], laidByText := true, laidKinds := [.data, .pinned], laidTests := true, laidLooks := .later }
def FeedCutsUptoCardSaid : Prop := Claim7.holds Tryd.pinned (.plain (OpenSpec.upto feedCutsSpec)) feedCutsUptoCard

/-- THE SECOND FORM's CARD OF 'gimletlaw04.FeedEager'. -/
def feedEagerUptoCard : Claim7 := { stood := { row := feedEagerUptoRow, standIns := [], harness := (true, "3abfc386242a55e145c7e492c22b26bded6b197a9c85e4cc8d8a590364ec5b31"), looks := false }, kinds := [], alts := [], laidByText := true, laidKinds := [.data, .pinned], laidTests := true, laidLooks := .later }
def FeedEagerUptoCardSaid : Prop := Claim7.holds Tryd.pinned (.plain (OpenSpec.upto feedEagerSpec)) feedEagerUptoCard

/-- THE SECOND FORM's CARD OF 'gimletlaw04.FeedPlays'. -/
def feedPlaysUptoCard : Claim7 := { stood := { row := feedPlaysUptoRow, standIns := [], harness := (true, "3abfc386242a55e145c7e492c22b26bded6b197a9c85e4cc8d8a590364ec5b31"), looks := false }, kinds := [], alts := [], laidByText := true, laidKinds := [.data, .pinned], laidTests := true, laidLooks := .later }
def FeedPlaysUptoCardSaid : Prop := Claim7.holds Tryd.pinned (.plain (OpenSpec.upto feedPlaysSpec)) feedPlaysUptoCard

/-- THE SECOND FORM's CARD OF 'gimletlaw04.FeedChars'. -/
def feedCharsUptoCard : Claim7 := { stood := { row := feedCharsUptoRow, standIns := [], harness := (true, "3abfc386242a55e145c7e492c22b26bded6b197a9c85e4cc8d8a590364ec5b31"), looks := false }, kinds := [], alts := [], laidByText := true, laidKinds := [.data, .pinned], laidTests := true, laidLooks := .later }
def FeedCharsUptoCardSaid : Prop := Claim7.holds Tryd.pinned (.plain (OpenSpec.upto feedCharsSpec)) feedCharsUptoCard

/-- THE SECOND FORM's CARD OF 'gimlettop.WholeRunes'. -/
def wholeRunesUptoCard : Claim7 := { stood := { row := wholeRunesUptoRow, standIns := [], harness := (true, "3abfc386242a55e145c7e492c22b26bded6b197a9c85e4cc8d8a590364ec5b31"), looks := false }, kinds := [], alts := [], laidByText := true, laidKinds := [.data, .pinned], laidTests := true, laidLooks := .later }
def WholeRunesUptoCardSaid : Prop := Claim7.holds Tryd.pinned (.plain (OpenSpec.upto wholeRunesSpec)) wholeRunesUptoCard

/-- THE SECOND FORM's CARD OF 'gimlettop.WholeFeeds'. -/
def wholeFeedsUptoCard : Claim7 := { stood := { row := wholeFeedsUptoRow, standIns := [], harness := (true, "3abfc386242a55e145c7e492c22b26bded6b197a9c85e4cc8d8a590364ec5b31"), looks := false }, kinds := [], alts := [], laidByText := true, laidKinds := [.data, .pinned], laidTests := true, laidLooks := .later }
def WholeFeedsUptoCardSaid : Prop := Claim7.holds Tryd.pinned (.plain (OpenSpec.upto wholeFeedsSpec)) wholeFeedsUptoCard
end Rows
end Go.Proofs.YtfmpnfgegcgcaaaDoor
