/-
  DERIVED. GIVEN WITH THE SEED: THE CARDS: each row of YtpkdbfnnbbkkiaaDoorRows.lean that lists a variable, with what it lists TIED to the program's text (the seventh form; the later family's looks); each row that meets fmt, with fmt's text TOLD by the authors' own Lean function (tested against real Go, not proved from fmt's source: count such statements apart). THE CARD IS WHAT COUNTS. Prove the row's statement (the work); the ties are given (YtpkdbfnnbbkkiaaDoorTie.lean); close each card by the builder's one call (the guide's Derived/Test/ToyasCard.lean, 'card_holds'). Laid BY PROGRAM, IN A SANDBOX (cutbox-door.mjs). By AI agents, Wed Nov 11 2026. No macro, syntax, notation, axiom, sorry.
-/
import Derived.Test.YtpkdbfnnbbkkiaaDoorRows
import GoSem.ClaimSeven
namespace Go.Proofs.YtpkdbfnnbbkkiaaDoor
namespace Rows

/-- THE TIED CARD OF 'gimlettop.WholeFeeds'. -/
def wholeFeedsCard : Claim7 := { stood := { row := wholeFeedsRow, standIns := [], harness := (true, "e5d07e7246f6a9f7dbe88556b254124097824d4695155d202ced4f17a153ffa4"), looks := false }, kinds := [], alts := [], laidByText := true, laidKinds := [.data, .pinned], laidTests := true, laidLooks := .later }
def WholeFeedsCardSaid : Prop := Claim7.holds Tryd.pinned (.plain (OpenSpec.ofChange wholeFeedsSpec)) wholeFeedsCard

/-- THE TIED CARD OF 'gimletlaw04.FeedCuts'. -/
def feedCutsCard : Claim7 := { stood := { row := feedCutsRow, standIns := [], harness := (true, "e5d07e7246f6a9f7dbe88556b254124097824d4695155d202ced4f17a153ffa4"), looks := false }, kinds := [], alts := [], laidByText := true, laidKinds := [.data, .pinned], laidTests := true, laidLooks := .later }
def FeedCutsCardSaid : Prop := Claim7.holds Tryd.pinned (.plain (OpenSpec.ofChange feedCutsSpec)) feedCutsCard

/-- THE TIED CARD OF 'gimletlaw04.FeedEager'. -/
def feedEagerCard : Claim7 := { stood := { row := feedEagerRow, standIns := [], harness := (true, "e5d07e7246f6a9f7dbe88556b254124097824d4695155d202ced4f17a153ffa4"), looks := false }, kinds := [], alts := [], laidByText := true, laidKinds := [.data, .pinned], laidTests := true, laidLooks := .later }
def FeedEagerCardSaid : Prop := Claim7.holds Tryd.pinned (.plain (OpenSpec.ofChange feedEagerSpec)) feedEagerCard

/-- THE TIED CARD OF 'gimletlaw04.FeedPlays'. -/
def feedPlaysCard : Claim7 := { stood := { row := feedPlaysRow, standIns := [], harness := (true, "e5d07e7246f6a9f7dbe88556b254124097824d4695155d202ced4f17a153ffa4"), looks := false }, kinds := [], alts := [], laidByText := true, laidKinds := [.data, .pinned], laidTests := true, laidLooks := .later }
def FeedPlaysCardSaid : Prop := Claim7.holds Tryd.pinned (.plain (OpenSpec.ofChange feedPlaysSpec)) feedPlaysCard

/-- THE TIED CARD OF 'gimletlaw04.FeedChars'. -/
def feedCharsCard : Claim7 := { stood := { row := feedCharsRow, standIns := [], harness := (true, "e5d07e7246f6a9f7dbe88556b254124097824d4695155d202ced4f17a153ffa4"), looks := false }, kinds := [], alts := [], laidByText := true, laidKinds := [.data, .pinned], laidTests := true, laidLooks := .later }
def FeedCharsCardSaid : Prop := Claim7.holds Tryd.pinned (.plain (OpenSpec.ofChange feedCharsSpec)) feedCharsCard

/-- THE SECOND FORM's CARD OF 'gimlettop.WholeFeeds'. -/
def wholeFeedsUptoCard : Claim7 := { stood := { row := wholeFeedsUptoRow, standIns := [], harness := (true, "e5d07e7246f6a9f7dbe88556b254124097824d4695155d202ced4f17a153ffa4"), looks := false }, kinds := [], alts := [], laidByText := true, laidKinds := [.data, .pinned], laidTests := true, laidLooks := .later }
def WholeFeedsUptoCardSaid : Prop := Claim7.holds Tryd.pinned (.plain (OpenSpec.upto wholeFeedsSpec)) wholeFeedsUptoCard

/-- THE SECOND FORM's CARD OF 'gimletlaw04.FeedCuts'. -/
def feedCutsUptoCard : Claim7 := { stood := { row := feedCutsUptoRow, standIns := [], harness := (true, "e5d07e7246f6a9f7dbe88556b254124097824d4695155d202ced4f17a153ffa4"), looks := false }, kinds := [], alts := [], laidByText := true, laidKinds := [.data, .pinned], laidTests := true, laidLooks := .later }
def FeedCutsUptoCardSaid : Prop := Claim7.holds Tryd.pinned (.plain (OpenSpec.upto feedCutsSpec)) feedCutsUptoCard

/-- THE SECOND FORM's CARD OF 'gimletlaw04.FeedEager'. -/
def feedEagerUptoCard : Claim7 := { stood := { row := feedEagerUptoRow, standIns := [], harness := (true, "e5d07e7246f6a9f7dbe88556b254124097824d4695155d202ced4f17a153ffa4"), looks := false }, kinds := [], alts := [], laidByText := true, laidKinds := [.data, .pinned], laidTests := true, laidLooks := .later }
def FeedEagerUptoCardSaid : Prop := Claim7.holds Tryd.pinned (.plain (OpenSpec.upto feedEagerSpec)) feedEagerUptoCard

/-- THE SECOND FORM's CARD OF 'gimletlaw04.FeedPlays'. -/
def feedPlaysUptoCard : Claim7 := { stood := { row := feedPlaysUptoRow, standIns := [], harness := (true, "e5d07e7246f6a9f7dbe88556b254124097824d4695155d202ced4f17a153ffa4"), looks := false }, kinds := [], alts := [], laidByText := true, laidKinds := [.data, .pinned], laidTests := true, laidLooks := .later }
def FeedPlaysUptoCardSaid : Prop := Claim7.holds Tryd.pinned (.plain (OpenSpec.upto feedPlaysSpec)) feedPlaysUptoCard

/-- THE SECOND FORM's CARD OF 'gimletlaw04.FeedChars'. -/
def feedCharsUptoCard : Claim7 := { stood := { row := feedCharsUptoRow, standIns := [], harness := (true, "e5d07e7246f6a9f7dbe88556b254124097824d4695155d202ced4f17a153ffa4"), looks := false }, kinds := [], alts := [], laidByText := true, laidKinds := [.data, .pinned], laidTests := true, laidLooks := .later }
def FeedCharsUptoCardSaid : Prop := Claim7.holds Tryd.pinned (.plain (OpenSpec.upto feedCharsSpec)) feedCharsUptoCard
end Rows
end Go.Proofs.YtpkdbfnnbbkkiaaDoor
