/-
  DERIVED. GIVEN WITH THE SEED: THE CARDS: each row of YtkhejkfjhddobaaGreatDoorRows.lean that lists a variable, with what it lists TIED to the program's text (the seventh form; the later family's looks); each row that meets fmt, with fmt's text TOLD by the authors' own Lean function (tested against real Go, not proved from fmt's source: count such statements apart). THE CARD IS WHAT COUNTS. Prove the row's statement (the work); the ties are given (YtkhejkfjhddobaaGreatDoorTie.lean); close each card by the builder's one call (the guide's Derived/Test/ToyasCard.lean, 'card_holds'). Laid BY PROGRAM, IN A SANDBOX (cutbox-door.mjs). By AI agents, Wed Nov 11 2026. No macro, syntax, notation, axiom, sorry.
-/
import Derived.Test.YtkhejkfjhddobaaGreatDoorRows
import GoSem.ClaimSeven
namespace Go.Proofs.YtkhejkfjhddobaaGreatDoor
namespace Rows

/-- THE TIED CARD OF 'gimletlaw18.HopesTruths'. -/
def hopesTruthsCard : Claim7 := { stood := { row := hopesTruthsRow, standIns := [], harness := (true, "dd4185bd4efa81fc528b7758d966d62b67f18b8358482788d1ff5c3484a3d667"), looks := false }, kinds := [], alts := [], laidByText := true, laidKinds := [.data, .widerDeep, .pinned], laidTests := true, laidLooks := .later }
def HopesTruthsCardSaid : Prop := Claim7.holds Tryz.pinned (.plain (OpenSpec.ofChange hopesTruthsSpec)) hopesTruthsCard

/-- THE TIED CARD OF 'gimletlaw18.HopesApart'. -/
def hopesApartCard : Claim7 := { stood := { row := hopesApartRow, standIns := [], harness := (true, "dd4185bd4efa81fc528b7758d966d62b67f18b8358482788d1ff5c3484a3d667"), looks := false }, kinds := [], alts := [], laidByText := true, laidKinds := [.data, .widerDeep, .pinned], laidTests := true, laidLooks := .later }
def HopesApartCardSaid : Prop := Claim7.holds Tryz.pinned (.plain (OpenSpec.ofChange hopesApartSpec)) hopesApartCard

/-- THE TIED CARD OF 'gimletlaw18.HopesRefuses'. -/
def hopesRefusesCard : Claim7 := { stood := { row := hopesRefusesRow, standIns := [], harness := (true, "dd4185bd4efa81fc528b7758d966d62b67f18b8358482788d1ff5c3484a3d667"), looks := false }, kinds := [], alts := [], laidByText := true, laidKinds := [.data, .widerDeep, .pinned], laidTests := true, laidLooks := .later }
def HopesRefusesCardSaid : Prop := Claim7.holds Tryz.pinned (.plain (OpenSpec.ofChange hopesRefusesSpec)) hopesRefusesCard

/-- THE TIED CARD OF 'gimletlaw18.HopesEntries'. -/
def hopesEntriesCard : Claim7 := { stood := { row := hopesEntriesRow, standIns := [], harness := (true, "dd4185bd4efa81fc528b7758d966d62b67f18b8358482788d1ff5c3484a3d667"), looks := false }, kinds := [], alts := [], laidByText := true, laidKinds := [.data, .widerDeep, .pinned], laidTests := true, laidLooks := .later }
def HopesEntriesCardSaid : Prop := Claim7.holds Tryz.pinned (.plain (OpenSpec.ofChange hopesEntriesSpec)) hopesEntriesCard

/-- THE SECOND FORM's CARD OF 'gimletlaw18.HopesTruths'. -/
def hopesTruthsUptoCard : Claim7 := { stood := { row := hopesTruthsUptoRow, standIns := [], harness := (true, "dd4185bd4efa81fc528b7758d966d62b67f18b8358482788d1ff5c3484a3d667"), looks := false }, kinds := [], alts := [], laidByText := true, laidKinds := [.data, .widerDeep, .pinned], laidTests := true, laidLooks := .later }
def HopesTruthsUptoCardSaid : Prop := Claim7.holds Tryz.pinned (.plain (OpenSpec.upto hopesTruthsSpec)) hopesTruthsUptoCard

/-- THE SECOND FORM's CARD OF 'gimletlaw18.HopesApart'. -/
def hopesApartUptoCard : Claim7 := { stood := { row := hopesApartUptoRow, standIns := [], harness := (true, "dd4185bd4efa81fc528b7758d966d62b67f18b8358482788d1ff5c3484a3d667"), looks := false }, kinds := [], alts := [], laidByText := true, laidKinds := [.data, .widerDeep, .pinned], laidTests := true, laidLooks := .later }
def HopesApartUptoCardSaid : Prop := Claim7.holds Tryz.pinned (.plain (OpenSpec.upto hopesApartSpec)) hopesApartUptoCard

/-- THE SECOND FORM's CARD OF 'gimletlaw18.HopesRefuses'. -/
def hopesRefusesUptoCard : Claim7 := { stood := { row := hopesRefusesUptoRow, standIns := [], harness := (true, "dd4185bd4efa81fc528b7758d966d62b67f18b8358482788d1ff5c3484a3d667"), looks := false }, kinds := [], alts := [], laidByText := true, laidKinds := [.data, .widerDeep, .pinned], laidTests := true, laidLooks := .later }
def HopesRefusesUptoCardSaid : Prop := Claim7.holds Tryz.pinned (.plain (OpenSpec.upto hopesRefusesSpec)) hopesRefusesUptoCard

/-- THE SECOND FORM's CARD OF 'gimletlaw18.HopesEntries'. -/
def hopesEntriesUptoCard : Claim7 := { stood := { row := hopesEntriesUptoRow, standIns := [], harness := (true, "dd4185bd4efa81fc528b7758d966d62b67f18b8358482788d1ff5c3484a3d667"), looks := false }, kinds := [], alts := [], laidByText := true, laidKinds := [.data, .widerDeep, .pinned], laidTests := true, laidLooks := .later }
def HopesEntriesUptoCardSaid : Prop := Claim7.holds Tryz.pinned (.plain (OpenSpec.upto hopesEntriesSpec)) hopesEntriesUptoCard
end Rows
end Go.Proofs.YtkhejkfjhddobaaGreatDoor
