/-
  DERIVED. GIVEN WITH THE SEED: THE CARDS: each row of YtdoaoaicdimbeaaGreatDoorRows.lean that lists a variable, with what it lists TIED to the program's text (the seventh form; the later family's looks); each row that meets fmt, with fmt's text TOLD by the authors' own Lean function (tested against real Go, not proved from fmt's source: count such statements apart). THE CARD IS WHAT COUNTS. Prove the row's statement (the work); the ties are given (YtdoaoaicdimbeaaGreatDoorTie.lean); close each card by the builder's one call (the guide's Derived/Test/ToyasCard.lean, 'card_holds'). Laid BY PROGRAM, IN A SANDBOX (cutbox-door.mjs). By AI agents, Wed Nov 11 2026. No macro, syntax, notation, axiom, sorry.
-/
import Derived.Test.YtdoaoaicdimbeaaGreatDoorRows
import GoSem.ClaimSeven
namespace Go.Proofs.YtdoaoaicdimbeaaGreatDoor
namespace Rows

/-- THE TIED CARD OF 'letterboxlaw19.EnvelopeLists'. -/
def envelopeListsCard : Claim7 := { stood := { row := envelopeListsRow, standIns := [], harness := (true, "308be332588f4c0505331a0f51721f2a795f8c88c39a52ff13e70b6e60797ef5"), looks := true }, kinds := [], alts := [], laidByText := true, laidKinds := [.data, .pinned], laidTests := true, laidLooks := .later }
def EnvelopeListsCardSaid : Prop := Claim7.holds Tryz.pinned (.plain (OpenSpec.ofChange envelopeListsSpec)) envelopeListsCard

/-- THE TIED CARD OF 'letterboxlaw19.EnvelopePlain'. -/
def envelopePlainCard : Claim7 := { stood := { row := envelopePlainRow, standIns := [], harness := (true, "308be332588f4c0505331a0f51721f2a795f8c88c39a52ff13e70b6e60797ef5"), looks := true }, kinds := [], alts := [], laidByText := true, laidKinds := [.data, .pinned], laidTests := true, laidLooks := .later }
def EnvelopePlainCardSaid : Prop := Claim7.holds Tryz.pinned (.plain (OpenSpec.ofChange envelopePlainSpec)) envelopePlainCard

/-- THE TIED CARD OF 'letterboxlaw17.BinaryWhole'. -/
def binaryWholeCard : Claim7 := { stood := { row := binaryWholeRow, standIns := [], harness := (true, "308be332588f4c0505331a0f51721f2a795f8c88c39a52ff13e70b6e60797ef5"), looks := true }, kinds := [], alts := [], laidByText := true, laidKinds := [.data, .pinned], laidTests := true, laidLooks := .later }
def BinaryWholeCardSaid : Prop := Claim7.holds Tryz.pinned (.plain (OpenSpec.ofChange binaryWholeSpec)) binaryWholeCard

/-- THE TIED CARD OF 'letterboxlaw17.BinaryBack'. -/
def binaryBackCard : Claim7 := { stood := { row := binaryBackRow, standIns := [], harness := (true, "308be332588f4c0505331a0f51721f2a795f8c88c39a52ff13e70b6e60797ef5"), looks := true }, kinds := [], alts := [], laidByText := true, laidKinds := [.data, .data, .pinned], laidTests := true, laidLooks := .later }
def BinaryBackCardSaid : Prop := Claim7.holds Tryz.pinned (.plain (OpenSpec.ofChange binaryBackSpec)) binaryBackCard

/-- THE TIED CARD OF 'letterboxlaw20.StructureNests'. -/
def structureNestsCard : Claim7 := { stood := { row := structureNestsRow, standIns := [], harness := (true, "308be332588f4c0505331a0f51721f2a795f8c88c39a52ff13e70b6e60797ef5"), looks := true }, kinds := [], alts := [], laidByText := true, laidKinds := [.data, .pinned], laidTests := true, laidLooks := .later }
def StructureNestsCardSaid : Prop := Claim7.holds Tryz.pinned (.plain (OpenSpec.ofChange structureNestsSpec)) structureNestsCard

/-- THE TIED CARD OF 'letterboxlaw20.StructureKinds'. -/
def structureKindsCard : Claim7 := { stood := { row := structureKindsRow, standIns := [], harness := (true, "308be332588f4c0505331a0f51721f2a795f8c88c39a52ff13e70b6e60797ef5"), looks := true }, kinds := [], alts := [], laidByText := true, laidKinds := [.data, .pinned], laidTests := true, laidLooks := .later }
def StructureKindsCardSaid : Prop := Claim7.holds Tryz.pinned (.plain (OpenSpec.ofChange structureKindsSpec)) structureKindsCard

/-- THE TIED CARD OF 'letterboxlaw19.EnvelopeTokens'. -/
def envelopeTokensCard : Claim7 := { stood := { row := envelopeTokensRow, standIns := [], harness := (true, "308be332588f4c0505331a0f51721f2a795f8c88c39a52ff13e70b6e60797ef5"), looks := true }, kinds := [], alts := [], laidByText := true, laidKinds := [.data, .pinned], laidTests := true, laidLooks := .later }
def EnvelopeTokensCardSaid : Prop := Claim7.holds Tryz.pinned (.plain (OpenSpec.ofChange envelopeTokensSpec)) envelopeTokensCard

/-- THE TIED CARD OF 'letterboxlaw20.StructureTokens'. -/
def structureTokensCard : Claim7 := { stood := { row := structureTokensRow, standIns := [], harness := (true, "308be332588f4c0505331a0f51721f2a795f8c88c39a52ff13e70b6e60797ef5"), looks := true }, kinds := [], alts := [], laidByText := true, laidKinds := [.data, .pinned], laidTests := true, laidLooks := .later }
def StructureTokensCardSaid : Prop := Claim7.holds Tryz.pinned (.plain (OpenSpec.ofChange structureTokensSpec)) structureTokensCard

/-- THE SECOND FORM's CARD OF 'letterboxlaw19.EnvelopeLists'. -/
def envelopeListsUptoCard : Claim7 := { stood := { row := envelopeListsUptoRow, standIns := [], harness := (true, "308be332588f4c0505331a0f51721f2a795f8c88c39a52ff13e70b6e60797ef5"), looks := true }, kinds := [], alts := [], laidByText := true, laidKinds := [.data, .pinned], laidTests := true, laidLooks := .later }
def EnvelopeListsUptoCardSaid : Prop := Claim7.holds Tryz.pinned (.plain (OpenSpec.upto envelopeListsSpec)) envelopeListsUptoCard

/-- THE SECOND FORM's CARD OF 'letterboxlaw19.EnvelopePlain'. -/
def envelopePlainUptoCard : Claim7 := { stood := { row := envelopePlainUptoRow, standIns := [], harness := (true, "308be332588f4c0505331a0f51721f2a795f8c88c39a52ff13e70b6e60797ef5"), looks := true }, kinds := [], alts := [], laidByText := true, laidKinds := [.data, .pinned], laidTests := true, laidLooks := .later }
def EnvelopePlainUptoCardSaid : Prop := Claim7.holds Tryz.pinned (.plain (OpenSpec.upto envelopePlainSpec)) envelopePlainUptoCard

/-- THE SECOND FORM's CARD OF 'letterboxlaw17.BinaryWhole'. -/
def binaryWholeUptoCard : Claim7 := { stood := { row := binaryWholeUptoRow, standIns := [], harness := (true, "308be332588f4c0505331a0f51721f2a795f8c88c39a52ff13e70b6e60797ef5"), looks := true }, kinds := [], alts := [], laidByText := true, laidKinds := [.data, .pinned], laidTests := true, laidLooks := .later }
def BinaryWholeUptoCardSaid : Prop := Claim7.holds Tryz.pinned (.plain (OpenSpec.upto binaryWholeSpec)) binaryWholeUptoCard

/-- THE SECOND FORM's CARD OF 'letterboxlaw17.BinaryBack'. -/
def binaryBackUptoCard : Claim7 := { stood := { row := binaryBackUptoRow, standIns := [], harness := (true, "308be332588f4c0505331a0f51721f2a795f8c88c39a52ff13e70b6e60797ef5"), looks := true }, kinds := [], alts := [], laidByText := true, laidKinds := [.data, .data, .pinned], laidTests := true, laidLooks := .later }
def BinaryBackUptoCardSaid : Prop := Claim7.holds Tryz.pinned (.plain (OpenSpec.upto binaryBackSpec)) binaryBackUptoCard

/-- THE SECOND FORM's CARD OF 'letterboxlaw20.StructureNests'. -/
def structureNestsUptoCard : Claim7 := { stood := { row := structureNestsUptoRow, standIns := [], harness := (true, "308be332588f4c0505331a0f51721f2a795f8c88c39a52ff13e70b6e60797ef5"), looks := true }, kinds := [], alts := [], laidByText := true, laidKinds := [.data, .pinned], laidTests := true, laidLooks := .later }
def StructureNestsUptoCardSaid : Prop := Claim7.holds Tryz.pinned (.plain (OpenSpec.upto structureNestsSpec)) structureNestsUptoCard

/-- THE SECOND FORM's CARD OF 'letterboxlaw20.StructureKinds'. -/
def structureKindsUptoCard : Claim7 := { stood := { row := structureKindsUptoRow, standIns := [], harness := (true, "308be332588f4c0505331a0f51721f2a795f8c88c39a52ff13e70b6e60797ef5"), looks := true }, kinds := [], alts := [], laidByText := true, laidKinds := [.data, .pinned], laidTests := true, laidLooks := .later }
def StructureKindsUptoCardSaid : Prop := Claim7.holds Tryz.pinned (.plain (OpenSpec.upto structureKindsSpec)) structureKindsUptoCard

/-- THE SECOND FORM's CARD OF 'letterboxlaw19.EnvelopeTokens'. -/
def envelopeTokensUptoCard : Claim7 := { stood := { row := envelopeTokensUptoRow, standIns := [], harness := (true, "308be332588f4c0505331a0f51721f2a795f8c88c39a52ff13e70b6e60797ef5"), looks := true }, kinds := [], alts := [], laidByText := true, laidKinds := [.data, .pinned], laidTests := true, laidLooks := .later }
def EnvelopeTokensUptoCardSaid : Prop := Claim7.holds Tryz.pinned (.plain (OpenSpec.upto envelopeTokensSpec)) envelopeTokensUptoCard

/-- THE SECOND FORM's CARD OF 'letterboxlaw20.StructureTokens'. -/
def structureTokensUptoCard : Claim7 := { stood := { row := structureTokensUptoRow, standIns := [], harness := (true, "308be332588f4c0505331a0f51721f2a795f8c88c39a52ff13e70b6e60797ef5"), looks := true }, kinds := [], alts := [], laidByText := true, laidKinds := [.data, .pinned], laidTests := true, laidLooks := .later }
def StructureTokensUptoCardSaid : Prop := Claim7.holds Tryz.pinned (.plain (OpenSpec.upto structureTokensSpec)) structureTokensUptoCard
end Rows
end Go.Proofs.YtdoaoaicdimbeaaGreatDoor
