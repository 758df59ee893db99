/-
  DERIVED. GIVEN WITH THE SEED: THE CARDS: each row of YtgpofjbdjiajeaaGreatDoorRows.lean that lists a variable, with what it lists TIED to the program's text (the seventh form; the later family's looks); each row that meets fmt, with fmt's text TOLD by the authors' own Lean function (tested against real Go, not proved from fmt's source: count such statements apart). THE CARD IS WHAT COUNTS. Prove the row's statement (the work); the ties are given (YtgpofjbdjiajeaaGreatDoorTie.lean); close each card by the builder's one call (the guide's Derived/Test/ToyasCard.lean, 'card_holds'). Laid BY PROGRAM, IN A SANDBOX (cutbox-door.mjs). By AI agents, Wed Nov 11 2026. No macro, syntax, notation, axiom, sorry.
-/
import Derived.Test.YtgpofjbdjiajeaaGreatDoorRows
import GoSem.ClaimSeven
namespace Go.Proofs.YtgpofjbdjiajeaaGreatDoor
namespace Rows

/-- THE TIED CARD OF 'letterboxlaw14.RecordTorn'. -/
def recordTornCard : Claim7 := { stood := { row := recordTornRow, standIns := [], harness := (true, "8534d8c1525771bf0af48978ff329592d19d824749f237479ed7d586582d512b"), looks := true }, kinds := [], alts := [], laidByText := true, laidKinds := [.data, .handle, .pinned], laidTests := true, laidLooks := .later }
def RecordTornCardSaid : Prop := Claim7.holds Tryz.pinned (.plain (OpenSpec.ofChange recordTornSpec)) recordTornCard

/-- THE TIED CARD OF 'letterboxlaw14.RecordSmall'. -/
def recordSmallCard : Claim7 := { stood := { row := recordSmallRow, standIns := [], harness := (true, "8534d8c1525771bf0af48978ff329592d19d824749f237479ed7d586582d512b"), looks := true }, kinds := [], alts := [], laidByText := true, laidKinds := [.data, .handle, .pinned], laidTests := true, laidLooks := .later }
def RecordSmallCardSaid : Prop := Claim7.holds Tryz.pinned (.plain (OpenSpec.ofChange recordSmallSpec)) recordSmallCard

/-- THE TIED CARD OF 'letterboxlaw14.RecordOne'. -/
def recordOneCard : Claim7 := { stood := { row := recordOneRow, standIns := [], harness := (true, "8534d8c1525771bf0af48978ff329592d19d824749f237479ed7d586582d512b"), looks := true }, kinds := [], alts := [], laidByText := true, laidKinds := [.data, .handle, .pinned], laidTests := true, laidLooks := .later }
def RecordOneCardSaid : Prop := Claim7.holds Tryz.pinned (.plain (OpenSpec.ofChange recordOneSpec)) recordOneCard

/-- THE SECOND FORM's CARD OF 'letterboxlaw14.RecordTorn'. -/
def recordTornUptoCard : Claim7 := { stood := { row := recordTornUptoRow, standIns := [], harness := (true, "8534d8c1525771bf0af48978ff329592d19d824749f237479ed7d586582d512b"), looks := true }, kinds := [], alts := [], laidByText := true, laidKinds := [.data, .handle, .pinned], laidTests := true, laidLooks := .later }
def RecordTornUptoCardSaid : Prop := Claim7.holds Tryz.pinned (.plain (OpenSpec.upto recordTornSpec)) recordTornUptoCard

/-- THE SECOND FORM's CARD OF 'letterboxlaw14.RecordSmall'. -/
def recordSmallUptoCard : Claim7 := { stood := { row := recordSmallUptoRow, standIns := [], harness := (true, "8534d8c1525771bf0af48978ff329592d19d824749f237479ed7d586582d512b"), looks := true }, kinds := [], alts := [], laidByText := true, laidKinds := [.data, .handle, .pinned], laidTests := true, laidLooks := .later }
def RecordSmallUptoCardSaid : Prop := Claim7.holds Tryz.pinned (.plain (OpenSpec.upto recordSmallSpec)) recordSmallUptoCard

/-- THE SECOND FORM's CARD OF 'letterboxlaw14.RecordOne'. -/
def recordOneUptoCard : Claim7 := { stood := { row := recordOneUptoRow, standIns := [], harness := (true, "8534d8c1525771bf0af48978ff329592d19d824749f237479ed7d586582d512b"), looks := true }, kinds := [], alts := [], laidByText := true, laidKinds := [.data, .handle, .pinned], laidTests := true, laidLooks := .later }
def RecordOneUptoCardSaid : Prop := Claim7.holds Tryz.pinned (.plain (OpenSpec.upto recordOneSpec)) recordOneUptoCard
end Rows
end Go.Proofs.YtgpofjbdjiajeaaGreatDoor
