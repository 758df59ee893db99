/-
  DERIVED. GIVEN WITH THE SEED: THE CARDS: each row of YtmhhcoccfojiiaaDoorRows.lean that lists a variable, with what it lists TIED to the program's text (the seventh form; the later family's looks); each row that meets fmt, with fmt's text TOLD by the authors' own Lean function (tested against real Go, not proved from fmt's source: count such statements apart). THE CARD IS WHAT COUNTS. Prove the row's statement (the work); the ties are given (YtmhhcoccfojiiaaDoorTie.lean); close each card by the builder's one call (the guide's Derived/Test/ToyasCard.lean, 'card_holds'). Laid BY PROGRAM, IN A SANDBOX (cutbox-door.mjs). By AI agents, Wed Nov 11 2026. No macro, syntax, notation, axiom, sorry.
-/
import Derived.Test.YtmhhcoccfojiiaaDoorRows
import GoSem.ClaimSeven
namespace Go.Proofs.YtmhhcoccfojiiaaDoor
namespace Rows

/-- THE TIED CARD OF 'letterboxlaw07.ParamsParses'. -/
def paramsParsesCard : Claim7 := { stood := { row := paramsParsesRow, standIns := [], harness := (true, "0bfb57bcb7be9224d682e1d76497990a344debd5a6257f2eb997a0fd09e229e7"), looks := false }, kinds := [], alts := [], laidByText := true, laidKinds := [.data, .pinned], laidTests := true, laidLooks := .later }
def ParamsParsesCardSaid : Prop := Claim7.holds Tryd.pinned (.plain (OpenSpec.ofChange paramsParsesSpec)) paramsParsesCard

/-- THE TIED CARD OF 'letterboxlaw07.ParamsQuoted'. -/
def paramsQuotedCard : Claim7 := { stood := { row := paramsQuotedRow, standIns := [], harness := (true, "0bfb57bcb7be9224d682e1d76497990a344debd5a6257f2eb997a0fd09e229e7"), looks := false }, kinds := [], alts := [], laidByText := true, laidKinds := [.data, .pinned], laidTests := true, laidLooks := .later }
def ParamsQuotedCardSaid : Prop := Claim7.holds Tryd.pinned (.plain (OpenSpec.ofChange paramsQuotedSpec)) paramsQuotedCard

/-- THE TIED CARD OF 'letterboxlaw07.ParamsOnce'. -/
def paramsOnceCard : Claim7 := { stood := { row := paramsOnceRow, standIns := [], harness := (true, "0bfb57bcb7be9224d682e1d76497990a344debd5a6257f2eb997a0fd09e229e7"), looks := false }, kinds := [], alts := [], laidByText := true, laidKinds := [.data, .pinned], laidTests := true, laidLooks := .later }
def ParamsOnceCardSaid : Prop := Claim7.holds Tryd.pinned (.plain (OpenSpec.ofChange paramsOnceSpec)) paramsOnceCard

/-- THE TIED CARD OF 'letterboxlaw07.ParamsPieces'. -/
def paramsPiecesCard : Claim7 := { stood := { row := paramsPiecesRow, standIns := [], harness := (true, "0bfb57bcb7be9224d682e1d76497990a344debd5a6257f2eb997a0fd09e229e7"), looks := false }, kinds := [], alts := [], laidByText := true, laidKinds := [.data, .pinned], laidTests := true, laidLooks := .later }
def ParamsPiecesCardSaid : Prop := Claim7.holds Tryd.pinned (.plain (OpenSpec.ofChange paramsPiecesSpec)) paramsPiecesCard

/-- THE SECOND FORM's CARD OF 'letterboxlaw07.ParamsParses'. -/
def paramsParsesUptoCard : Claim7 := { stood := { row := paramsParsesUptoRow, standIns := [], harness := (true, "0bfb57bcb7be9224d682e1d76497990a344debd5a6257f2eb997a0fd09e229e7"), looks := false }, kinds := [], alts := [], laidByText := true, laidKinds := [.data, .pinned], laidTests := true, laidLooks := .later }
def ParamsParsesUptoCardSaid : Prop := Claim7.holds Tryd.pinned (.plain (OpenSpec.upto paramsParsesSpec)) paramsParsesUptoCard

/-- THE SECOND FORM's CARD OF 'letterboxlaw07.ParamsQuoted'. -/
def paramsQuotedUptoCard : Claim7 := { stood := { row := paramsQuotedUptoRow, standIns := [], harness := (true, "0bfb57bcb7be9224d682e1d76497990a344debd5a6257f2eb997a0fd09e229e7"), looks := false }, kinds := [], alts := [], laidByText := true, laidKinds := [.data, .pinned], laidTests := true, laidLooks := .later }
def ParamsQuotedUptoCardSaid : Prop := Claim7.holds Tryd.pinned (.plain (OpenSpec.upto paramsQuotedSpec)) paramsQuotedUptoCard

/-- THE SECOND FORM's CARD OF 'letterboxlaw07.ParamsOnce'. -/
def paramsOnceUptoCard : Claim7 := { stood := { row := paramsOnceUptoRow, standIns := [], harness := (true, "0bfb57bcb7be9224d682e1d76497990a344debd5a6257f2eb997a0fd09e229e7"), looks := false }, kinds := [], alts := [], laidByText := true, laidKinds := [.data, .pinned], laidTests := true, laidLooks := .later }
def ParamsOnceUptoCardSaid : Prop := Claim7.holds Tryd.pinned (.plain (OpenSpec.upto paramsOnceSpec)) paramsOnceUptoCard

/-- THE SECOND FORM's CARD OF 'letterboxlaw07.ParamsPieces'. -/
def paramsPiecesUptoCard : Claim7 := { stood := { row := paramsPiecesUptoRow, standIns := [], harness := (true, "0bfb57bcb7be9224d682e1d76497990a344debd5a6257f2eb997a0fd09e229e7"), looks := false }, kinds := [], alts := [], laidByText := true, laidKinds := [.data, .pinned], laidTests := true, laidLooks := .later }
def ParamsPiecesUptoCardSaid : Prop := Claim7.holds Tryd.pinned (.plain (OpenSpec.upto paramsPiecesSpec)) paramsPiecesUptoCard
end Rows
end Go.Proofs.YtmhhcoccfojiiaaDoor
