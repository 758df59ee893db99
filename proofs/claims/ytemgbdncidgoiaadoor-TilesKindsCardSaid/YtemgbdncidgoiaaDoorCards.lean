/-
  DERIVED. GIVEN WITH THE SEED: THE CARDS: each row of YtemgbdncidgoiaaDoorRows.lean that lists a variable, with what it lists TIED to the program's text (the seventh form; the later family's looks); each row that meets fmt, with fmt's text TOLD by the authors' own Lean function (tested against real Go, not proved from fmt's source: count such statements apart). THE CARD IS WHAT COUNTS. Prove the row's statement (the work); the ties are given (YtemgbdncidgoiaaDoorTie.lean); close each card by the builder's one call (the guide's Derived/Test/ToyasCard.lean, 'card_holds'). Laid BY PROGRAM, IN A SANDBOX (cutbox-door.mjs). By AI agents, Wed Nov 11 2026. No macro, syntax, notation, axiom, sorry.
-/
import Derived.Test.YtemgbdncidgoiaaDoorRows
import GoSem.ClaimSeven
namespace Go.Proofs.YtemgbdncidgoiaaDoor
namespace Rows

/-- THE TIED CARD OF 'letterboxlaw12.TreeDeep'. -/
def treeDeepCard : Claim7 := { stood := { row := treeDeepRow, standIns := [], harness := (true, "48978e95170886469a78781f82a224bce2af0fa10688e18db6750e99ded0d224"), looks := false }, kinds := [], alts := [], laidByText := true, laidKinds := [.data, .pinned], laidTests := true, laidLooks := .later }
def TreeDeepCardSaid : Prop := Claim7.holds Tryd.pinned (.plain (OpenSpec.ofChange treeDeepSpec)) treeDeepCard

/-- THE TIED CARD OF 'letterboxlaw12.TreeMany'. -/
def treeManyCard : Claim7 := { stood := { row := treeManyRow, standIns := [], harness := (true, "48978e95170886469a78781f82a224bce2af0fa10688e18db6750e99ded0d224"), looks := false }, kinds := [], alts := [], laidByText := true, laidKinds := [.data, .pinned], laidTests := true, laidLooks := .later }
def TreeManyCardSaid : Prop := Claim7.holds Tryd.pinned (.plain (OpenSpec.ofChange treeManySpec)) treeManyCard

/-- THE TIED CARD OF 'letterboxlaw12.TreeLeaves'. -/
def treeLeavesCard : Claim7 := { stood := { row := treeLeavesRow, standIns := [], harness := (true, "48978e95170886469a78781f82a224bce2af0fa10688e18db6750e99ded0d224"), looks := false }, kinds := [], alts := [], laidByText := true, laidKinds := [.data, .pinned], laidTests := true, laidLooks := .later }
def TreeLeavesCardSaid : Prop := Claim7.holds Tryd.pinned (.plain (OpenSpec.ofChange treeLeavesSpec)) treeLeavesCard

/-- THE TIED CARD OF 'letterboxlaw12.TreeInner'. -/
def treeInnerCard : Claim7 := { stood := { row := treeInnerRow, standIns := [], harness := (true, "48978e95170886469a78781f82a224bce2af0fa10688e18db6750e99ded0d224"), looks := false }, kinds := [], alts := [], laidByText := true, laidKinds := [.data, .pinned], laidTests := true, laidLooks := .later }
def TreeInnerCardSaid : Prop := Claim7.holds Tryd.pinned (.plain (OpenSpec.ofChange treeInnerSpec)) treeInnerCard

/-- THE TIED CARD OF 'letterboxlaw13.TilesAll'. -/
def tilesAllCard : Claim7 := { stood := { row := tilesAllRow, standIns := [], harness := (true, "48978e95170886469a78781f82a224bce2af0fa10688e18db6750e99ded0d224"), looks := false }, kinds := [], alts := [], laidByText := true, laidKinds := [.data, .pinned], laidTests := true, laidLooks := .later }
def TilesAllCardSaid : Prop := Claim7.holds Tryd.pinned (.plain (OpenSpec.ofChange tilesAllSpec)) tilesAllCard

/-- THE TIED CARD OF 'letterboxlaw13.TilesKinds'. -/
def tilesKindsCard : Claim7 := { stood := { row := tilesKindsRow, standIns := [], harness := (true, "48978e95170886469a78781f82a224bce2af0fa10688e18db6750e99ded0d224"), looks := false }, kinds := [], alts := [], laidByText := true, laidKinds := [.data, .pinned], laidTests := true, laidLooks := .later }
def TilesKindsCardSaid : Prop := Claim7.holds Tryd.pinned (.plain (OpenSpec.ofChange tilesKindsSpec)) tilesKindsCard

/-- THE TIED CARD OF 'letterboxlaw13.TilesRaw'. -/
def tilesRawCard : Claim7 := { stood := { row := tilesRawRow, standIns := [], harness := (true, "48978e95170886469a78781f82a224bce2af0fa10688e18db6750e99ded0d224"), looks := false }, kinds := [], alts := [], laidByText := true, laidKinds := [.data, .pinned], laidTests := true, laidLooks := .later }
def TilesRawCardSaid : Prop := Claim7.holds Tryd.pinned (.plain (OpenSpec.ofChange tilesRawSpec)) tilesRawCard

/-- THE TIED CARD OF 'letterboxlaw16.FetchWhole'. -/
def fetchWholeCard : Claim7 := { stood := { row := fetchWholeRow, standIns := [], harness := (true, "48978e95170886469a78781f82a224bce2af0fa10688e18db6750e99ded0d224"), looks := false }, kinds := [], alts := [], laidByText := true, laidKinds := [.data, .pinned], laidTests := true, laidLooks := .later }
def FetchWholeCardSaid : Prop := Claim7.holds Tryd.pinned (.plain (OpenSpec.ofChange fetchWholeSpec)) fetchWholeCard

/-- THE TIED CARD OF 'letterboxlaw16.FetchFields'. -/
def fetchFieldsCard : Claim7 := { stood := { row := fetchFieldsRow, standIns := [], harness := (true, "48978e95170886469a78781f82a224bce2af0fa10688e18db6750e99ded0d224"), looks := false }, kinds := [], alts := [], laidByText := true, laidKinds := [.data, .pinned], laidTests := true, laidLooks := .later }
def FetchFieldsCardSaid : Prop := Claim7.holds Tryd.pinned (.plain (OpenSpec.ofChange fetchFieldsSpec)) fetchFieldsCard

/-- THE TIED CARD OF 'letterboxlaw16.FetchInner'. -/
def fetchInnerCard : Claim7 := { stood := { row := fetchInnerRow, standIns := [], harness := (true, "48978e95170886469a78781f82a224bce2af0fa10688e18db6750e99ded0d224"), looks := false }, kinds := [], alts := [], laidByText := true, laidKinds := [.data, .pinned], laidTests := true, laidLooks := .later }
def FetchInnerCardSaid : Prop := Claim7.holds Tryd.pinned (.plain (OpenSpec.ofChange fetchInnerSpec)) fetchInnerCard

/-- THE TIED CARD OF 'letterboxlaw16.FetchPieces'. -/
def fetchPiecesCard : Claim7 := { stood := { row := fetchPiecesRow, standIns := [], harness := (true, "48978e95170886469a78781f82a224bce2af0fa10688e18db6750e99ded0d224"), looks := false }, kinds := [], alts := [], laidByText := true, laidKinds := [.data, .pinned], laidTests := true, laidLooks := .later }
def FetchPiecesCardSaid : Prop := Claim7.holds Tryd.pinned (.plain (OpenSpec.ofChange fetchPiecesSpec)) fetchPiecesCard

/-- THE SECOND FORM's CARD OF 'letterboxlaw12.TreeDeep'. -/
def treeDeepUptoCard : Claim7 := { stood := { row := treeDeepUptoRow, standIns := [], harness := (true, "48978e95170886469a78781f82a224bce2af0fa10688e18db6750e99ded0d224"), looks := false }, kinds := [], alts := [], laidByText := true, laidKinds := [.data, .pinned], laidTests := true, laidLooks := .later }
def TreeDeepUptoCardSaid : Prop := Claim7.holds Tryd.pinned (.plain (OpenSpec.upto treeDeepSpec)) treeDeepUptoCard

/-- THE SECOND FORM's CARD OF 'letterboxlaw12.TreeMany'. -/
def treeManyUptoCard : Claim7 := { stood := { row := treeManyUptoRow, standIns := [], harness := (true, "48978e95170886469a78781f82a224bce2af0fa10688e18db6750e99ded0d224"), looks := false }, kinds := [], alts := [], laidByText := true, laidKinds := [.data, .pinned], laidTests := true, laidLooks := .later }
def TreeManyUptoCardSaid : Prop := Claim7.holds Tryd.pinned (.plain (OpenSpec.upto treeManySpec)) treeManyUptoCard

/-- THE SECOND FORM's CARD OF 'letterboxlaw12.TreeLeaves'. -/
def treeLeavesUptoCard : Claim7 := { stood := { row := treeLeavesUptoRow, standIns := [], harness := (true, "48978e95170886469a78781f82a224bce2af0fa10688e18db6750e99ded0d224"), looks := false }, kinds := [], alts := [], laidByText := true, laidKinds := [.data, .pinned], laidTests := true, laidLooks := .later }
def TreeLeavesUptoCardSaid : Prop := Claim7.holds Tryd.pinned (.plain (OpenSpec.upto treeLeavesSpec)) treeLeavesUptoCard

/-- THE SECOND FORM's CARD OF 'letterboxlaw12.TreeInner'. -/
def treeInnerUptoCard : Claim7 := { stood := { row := treeInnerUptoRow, standIns := [], harness := (true, "48978e95170886469a78781f82a224bce2af0fa10688e18db6750e99ded0d224"), looks := false }, kinds := [], alts := [], laidByText := true, laidKinds := [.data, .pinned], laidTests := true, laidLooks := .later }
def TreeInnerUptoCardSaid : Prop := Claim7.holds Tryd.pinned (.plain (OpenSpec.upto treeInnerSpec)) treeInnerUptoCard

/-- THE SECOND FORM's CARD OF 'letterboxlaw13.TilesAll'. -/
def tilesAllUptoCard : Claim7 := { stood := { row := tilesAllUptoRow, standIns := [], harness := (true, "48978e95170886469a78781f82a224bce2af0fa10688e18db6750e99ded0d224"), looks := false }, kinds := [], alts := [], laidByText := true, laidKinds := [.data, .pinned], laidTests := true, laidLooks := .later }
def TilesAllUptoCardSaid : Prop := Claim7.holds Tryd.pinned (.plain (OpenSpec.upto tilesAllSpec)) tilesAllUptoCard

/-- THE SECOND FORM's CARD OF 'letterboxlaw13.TilesKinds'. -/
def tilesKindsUptoCard : Claim7 := { stood := { row := tilesKindsUptoRow, standIns := [], harness := (true, "48978e95170886469a78781f82a224bce2af0fa10688e18db6750e99ded0d224"), looks := false }, kinds := [], alts := [], laidByText := true, laidKinds := [.data, .pinned], laidTests := true, laidLooks := .later }
def TilesKindsUptoCardSaid : Prop := Claim7.holds Tryd.pinned (.plain (OpenSpec.upto tilesKindsSpec)) tilesKindsUptoCard

/-- THE SECOND FORM's CARD OF 'letterboxlaw13.TilesRaw'. -/
def tilesRawUptoCard : Claim7 := { stood := { row := tilesRawUptoRow, standIns := [], harness := (true, "48978e95170886469a78781f82a224bce2af0fa10688e18db6750e99ded0d224"), looks := false }, kinds := [], alts := [], laidByText := true, laidKinds := [.data, .pinned], laidTests := true, laidLooks := .later }
def TilesRawUptoCardSaid : Prop := Claim7.holds Tryd.pinned (.plain (OpenSpec.upto tilesRawSpec)) tilesRawUptoCard

/-- THE SECOND FORM's CARD OF 'letterboxlaw16.FetchWhole'. -/
def fetchWholeUptoCard : Claim7 := { stood := { row := fetchWholeUptoRow, standIns := [], harness := (true, "48978e95170886469a78781f82a224bce2af0fa10688e18db6750e99ded0d224"), looks := false }, kinds := [], alts := [], laidByText := true, laidKinds := [.data, .pinned], laidTests := true, laidLooks := .later }
def FetchWholeUptoCardSaid : Prop := Claim7.holds Tryd.pinned (.plain (OpenSpec.upto fetchWholeSpec)) fetchWholeUptoCard

/-- THE SECOND FORM's CARD OF 'letterboxlaw16.FetchFields'. -/
def fetchFieldsUptoCard : Claim7 := { stood := { row := fetchFieldsUptoRow, standIns := [], harness := (true, "48978e95170886469a78781f82a224bce2af0fa10688e18db6750e99ded0d224"), looks := false }, kinds := [], alts := [], laidByText := true, laidKinds := [.data, .pinned], laidTests := true, laidLooks := .later }
def FetchFieldsUptoCardSaid : Prop := Claim7.holds Tryd.pinned (.plain (OpenSpec.upto fetchFieldsSpec)) fetchFieldsUptoCard

/-- THE SECOND FORM's CARD OF 'letterboxlaw16.FetchInner'. -/
def fetchInnerUptoCard : Claim7 := { stood := { row := fetchInnerUptoRow, standIns := [], harness := (true, "48978e95170886469a78781f82a224bce2af0fa10688e18db6750e99ded0d224"), looks := false }, kinds := [], alts := [], laidByText := true, laidKinds := [.data, .pinned], laidTests := true, laidLooks := .later }
def FetchInnerUptoCardSaid : Prop := Claim7.holds Tryd.pinned (.plain (OpenSpec.upto fetchInnerSpec)) fetchInnerUptoCard

/-- THE SECOND FORM's CARD OF 'letterboxlaw16.FetchPieces'. -/
def fetchPiecesUptoCard : Claim7 := { stood := { row := fetchPiecesUptoRow, standIns := [], harness := (true, "48978e95170886469a78781f82a224bce2af0fa10688e18db6750e99ded0d224"), looks := false }, kinds := [], alts := [], laidByText := true, laidKinds := [.data, .pinned], laidTests := true, laidLooks := .later }
def FetchPiecesUptoCardSaid : Prop := Claim7.holds Tryd.pinned (.plain (OpenSpec.upto fetchPiecesSpec)) fetchPiecesUptoCard
end Rows
end Go.Proofs.YtemgbdncidgoiaaDoor
