/-
  NARROWER THAN 'FOR EVERY INPUT', by the rows' own cells (each row's printed sentence says how): TreeDeep: laid · TreeMany: laid · TreeLeaves: laid · TreeInner: laid · TilesAll: laid · TilesKinds: laid · TilesRaw: laid · FetchWhole: laid · FetchFields: laid · FetchInner: laid · FetchPieces: laid.
  DERIVED. THE GIVEN ROWS OF THIS SEAT. 11 by the template 'for every input the law returns true; each argument reads behind the call as it read before'; 0 by the template 'total and deterministic' (their statements: YtemgbdncidgoiaaDoorTotals.lean).
  GIVEN WITH THE SEED: the statements are not yours to turn. If you find one false, say at which input.
  Laid BY PROGRAM, IN A SANDBOX (cutbox-rows.mjs): the forced cells as the released guide's own fill.sh prints them over the translation f85e753d28019598… (all of the seat's roots in one cut). By AI agents, Wed Nov 11 2026. No macro, syntax, notation, axiom, sorry.
-/
import Derived.Test.YtemgbdncidgoiaaDoorChecked
import GoSem.PinnedTables
import GoSem.Claim
import GoSem.ClaimJoined
import GoSem.ClaimMapViews
import Derived.JoinedTies
import Derived.KernelRfl
namespace Go.Proofs.YtemgbdncidgoiaaDoor
/- THE CELL 'sum', in the pinned program and in every row, IS THE sha256 OF THE DUMP (.gsa) THAT YtemgbdncidgoiaaDoorProg.lean LOADS. Nothing in Lean hashes anything: it is a label: what it is worth is what the hold of that sum in a sandbox is worth. -/
noncomputable def Tryd.pinned : Pinned := { name := "ytemgbdncidgoiaadoor", sum := "f85e753d28019598e98289250135411a2d6d1895dead874de5eb7ee5f8262bc8", checked := Tryd.checked }
namespace Rows
def none {H : Type} : Left H := { results := [], args := [] }

/- WHAT THE LISTED PACKAGE-LEVEL VARIABLES READ AS WHEN THE CALL BEGINS. Each datum BY PROGRAM (the guide's laid-datum.mjs) off the statement by which the dump's own 'gosem.cut.vars' lays the variable. In a bare row this is a premise. The card (YtemgbdncidgoiaaDoorCards.lean) ties it to the program's text. -/
def laid_unicode_utf8_acceptRanges {H : Type} : DataW H := .agg [.agg [.lit (.int .u8 128), .lit (.int .u8 191)], .agg [.lit (.int .u8 160), .lit (.int .u8 191)], .agg [.lit (.int .u8 128), .lit (.int .u8 159)], .agg [.lit (.int .u8 144), .lit (.int .u8 191)], .agg [.lit (.int .u8 128), .lit (.int .u8 143)], .agg [.lit (.int .u8 0), .lit (.int .u8 0)], .agg [.lit (.int .u8 0), .lit (.int .u8 0)], .agg [.lit (.int .u8 0), .lit (.int .u8 0)], .agg [.lit (.int .u8 0), .lit (.int .u8 0)], .agg [.lit (.int .u8 0), .lit (.int .u8 0)], .agg [.lit (.int .u8 0), .lit (.int .u8 0)], .agg [.lit (.int .u8 0), .lit (.int .u8 0)], .agg [.lit (.int .u8 0), .lit (.int .u8 0)], .agg [.lit (.int .u8 0), .lit (.int .u8 0)], .agg [.lit (.int .u8 0), .lit (.int .u8 0)], .agg [.lit (.int .u8 0), .lit (.int .u8 0)]]
/-- One of Go's own tables, pinned by name: the form's constant. -/
def laid_unicode_utf8_first : DataW Unit := Go.Pinned.utf8First

/-- 'letterboxlaw12.TreeDeep': WHATEVER THE INPUT: true; the input reads as it did. -/
def treeDeepSpec : ChangeSpec := { name := "treeDeep", fn := fun _ => fun
  | [d1, d2] => { results := [.lit (.bool true)], args := [d1, d2] }
  | _ => none }
def treeDeepRow : OpenClaim := { program := "ytemgbdncidgoiaadoor", sum := "f85e753d28019598e98289250135411a2d6d1895dead874de5eb7ee5f8262bc8", func := "letterbox/letterboxlaw12.TreeDeep", spec := "treeDeep", inPlace := ["internal/bytealg.IndexByteString", "internal/abi.NoEscape", "internal/bytealg.IndexString", "internal/bytealg.CountString"], unfollowed := true, recurses := true, named := ["internal/bytealg.MaxLen", "unicode/utf8.first", "unicode/utf8.acceptRanges"], apart := false, laid := [("unicode/utf8.acceptRanges", laid_unicode_utf8_acceptRanges), ("unicode/utf8.first", laid_unicode_utf8_first)] }
def TreeDeepSaid : Prop := treeDeepRow.holds Tryd.pinned (OpenSpec.ofChange treeDeepSpec)

/-- ITS FALSE NEIGHBOUR: 'it returns false'. Refute it at one input. -/
def treeDeepWrong : ChangeSpec := { name := "treeDeep", fn := fun _ => fun
  | [d1, d2] => { results := [.lit (.bool false)], args := [d1, d2] }
  | _ => none }
def TreeDeepWrongFalsely : Prop := treeDeepRow.holds Tryd.pinned (OpenSpec.ofChange treeDeepWrong)

/-- 'letterboxlaw12.TreeMany': WHATEVER THE INPUT: true; the input reads as it did. -/
def treeManySpec : ChangeSpec := { name := "treeMany", fn := fun _ => fun
  | [d1, d2, d3] => { results := [.lit (.bool true)], args := [d1, d2, d3] }
  | _ => none }
def treeManyRow : OpenClaim := { program := "ytemgbdncidgoiaadoor", sum := "f85e753d28019598e98289250135411a2d6d1895dead874de5eb7ee5f8262bc8", func := "letterbox/letterboxlaw12.TreeMany", spec := "treeMany", inPlace := ["internal/bytealg.IndexByteString", "internal/abi.NoEscape", "internal/bytealg.IndexString", "internal/bytealg.CountString"], unfollowed := true, recurses := true, named := ["internal/bytealg.MaxLen", "unicode/utf8.first", "unicode/utf8.acceptRanges"], apart := false, laid := [("unicode/utf8.acceptRanges", laid_unicode_utf8_acceptRanges), ("unicode/utf8.first", laid_unicode_utf8_first)] }
def TreeManySaid : Prop := treeManyRow.holds Tryd.pinned (OpenSpec.ofChange treeManySpec)

/-- ITS FALSE NEIGHBOUR: 'it returns false'. Refute it at one input. -/
def treeManyWrong : ChangeSpec := { name := "treeMany", fn := fun _ => fun
  | [d1, d2, d3] => { results := [.lit (.bool false)], args := [d1, d2, d3] }
  | _ => none }
def TreeManyWrongFalsely : Prop := treeManyRow.holds Tryd.pinned (OpenSpec.ofChange treeManyWrong)

/-- 'letterboxlaw12.TreeLeaves': WHATEVER THE INPUT: true; the input reads as it did. -/
def treeLeavesSpec : ChangeSpec := { name := "treeLeaves", fn := fun _ => fun
  | [d1, d2] => { results := [.lit (.bool true)], args := [d1, d2] }
  | _ => none }
def treeLeavesRow : OpenClaim := { program := "ytemgbdncidgoiaadoor", sum := "f85e753d28019598e98289250135411a2d6d1895dead874de5eb7ee5f8262bc8", func := "letterbox/letterboxlaw12.TreeLeaves", spec := "treeLeaves", inPlace := ["internal/bytealg.IndexByteString", "internal/abi.NoEscape", "internal/bytealg.IndexString", "internal/bytealg.CountString"], unfollowed := true, recurses := true, named := ["internal/bytealg.MaxLen", "unicode/utf8.first", "unicode/utf8.acceptRanges"], apart := false, laid := [("unicode/utf8.acceptRanges", laid_unicode_utf8_acceptRanges), ("unicode/utf8.first", laid_unicode_utf8_first)] }
def TreeLeavesSaid : Prop := treeLeavesRow.holds Tryd.pinned (OpenSpec.ofChange treeLeavesSpec)

/-- ITS FALSE NEIGHBOUR: 'it returns false'. Refute it at one input. -/
def treeLeavesWrong : ChangeSpec := { name := "treeLeaves", fn := fun _ => fun
  | [d1, d2] => { results := [.lit (.bool false)], args := [d1, d2] }
  | _ => none }
def TreeLeavesWrongFalsely : Prop := treeLeavesRow.holds Tryd.pinned (OpenSpec.ofChange treeLeavesWrong)

/-- 'letterboxlaw12.TreeInner': WHATEVER THE INPUT: true; the input reads as it did. -/
def treeInnerSpec : ChangeSpec := { name := "treeInner", fn := fun _ => fun
  | [d1, d2] => { results := [.lit (.bool true)], args := [d1, d2] }
  | _ => none }
def treeInnerRow : OpenClaim := { program := "ytemgbdncidgoiaadoor", sum := "f85e753d28019598e98289250135411a2d6d1895dead874de5eb7ee5f8262bc8", func := "letterbox/letterboxlaw12.TreeInner", spec := "treeInner", inPlace := ["internal/bytealg.IndexByteString", "internal/abi.NoEscape", "internal/bytealg.IndexString", "internal/bytealg.CountString"], unfollowed := true, recurses := true, named := ["internal/bytealg.MaxLen", "unicode/utf8.first", "unicode/utf8.acceptRanges"], apart := false, laid := [("unicode/utf8.acceptRanges", laid_unicode_utf8_acceptRanges), ("unicode/utf8.first", laid_unicode_utf8_first)] }
def TreeInnerSaid : Prop := treeInnerRow.holds Tryd.pinned (OpenSpec.ofChange treeInnerSpec)

/-- ITS FALSE NEIGHBOUR: 'it returns false'. Refute it at one input. -/
def treeInnerWrong : ChangeSpec := { name := "treeInner", fn := fun _ => fun
  | [d1, d2] => { results := [.lit (.bool false)], args := [d1, d2] }
  | _ => none }
def TreeInnerWrongFalsely : Prop := treeInnerRow.holds Tryd.pinned (OpenSpec.ofChange treeInnerWrong)

/-- 'letterboxlaw13.TilesAll': WHATEVER THE INPUT: true; the input reads as it did. -/
def tilesAllSpec : ChangeSpec := { name := "tilesAll", fn := fun _ => fun
  | [d] => { results := [.lit (.bool true)], args := [d] }
  | _ => none }
def tilesAllRow : OpenClaim := { program := "ytemgbdncidgoiaadoor", sum := "f85e753d28019598e98289250135411a2d6d1895dead874de5eb7ee5f8262bc8", func := "letterbox/letterboxlaw13.TilesAll", spec := "tilesAll", inPlace := ["internal/bytealg.IndexByteString", "internal/abi.NoEscape", "internal/bytealg.IndexString", "internal/bytealg.CountString"], unfollowed := true, recurses := true, named := ["internal/bytealg.MaxLen", "unicode/utf8.first", "unicode/utf8.acceptRanges"], apart := false, laid := [("unicode/utf8.acceptRanges", laid_unicode_utf8_acceptRanges), ("unicode/utf8.first", laid_unicode_utf8_first)] }
def TilesAllSaid : Prop := tilesAllRow.holds Tryd.pinned (OpenSpec.ofChange tilesAllSpec)

/-- ITS FALSE NEIGHBOUR: 'it returns false'. Refute it at one input. -/
def tilesAllWrong : ChangeSpec := { name := "tilesAll", fn := fun _ => fun
  | [d] => { results := [.lit (.bool false)], args := [d] }
  | _ => none }
def TilesAllWrongFalsely : Prop := tilesAllRow.holds Tryd.pinned (OpenSpec.ofChange tilesAllWrong)

/-- 'letterboxlaw13.TilesKinds': WHATEVER THE INPUT: true; the input reads as it did. -/
def tilesKindsSpec : ChangeSpec := { name := "tilesKinds", fn := fun _ => fun
  | [d] => { results := [.lit (.bool true)], args := [d] }
  | _ => none }
def tilesKindsRow : OpenClaim := { program := "ytemgbdncidgoiaadoor", sum := "f85e753d28019598e98289250135411a2d6d1895dead874de5eb7ee5f8262bc8", func := "letterbox/letterboxlaw13.TilesKinds", spec := "tilesKinds", inPlace := ["internal/bytealg.IndexByteString", "internal/abi.NoEscape", "internal/bytealg.IndexString", "internal/bytealg.CountString"], unfollowed := true, recurses := true, named := ["internal/bytealg.MaxLen", "unicode/utf8.first", "unicode/utf8.acceptRanges"], apart := false, laid := [("unicode/utf8.acceptRanges", laid_unicode_utf8_acceptRanges), ("unicode/utf8.first", laid_unicode_utf8_first)] }
def TilesKindsSaid : Prop := tilesKindsRow.holds Tryd.pinned (OpenSpec.ofChange tilesKindsSpec)

/-- ITS FALSE NEIGHBOUR: 'it returns false'. Refute it at one input. -/
def tilesKindsWrong : ChangeSpec := { name := "tilesKinds", fn := fun _ => fun
  | [d] => { results := [.lit (.bool false)], args := [d] }
  | _ => none }
def TilesKindsWrongFalsely : Prop := tilesKindsRow.holds Tryd.pinned (OpenSpec.ofChange tilesKindsWrong)

/-- 'letterboxlaw13.TilesRaw': WHATEVER THE INPUT: true; the input reads as it did. -/
def tilesRawSpec : ChangeSpec := { name := "tilesRaw", fn := fun _ => fun
  | [d1, d2] => { results := [.lit (.bool true)], args := [d1, d2] }
  | _ => none }
def tilesRawRow : OpenClaim := { program := "ytemgbdncidgoiaadoor", sum := "f85e753d28019598e98289250135411a2d6d1895dead874de5eb7ee5f8262bc8", func := "letterbox/letterboxlaw13.TilesRaw", spec := "tilesRaw", inPlace := ["internal/bytealg.IndexByteString", "internal/abi.NoEscape", "internal/bytealg.IndexString", "internal/bytealg.CountString"], unfollowed := true, recurses := true, named := ["internal/bytealg.MaxLen", "unicode/utf8.first", "unicode/utf8.acceptRanges"], apart := false, laid := [("unicode/utf8.acceptRanges", laid_unicode_utf8_acceptRanges), ("unicode/utf8.first", laid_unicode_utf8_first)] }
def TilesRawSaid : Prop := tilesRawRow.holds Tryd.pinned (OpenSpec.ofChange tilesRawSpec)

/-- ITS FALSE NEIGHBOUR: 'it returns false'. Refute it at one input. -/
def tilesRawWrong : ChangeSpec := { name := "tilesRaw", fn := fun _ => fun
  | [d1, d2] => { results := [.lit (.bool false)], args := [d1, d2] }
  | _ => none }
def TilesRawWrongFalsely : Prop := tilesRawRow.holds Tryd.pinned (OpenSpec.ofChange tilesRawWrong)

/-- 'letterboxlaw16.FetchWhole': WHATEVER THE INPUT: true; the input reads as it did. -/
def fetchWholeSpec : ChangeSpec := { name := "fetchWhole", fn := fun _ => fun
  | [d1, d2] => { results := [.lit (.bool true)], args := [d1, d2] }
  | _ => none }
def fetchWholeRow : OpenClaim := { program := "ytemgbdncidgoiaadoor", sum := "f85e753d28019598e98289250135411a2d6d1895dead874de5eb7ee5f8262bc8", func := "letterbox/letterboxlaw16.FetchWhole", spec := "fetchWhole", inPlace := ["internal/bytealg.IndexByteString", "internal/abi.NoEscape", "internal/bytealg.IndexString", "internal/bytealg.CountString"], unfollowed := true, recurses := true, named := ["internal/bytealg.MaxLen", "unicode/utf8.first", "unicode/utf8.acceptRanges"], apart := false, laid := [("unicode/utf8.acceptRanges", laid_unicode_utf8_acceptRanges), ("unicode/utf8.first", laid_unicode_utf8_first)] }
def FetchWholeSaid : Prop := fetchWholeRow.holds Tryd.pinned (OpenSpec.ofChange fetchWholeSpec)

/-- ITS FALSE NEIGHBOUR: 'it returns false'. Refute it at one input. -/
def fetchWholeWrong : ChangeSpec := { name := "fetchWhole", fn := fun _ => fun
  | [d1, d2] => { results := [.lit (.bool false)], args := [d1, d2] }
  | _ => none }
def FetchWholeWrongFalsely : Prop := fetchWholeRow.holds Tryd.pinned (OpenSpec.ofChange fetchWholeWrong)

/-- 'letterboxlaw16.FetchFields': WHATEVER THE INPUT: true; the input reads as it did. -/
def fetchFieldsSpec : ChangeSpec := { name := "fetchFields", fn := fun _ => fun
  | [d1, d2] => { results := [.lit (.bool true)], args := [d1, d2] }
  | _ => none }
def fetchFieldsRow : OpenClaim := { program := "ytemgbdncidgoiaadoor", sum := "f85e753d28019598e98289250135411a2d6d1895dead874de5eb7ee5f8262bc8", func := "letterbox/letterboxlaw16.FetchFields", spec := "fetchFields", inPlace := ["internal/bytealg.IndexByteString", "internal/abi.NoEscape", "internal/bytealg.IndexString", "internal/bytealg.CountString"], unfollowed := true, recurses := true, named := ["internal/bytealg.MaxLen", "unicode/utf8.first", "unicode/utf8.acceptRanges"], apart := false, laid := [("unicode/utf8.acceptRanges", laid_unicode_utf8_acceptRanges), ("unicode/utf8.first", laid_unicode_utf8_first)] }
def FetchFieldsSaid : Prop := fetchFieldsRow.holds Tryd.pinned (OpenSpec.ofChange fetchFieldsSpec)

/-- ITS FALSE NEIGHBOUR: 'it returns false'. Refute it at one input. -/
def fetchFieldsWrong : ChangeSpec := { name := "fetchFields", fn := fun _ => fun
  | [d1, d2] => { results := [.lit (.bool false)], args := [d1, d2] }
  | _ => none }
def FetchFieldsWrongFalsely : Prop := fetchFieldsRow.holds Tryd.pinned (OpenSpec.ofChange fetchFieldsWrong)

/-- 'letterboxlaw16.FetchInner': WHATEVER THE INPUT: true; the input reads as it did. -/
def fetchInnerSpec : ChangeSpec := { name := "fetchInner", fn := fun _ => fun
  | [d] => { results := [.lit (.bool true)], args := [d] }
  | _ => none }
def fetchInnerRow : OpenClaim := { program := "ytemgbdncidgoiaadoor", sum := "f85e753d28019598e98289250135411a2d6d1895dead874de5eb7ee5f8262bc8", func := "letterbox/letterboxlaw16.FetchInner", spec := "fetchInner", inPlace := ["internal/bytealg.IndexByteString", "internal/abi.NoEscape", "internal/bytealg.IndexString", "internal/bytealg.CountString"], unfollowed := true, recurses := true, named := ["internal/bytealg.MaxLen", "unicode/utf8.first", "unicode/utf8.acceptRanges"], apart := false, laid := [("unicode/utf8.acceptRanges", laid_unicode_utf8_acceptRanges), ("unicode/utf8.first", laid_unicode_utf8_first)] }
def FetchInnerSaid : Prop := fetchInnerRow.holds Tryd.pinned (OpenSpec.ofChange fetchInnerSpec)

/-- ITS FALSE NEIGHBOUR: 'it returns false'. Refute it at one input. -/
def fetchInnerWrong : ChangeSpec := { name := "fetchInner", fn := fun _ => fun
  | [d] => { results := [.lit (.bool false)], args := [d] }
  | _ => none }
def FetchInnerWrongFalsely : Prop := fetchInnerRow.holds Tryd.pinned (OpenSpec.ofChange fetchInnerWrong)

/-- 'letterboxlaw16.FetchPieces': WHATEVER THE INPUT: true; the input reads as it did. -/
def fetchPiecesSpec : ChangeSpec := { name := "fetchPieces", fn := fun _ => fun
  | [d1, d2, d3] => { results := [.lit (.bool true)], args := [d1, d2, d3] }
  | _ => none }
def fetchPiecesRow : OpenClaim := { program := "ytemgbdncidgoiaadoor", sum := "f85e753d28019598e98289250135411a2d6d1895dead874de5eb7ee5f8262bc8", func := "letterbox/letterboxlaw16.FetchPieces", spec := "fetchPieces", inPlace := ["internal/bytealg.IndexByteString", "internal/abi.NoEscape", "internal/bytealg.IndexString", "internal/bytealg.CountString"], unfollowed := true, recurses := true, named := ["internal/bytealg.MaxLen", "unicode/utf8.first", "unicode/utf8.acceptRanges"], apart := false, laid := [("unicode/utf8.acceptRanges", laid_unicode_utf8_acceptRanges), ("unicode/utf8.first", laid_unicode_utf8_first)] }
def FetchPiecesSaid : Prop := fetchPiecesRow.holds Tryd.pinned (OpenSpec.ofChange fetchPiecesSpec)

/-- ITS FALSE NEIGHBOUR: 'it returns false'. Refute it at one input. -/
def fetchPiecesWrong : ChangeSpec := { name := "fetchPieces", fn := fun _ => fun
  | [d1, d2, d3] => { results := [.lit (.bool false)], args := [d1, d2, d3] }
  | _ => none }
def FetchPiecesWrongFalsely : Prop := fetchPiecesRow.holds Tryd.pinned (OpenSpec.ofChange fetchPiecesWrong)

/- THE SECOND FORM. 'bulk': how many values and letters a reading holds, each counted each time it is reached (what is shared counts as often as it is met; a slice's spare places count too). A statement '..UptoSaid' is the law's where the arguments, and the package variables that the reading takes, are together of bulk at most 1048576: NARROWER than '..Said'. Prove '..Said' where nothing that the law and all that it calls make is longer than what came in: it says more and counts as full. Else prove '..UptoSaid'. A law counts once. -/
mutual
def uptoBulk {H : Type} : DataW H → Nat
  | .lit (.string bytes) => bytes.length + 1
  | .lit _ => 1
  | .nil => 1
  | .ptr d => uptoBulk d + 1
  | .slice elems spare => uptoBulkAll elems + uptoBulkAll spare + 1
  | .agg parts => uptoBulkAll parts + 1
  | .iface _ d => uptoBulk d + 1
  | .map entries => uptoBulkEntries entries + 1
  | .held _ => 1
def uptoBulkAll {H : Type} : List (DataW H) → Nat
  | [] => 0
  | d :: r => uptoBulk d + uptoBulkAll r
def uptoBulkEntries {H : Type} : List (Lit × DataW H) → Nat
  | [] => 0
  | x :: r => uptoBulkEntry x + uptoBulkEntries r
def uptoBulkEntry {H : Type} : Lit × DataW H → Nat
  | (.string bytes, d) => bytes.length + uptoBulk d + 1
  | (_, d) => uptoBulk d + 1
 end
def uptoSmall : (H : Type) → List (DataW H) → Bool := fun _ ds => decide (uptoBulkAll ds ≤ 1048576)
def OpenSpec.upto (s : _root_.Go.ChangeSpec) : _root_.Go.OpenSpec := { _root_.Go.OpenSpec.ofChange s with cond := some uptoSmall }

/-- 'letterboxlaw12.TreeDeep', WHERE WHAT IT READS IS OF BULK AT MOST 1048576: true; the input reads as it did. -/
def treeDeepUptoRow : OpenClaim := { program := "ytemgbdncidgoiaadoor", sum := "f85e753d28019598e98289250135411a2d6d1895dead874de5eb7ee5f8262bc8", func := "letterbox/letterboxlaw12.TreeDeep", spec := "treeDeep", inPlace := ["internal/bytealg.IndexByteString", "internal/abi.NoEscape", "internal/bytealg.IndexString", "internal/bytealg.CountString"], unfollowed := true, recurses := true, named := ["internal/bytealg.MaxLen", "unicode/utf8.first", "unicode/utf8.acceptRanges"], apart := false, laid := [("unicode/utf8.acceptRanges", laid_unicode_utf8_acceptRanges), ("unicode/utf8.first", laid_unicode_utf8_first)], narrowed := true }
def TreeDeepUptoSaid : Prop := treeDeepUptoRow.holds Tryd.pinned (OpenSpec.upto treeDeepSpec)

/-- 'letterboxlaw12.TreeMany', WHERE WHAT IT READS IS OF BULK AT MOST 1048576: true; the input reads as it did. -/
def treeManyUptoRow : OpenClaim := { program := "ytemgbdncidgoiaadoor", sum := "f85e753d28019598e98289250135411a2d6d1895dead874de5eb7ee5f8262bc8", func := "letterbox/letterboxlaw12.TreeMany", spec := "treeMany", inPlace := ["internal/bytealg.IndexByteString", "internal/abi.NoEscape", "internal/bytealg.IndexString", "internal/bytealg.CountString"], unfollowed := true, recurses := true, named := ["internal/bytealg.MaxLen", "unicode/utf8.first", "unicode/utf8.acceptRanges"], apart := false, laid := [("unicode/utf8.acceptRanges", laid_unicode_utf8_acceptRanges), ("unicode/utf8.first", laid_unicode_utf8_first)], narrowed := true }
def TreeManyUptoSaid : Prop := treeManyUptoRow.holds Tryd.pinned (OpenSpec.upto treeManySpec)

/-- 'letterboxlaw12.TreeLeaves', WHERE WHAT IT READS IS OF BULK AT MOST 1048576: true; the input reads as it did. -/
def treeLeavesUptoRow : OpenClaim := { program := "ytemgbdncidgoiaadoor", sum := "f85e753d28019598e98289250135411a2d6d1895dead874de5eb7ee5f8262bc8", func := "letterbox/letterboxlaw12.TreeLeaves", spec := "treeLeaves", inPlace := ["internal/bytealg.IndexByteString", "internal/abi.NoEscape", "internal/bytealg.IndexString", "internal/bytealg.CountString"], unfollowed := true, recurses := true, named := ["internal/bytealg.MaxLen", "unicode/utf8.first", "unicode/utf8.acceptRanges"], apart := false, laid := [("unicode/utf8.acceptRanges", laid_unicode_utf8_acceptRanges), ("unicode/utf8.first", laid_unicode_utf8_first)], narrowed := true }
def TreeLeavesUptoSaid : Prop := treeLeavesUptoRow.holds Tryd.pinned (OpenSpec.upto treeLeavesSpec)

/-- 'letterboxlaw12.TreeInner', WHERE WHAT IT READS IS OF BULK AT MOST 1048576: true; the input reads as it did. -/
def treeInnerUptoRow : OpenClaim := { program := "ytemgbdncidgoiaadoor", sum := "f85e753d28019598e98289250135411a2d6d1895dead874de5eb7ee5f8262bc8", func := "letterbox/letterboxlaw12.TreeInner", spec := "treeInner", inPlace := ["internal/bytealg.IndexByteString", "internal/abi.NoEscape", "internal/bytealg.IndexString", "internal/bytealg.CountString"], unfollowed := true, recurses := true, named := ["internal/bytealg.MaxLen", "unicode/utf8.first", "unicode/utf8.acceptRanges"], apart := false, laid := [("unicode/utf8.acceptRanges", laid_unicode_utf8_acceptRanges), ("unicode/utf8.first", laid_unicode_utf8_first)], narrowed := true }
def TreeInnerUptoSaid : Prop := treeInnerUptoRow.holds Tryd.pinned (OpenSpec.upto treeInnerSpec)

/-- 'letterboxlaw13.TilesAll', WHERE WHAT IT READS IS OF BULK AT MOST 1048576: true; the input reads as it did. -/
def tilesAllUptoRow : OpenClaim := { program := "ytemgbdncidgoiaadoor", sum := "f85e753d28019598e98289250135411a2d6d1895dead874de5eb7ee5f8262bc8", func := "letterbox/letterboxlaw13.TilesAll", spec := "tilesAll", inPlace := ["internal/bytealg.IndexByteString", "internal/abi.NoEscape", "internal/bytealg.IndexString", "internal/bytealg.CountString"], unfollowed := true, recurses := true, named := ["internal/bytealg.MaxLen", "unicode/utf8.first", "unicode/utf8.acceptRanges"], apart := false, laid := [("unicode/utf8.acceptRanges", laid_unicode_utf8_acceptRanges), ("unicode/utf8.first", laid_unicode_utf8_first)], narrowed := true }
def TilesAllUptoSaid : Prop := tilesAllUptoRow.holds Tryd.pinned (OpenSpec.upto tilesAllSpec)

/-- 'letterboxlaw13.TilesKinds', WHERE WHAT IT READS IS OF BULK AT MOST 1048576: true; the input reads as it did. -/
def tilesKindsUptoRow : OpenClaim := { program := "ytemgbdncidgoiaadoor", sum := "f85e753d28019598e98289250135411a2d6d1895dead874de5eb7ee5f8262bc8", func := "letterbox/letterboxlaw13.TilesKinds", spec := "tilesKinds", inPlace := ["internal/bytealg.IndexByteString", "internal/abi.NoEscape", "internal/bytealg.IndexString", "internal/bytealg.CountString"], unfollowed := true, recurses := true, named := ["internal/bytealg.MaxLen", "unicode/utf8.first", "unicode/utf8.acceptRanges"], apart := false, laid := [("unicode/utf8.acceptRanges", laid_unicode_utf8_acceptRanges), ("unicode/utf8.first", laid_unicode_utf8_first)], narrowed := true }
def TilesKindsUptoSaid : Prop := tilesKindsUptoRow.holds Tryd.pinned (OpenSpec.upto tilesKindsSpec)

/-- 'letterboxlaw13.TilesRaw', WHERE WHAT IT READS IS OF BULK AT MOST 1048576: true; the input reads as it did. -/
def tilesRawUptoRow : OpenClaim := { program := "ytemgbdncidgoiaadoor", sum := "f85e753d28019598e98289250135411a2d6d1895dead874de5eb7ee5f8262bc8", func := "letterbox/letterboxlaw13.TilesRaw", spec := "tilesRaw", inPlace := ["internal/bytealg.IndexByteString", "internal/abi.NoEscape", "internal/bytealg.IndexString", "internal/bytealg.CountString"], unfollowed := true, recurses := true, named := ["internal/bytealg.MaxLen", "unicode/utf8.first", "unicode/utf8.acceptRanges"], apart := false, laid := [("unicode/utf8.acceptRanges", laid_unicode_utf8_acceptRanges), ("unicode/utf8.first", laid_unicode_utf8_first)], narrowed := true }
def TilesRawUptoSaid : Prop := tilesRawUptoRow.holds Tryd.pinned (OpenSpec.upto tilesRawSpec)

/-- 'letterboxlaw16.FetchWhole', WHERE WHAT IT READS IS OF BULK AT MOST 1048576: true; the input reads as it did. -/
def fetchWholeUptoRow : OpenClaim := { program := "ytemgbdncidgoiaadoor", sum := "f85e753d28019598e98289250135411a2d6d1895dead874de5eb7ee5f8262bc8", func := "letterbox/letterboxlaw16.FetchWhole", spec := "fetchWhole", inPlace := ["internal/bytealg.IndexByteString", "internal/abi.NoEscape", "internal/bytealg.IndexString", "internal/bytealg.CountString"], unfollowed := true, recurses := true, named := ["internal/bytealg.MaxLen", "unicode/utf8.first", "unicode/utf8.acceptRanges"], apart := false, laid := [("unicode/utf8.acceptRanges", laid_unicode_utf8_acceptRanges), ("unicode/utf8.first", laid_unicode_utf8_first)], narrowed := true }
def FetchWholeUptoSaid : Prop := fetchWholeUptoRow.holds Tryd.pinned (OpenSpec.upto fetchWholeSpec)

/-- 'letterboxlaw16.FetchFields', WHERE WHAT IT READS IS OF BULK AT MOST 1048576: true; the input reads as it did. -/
def fetchFieldsUptoRow : OpenClaim := { program := "ytemgbdncidgoiaadoor", sum := "f85e753d28019598e98289250135411a2d6d1895dead874de5eb7ee5f8262bc8", func := "letterbox/letterboxlaw16.FetchFields", spec := "fetchFields", inPlace := ["internal/bytealg.IndexByteString", "internal/abi.NoEscape", "internal/bytealg.IndexString", "internal/bytealg.CountString"], unfollowed := true, recurses := true, named := ["internal/bytealg.MaxLen", "unicode/utf8.first", "unicode/utf8.acceptRanges"], apart := false, laid := [("unicode/utf8.acceptRanges", laid_unicode_utf8_acceptRanges), ("unicode/utf8.first", laid_unicode_utf8_first)], narrowed := true }
def FetchFieldsUptoSaid : Prop := fetchFieldsUptoRow.holds Tryd.pinned (OpenSpec.upto fetchFieldsSpec)

/-- 'letterboxlaw16.FetchInner', WHERE WHAT IT READS IS OF BULK AT MOST 1048576: true; the input reads as it did. -/
def fetchInnerUptoRow : OpenClaim := { program := "ytemgbdncidgoiaadoor", sum := "f85e753d28019598e98289250135411a2d6d1895dead874de5eb7ee5f8262bc8", func := "letterbox/letterboxlaw16.FetchInner", spec := "fetchInner", inPlace := ["internal/bytealg.IndexByteString", "internal/abi.NoEscape", "internal/bytealg.IndexString", "internal/bytealg.CountString"], unfollowed := true, recurses := true, named := ["internal/bytealg.MaxLen", "unicode/utf8.first", "unicode/utf8.acceptRanges"], apart := false, laid := [("unicode/utf8.acceptRanges", laid_unicode_utf8_acceptRanges), ("unicode/utf8.first", laid_unicode_utf8_first)], narrowed := true }
def FetchInnerUptoSaid : Prop := fetchInnerUptoRow.holds Tryd.pinned (OpenSpec.upto fetchInnerSpec)

/-- 'letterboxlaw16.FetchPieces', WHERE WHAT IT READS IS OF BULK AT MOST 1048576: true; the input reads as it did. -/
def fetchPiecesUptoRow : OpenClaim := { program := "ytemgbdncidgoiaadoor", sum := "f85e753d28019598e98289250135411a2d6d1895dead874de5eb7ee5f8262bc8", func := "letterbox/letterboxlaw16.FetchPieces", spec := "fetchPieces", inPlace := ["internal/bytealg.IndexByteString", "internal/abi.NoEscape", "internal/bytealg.IndexString", "internal/bytealg.CountString"], unfollowed := true, recurses := true, named := ["internal/bytealg.MaxLen", "unicode/utf8.first", "unicode/utf8.acceptRanges"], apart := false, laid := [("unicode/utf8.acceptRanges", laid_unicode_utf8_acceptRanges), ("unicode/utf8.first", laid_unicode_utf8_first)], narrowed := true }
def FetchPiecesUptoSaid : Prop := fetchPiecesUptoRow.holds Tryd.pinned (OpenSpec.upto fetchPiecesSpec)

end Rows
end Go.Proofs.YtemgbdncidgoiaaDoor
