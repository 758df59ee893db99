/-
  NARROWER THAN 'FOR EVERY INPUT', by the rows' own cells (each row's printed sentence says how): EnvelopeLists: laid · EnvelopePlain: laid · BinaryWhole: laid · BinaryBack: laid · StructureNests: laid · StructureKinds: laid · EnvelopeTokens: laid · StructureTokens: laid.
  DERIVED. THE GIVEN ROWS OF THIS SEAT. 8 by the template 'for every input the law returns true; each argument reads behind the call as it read before'; 0 by the template 'total and deterministic' (their statements: YtdoaoaicdimbeaaGreatDoorTotals.lean).
  GIVEN WITH THE SEED: the statements are not yours to turn. If you find one false, say at which input.
  Laid BY PROGRAM, IN A SANDBOX (cutbox-rows.mjs): the forced cells as the released guide's own fill.sh prints them over the translation 01050a326f214af0… (all of the seat's roots in one cut). By AI agents, Wed Nov 11 2026. No macro, syntax, notation, axiom, sorry.
-/
import Derived.Test.YtdoaoaicdimbeaaGreatDoorChecked
import GoSem.PinnedTables
import GoSem.Claim
import GoSem.ClaimJoined
import GoSem.ClaimMapViews
import Derived.JoinedTies
import Derived.KernelRfl
namespace Go.Proofs.YtdoaoaicdimbeaaGreatDoor
/- THE CELL 'sum', in the pinned program and in every row, IS THE sha256 OF THE DUMP (.gsa) THAT YtdoaoaicdimbeaaGreatDoorProg.lean LOADS. Nothing in Lean hashes anything: it is a label: what it is worth is what the hold of that sum in a sandbox is worth. -/
noncomputable def Tryz.pinned : Pinned := { name := "ytdoaoaicdimbeaagreatdoor", sum := "01050a326f214af0a06310ff2eec932e3618ea362384f9ea292cabdef9d5d394", checked := Tryz.checked }
namespace Rows
def none {H : Type} : Left H := { results := [], args := [] }

/- WHAT THE LISTED PACKAGE-LEVEL VARIABLES READ AS WHEN THE CALL BEGINS. Each datum BY PROGRAM (the guide's laid-datum.mjs) off the statement by which the dump's own 'gosem.cut.vars' lays the variable. In a bare row this is a premise. The card (YtdoaoaicdimbeaaGreatDoorCards.lean) ties it to the program's text. -/
def laid_unicode_utf8_acceptRanges {H : Type} : DataW H := .agg [.agg [.lit (.int .u8 128), .lit (.int .u8 191)], .agg [.lit (.int .u8 160), .lit (.int .u8 191)], .agg [.lit (.int .u8 128), .lit (.int .u8 159)], .agg [.lit (.int .u8 144), .lit (.int .u8 191)], .agg [.lit (.int .u8 128), .lit (.int .u8 143)], .agg [.lit (.int .u8 0), .lit (.int .u8 0)], .agg [.lit (.int .u8 0), .lit (.int .u8 0)], .agg [.lit (.int .u8 0), .lit (.int .u8 0)], .agg [.lit (.int .u8 0), .lit (.int .u8 0)], .agg [.lit (.int .u8 0), .lit (.int .u8 0)], .agg [.lit (.int .u8 0), .lit (.int .u8 0)], .agg [.lit (.int .u8 0), .lit (.int .u8 0)], .agg [.lit (.int .u8 0), .lit (.int .u8 0)], .agg [.lit (.int .u8 0), .lit (.int .u8 0)], .agg [.lit (.int .u8 0), .lit (.int .u8 0)], .agg [.lit (.int .u8 0), .lit (.int .u8 0)]]
/-- One of Go's own tables, pinned by name: the form's constant. -/
def laid_unicode_utf8_first : DataW Unit := Go.Pinned.utf8First
def laid_letterbox_b64_letters {H : Type} : DataW H := .agg [.lit (.int .u8 65), .lit (.int .u8 66), .lit (.int .u8 67), .lit (.int .u8 68), .lit (.int .u8 69), .lit (.int .u8 70), .lit (.int .u8 71), .lit (.int .u8 72), .lit (.int .u8 73), .lit (.int .u8 74), .lit (.int .u8 75), .lit (.int .u8 76), .lit (.int .u8 77), .lit (.int .u8 78), .lit (.int .u8 79), .lit (.int .u8 80), .lit (.int .u8 81), .lit (.int .u8 82), .lit (.int .u8 83), .lit (.int .u8 84), .lit (.int .u8 85), .lit (.int .u8 86), .lit (.int .u8 87), .lit (.int .u8 88), .lit (.int .u8 89), .lit (.int .u8 90), .lit (.int .u8 97), .lit (.int .u8 98), .lit (.int .u8 99), .lit (.int .u8 100), .lit (.int .u8 101), .lit (.int .u8 102), .lit (.int .u8 103), .lit (.int .u8 104), .lit (.int .u8 105), .lit (.int .u8 106), .lit (.int .u8 107), .lit (.int .u8 108), .lit (.int .u8 109), .lit (.int .u8 110), .lit (.int .u8 111), .lit (.int .u8 112), .lit (.int .u8 113), .lit (.int .u8 114), .lit (.int .u8 115), .lit (.int .u8 116), .lit (.int .u8 117), .lit (.int .u8 118), .lit (.int .u8 119), .lit (.int .u8 120), .lit (.int .u8 121), .lit (.int .u8 122), .lit (.int .u8 48), .lit (.int .u8 49), .lit (.int .u8 50), .lit (.int .u8 51), .lit (.int .u8 52), .lit (.int .u8 53), .lit (.int .u8 54), .lit (.int .u8 55), .lit (.int .u8 56), .lit (.int .u8 57), .lit (.int .u8 43), .lit (.int .u8 47)]

/-- 'letterboxlaw19.EnvelopeLists': WHATEVER THE INPUT: true; the input reads as it did. -/
def envelopeListsSpec : ChangeSpec := { name := "envelopeLists", fn := fun _ => fun
  | [d] => { results := [.lit (.bool true)], args := [d] }
  | _ => none }
def envelopeListsRow : OpenClaim := { program := "ytdoaoaicdimbeaagreatdoor", sum := "01050a326f214af0a06310ff2eec932e3618ea362384f9ea292cabdef9d5d394", func := "letterbox/letterboxlaw19.EnvelopeLists", spec := "envelopeLists", inPlace := ["internal/bytealg.IndexByteString", "internal/abi.NoEscape", "internal/bytealg.IndexString", "internal/bytealg.CountString", "internal/bytealg.MakeNoZero"], unfollowed := true, recurses := true, named := ["internal/bytealg.MaxLen", "unicode/utf8.first", "unicode/utf8.acceptRanges"], apart := false, laid := [("unicode/utf8.acceptRanges", laid_unicode_utf8_acceptRanges), ("unicode/utf8.first", laid_unicode_utf8_first)] }
def EnvelopeListsSaid : Prop := envelopeListsRow.holds Tryz.pinned (OpenSpec.ofChange envelopeListsSpec)

/-- ITS FALSE NEIGHBOUR: 'it returns false'. Refute it at one input. -/
def envelopeListsWrong : ChangeSpec := { name := "envelopeLists", fn := fun _ => fun
  | [d] => { results := [.lit (.bool false)], args := [d] }
  | _ => none }
def EnvelopeListsWrongFalsely : Prop := envelopeListsRow.holds Tryz.pinned (OpenSpec.ofChange envelopeListsWrong)

/-- 'letterboxlaw19.EnvelopePlain': WHATEVER THE INPUT: true; the input reads as it did. -/
def envelopePlainSpec : ChangeSpec := { name := "envelopePlain", fn := fun _ => fun
  | [d1, d2, d3] => { results := [.lit (.bool true)], args := [d1, d2, d3] }
  | _ => none }
def envelopePlainRow : OpenClaim := { program := "ytdoaoaicdimbeaagreatdoor", sum := "01050a326f214af0a06310ff2eec932e3618ea362384f9ea292cabdef9d5d394", func := "letterbox/letterboxlaw19.EnvelopePlain", spec := "envelopePlain", inPlace := ["internal/bytealg.IndexByteString", "internal/abi.NoEscape", "internal/bytealg.IndexString", "internal/bytealg.CountString", "internal/bytealg.MakeNoZero"], unfollowed := true, recurses := true, named := ["internal/bytealg.MaxLen", "unicode/utf8.first", "unicode/utf8.acceptRanges"], apart := false, laid := [("unicode/utf8.acceptRanges", laid_unicode_utf8_acceptRanges), ("unicode/utf8.first", laid_unicode_utf8_first)] }
def EnvelopePlainSaid : Prop := envelopePlainRow.holds Tryz.pinned (OpenSpec.ofChange envelopePlainSpec)

/-- ITS FALSE NEIGHBOUR: 'it returns false'. Refute it at one input. -/
def envelopePlainWrong : ChangeSpec := { name := "envelopePlain", fn := fun _ => fun
  | [d1, d2, d3] => { results := [.lit (.bool false)], args := [d1, d2, d3] }
  | _ => none }
def EnvelopePlainWrongFalsely : Prop := envelopePlainRow.holds Tryz.pinned (OpenSpec.ofChange envelopePlainWrong)

/-- 'letterboxlaw17.BinaryWhole': WHATEVER THE INPUT: true; the input reads as it did. -/
def binaryWholeSpec : ChangeSpec := { name := "binaryWhole", fn := fun _ => fun
  | [d] => { results := [.lit (.bool true)], args := [d] }
  | _ => none }
def binaryWholeRow : OpenClaim := { program := "ytdoaoaicdimbeaagreatdoor", sum := "01050a326f214af0a06310ff2eec932e3618ea362384f9ea292cabdef9d5d394", func := "letterbox/letterboxlaw17.BinaryWhole", spec := "binaryWhole", inPlace := ["internal/bytealg.IndexByteString", "internal/abi.NoEscape", "internal/bytealg.IndexString", "internal/bytealg.CountString"], unfollowed := true, recurses := true, named := ["internal/bytealg.MaxLen", "unicode/utf8.first", "unicode/utf8.acceptRanges"], apart := false, laid := [("unicode/utf8.acceptRanges", laid_unicode_utf8_acceptRanges), ("unicode/utf8.first", laid_unicode_utf8_first)] }
def BinaryWholeSaid : Prop := binaryWholeRow.holds Tryz.pinned (OpenSpec.ofChange binaryWholeSpec)

/-- ITS FALSE NEIGHBOUR: 'it returns false'. Refute it at one input. -/
def binaryWholeWrong : ChangeSpec := { name := "binaryWhole", fn := fun _ => fun
  | [d] => { results := [.lit (.bool false)], args := [d] }
  | _ => none }
def BinaryWholeWrongFalsely : Prop := binaryWholeRow.holds Tryz.pinned (OpenSpec.ofChange binaryWholeWrong)

/-- 'letterboxlaw17.BinaryBack': WHATEVER THE INPUT: true; the input reads as it did. -/
def binaryBackSpec : ChangeSpec := { name := "binaryBack", fn := fun _ => fun
  | [d1, d2, d3] => { results := [.lit (.bool true)], args := [d1, d2, d3] }
  | _ => none }
def binaryBackRow : OpenClaim := { program := "ytdoaoaicdimbeaagreatdoor", sum := "01050a326f214af0a06310ff2eec932e3618ea362384f9ea292cabdef9d5d394", func := "letterbox/letterboxlaw17.BinaryBack", spec := "binaryBack", inPlace := ["internal/bytealg.IndexByteString", "internal/abi.NoEscape", "internal/bytealg.IndexString", "internal/bytealg.CountString"], unfollowed := true, recurses := true, named := ["internal/bytealg.MaxLen", "unicode/utf8.first", "unicode/utf8.acceptRanges", "letterbox/b64.letters"], apart := false, laid := [("letterbox/b64.letters", laid_letterbox_b64_letters), ("unicode/utf8.acceptRanges", laid_unicode_utf8_acceptRanges), ("unicode/utf8.first", laid_unicode_utf8_first)] }
def BinaryBackSaid : Prop := binaryBackRow.holds Tryz.pinned (OpenSpec.ofChange binaryBackSpec)

/-- ITS FALSE NEIGHBOUR: 'it returns false'. Refute it at one input. -/
def binaryBackWrong : ChangeSpec := { name := "binaryBack", fn := fun _ => fun
  | [d1, d2, d3] => { results := [.lit (.bool false)], args := [d1, d2, d3] }
  | _ => none }
def BinaryBackWrongFalsely : Prop := binaryBackRow.holds Tryz.pinned (OpenSpec.ofChange binaryBackWrong)

/-- 'letterboxlaw20.StructureNests': WHATEVER THE INPUT: true; the input reads as it did. -/
def structureNestsSpec : ChangeSpec := { name := "structureNests", fn := fun _ => fun
  | [d1, d2] => { results := [.lit (.bool true)], args := [d1, d2] }
  | _ => none }
def structureNestsRow : OpenClaim := { program := "ytdoaoaicdimbeaagreatdoor", sum := "01050a326f214af0a06310ff2eec932e3618ea362384f9ea292cabdef9d5d394", func := "letterbox/letterboxlaw20.StructureNests", spec := "structureNests", inPlace := ["internal/bytealg.IndexByteString", "internal/abi.NoEscape", "internal/bytealg.IndexString", "internal/bytealg.CountString", "internal/bytealg.MakeNoZero"], unfollowed := true, recurses := true, named := ["internal/bytealg.MaxLen", "unicode/utf8.first", "unicode/utf8.acceptRanges"], apart := false, laid := [("unicode/utf8.acceptRanges", laid_unicode_utf8_acceptRanges), ("unicode/utf8.first", laid_unicode_utf8_first)] }
def StructureNestsSaid : Prop := structureNestsRow.holds Tryz.pinned (OpenSpec.ofChange structureNestsSpec)

/-- ITS FALSE NEIGHBOUR: 'it returns false'. Refute it at one input. -/
def structureNestsWrong : ChangeSpec := { name := "structureNests", fn := fun _ => fun
  | [d1, d2] => { results := [.lit (.bool false)], args := [d1, d2] }
  | _ => none }
def StructureNestsWrongFalsely : Prop := structureNestsRow.holds Tryz.pinned (OpenSpec.ofChange structureNestsWrong)

/-- 'letterboxlaw20.StructureKinds': WHATEVER THE INPUT: true; the input reads as it did. -/
def structureKindsSpec : ChangeSpec := { name := "structureKinds", fn := fun _ => fun
  | [d] => { results := [.lit (.bool true)], args := [d] }
  | _ => none }
def structureKindsRow : OpenClaim := { program := "ytdoaoaicdimbeaagreatdoor", sum := "01050a326f214af0a06310ff2eec932e3618ea362384f9ea292cabdef9d5d394", func := "letterbox/letterboxlaw20.StructureKinds", spec := "structureKinds", inPlace := ["internal/bytealg.IndexByteString", "internal/abi.NoEscape", "internal/bytealg.IndexString", "internal/bytealg.CountString", "internal/bytealg.MakeNoZero"], unfollowed := true, recurses := true, named := ["internal/bytealg.MaxLen", "unicode/utf8.first", "unicode/utf8.acceptRanges"], apart := false, laid := [("unicode/utf8.acceptRanges", laid_unicode_utf8_acceptRanges), ("unicode/utf8.first", laid_unicode_utf8_first)] }
def StructureKindsSaid : Prop := structureKindsRow.holds Tryz.pinned (OpenSpec.ofChange structureKindsSpec)

/-- ITS FALSE NEIGHBOUR: 'it returns false'. Refute it at one input. -/
def structureKindsWrong : ChangeSpec := { name := "structureKinds", fn := fun _ => fun
  | [d] => { results := [.lit (.bool false)], args := [d] }
  | _ => none }
def StructureKindsWrongFalsely : Prop := structureKindsRow.holds Tryz.pinned (OpenSpec.ofChange structureKindsWrong)

/-- 'letterboxlaw19.EnvelopeTokens': WHATEVER THE INPUT: true; the input reads as it did. -/
def envelopeTokensSpec : ChangeSpec := { name := "envelopeTokens", fn := fun _ => fun
  | [d] => { results := [.lit (.bool true)], args := [d] }
  | _ => none }
def envelopeTokensRow : OpenClaim := { program := "ytdoaoaicdimbeaagreatdoor", sum := "01050a326f214af0a06310ff2eec932e3618ea362384f9ea292cabdef9d5d394", func := "letterbox/letterboxlaw19.EnvelopeTokens", spec := "envelopeTokens", inPlace := ["internal/bytealg.IndexByteString", "internal/abi.NoEscape", "internal/bytealg.IndexString", "internal/bytealg.CountString", "internal/bytealg.MakeNoZero"], unfollowed := true, recurses := true, named := ["internal/bytealg.MaxLen", "unicode/utf8.first", "unicode/utf8.acceptRanges"], apart := false, laid := [("unicode/utf8.acceptRanges", laid_unicode_utf8_acceptRanges), ("unicode/utf8.first", laid_unicode_utf8_first)] }
def EnvelopeTokensSaid : Prop := envelopeTokensRow.holds Tryz.pinned (OpenSpec.ofChange envelopeTokensSpec)

/-- ITS FALSE NEIGHBOUR: 'it returns false'. Refute it at one input. -/
def envelopeTokensWrong : ChangeSpec := { name := "envelopeTokens", fn := fun _ => fun
  | [d] => { results := [.lit (.bool false)], args := [d] }
  | _ => none }
def EnvelopeTokensWrongFalsely : Prop := envelopeTokensRow.holds Tryz.pinned (OpenSpec.ofChange envelopeTokensWrong)

/-- 'letterboxlaw20.StructureTokens': WHATEVER THE INPUT: true; the input reads as it did. -/
def structureTokensSpec : ChangeSpec := { name := "structureTokens", fn := fun _ => fun
  | [d1, d2] => { results := [.lit (.bool true)], args := [d1, d2] }
  | _ => none }
def structureTokensRow : OpenClaim := { program := "ytdoaoaicdimbeaagreatdoor", sum := "01050a326f214af0a06310ff2eec932e3618ea362384f9ea292cabdef9d5d394", func := "letterbox/letterboxlaw20.StructureTokens", spec := "structureTokens", inPlace := ["internal/bytealg.IndexByteString", "internal/abi.NoEscape", "internal/bytealg.IndexString", "internal/bytealg.CountString", "internal/bytealg.MakeNoZero"], unfollowed := true, recurses := true, named := ["internal/bytealg.MaxLen", "unicode/utf8.first", "unicode/utf8.acceptRanges"], apart := false, laid := [("unicode/utf8.acceptRanges", laid_unicode_utf8_acceptRanges), ("unicode/utf8.first", laid_unicode_utf8_first)] }
def StructureTokensSaid : Prop := structureTokensRow.holds Tryz.pinned (OpenSpec.ofChange structureTokensSpec)

/-- ITS FALSE NEIGHBOUR: 'it returns false'. Refute it at one input. -/
def structureTokensWrong : ChangeSpec := { name := "structureTokens", fn := fun _ => fun
  | [d1, d2] => { results := [.lit (.bool false)], args := [d1, d2] }
  | _ => none }
def StructureTokensWrongFalsely : Prop := structureTokensRow.holds Tryz.pinned (OpenSpec.ofChange structureTokensWrong)

/- THE SECOND FORM. 'bulk': how many values and letters a reading holds, each counted each time it is reached (what is shared counts as often as it is met; a slice's spare places count too). A statement '..UptoSaid' is the law's where the arguments, and the package variables that the reading takes, are together of bulk at most 1048576: NARROWER than '..Said'. Prove '..Said' where nothing that the law and all that it calls make is longer than what came in: it says more and counts as full. Else prove '..UptoSaid'. A law counts once. -/
mutual
def uptoBulk {H : Type} : DataW H → Nat
  | .lit (.string bytes) => bytes.length + 1
  | .lit _ => 1
  | .nil => 1
  | .ptr d => uptoBulk d + 1
  | .slice elems spare => uptoBulkAll elems + uptoBulkAll spare + 1
  | .agg parts => uptoBulkAll parts + 1
  | .iface _ d => uptoBulk d + 1
  | .map entries => uptoBulkEntries entries + 1
  | .held _ => 1
def uptoBulkAll {H : Type} : List (DataW H) → Nat
  | [] => 0
  | d :: r => uptoBulk d + uptoBulkAll r
def uptoBulkEntries {H : Type} : List (Lit × DataW H) → Nat
  | [] => 0
  | x :: r => uptoBulkEntry x + uptoBulkEntries r
def uptoBulkEntry {H : Type} : Lit × DataW H → Nat
  | (.string bytes, d) => bytes.length + uptoBulk d + 1
  | (_, d) => uptoBulk d + 1
 end
def uptoSmall : (H : Type) → List (DataW H) → Bool := fun _ ds => decide (uptoBulkAll ds ≤ 1048576)
def OpenSpec.upto (s : _root_.Go.ChangeSpec) : _root_.Go.OpenSpec := { _root_.Go.OpenSpec.ofChange s with cond := some uptoSmall }

/-- 'letterboxlaw19.EnvelopeLists', WHERE WHAT IT READS IS OF BULK AT MOST 1048576: true; the input reads as it did. -/
def envelopeListsUptoRow : OpenClaim := { program := "ytdoaoaicdimbeaagreatdoor", sum := "01050a326f214af0a06310ff2eec932e3618ea362384f9ea292cabdef9d5d394", func := "letterbox/letterboxlaw19.EnvelopeLists", spec := "envelopeLists", inPlace := ["internal/bytealg.IndexByteString", "internal/abi.NoEscape", "internal/bytealg.IndexString", "internal/bytealg.CountString", "internal/bytealg.MakeNoZero"], unfollowed := true, recurses := true, named := ["internal/bytealg.MaxLen", "unicode/utf8.first", "unicode/utf8.acceptRanges"], apart := false, laid := [("unicode/utf8.acceptRanges", laid_unicode_utf8_acceptRanges), ("unicode/utf8.first", laid_unicode_utf8_first)], narrowed := true }
def EnvelopeListsUptoSaid : Prop := envelopeListsUptoRow.holds Tryz.pinned (OpenSpec.upto envelopeListsSpec)

/-- 'letterboxlaw19.EnvelopePlain', WHERE WHAT IT READS IS OF BULK AT MOST 1048576: true; the input reads as it did. -/
def envelopePlainUptoRow : OpenClaim := { program := "ytdoaoaicdimbeaagreatdoor", sum := "01050a326f214af0a06310ff2eec932e3618ea362384f9ea292cabdef9d5d394", func := "letterbox/letterboxlaw19.EnvelopePlain", spec := "envelopePlain", inPlace := ["internal/bytealg.IndexByteString", "internal/abi.NoEscape", "internal/bytealg.IndexString", "internal/bytealg.CountString", "internal/bytealg.MakeNoZero"], unfollowed := true, recurses := true, named := ["internal/bytealg.MaxLen", "unicode/utf8.first", "unicode/utf8.acceptRanges"], apart := false, laid := [("unicode/utf8.acceptRanges", laid_unicode_utf8_acceptRanges), ("unicode/utf8.first", laid_unicode_utf8_first)], narrowed := true }
def EnvelopePlainUptoSaid : Prop := envelopePlainUptoRow.holds Tryz.pinned (OpenSpec.upto envelopePlainSpec)

/-- 'letterboxlaw17.BinaryWhole', WHERE WHAT IT READS IS OF BULK AT MOST 1048576: true; the input reads as it did. -/
def binaryWholeUptoRow : OpenClaim := { program := "ytdoaoaicdimbeaagreatdoor", sum := "01050a326f214af0a06310ff2eec932e3618ea362384f9ea292cabdef9d5d394", func := "letterbox/letterboxlaw17.BinaryWhole", spec := "binaryWhole", inPlace := ["internal/bytealg.IndexByteString", "internal/abi.NoEscape", "internal/bytealg.IndexString", "internal/bytealg.CountString"], unfollowed := true, recurses := true, named := ["internal/bytealg.MaxLen", "unicode/utf8.first", "unicode/utf8.acceptRanges"], apart := false, laid := [("unicode/utf8.acceptRanges", laid_unicode_utf8_acceptRanges), ("unicode/utf8.first", laid_unicode_utf8_first)], narrowed := true }
def BinaryWholeUptoSaid : Prop := binaryWholeUptoRow.holds Tryz.pinned (OpenSpec.upto binaryWholeSpec)

/-- 'letterboxlaw17.BinaryBack', WHERE WHAT IT READS IS OF BULK AT MOST 1048576: true; the input reads as it did. -/
def binaryBackUptoRow : OpenClaim := { program := "ytdoaoaicdimbeaagreatdoor", sum := "01050a326f214af0a06310ff2eec932e3618ea362384f9ea292cabdef9d5d394", func := "letterbox/letterboxlaw17.BinaryBack", spec := "binaryBack", inPlace := ["internal/bytealg.IndexByteString", "internal/abi.NoEscape", "internal/bytealg.IndexString", "internal/bytealg.CountString"], unfollowed := true, recurses := true, named := ["internal/bytealg.MaxLen", "unicode/utf8.first", "unicode/utf8.acceptRanges", "letterbox/b64.letters"], apart := false, laid := [("letterbox/b64.letters", laid_letterbox_b64_letters), ("unicode/utf8.acceptRanges", laid_unicode_utf8_acceptRanges), ("unicode/utf8.first", laid_unicode_utf8_first)], narrowed := true }
def BinaryBackUptoSaid : Prop := binaryBackUptoRow.holds Tryz.pinned (OpenSpec.upto binaryBackSpec)

/-- 'letterboxlaw20.StructureNests', WHERE WHAT IT READS IS OF BULK AT MOST 1048576: true; the input reads as it did. -/
def structureNestsUptoRow : OpenClaim := { program := "ytdoaoaicdimbeaagreatdoor", sum := "01050a326f214af0a06310ff2eec932e3618ea362384f9ea292cabdef9d5d394", func := "letterbox/letterboxlaw20.StructureNests", spec := "structureNests", inPlace := ["internal/bytealg.IndexByteString", "internal/abi.NoEscape", "internal/bytealg.IndexString", "internal/bytealg.CountString", "internal/bytealg.MakeNoZero"], unfollowed := true, recurses := true, named := ["internal/bytealg.MaxLen", "unicode/utf8.first", "unicode/utf8.acceptRanges"], apart := false, laid := [("unicode/utf8.acceptRanges", laid_unicode_utf8_acceptRanges), ("unicode/utf8.first", laid_unicode_utf8_first)], narrowed := true }
def StructureNestsUptoSaid : Prop := structureNestsUptoRow.holds Tryz.pinned (OpenSpec.upto structureNestsSpec)

/-- 'letterboxlaw20.StructureKinds', WHERE WHAT IT READS IS OF BULK AT MOST 1048576: true; the input reads as it did. -/
def structureKindsUptoRow : OpenClaim := { program := "ytdoaoaicdimbeaagreatdoor", sum := "01050a326f214af0a06310ff2eec932e3618ea362384f9ea292cabdef9d5d394", func := "letterbox/letterboxlaw20.StructureKinds", spec := "structureKinds", inPlace := ["internal/bytealg.IndexByteString", "internal/abi.NoEscape", "internal/bytealg.IndexString", "internal/bytealg.CountString", "internal/bytealg.MakeNoZero"], unfollowed := true, recurses := true, named := ["internal/bytealg.MaxLen", "unicode/utf8.first", "unicode/utf8.acceptRanges"], apart := false, laid := [("unicode/utf8.acceptRanges", laid_unicode_utf8_acceptRanges), ("unicode/utf8.first", laid_unicode_utf8_first)], narrowed := true }
def StructureKindsUptoSaid : Prop := structureKindsUptoRow.holds Tryz.pinned (OpenSpec.upto structureKindsSpec)

/-- 'letterboxlaw19.EnvelopeTokens', WHERE WHAT IT READS IS OF BULK AT MOST 1048576: true; the input reads as it did. -/
def envelopeTokensUptoRow : OpenClaim := { program := "ytdoaoaicdimbeaagreatdoor", sum := "01050a326f214af0a06310ff2eec932e3618ea362384f9ea292cabdef9d5d394", func := "letterbox/letterboxlaw19.EnvelopeTokens", spec := "envelopeTokens", inPlace := ["internal/bytealg.IndexByteString", "internal/abi.NoEscape", "internal/bytealg.IndexString", "internal/bytealg.CountString", "internal/bytealg.MakeNoZero"], unfollowed := true, recurses := true, named := ["internal/bytealg.MaxLen", "unicode/utf8.first", "unicode/utf8.acceptRanges"], apart := false, laid := [("unicode/utf8.acceptRanges", laid_unicode_utf8_acceptRanges), ("unicode/utf8.first", laid_unicode_utf8_first)], narrowed := true }
def EnvelopeTokensUptoSaid : Prop := envelopeTokensUptoRow.holds Tryz.pinned (OpenSpec.upto envelopeTokensSpec)

/-- 'letterboxlaw20.StructureTokens', WHERE WHAT IT READS IS OF BULK AT MOST 1048576: true; the input reads as it did. -/
def structureTokensUptoRow : OpenClaim := { program := "ytdoaoaicdimbeaagreatdoor", sum := "01050a326f214af0a06310ff2eec932e3618ea362384f9ea292cabdef9d5d394", func := "letterbox/letterboxlaw20.StructureTokens", spec := "structureTokens", inPlace := ["internal/bytealg.IndexByteString", "internal/abi.NoEscape", "internal/bytealg.IndexString", "internal/bytealg.CountString", "internal/bytealg.MakeNoZero"], unfollowed := true, recurses := true, named := ["internal/bytealg.MaxLen", "unicode/utf8.first", "unicode/utf8.acceptRanges"], apart := false, laid := [("unicode/utf8.acceptRanges", laid_unicode_utf8_acceptRanges), ("unicode/utf8.first", laid_unicode_utf8_first)], narrowed := true }
def StructureTokensUptoSaid : Prop := structureTokensUptoRow.holds Tryz.pinned (OpenSpec.upto structureTokensSpec)

end Rows
end Go.Proofs.YtdoaoaicdimbeaaGreatDoor
