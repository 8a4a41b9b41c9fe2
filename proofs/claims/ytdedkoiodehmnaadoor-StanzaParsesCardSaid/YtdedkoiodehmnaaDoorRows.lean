/-
  NARROWER THAN 'FOR EVERY INPUT', by the rows' own cells (each row's printed sentence says how): FoldTexts: laid · FoldKinds: laid · FoldFolds: laid · FoldUnfolds: laid · SheetWrites: laid · SheetReads: laid · StanzaMany: laid · StanzaCuts: laid · PrintApart: laid · StanzaJoins: laid · StanzaParses: laid · StanzaFolds: laid.
  DERIVED. THE GIVEN ROWS OF THIS SEAT. 12 by the template 'for every input the law returns true; each argument reads behind the call as it read before'; 0 by the template 'total and deterministic' (their statements: YtdedkoiodehmnaaDoorTotals.lean).
  GIVEN WITH THE SEED: the statements are not yours to turn. If you find one false, say at which input.
  Laid BY PROGRAM, IN A SANDBOX (cutbox-rows.mjs): the forced cells as the released guide's own fill.sh prints them over the translation 65a46913588fb51a… (all of the seat's roots in one cut). By AI agents, Wed Nov 11 2026. No macro, syntax, notation, axiom, sorry.
-/
import Derived.Test.YtdedkoiodehmnaaDoorChecked
import GoSem.PinnedTables
import GoSem.Claim
import GoSem.ClaimJoined
import GoSem.ClaimMapViews
import Derived.JoinedTies
import Derived.KernelRfl
namespace Go.Proofs.YtdedkoiodehmnaaDoor
/- THE CELL 'sum', in the pinned program and in every row, IS THE sha256 OF THE DUMP (.gsa) THAT YtdedkoiodehmnaaDoorProg.lean LOADS. Nothing in Lean hashes anything: it is a label: what it is worth is what the hold of that sum in a sandbox is worth. -/
noncomputable def Tryd.pinned : Pinned := { name := "ytdedkoiodehmnaadoor", sum := "65a46913588fb51ad2be7a87e245a6fc2dfe3fc8887dc479b2edd1f9682b3c22", checked := Tryd.checked }
namespace Rows
def none {H : Type} : Left H := { results := [], args := [] }

/- WHAT THE LISTED PACKAGE-LEVEL VARIABLES READ AS WHEN THE CALL BEGINS. Each datum BY PROGRAM (the guide's laid-datum.mjs) off the statement by which the dump's own 'gosem.cut.vars' lays the variable. In a bare row this is a premise. The card (YtdedkoiodehmnaaDoorCards.lean) ties it to the program's text. -/
def laid_unicode_utf8_acceptRanges {H : Type} : DataW H := .agg [.agg [.lit (.int .u8 128), .lit (.int .u8 191)], .agg [.lit (.int .u8 160), .lit (.int .u8 191)], .agg [.lit (.int .u8 128), .lit (.int .u8 159)], .agg [.lit (.int .u8 144), .lit (.int .u8 191)], .agg [.lit (.int .u8 128), .lit (.int .u8 143)], .agg [.lit (.int .u8 0), .lit (.int .u8 0)], .agg [.lit (.int .u8 0), .lit (.int .u8 0)], .agg [.lit (.int .u8 0), .lit (.int .u8 0)], .agg [.lit (.int .u8 0), .lit (.int .u8 0)], .agg [.lit (.int .u8 0), .lit (.int .u8 0)], .agg [.lit (.int .u8 0), .lit (.int .u8 0)], .agg [.lit (.int .u8 0), .lit (.int .u8 0)], .agg [.lit (.int .u8 0), .lit (.int .u8 0)], .agg [.lit (.int .u8 0), .lit (.int .u8 0)], .agg [.lit (.int .u8 0), .lit (.int .u8 0)], .agg [.lit (.int .u8 0), .lit (.int .u8 0)]]
/-- One of Go's own tables, pinned by name: the form's constant. -/
def laid_unicode_utf8_first : DataW Unit := Go.Pinned.utf8First

/-- 'stanzakeeplaw04.FoldTexts': WHATEVER THE INPUT: true; the input reads as it did. -/
def foldTextsSpec : ChangeSpec := { name := "foldTexts", fn := fun _ => fun
  | [d] => { results := [.lit (.bool true)], args := [d] }
  | _ => none }
def foldTextsRow : OpenClaim := { program := "ytdedkoiodehmnaadoor", sum := "65a46913588fb51ad2be7a87e245a6fc2dfe3fc8887dc479b2edd1f9682b3c22", func := "stanzakeep/stanzakeeplaw04.FoldTexts", spec := "foldTexts", inPlace := ["internal/bytealg.IndexByteString", "internal/bytealg.IndexString", "internal/bytealg.CountString", "internal/abi.NoEscape"], named := ["internal/bytealg.MaxLen", "unicode/utf8.first", "unicode/utf8.acceptRanges"], apart := false, laid := [("unicode/utf8.acceptRanges", laid_unicode_utf8_acceptRanges), ("unicode/utf8.first", laid_unicode_utf8_first)] }
def FoldTextsSaid : Prop := foldTextsRow.holds Tryd.pinned (OpenSpec.ofChange foldTextsSpec)

/-- ITS FALSE NEIGHBOUR: 'it returns false'. Refute it at one input. -/
def foldTextsWrong : ChangeSpec := { name := "foldTexts", fn := fun _ => fun
  | [d] => { results := [.lit (.bool false)], args := [d] }
  | _ => none }
def FoldTextsWrongFalsely : Prop := foldTextsRow.holds Tryd.pinned (OpenSpec.ofChange foldTextsWrong)

/-- 'stanzakeeplaw04.FoldKinds': WHATEVER THE INPUT: true; the input reads as it did. -/
def foldKindsSpec : ChangeSpec := { name := "foldKinds", fn := fun _ => fun
  | [d] => { results := [.lit (.bool true)], args := [d] }
  | _ => none }
def foldKindsRow : OpenClaim := { program := "ytdedkoiodehmnaadoor", sum := "65a46913588fb51ad2be7a87e245a6fc2dfe3fc8887dc479b2edd1f9682b3c22", func := "stanzakeep/stanzakeeplaw04.FoldKinds", spec := "foldKinds", inPlace := ["internal/bytealg.IndexByteString", "internal/bytealg.IndexString", "internal/bytealg.CountString", "internal/abi.NoEscape"], named := ["internal/bytealg.MaxLen", "unicode/utf8.first", "unicode/utf8.acceptRanges"], apart := false, laid := [("unicode/utf8.acceptRanges", laid_unicode_utf8_acceptRanges), ("unicode/utf8.first", laid_unicode_utf8_first)] }
def FoldKindsSaid : Prop := foldKindsRow.holds Tryd.pinned (OpenSpec.ofChange foldKindsSpec)

/-- ITS FALSE NEIGHBOUR: 'it returns false'. Refute it at one input. -/
def foldKindsWrong : ChangeSpec := { name := "foldKinds", fn := fun _ => fun
  | [d] => { results := [.lit (.bool false)], args := [d] }
  | _ => none }
def FoldKindsWrongFalsely : Prop := foldKindsRow.holds Tryd.pinned (OpenSpec.ofChange foldKindsWrong)

/-- 'stanzakeeplaw04.FoldFolds': WHATEVER THE INPUT: true; the input reads as it did. -/
def foldFoldsSpec : ChangeSpec := { name := "foldFolds", fn := fun _ => fun
  | [d] => { results := [.lit (.bool true)], args := [d] }
  | _ => none }
def foldFoldsRow : OpenClaim := { program := "ytdedkoiodehmnaadoor", sum := "65a46913588fb51ad2be7a87e245a6fc2dfe3fc8887dc479b2edd1f9682b3c22", func := "stanzakeep/stanzakeeplaw04.FoldFolds", spec := "foldFolds", inPlace := ["internal/bytealg.IndexByteString", "internal/bytealg.IndexString", "internal/bytealg.CountString", "internal/abi.NoEscape", "internal/bytealg.MakeNoZero"], named := ["internal/bytealg.MaxLen", "unicode/utf8.first", "unicode/utf8.acceptRanges"], apart := false, laid := [("unicode/utf8.acceptRanges", laid_unicode_utf8_acceptRanges), ("unicode/utf8.first", laid_unicode_utf8_first)] }
def FoldFoldsSaid : Prop := foldFoldsRow.holds Tryd.pinned (OpenSpec.ofChange foldFoldsSpec)

/-- ITS FALSE NEIGHBOUR: 'it returns false'. Refute it at one input. -/
def foldFoldsWrong : ChangeSpec := { name := "foldFolds", fn := fun _ => fun
  | [d] => { results := [.lit (.bool false)], args := [d] }
  | _ => none }
def FoldFoldsWrongFalsely : Prop := foldFoldsRow.holds Tryd.pinned (OpenSpec.ofChange foldFoldsWrong)

/-- 'stanzakeeplaw04.FoldUnfolds': WHATEVER THE INPUT: true; the input reads as it did. -/
def foldUnfoldsSpec : ChangeSpec := { name := "foldUnfolds", fn := fun _ => fun
  | [d] => { results := [.lit (.bool true)], args := [d] }
  | _ => none }
def foldUnfoldsRow : OpenClaim := { program := "ytdedkoiodehmnaadoor", sum := "65a46913588fb51ad2be7a87e245a6fc2dfe3fc8887dc479b2edd1f9682b3c22", func := "stanzakeep/stanzakeeplaw04.FoldUnfolds", spec := "foldUnfolds", inPlace := ["internal/bytealg.IndexByteString", "internal/bytealg.IndexString", "internal/bytealg.CountString", "internal/abi.NoEscape", "internal/bytealg.MakeNoZero"], named := ["internal/bytealg.MaxLen", "unicode/utf8.first", "unicode/utf8.acceptRanges"], apart := false, laid := [("unicode/utf8.acceptRanges", laid_unicode_utf8_acceptRanges), ("unicode/utf8.first", laid_unicode_utf8_first)] }
def FoldUnfoldsSaid : Prop := foldUnfoldsRow.holds Tryd.pinned (OpenSpec.ofChange foldUnfoldsSpec)

/-- ITS FALSE NEIGHBOUR: 'it returns false'. Refute it at one input. -/
def foldUnfoldsWrong : ChangeSpec := { name := "foldUnfolds", fn := fun _ => fun
  | [d] => { results := [.lit (.bool false)], args := [d] }
  | _ => none }
def FoldUnfoldsWrongFalsely : Prop := foldUnfoldsRow.holds Tryd.pinned (OpenSpec.ofChange foldUnfoldsWrong)

/-- 'stanzakeeplaw28.SheetWrites': WHATEVER THE INPUT: true; the input reads as it did. -/
def sheetWritesSpec : ChangeSpec := { name := "sheetWrites", fn := fun _ => fun
  | [d] => { results := [.lit (.bool true)], args := [d] }
  | _ => none }
def sheetWritesRow : OpenClaim := { program := "ytdedkoiodehmnaadoor", sum := "65a46913588fb51ad2be7a87e245a6fc2dfe3fc8887dc479b2edd1f9682b3c22", func := "stanzakeep/stanzakeeplaw28.SheetWrites", spec := "sheetWrites", inPlace := ["internal/bytealg.IndexByteString", "internal/bytealg.IndexString", "internal/bytealg.CountString", "internal/abi.NoEscape", "internal/bytealg.MakeNoZero"], unfollowed := true, recurses := true, named := ["internal/bytealg.MaxLen", "unicode/utf8.first", "unicode/utf8.acceptRanges"], apart := false, laid := [("unicode/utf8.acceptRanges", laid_unicode_utf8_acceptRanges), ("unicode/utf8.first", laid_unicode_utf8_first)] }
def SheetWritesSaid : Prop := sheetWritesRow.holds Tryd.pinned (OpenSpec.ofChange sheetWritesSpec)

/-- ITS FALSE NEIGHBOUR: 'it returns false'. Refute it at one input. -/
def sheetWritesWrong : ChangeSpec := { name := "sheetWrites", fn := fun _ => fun
  | [d] => { results := [.lit (.bool false)], args := [d] }
  | _ => none }
def SheetWritesWrongFalsely : Prop := sheetWritesRow.holds Tryd.pinned (OpenSpec.ofChange sheetWritesWrong)

/-- 'stanzakeeplaw28.SheetReads': WHATEVER THE INPUT: true; the input reads as it did. -/
def sheetReadsSpec : ChangeSpec := { name := "sheetReads", fn := fun _ => fun
  | [d] => { results := [.lit (.bool true)], args := [d] }
  | _ => none }
def sheetReadsRow : OpenClaim := { program := "ytdedkoiodehmnaadoor", sum := "65a46913588fb51ad2be7a87e245a6fc2dfe3fc8887dc479b2edd1f9682b3c22", func := "stanzakeep/stanzakeeplaw28.SheetReads", spec := "sheetReads", inPlace := ["internal/bytealg.IndexByteString", "internal/bytealg.IndexString", "internal/bytealg.CountString", "internal/abi.NoEscape", "internal/bytealg.MakeNoZero"], unfollowed := true, recurses := true, named := ["internal/bytealg.MaxLen", "unicode/utf8.first", "unicode/utf8.acceptRanges"], apart := false, laid := [("unicode/utf8.acceptRanges", laid_unicode_utf8_acceptRanges), ("unicode/utf8.first", laid_unicode_utf8_first)] }
def SheetReadsSaid : Prop := sheetReadsRow.holds Tryd.pinned (OpenSpec.ofChange sheetReadsSpec)

/-- ITS FALSE NEIGHBOUR: 'it returns false'. Refute it at one input. -/
def sheetReadsWrong : ChangeSpec := { name := "sheetReads", fn := fun _ => fun
  | [d] => { results := [.lit (.bool false)], args := [d] }
  | _ => none }
def SheetReadsWrongFalsely : Prop := sheetReadsRow.holds Tryd.pinned (OpenSpec.ofChange sheetReadsWrong)

/-- 'stanzakeeplaw05.StanzaMany': WHATEVER THE INPUT: true; the input reads as it did. -/
def stanzaManySpec : ChangeSpec := { name := "stanzaMany", fn := fun _ => fun
  | [d1, d2] => { results := [.lit (.bool true)], args := [d1, d2] }
  | _ => none }
def stanzaManyRow : OpenClaim := { program := "ytdedkoiodehmnaadoor", sum := "65a46913588fb51ad2be7a87e245a6fc2dfe3fc8887dc479b2edd1f9682b3c22", func := "stanzakeep/stanzakeeplaw05.StanzaMany", spec := "stanzaMany", inPlace := ["internal/bytealg.IndexByteString", "internal/bytealg.IndexString", "internal/abi.NoEscape", "internal/bytealg.MakeNoZero"], unfollowed := true, recurses := true, named := ["internal/bytealg.MaxLen", "unicode/utf8.first", "unicode/utf8.acceptRanges"], apart := false, laid := [("unicode/utf8.acceptRanges", laid_unicode_utf8_acceptRanges), ("unicode/utf8.first", laid_unicode_utf8_first)] }
def StanzaManySaid : Prop := stanzaManyRow.holds Tryd.pinned (OpenSpec.ofChange stanzaManySpec)

/-- ITS FALSE NEIGHBOUR: 'it returns false'. Refute it at one input. -/
def stanzaManyWrong : ChangeSpec := { name := "stanzaMany", fn := fun _ => fun
  | [d1, d2] => { results := [.lit (.bool false)], args := [d1, d2] }
  | _ => none }
def StanzaManyWrongFalsely : Prop := stanzaManyRow.holds Tryd.pinned (OpenSpec.ofChange stanzaManyWrong)

/-- 'stanzakeeplaw05.StanzaCuts': WHATEVER THE INPUT: true; the input reads as it did. -/
def stanzaCutsSpec : ChangeSpec := { name := "stanzaCuts", fn := fun _ => fun
  | [d] => { results := [.lit (.bool true)], args := [d] }
  | _ => none }
def stanzaCutsRow : OpenClaim := { program := "ytdedkoiodehmnaadoor", sum := "65a46913588fb51ad2be7a87e245a6fc2dfe3fc8887dc479b2edd1f9682b3c22", func := "stanzakeep/stanzakeeplaw05.StanzaCuts", spec := "stanzaCuts", inPlace := ["internal/bytealg.IndexByteString", "internal/bytealg.IndexString", "internal/abi.NoEscape", "internal/bytealg.MakeNoZero"], unfollowed := true, recurses := true, named := ["internal/bytealg.MaxLen", "unicode/utf8.first", "unicode/utf8.acceptRanges"], apart := false, laid := [("unicode/utf8.acceptRanges", laid_unicode_utf8_acceptRanges), ("unicode/utf8.first", laid_unicode_utf8_first)] }
def StanzaCutsSaid : Prop := stanzaCutsRow.holds Tryd.pinned (OpenSpec.ofChange stanzaCutsSpec)

/-- ITS FALSE NEIGHBOUR: 'it returns false'. Refute it at one input. -/
def stanzaCutsWrong : ChangeSpec := { name := "stanzaCuts", fn := fun _ => fun
  | [d] => { results := [.lit (.bool false)], args := [d] }
  | _ => none }
def StanzaCutsWrongFalsely : Prop := stanzaCutsRow.holds Tryd.pinned (OpenSpec.ofChange stanzaCutsWrong)

/-- 'stanzakeeplaw06.PrintApart': WHATEVER THE INPUT: true; the input reads as it did. -/
def printApartSpec : ChangeSpec := { name := "printApart", fn := fun _ => fun
  | [d] => { results := [.lit (.bool true)], args := [d] }
  | _ => none }
def printApartRow : OpenClaim := { program := "ytdedkoiodehmnaadoor", sum := "65a46913588fb51ad2be7a87e245a6fc2dfe3fc8887dc479b2edd1f9682b3c22", func := "stanzakeep/stanzakeeplaw06.PrintApart", spec := "printApart", inPlace := ["internal/bytealg.IndexByteString", "internal/bytealg.IndexString", "internal/bytealg.CountString", "internal/abi.NoEscape", "internal/bytealg.MakeNoZero"], named := ["internal/bytealg.MaxLen", "unicode/utf8.first", "unicode/utf8.acceptRanges"], apart := false, laid := [("unicode/utf8.acceptRanges", laid_unicode_utf8_acceptRanges), ("unicode/utf8.first", laid_unicode_utf8_first)] }
def PrintApartSaid : Prop := printApartRow.holds Tryd.pinned (OpenSpec.ofChange printApartSpec)

/-- ITS FALSE NEIGHBOUR: 'it returns false'. Refute it at one input. -/
def printApartWrong : ChangeSpec := { name := "printApart", fn := fun _ => fun
  | [d] => { results := [.lit (.bool false)], args := [d] }
  | _ => none }
def PrintApartWrongFalsely : Prop := printApartRow.holds Tryd.pinned (OpenSpec.ofChange printApartWrong)

/-- 'stanzakeeplaw05.StanzaJoins': WHATEVER THE INPUT: true; the input reads as it did. -/
def stanzaJoinsSpec : ChangeSpec := { name := "stanzaJoins", fn := fun _ => fun
  | [d] => { results := [.lit (.bool true)], args := [d] }
  | _ => none }
def stanzaJoinsRow : OpenClaim := { program := "ytdedkoiodehmnaadoor", sum := "65a46913588fb51ad2be7a87e245a6fc2dfe3fc8887dc479b2edd1f9682b3c22", func := "stanzakeep/stanzakeeplaw05.StanzaJoins", spec := "stanzaJoins", inPlace := ["internal/bytealg.IndexByteString", "internal/bytealg.IndexString", "internal/abi.NoEscape", "internal/bytealg.MakeNoZero"], unfollowed := true, recurses := true, named := ["internal/bytealg.MaxLen", "unicode/utf8.first", "unicode/utf8.acceptRanges"], apart := false, laid := [("unicode/utf8.acceptRanges", laid_unicode_utf8_acceptRanges), ("unicode/utf8.first", laid_unicode_utf8_first)] }
def StanzaJoinsSaid : Prop := stanzaJoinsRow.holds Tryd.pinned (OpenSpec.ofChange stanzaJoinsSpec)

/-- ITS FALSE NEIGHBOUR: 'it returns false'. Refute it at one input. -/
def stanzaJoinsWrong : ChangeSpec := { name := "stanzaJoins", fn := fun _ => fun
  | [d] => { results := [.lit (.bool false)], args := [d] }
  | _ => none }
def StanzaJoinsWrongFalsely : Prop := stanzaJoinsRow.holds Tryd.pinned (OpenSpec.ofChange stanzaJoinsWrong)

/-- 'stanzakeeplaw05.StanzaParses': WHATEVER THE INPUT: true; the input reads as it did. -/
def stanzaParsesSpec : ChangeSpec := { name := "stanzaParses", fn := fun _ => fun
  | [d] => { results := [.lit (.bool true)], args := [d] }
  | _ => none }
def stanzaParsesRow : OpenClaim := { program := "ytdedkoiodehmnaadoor", sum := "65a46913588fb51ad2be7a87e245a6fc2dfe3fc8887dc479b2edd1f9682b3c22", func := "stanzakeep/stanzakeeplaw05.StanzaParses", spec := "stanzaParses", inPlace := ["internal/bytealg.IndexByteString", "internal/bytealg.IndexString", "internal/abi.NoEscape", "internal/bytealg.MakeNoZero"], unfollowed := true, recurses := true, named := ["internal/bytealg.MaxLen", "unicode/utf8.first", "unicode/utf8.acceptRanges"], apart := false, laid := [("unicode/utf8.acceptRanges", laid_unicode_utf8_acceptRanges), ("unicode/utf8.first", laid_unicode_utf8_first)] }
def StanzaParsesSaid : Prop := stanzaParsesRow.holds Tryd.pinned (OpenSpec.ofChange stanzaParsesSpec)

/-- ITS FALSE NEIGHBOUR: 'it returns false'. Refute it at one input. -/
def stanzaParsesWrong : ChangeSpec := { name := "stanzaParses", fn := fun _ => fun
  | [d] => { results := [.lit (.bool false)], args := [d] }
  | _ => none }
def StanzaParsesWrongFalsely : Prop := stanzaParsesRow.holds Tryd.pinned (OpenSpec.ofChange stanzaParsesWrong)

/-- 'stanzakeeplaw05.StanzaFolds': WHATEVER THE INPUT: true; the input reads as it did. -/
def stanzaFoldsSpec : ChangeSpec := { name := "stanzaFolds", fn := fun _ => fun
  | [d1, d2, d3] => { results := [.lit (.bool true)], args := [d1, d2, d3] }
  | _ => none }
def stanzaFoldsRow : OpenClaim := { program := "ytdedkoiodehmnaadoor", sum := "65a46913588fb51ad2be7a87e245a6fc2dfe3fc8887dc479b2edd1f9682b3c22", func := "stanzakeep/stanzakeeplaw05.StanzaFolds", spec := "stanzaFolds", inPlace := ["internal/bytealg.IndexByteString", "internal/bytealg.IndexString", "internal/abi.NoEscape", "internal/bytealg.MakeNoZero", "internal/bytealg.CountString"], unfollowed := true, recurses := true, named := ["internal/bytealg.MaxLen", "unicode/utf8.first", "unicode/utf8.acceptRanges"], apart := false, laid := [("unicode/utf8.acceptRanges", laid_unicode_utf8_acceptRanges), ("unicode/utf8.first", laid_unicode_utf8_first)] }
def StanzaFoldsSaid : Prop := stanzaFoldsRow.holds Tryd.pinned (OpenSpec.ofChange stanzaFoldsSpec)

/-- ITS FALSE NEIGHBOUR: 'it returns false'. Refute it at one input. -/
def stanzaFoldsWrong : ChangeSpec := { name := "stanzaFolds", fn := fun _ => fun
  | [d1, d2, d3] => { results := [.lit (.bool false)], args := [d1, d2, d3] }
  | _ => none }
def StanzaFoldsWrongFalsely : Prop := stanzaFoldsRow.holds Tryd.pinned (OpenSpec.ofChange stanzaFoldsWrong)

/- THE SECOND FORM. 'bulk': how many values and letters a reading holds, each counted each time it is reached (what is shared counts as often as it is met; a slice's spare places count too). A statement '..UptoSaid' is the law's where the arguments, and the package variables that the reading takes, are together of bulk at most 1048576: NARROWER than '..Said'. Prove '..Said' where nothing that the law and all that it calls make is longer than what came in: it says more and counts as full. Else prove '..UptoSaid'. A law counts once. -/
mutual
def uptoBulk {H : Type} : DataW H → Nat
  | .lit (.string bytes) => bytes.length + 1
  | .lit _ => 1
  | .nil => 1
  | .ptr d => uptoBulk d + 1
  | .slice elems spare => uptoBulkAll elems + uptoBulkAll spare + 1
  | .agg parts => uptoBulkAll parts + 1
  | .iface _ d => uptoBulk d + 1
  | .map entries => uptoBulkEntries entries + 1
  | .held _ => 1
def uptoBulkAll {H : Type} : List (DataW H) → Nat
  | [] => 0
  | d :: r => uptoBulk d + uptoBulkAll r
def uptoBulkEntries {H : Type} : List (Lit × DataW H) → Nat
  | [] => 0
  | x :: r => uptoBulkEntry x + uptoBulkEntries r
def uptoBulkEntry {H : Type} : Lit × DataW H → Nat
  | (.string bytes, d) => bytes.length + uptoBulk d + 1
  | (_, d) => uptoBulk d + 1
 end
def uptoSmall : (H : Type) → List (DataW H) → Bool := fun _ ds => decide (uptoBulkAll ds ≤ 1048576)
def OpenSpec.upto (s : _root_.Go.ChangeSpec) : _root_.Go.OpenSpec := { _root_.Go.OpenSpec.ofChange s with cond := some uptoSmall }

/-- 'stanzakeeplaw04.FoldTexts', WHERE WHAT IT READS IS OF BULK AT MOST 1048576: true; the input reads as it did. -/
def foldTextsUptoRow : OpenClaim := { program := "ytdedkoiodehmnaadoor", sum := "65a46913588fb51ad2be7a87e245a6fc2dfe3fc8887dc479b2edd1f9682b3c22", func := "stanzakeep/stanzakeeplaw04.FoldTexts", spec := "foldTexts", inPlace := ["internal/bytealg.IndexByteString", "internal/bytealg.IndexString", "internal/bytealg.CountString", "internal/abi.NoEscape"], named := ["internal/bytealg.MaxLen", "unicode/utf8.first", "unicode/utf8.acceptRanges"], apart := false, laid := [("unicode/utf8.acceptRanges", laid_unicode_utf8_acceptRanges), ("unicode/utf8.first", laid_unicode_utf8_first)], narrowed := true }
def FoldTextsUptoSaid : Prop := foldTextsUptoRow.holds Tryd.pinned (OpenSpec.upto foldTextsSpec)

/-- 'stanzakeeplaw04.FoldKinds', WHERE WHAT IT READS IS OF BULK AT MOST 1048576: true; the input reads as it did. -/
def foldKindsUptoRow : OpenClaim := { program := "ytdedkoiodehmnaadoor", sum := "65a46913588fb51ad2be7a87e245a6fc2dfe3fc8887dc479b2edd1f9682b3c22", func := "stanzakeep/stanzakeeplaw04.FoldKinds", spec := "foldKinds", inPlace := ["internal/bytealg.IndexByteString", "internal/bytealg.IndexString", "internal/bytealg.CountString", "internal/abi.NoEscape"], named := ["internal/bytealg.MaxLen", "unicode/utf8.first", "unicode/utf8.acceptRanges"], apart := false, laid := [("unicode/utf8.acceptRanges", laid_unicode_utf8_acceptRanges), ("unicode/utf8.first", laid_unicode_utf8_first)], narrowed := true }
def FoldKindsUptoSaid : Prop := foldKindsUptoRow.holds Tryd.pinned (OpenSpec.upto foldKindsSpec)

/-- 'stanzakeeplaw04.FoldFolds', WHERE WHAT IT READS IS OF BULK AT MOST 1048576: true; the input reads as it did. -/
def foldFoldsUptoRow : OpenClaim := { program := "ytdedkoiodehmnaadoor", sum := "65a46913588fb51ad2be7a87e245a6fc2dfe3fc8887dc479b2edd1f9682b3c22", func := "stanzakeep/stanzakeeplaw04.FoldFolds", spec := "foldFolds", inPlace := ["internal/bytealg.IndexByteString", "internal/bytealg.IndexString", "internal/bytealg.CountString", "internal/abi.NoEscape", "internal/bytealg.MakeNoZero"], named := ["internal/bytealg.MaxLen", "unicode/utf8.first", "unicode/utf8.acceptRanges"], apart := false, laid := [("unicode/utf8.acceptRanges", laid_unicode_utf8_acceptRanges), ("unicode/utf8.first", laid_unicode_utf8_first)], narrowed := true }
def FoldFoldsUptoSaid : Prop := foldFoldsUptoRow.holds Tryd.pinned (OpenSpec.upto foldFoldsSpec)

/-- 'stanzakeeplaw04.FoldUnfolds', WHERE WHAT IT READS IS OF BULK AT MOST 1048576: true; the input reads as it did. -/
def foldUnfoldsUptoRow : OpenClaim := { program := "ytdedkoiodehmnaadoor", sum := "65a46913588fb51ad2be7a87e245a6fc2dfe3fc8887dc479b2edd1f9682b3c22", func := "stanzakeep/stanzakeeplaw04.FoldUnfolds", spec := "foldUnfolds", inPlace := ["internal/bytealg.IndexByteString", "internal/bytealg.IndexString", "internal/bytealg.CountString", "internal/abi.NoEscape", "internal/bytealg.MakeNoZero"], named := ["internal/bytealg.MaxLen", "unicode/utf8.first", "unicode/utf8.acceptRanges"], apart := false, laid := [("unicode/utf8.acceptRanges", laid_unicode_utf8_acceptRanges), ("unicode/utf8.first", laid_unicode_utf8_first)], narrowed := true }
def FoldUnfoldsUptoSaid : Prop := foldUnfoldsUptoRow.holds Tryd.pinned (OpenSpec.upto foldUnfoldsSpec)

/-- 'stanzakeeplaw28.SheetWrites', WHERE WHAT IT READS IS OF BULK AT MOST 1048576: true; the input reads as it did. -/
def sheetWritesUptoRow : OpenClaim := { program := "ytdedkoiodehmnaadoor", sum := "65a46913588fb51ad2be7a87e245a6fc2dfe3fc8887dc479b2edd1f9682b3c22", func := "stanzakeep/stanzakeeplaw28.SheetWrites", spec := "sheetWrites", inPlace := ["internal/bytealg.IndexByteString", "internal/bytealg.IndexString", "internal/bytealg.CountString", "internal/abi.NoEscape", "internal/bytealg.MakeNoZero"], unfollowed := true, recurses := true, named := ["internal/bytealg.MaxLen", "unicode/utf8.first", "unicode/utf8.acceptRanges"], apart := false, laid := [("unicode/utf8.acceptRanges", laid_unicode_utf8_acceptRanges), ("unicode/utf8.first", laid_unicode_utf8_first)], narrowed := true }
def SheetWritesUptoSaid : Prop := sheetWritesUptoRow.holds Tryd.pinned (OpenSpec.upto sheetWritesSpec)

/-- 'stanzakeeplaw28.SheetReads', WHERE WHAT IT READS IS OF BULK AT MOST 1048576: true; the input reads as it did. -/
def sheetReadsUptoRow : OpenClaim := { program := "ytdedkoiodehmnaadoor", sum := "65a46913588fb51ad2be7a87e245a6fc2dfe3fc8887dc479b2edd1f9682b3c22", func := "stanzakeep/stanzakeeplaw28.SheetReads", spec := "sheetReads", inPlace := ["internal/bytealg.IndexByteString", "internal/bytealg.IndexString", "internal/bytealg.CountString", "internal/abi.NoEscape", "internal/bytealg.MakeNoZero"], unfollowed := true, recurses := true, named := ["internal/bytealg.MaxLen", "unicode/utf8.first", "unicode/utf8.acceptRanges"], apart := false, laid := [("unicode/utf8.acceptRanges", laid_unicode_utf8_acceptRanges), ("unicode/utf8.first", laid_unicode_utf8_first)], narrowed := true }
def SheetReadsUptoSaid : Prop := sheetReadsUptoRow.holds Tryd.pinned (OpenSpec.upto sheetReadsSpec)

/-- 'stanzakeeplaw05.StanzaMany', WHERE WHAT IT READS IS OF BULK AT MOST 1048576: true; the input reads as it did. -/
def stanzaManyUptoRow : OpenClaim := { program := "ytdedkoiodehmnaadoor", sum := "65a46913588fb51ad2be7a87e245a6fc2dfe3fc8887dc479b2edd1f9682b3c22", func := "stanzakeep/stanzakeeplaw05.StanzaMany", spec := "stanzaMany", inPlace := ["internal/bytealg.IndexByteString", "internal/bytealg.IndexString", "internal/abi.NoEscape", "internal/bytealg.MakeNoZero"], unfollowed := true, recurses := true, named := ["internal/bytealg.MaxLen", "unicode/utf8.first", "unicode/utf8.acceptRanges"], apart := false, laid := [("unicode/utf8.acceptRanges", laid_unicode_utf8_acceptRanges), ("unicode/utf8.first", laid_unicode_utf8_first)], narrowed := true }
def StanzaManyUptoSaid : Prop := stanzaManyUptoRow.holds Tryd.pinned (OpenSpec.upto stanzaManySpec)

/-- 'stanzakeeplaw05.StanzaCuts', WHERE WHAT IT READS IS OF BULK AT MOST 1048576: true; the input reads as it did. -/
def stanzaCutsUptoRow : OpenClaim := { program := "ytdedkoiodehmnaadoor", sum := "65a46913588fb51ad2be7a87e245a6fc2dfe3fc8887dc479b2edd1f9682b3c22", func := "stanzakeep/stanzakeeplaw05.StanzaCuts", spec := "stanzaCuts", inPlace := ["internal/bytealg.IndexByteString", "internal/bytealg.IndexString", "internal/abi.NoEscape", "internal/bytealg.MakeNoZero"], unfollowed := true, recurses := true, named := ["internal/bytealg.MaxLen", "unicode/utf8.first", "unicode/utf8.acceptRanges"], apart := false, laid := [("unicode/utf8.acceptRanges", laid_unicode_utf8_acceptRanges), ("unicode/utf8.first", laid_unicode_utf8_first)], narrowed := true }
def StanzaCutsUptoSaid : Prop := stanzaCutsUptoRow.holds Tryd.pinned (OpenSpec.upto stanzaCutsSpec)

/-- 'stanzakeeplaw06.PrintApart', WHERE WHAT IT READS IS OF BULK AT MOST 1048576: true; the input reads as it did. -/
def printApartUptoRow : OpenClaim := { program := "ytdedkoiodehmnaadoor", sum := "65a46913588fb51ad2be7a87e245a6fc2dfe3fc8887dc479b2edd1f9682b3c22", func := "stanzakeep/stanzakeeplaw06.PrintApart", spec := "printApart", inPlace := ["internal/bytealg.IndexByteString", "internal/bytealg.IndexString", "internal/bytealg.CountString", "internal/abi.NoEscape", "internal/bytealg.MakeNoZero"], named := ["internal/bytealg.MaxLen", "unicode/utf8.first", "unicode/utf8.acceptRanges"], apart := false, laid := [("unicode/utf8.acceptRanges", laid_unicode_utf8_acceptRanges), ("unicode/utf8.first", laid_unicode_utf8_first)], narrowed := true }
def PrintApartUptoSaid : Prop := printApartUptoRow.holds Tryd.pinned (OpenSpec.upto printApartSpec)

/-- 'stanzakeeplaw05.StanzaJoins', WHERE WHAT IT READS IS OF BULK AT MOST 1048576: true; the input reads as it did. -/
def stanzaJoinsUptoRow : OpenClaim := { program := "ytdedkoiodehmnaadoor", sum := "65a46913588fb51ad2be7a87e245a6fc2dfe3fc8887dc479b2edd1f9682b3c22", func := "stanzakeep/stanzakeeplaw05.StanzaJoins", spec := "stanzaJoins", inPlace := ["internal/bytealg.IndexByteString", "internal/bytealg.IndexString", "internal/abi.NoEscape", "internal/bytealg.MakeNoZero"], unfollowed := true, recurses := true, named := ["internal/bytealg.MaxLen", "unicode/utf8.first", "unicode/utf8.acceptRanges"], apart := false, laid := [("unicode/utf8.acceptRanges", laid_unicode_utf8_acceptRanges), ("unicode/utf8.first", laid_unicode_utf8_first)], narrowed := true }
def StanzaJoinsUptoSaid : Prop := stanzaJoinsUptoRow.holds Tryd.pinned (OpenSpec.upto stanzaJoinsSpec)

/-- 'stanzakeeplaw05.StanzaParses', WHERE WHAT IT READS IS OF BULK AT MOST 1048576: true; the input reads as it did. -/
def stanzaParsesUptoRow : OpenClaim := { program := "ytdedkoiodehmnaadoor", sum := "65a46913588fb51ad2be7a87e245a6fc2dfe3fc8887dc479b2edd1f9682b3c22", func := "stanzakeep/stanzakeeplaw05.StanzaParses", spec := "stanzaParses", inPlace := ["internal/bytealg.IndexByteString", "internal/bytealg.IndexString", "internal/abi.NoEscape", "internal/bytealg.MakeNoZero"], unfollowed := true, recurses := true, named := ["internal/bytealg.MaxLen", "unicode/utf8.first", "unicode/utf8.acceptRanges"], apart := false, laid := [("unicode/utf8.acceptRanges", laid_unicode_utf8_acceptRanges), ("unicode/utf8.first", laid_unicode_utf8_first)], narrowed := true }
def StanzaParsesUptoSaid : Prop := stanzaParsesUptoRow.holds Tryd.pinned (OpenSpec.upto stanzaParsesSpec)

/-- 'stanzakeeplaw05.StanzaFolds', WHERE WHAT IT READS IS OF BULK AT MOST 1048576: true; the input reads as it did. -/
def stanzaFoldsUptoRow : OpenClaim := { program := "ytdedkoiodehmnaadoor", sum := "65a46913588fb51ad2be7a87e245a6fc2dfe3fc8887dc479b2edd1f9682b3c22", func := "stanzakeep/stanzakeeplaw05.StanzaFolds", spec := "stanzaFolds", inPlace := ["internal/bytealg.IndexByteString", "internal/bytealg.IndexString", "internal/abi.NoEscape", "internal/bytealg.MakeNoZero", "internal/bytealg.CountString"], unfollowed := true, recurses := true, named := ["internal/bytealg.MaxLen", "unicode/utf8.first", "unicode/utf8.acceptRanges"], apart := false, laid := [("unicode/utf8.acceptRanges", laid_unicode_utf8_acceptRanges), ("unicode/utf8.first", laid_unicode_utf8_first)], narrowed := true }
def StanzaFoldsUptoSaid : Prop := stanzaFoldsUptoRow.holds Tryd.pinned (OpenSpec.upto stanzaFoldsSpec)

end Rows
end Go.Proofs.YtdedkoiodehmnaaDoor
