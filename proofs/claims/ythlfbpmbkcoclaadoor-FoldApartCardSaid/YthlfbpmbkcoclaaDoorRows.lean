/-
  NARROWER THAN 'FOR EVERY INPUT', by the rows' own cells (each row's printed sentence says how): QueryPrints: laid · QueryParses: laid · QueryMatches: laid · QueryRows: laid · FoldTexts: laid · FoldApart: laid · FoldKinds: laid · FoldFolds: laid · FoldUnfolds: laid · SheetWrites: laid · SheetReads: laid · StanzaMany: laid.
  DERIVED. THE GIVEN ROWS OF THIS SEAT. 12 by the template 'for every input the law returns true; each argument reads behind the call as it read before'; 0 by the template 'total and deterministic' (their statements: YthlfbpmbkcoclaaDoorTotals.lean).
  GIVEN WITH THE SEED: the statements are not yours to turn. If you find one false, say at which input.
  Laid BY PROGRAM, IN A SANDBOX (cutbox-rows.mjs): the forced cells as the released guide's own fill.sh prints them over the translation c17adf8bb7c352e4… (all of the seat's roots in one cut). By AI agents, Wed Nov 11 2026. No macro, syntax, notation, axiom, sorry.
-/
import Derived.Test.YthlfbpmbkcoclaaDoorChecked
import GoSem.PinnedTables
import GoSem.Claim
import GoSem.ClaimJoined
import GoSem.ClaimMapViews
import Derived.JoinedTies
import Derived.KernelRfl
namespace Go.Proofs.YthlfbpmbkcoclaaDoor
/- THE CELL 'sum', in the pinned program and in every row, IS THE sha256 OF THE DUMP (.gsa) THAT YthlfbpmbkcoclaaDoorProg.lean LOADS. Nothing in Lean hashes anything: it is a label: what it is worth is what the hold of that sum in a sandbox is worth. -/
noncomputable def Tryd.pinned : Pinned := { name := "ythlfbpmbkcoclaadoor", sum := "c17adf8bb7c352e43c06ddfc2bd138d809b006803f383dbb0e21c53e6bb0e523", checked := Tryd.checked }
namespace Rows
def none {H : Type} : Left H := { results := [], args := [] }

/- WHAT THE LISTED PACKAGE-LEVEL VARIABLES READ AS WHEN THE CALL BEGINS. Each datum BY PROGRAM (the guide's laid-datum.mjs) off the statement by which the dump's own 'gosem.cut.vars' lays the variable. In a bare row this is a premise. The card (YthlfbpmbkcoclaaDoorCards.lean) ties it to the program's text. -/
def laid_unicode_utf8_acceptRanges {H : Type} : DataW H := .agg [.agg [.lit (.int .u8 128), .lit (.int .u8 191)], .agg [.lit (.int .u8 160), .lit (.int .u8 191)], .agg [.lit (.int .u8 128), .lit (.int .u8 159)], .agg [.lit (.int .u8 144), .lit (.int .u8 191)], .agg [.lit (.int .u8 128), .lit (.int .u8 143)], .agg [.lit (.int .u8 0), .lit (.int .u8 0)], .agg [.lit (.int .u8 0), .lit (.int .u8 0)], .agg [.lit (.int .u8 0), .lit (.int .u8 0)], .agg [.lit (.int .u8 0), .lit (.int .u8 0)], .agg [.lit (.int .u8 0), .lit (.int .u8 0)], .agg [.lit (.int .u8 0), .lit (.int .u8 0)], .agg [.lit (.int .u8 0), .lit (.int .u8 0)], .agg [.lit (.int .u8 0), .lit (.int .u8 0)], .agg [.lit (.int .u8 0), .lit (.int .u8 0)], .agg [.lit (.int .u8 0), .lit (.int .u8 0)], .agg [.lit (.int .u8 0), .lit (.int .u8 0)]]
/-- One of Go's own tables, pinned by name: the form's constant. -/
def laid_unicode_utf8_first : DataW Unit := Go.Pinned.utf8First

/-- 'stanzakeeplaw18.QueryPrints': WHATEVER THE INPUT: true; the input reads as it did. -/
def queryPrintsSpec : ChangeSpec := { name := "queryPrints", fn := fun _ => fun
  | [d] => { results := [.lit (.bool true)], args := [d] }
  | _ => none }
def queryPrintsRow : OpenClaim := { program := "ythlfbpmbkcoclaadoor", sum := "c17adf8bb7c352e43c06ddfc2bd138d809b006803f383dbb0e21c53e6bb0e523", func := "stanzakeep/stanzakeeplaw18.QueryPrints", spec := "queryPrints", inPlace := ["internal/bytealg.CountString", "internal/bytealg.IndexByteString", "internal/bytealg.IndexString", "internal/abi.NoEscape", "internal/bytealg.MakeNoZero"], unfollowed := true, recurses := true, named := ["unicode/utf8.first", "unicode/utf8.acceptRanges", "internal/bytealg.MaxLen"], apart := false, laid := [("unicode/utf8.acceptRanges", laid_unicode_utf8_acceptRanges), ("unicode/utf8.first", laid_unicode_utf8_first)] }
def QueryPrintsSaid : Prop := queryPrintsRow.holds Tryd.pinned (OpenSpec.ofChange queryPrintsSpec)

/-- ITS FALSE NEIGHBOUR: 'it returns false'. Refute it at one input. -/
def queryPrintsWrong : ChangeSpec := { name := "queryPrints", fn := fun _ => fun
  | [d] => { results := [.lit (.bool false)], args := [d] }
  | _ => none }
def QueryPrintsWrongFalsely : Prop := queryPrintsRow.holds Tryd.pinned (OpenSpec.ofChange queryPrintsWrong)

/-- 'stanzakeeplaw18.QueryParses': WHATEVER THE INPUT: true; the input reads as it did. -/
def queryParsesSpec : ChangeSpec := { name := "queryParses", fn := fun _ => fun
  | [d] => { results := [.lit (.bool true)], args := [d] }
  | _ => none }
def queryParsesRow : OpenClaim := { program := "ythlfbpmbkcoclaadoor", sum := "c17adf8bb7c352e43c06ddfc2bd138d809b006803f383dbb0e21c53e6bb0e523", func := "stanzakeep/stanzakeeplaw18.QueryParses", spec := "queryParses", inPlace := ["internal/bytealg.CountString", "internal/bytealg.IndexByteString", "internal/bytealg.IndexString", "internal/abi.NoEscape", "internal/bytealg.MakeNoZero"], unfollowed := true, recurses := true, named := ["unicode/utf8.first", "unicode/utf8.acceptRanges", "internal/bytealg.MaxLen"], apart := false, laid := [("unicode/utf8.acceptRanges", laid_unicode_utf8_acceptRanges), ("unicode/utf8.first", laid_unicode_utf8_first)] }
def QueryParsesSaid : Prop := queryParsesRow.holds Tryd.pinned (OpenSpec.ofChange queryParsesSpec)

/-- ITS FALSE NEIGHBOUR: 'it returns false'. Refute it at one input. -/
def queryParsesWrong : ChangeSpec := { name := "queryParses", fn := fun _ => fun
  | [d] => { results := [.lit (.bool false)], args := [d] }
  | _ => none }
def QueryParsesWrongFalsely : Prop := queryParsesRow.holds Tryd.pinned (OpenSpec.ofChange queryParsesWrong)

/-- 'stanzakeeplaw18.QueryMatches': WHATEVER THE INPUT: true; the input reads as it did. -/
def queryMatchesSpec : ChangeSpec := { name := "queryMatches", fn := fun _ => fun
  | [d1, d2] => { results := [.lit (.bool true)], args := [d1, d2] }
  | _ => none }
def queryMatchesRow : OpenClaim := { program := "ythlfbpmbkcoclaadoor", sum := "c17adf8bb7c352e43c06ddfc2bd138d809b006803f383dbb0e21c53e6bb0e523", func := "stanzakeep/stanzakeeplaw18.QueryMatches", spec := "queryMatches", inPlace := ["internal/bytealg.CountString", "internal/bytealg.IndexByteString", "internal/bytealg.IndexString", "internal/abi.NoEscape", "internal/bytealg.MakeNoZero"], unfollowed := true, recurses := true, named := ["unicode/utf8.first", "unicode/utf8.acceptRanges", "internal/bytealg.MaxLen"], apart := false, laid := [("unicode/utf8.acceptRanges", laid_unicode_utf8_acceptRanges), ("unicode/utf8.first", laid_unicode_utf8_first)] }
def QueryMatchesSaid : Prop := queryMatchesRow.holds Tryd.pinned (OpenSpec.ofChange queryMatchesSpec)

/-- ITS FALSE NEIGHBOUR: 'it returns false'. Refute it at one input. -/
def queryMatchesWrong : ChangeSpec := { name := "queryMatches", fn := fun _ => fun
  | [d1, d2] => { results := [.lit (.bool false)], args := [d1, d2] }
  | _ => none }
def QueryMatchesWrongFalsely : Prop := queryMatchesRow.holds Tryd.pinned (OpenSpec.ofChange queryMatchesWrong)

/-- 'stanzakeeplaw18.QueryRows': WHATEVER THE INPUT: true; the input reads as it did. -/
def queryRowsSpec : ChangeSpec := { name := "queryRows", fn := fun _ => fun
  | [d1, d2, d3] => { results := [.lit (.bool true)], args := [d1, d2, d3] }
  | _ => none }
def queryRowsRow : OpenClaim := { program := "ythlfbpmbkcoclaadoor", sum := "c17adf8bb7c352e43c06ddfc2bd138d809b006803f383dbb0e21c53e6bb0e523", func := "stanzakeep/stanzakeeplaw18.QueryRows", spec := "queryRows", inPlace := ["internal/bytealg.CountString", "internal/bytealg.IndexByteString", "internal/bytealg.IndexString", "internal/abi.NoEscape", "internal/bytealg.MakeNoZero"], unfollowed := true, recurses := true, named := ["unicode/utf8.first", "unicode/utf8.acceptRanges", "internal/bytealg.MaxLen"], apart := false, laid := [("unicode/utf8.acceptRanges", laid_unicode_utf8_acceptRanges), ("unicode/utf8.first", laid_unicode_utf8_first)] }
def QueryRowsSaid : Prop := queryRowsRow.holds Tryd.pinned (OpenSpec.ofChange queryRowsSpec)

/-- ITS FALSE NEIGHBOUR: 'it returns false'. Refute it at one input. -/
def queryRowsWrong : ChangeSpec := { name := "queryRows", fn := fun _ => fun
  | [d1, d2, d3] => { results := [.lit (.bool false)], args := [d1, d2, d3] }
  | _ => none }
def QueryRowsWrongFalsely : Prop := queryRowsRow.holds Tryd.pinned (OpenSpec.ofChange queryRowsWrong)

/-- 'stanzakeeplaw04.FoldTexts': WHATEVER THE INPUT: true; the input reads as it did. -/
def foldTextsSpec : ChangeSpec := { name := "foldTexts", fn := fun _ => fun
  | [d] => { results := [.lit (.bool true)], args := [d] }
  | _ => none }
def foldTextsRow : OpenClaim := { program := "ythlfbpmbkcoclaadoor", sum := "c17adf8bb7c352e43c06ddfc2bd138d809b006803f383dbb0e21c53e6bb0e523", func := "stanzakeep/stanzakeeplaw04.FoldTexts", spec := "foldTexts", inPlace := ["internal/bytealg.IndexByteString", "internal/bytealg.IndexString", "internal/bytealg.CountString", "internal/abi.NoEscape"], named := ["internal/bytealg.MaxLen", "unicode/utf8.first", "unicode/utf8.acceptRanges"], apart := false, laid := [("unicode/utf8.acceptRanges", laid_unicode_utf8_acceptRanges), ("unicode/utf8.first", laid_unicode_utf8_first)] }
def FoldTextsSaid : Prop := foldTextsRow.holds Tryd.pinned (OpenSpec.ofChange foldTextsSpec)

/-- ITS FALSE NEIGHBOUR: 'it returns false'. Refute it at one input. -/
def foldTextsWrong : ChangeSpec := { name := "foldTexts", fn := fun _ => fun
  | [d] => { results := [.lit (.bool false)], args := [d] }
  | _ => none }
def FoldTextsWrongFalsely : Prop := foldTextsRow.holds Tryd.pinned (OpenSpec.ofChange foldTextsWrong)

/-- 'stanzakeeplaw04.FoldApart': WHATEVER THE INPUT: true; the input reads as it did. -/
def foldApartSpec : ChangeSpec := { name := "foldApart", fn := fun _ => fun
  | [d1, d2] => { results := [.lit (.bool true)], args := [d1, d2] }
  | _ => none }
def foldApartRow : OpenClaim := { program := "ythlfbpmbkcoclaadoor", sum := "c17adf8bb7c352e43c06ddfc2bd138d809b006803f383dbb0e21c53e6bb0e523", func := "stanzakeep/stanzakeeplaw04.FoldApart", spec := "foldApart", inPlace := ["internal/bytealg.IndexByteString", "internal/bytealg.IndexString", "internal/bytealg.CountString", "internal/abi.NoEscape"], named := ["internal/bytealg.MaxLen", "unicode/utf8.first", "unicode/utf8.acceptRanges"], apart := false, laid := [("unicode/utf8.acceptRanges", laid_unicode_utf8_acceptRanges), ("unicode/utf8.first", laid_unicode_utf8_first)] }
def FoldApartSaid : Prop := foldApartRow.holds Tryd.pinned (OpenSpec.ofChange foldApartSpec)

/-- ITS FALSE NEIGHBOUR: 'it returns false'. Refute it at one input. -/
def foldApartWrong : ChangeSpec := { name := "foldApart", fn := fun _ => fun
  | [d1, d2] => { results := [.lit (.bool false)], args := [d1, d2] }
  | _ => none }
def FoldApartWrongFalsely : Prop := foldApartRow.holds Tryd.pinned (OpenSpec.ofChange foldApartWrong)

/-- 'stanzakeeplaw04.FoldKinds': WHATEVER THE INPUT: true; the input reads as it did. -/
def foldKindsSpec : ChangeSpec := { name := "foldKinds", fn := fun _ => fun
  | [d] => { results := [.lit (.bool true)], args := [d] }
  | _ => none }
def foldKindsRow : OpenClaim := { program := "ythlfbpmbkcoclaadoor", sum := "c17adf8bb7c352e43c06ddfc2bd138d809b006803f383dbb0e21c53e6bb0e523", func := "stanzakeep/stanzakeeplaw04.FoldKinds", spec := "foldKinds", inPlace := ["internal/bytealg.IndexByteString", "internal/bytealg.IndexString", "internal/bytealg.CountString", "internal/abi.NoEscape"], named := ["internal/bytealg.MaxLen", "unicode/utf8.first", "unicode/utf8.acceptRanges"], apart := false, laid := [("unicode/utf8.acceptRanges", laid_unicode_utf8_acceptRanges), ("unicode/utf8.first", laid_unicode_utf8_first)] }
def FoldKindsSaid : Prop := foldKindsRow.holds Tryd.pinned (OpenSpec.ofChange foldKindsSpec)

/-- ITS FALSE NEIGHBOUR: 'it returns false'. Refute it at one input. -/
def foldKindsWrong : ChangeSpec := { name := "foldKinds", fn := fun _ => fun
  | [d] => { results := [.lit (.bool false)], args := [d] }
  | _ => none }
def FoldKindsWrongFalsely : Prop := foldKindsRow.holds Tryd.pinned (OpenSpec.ofChange foldKindsWrong)

/-- 'stanzakeeplaw04.FoldFolds': WHATEVER THE INPUT: true; the input reads as it did. -/
def foldFoldsSpec : ChangeSpec := { name := "foldFolds", fn := fun _ => fun
  | [d] => { results := [.lit (.bool true)], args := [d] }
  | _ => none }
def foldFoldsRow : OpenClaim := { program := "ythlfbpmbkcoclaadoor", sum := "c17adf8bb7c352e43c06ddfc2bd138d809b006803f383dbb0e21c53e6bb0e523", func := "stanzakeep/stanzakeeplaw04.FoldFolds", spec := "foldFolds", inPlace := ["internal/bytealg.IndexByteString", "internal/bytealg.IndexString", "internal/bytealg.CountString", "internal/abi.NoEscape", "internal/bytealg.MakeNoZero"], named := ["internal/bytealg.MaxLen", "unicode/utf8.first", "unicode/utf8.acceptRanges"], apart := false, laid := [("unicode/utf8.acceptRanges", laid_unicode_utf8_acceptRanges), ("unicode/utf8.first", laid_unicode_utf8_first)] }
def FoldFoldsSaid : Prop := foldFoldsRow.holds Tryd.pinned (OpenSpec.ofChange foldFoldsSpec)

/-- ITS FALSE NEIGHBOUR: 'it returns false'. Refute it at one input. -/
def foldFoldsWrong : ChangeSpec := { name := "foldFolds", fn := fun _ => fun
  | [d] => { results := [.lit (.bool false)], args := [d] }
  | _ => none }
def FoldFoldsWrongFalsely : Prop := foldFoldsRow.holds Tryd.pinned (OpenSpec.ofChange foldFoldsWrong)

/-- 'stanzakeeplaw04.FoldUnfolds': WHATEVER THE INPUT: true; the input reads as it did. -/
def foldUnfoldsSpec : ChangeSpec := { name := "foldUnfolds", fn := fun _ => fun
  | [d] => { results := [.lit (.bool true)], args := [d] }
  | _ => none }
def foldUnfoldsRow : OpenClaim := { program := "ythlfbpmbkcoclaadoor", sum := "c17adf8bb7c352e43c06ddfc2bd138d809b006803f383dbb0e21c53e6bb0e523", func := "stanzakeep/stanzakeeplaw04.FoldUnfolds", spec := "foldUnfolds", inPlace := ["internal/bytealg.IndexByteString", "internal/bytealg.IndexString", "internal/bytealg.CountString", "internal/abi.NoEscape", "internal/bytealg.MakeNoZero"], named := ["internal/bytealg.MaxLen", "unicode/utf8.first", "unicode/utf8.acceptRanges"], apart := false, laid := [("unicode/utf8.acceptRanges", laid_unicode_utf8_acceptRanges), ("unicode/utf8.first", laid_unicode_utf8_first)] }
def FoldUnfoldsSaid : Prop := foldUnfoldsRow.holds Tryd.pinned (OpenSpec.ofChange foldUnfoldsSpec)

/-- ITS FALSE NEIGHBOUR: 'it returns false'. Refute it at one input. -/
def foldUnfoldsWrong : ChangeSpec := { name := "foldUnfolds", fn := fun _ => fun
  | [d] => { results := [.lit (.bool false)], args := [d] }
  | _ => none }
def FoldUnfoldsWrongFalsely : Prop := foldUnfoldsRow.holds Tryd.pinned (OpenSpec.ofChange foldUnfoldsWrong)

/-- 'stanzakeeplaw28.SheetWrites': WHATEVER THE INPUT: true; the input reads as it did. -/
def sheetWritesSpec : ChangeSpec := { name := "sheetWrites", fn := fun _ => fun
  | [d] => { results := [.lit (.bool true)], args := [d] }
  | _ => none }
def sheetWritesRow : OpenClaim := { program := "ythlfbpmbkcoclaadoor", sum := "c17adf8bb7c352e43c06ddfc2bd138d809b006803f383dbb0e21c53e6bb0e523", func := "stanzakeep/stanzakeeplaw28.SheetWrites", spec := "sheetWrites", inPlace := ["internal/bytealg.IndexByteString", "internal/bytealg.IndexString", "internal/bytealg.CountString", "internal/abi.NoEscape", "internal/bytealg.MakeNoZero"], unfollowed := true, recurses := true, named := ["internal/bytealg.MaxLen", "unicode/utf8.first", "unicode/utf8.acceptRanges"], apart := false, laid := [("unicode/utf8.acceptRanges", laid_unicode_utf8_acceptRanges), ("unicode/utf8.first", laid_unicode_utf8_first)] }
def SheetWritesSaid : Prop := sheetWritesRow.holds Tryd.pinned (OpenSpec.ofChange sheetWritesSpec)

/-- ITS FALSE NEIGHBOUR: 'it returns false'. Refute it at one input. -/
def sheetWritesWrong : ChangeSpec := { name := "sheetWrites", fn := fun _ => fun
  | [d] => { results := [.lit (.bool false)], args := [d] }
  | _ => none }
def SheetWritesWrongFalsely : Prop := sheetWritesRow.holds Tryd.pinned (OpenSpec.ofChange sheetWritesWrong)

/-- 'stanzakeeplaw28.SheetReads': WHATEVER THE INPUT: true; the input reads as it did. -/
def sheetReadsSpec : ChangeSpec := { name := "sheetReads", fn := fun _ => fun
  | [d] => { results := [.lit (.bool true)], args := [d] }
  | _ => none }
def sheetReadsRow : OpenClaim := { program := "ythlfbpmbkcoclaadoor", sum := "c17adf8bb7c352e43c06ddfc2bd138d809b006803f383dbb0e21c53e6bb0e523", func := "stanzakeep/stanzakeeplaw28.SheetReads", spec := "sheetReads", inPlace := ["internal/bytealg.IndexByteString", "internal/bytealg.IndexString", "internal/bytealg.CountString", "internal/abi.NoEscape", "internal/bytealg.MakeNoZero"], unfollowed := true, recurses := true, named := ["internal/bytealg.MaxLen", "unicode/utf8.first", "unicode/utf8.acceptRanges"], apart := false, laid := [("unicode/utf8.acceptRanges", laid_unicode_utf8_acceptRanges), ("unicode/utf8.first", laid_unicode_utf8_first)] }
def SheetReadsSaid : Prop := sheetReadsRow.holds Tryd.pinned (OpenSpec.ofChange sheetReadsSpec)

/-- ITS FALSE NEIGHBOUR: 'it returns false'. Refute it at one input. -/
def sheetReadsWrong : ChangeSpec := { name := "sheetReads", fn := fun _ => fun
  | [d] => { results := [.lit (.bool false)], args := [d] }
  | _ => none }
def SheetReadsWrongFalsely : Prop := sheetReadsRow.holds Tryd.pinned (OpenSpec.ofChange sheetReadsWrong)

/-- 'stanzakeeplaw05.StanzaMany': WHATEVER THE INPUT: true; the input reads as it did. -/
def stanzaManySpec : ChangeSpec := { name := "stanzaMany", fn := fun _ => fun
  | [d1, d2] => { results := [.lit (.bool true)], args := [d1, d2] }
  | _ => none }
def stanzaManyRow : OpenClaim := { program := "ythlfbpmbkcoclaadoor", sum := "c17adf8bb7c352e43c06ddfc2bd138d809b006803f383dbb0e21c53e6bb0e523", func := "stanzakeep/stanzakeeplaw05.StanzaMany", spec := "stanzaMany", inPlace := ["internal/bytealg.IndexByteString", "internal/bytealg.IndexString", "internal/abi.NoEscape", "internal/bytealg.MakeNoZero"], unfollowed := true, recurses := true, named := ["internal/bytealg.MaxLen", "unicode/utf8.first", "unicode/utf8.acceptRanges"], apart := false, laid := [("unicode/utf8.acceptRanges", laid_unicode_utf8_acceptRanges), ("unicode/utf8.first", laid_unicode_utf8_first)] }
def StanzaManySaid : Prop := stanzaManyRow.holds Tryd.pinned (OpenSpec.ofChange stanzaManySpec)

/-- ITS FALSE NEIGHBOUR: 'it returns false'. Refute it at one input. -/
def stanzaManyWrong : ChangeSpec := { name := "stanzaMany", fn := fun _ => fun
  | [d1, d2] => { results := [.lit (.bool false)], args := [d1, d2] }
  | _ => none }
def StanzaManyWrongFalsely : Prop := stanzaManyRow.holds Tryd.pinned (OpenSpec.ofChange stanzaManyWrong)

/- THE SECOND FORM. 'bulk': how many values and letters a reading holds, each counted each time it is reached (what is shared counts as often as it is met; a slice's spare places count too). A statement '..UptoSaid' is the law's where the arguments, and the package variables that the reading takes, are together of bulk at most 1048576: NARROWER than '..Said'. Prove '..Said' where nothing that the law and all that it calls make is longer than what came in: it says more and counts as full. Else prove '..UptoSaid'. A law counts once. -/
mutual
def uptoBulk {H : Type} : DataW H → Nat
  | .lit (.string bytes) => bytes.length + 1
  | .lit _ => 1
  | .nil => 1
  | .ptr d => uptoBulk d + 1
  | .slice elems spare => uptoBulkAll elems + uptoBulkAll spare + 1
  | .agg parts => uptoBulkAll parts + 1
  | .iface _ d => uptoBulk d + 1
  | .map entries => uptoBulkEntries entries + 1
  | .held _ => 1
def uptoBulkAll {H : Type} : List (DataW H) → Nat
  | [] => 0
  | d :: r => uptoBulk d + uptoBulkAll r
def uptoBulkEntries {H : Type} : List (Lit × DataW H) → Nat
  | [] => 0
  | x :: r => uptoBulkEntry x + uptoBulkEntries r
def uptoBulkEntry {H : Type} : Lit × DataW H → Nat
  | (.string bytes, d) => bytes.length + uptoBulk d + 1
  | (_, d) => uptoBulk d + 1
 end
def uptoSmall : (H : Type) → List (DataW H) → Bool := fun _ ds => decide (uptoBulkAll ds ≤ 1048576)
def OpenSpec.upto (s : _root_.Go.ChangeSpec) : _root_.Go.OpenSpec := { _root_.Go.OpenSpec.ofChange s with cond := some uptoSmall }

/-- 'stanzakeeplaw18.QueryPrints', WHERE WHAT IT READS IS OF BULK AT MOST 1048576: true; the input reads as it did. -/
def queryPrintsUptoRow : OpenClaim := { program := "ythlfbpmbkcoclaadoor", sum := "c17adf8bb7c352e43c06ddfc2bd138d809b006803f383dbb0e21c53e6bb0e523", func := "stanzakeep/stanzakeeplaw18.QueryPrints", spec := "queryPrints", inPlace := ["internal/bytealg.CountString", "internal/bytealg.IndexByteString", "internal/bytealg.IndexString", "internal/abi.NoEscape", "internal/bytealg.MakeNoZero"], unfollowed := true, recurses := true, named := ["unicode/utf8.first", "unicode/utf8.acceptRanges", "internal/bytealg.MaxLen"], apart := false, laid := [("unicode/utf8.acceptRanges", laid_unicode_utf8_acceptRanges), ("unicode/utf8.first", laid_unicode_utf8_first)], narrowed := true }
def QueryPrintsUptoSaid : Prop := queryPrintsUptoRow.holds Tryd.pinned (OpenSpec.upto queryPrintsSpec)

/-- 'stanzakeeplaw18.QueryParses', WHERE WHAT IT READS IS OF BULK AT MOST 1048576: true; the input reads as it did. -/
def queryParsesUptoRow : OpenClaim := { program := "ythlfbpmbkcoclaadoor", sum := "c17adf8bb7c352e43c06ddfc2bd138d809b006803f383dbb0e21c53e6bb0e523", func := "stanzakeep/stanzakeeplaw18.QueryParses", spec := "queryParses", inPlace := ["internal/bytealg.CountString", "internal/bytealg.IndexByteString", "internal/bytealg.IndexString", "internal/abi.NoEscape", "internal/bytealg.MakeNoZero"], unfollowed := true, recurses := true, named := ["unicode/utf8.first", "unicode/utf8.acceptRanges", "internal/bytealg.MaxLen"], apart := false, laid := [("unicode/utf8.acceptRanges", laid_unicode_utf8_acceptRanges), ("unicode/utf8.first", laid_unicode_utf8_first)], narrowed := true }
def QueryParsesUptoSaid : Prop := queryParsesUptoRow.holds Tryd.pinned (OpenSpec.upto queryParsesSpec)

/-- 'stanzakeeplaw18.QueryMatches', WHERE WHAT IT READS IS OF BULK AT MOST 1048576: true; the input reads as it did. -/
def queryMatchesUptoRow : OpenClaim := { program := "ythlfbpmbkcoclaadoor", sum := "c17adf8bb7c352e43c06ddfc2bd138d809b006803f383dbb0e21c53e6bb0e523", func := "stanzakeep/stanzakeeplaw18.QueryMatches", spec := "queryMatches", inPlace := ["internal/bytealg.CountString", "internal/bytealg.IndexByteString", "internal/bytealg.IndexString", "internal/abi.NoEscape", "internal/bytealg.MakeNoZero"], unfollowed := true, recurses := true, named := ["unicode/utf8.first", "unicode/utf8.acceptRanges", "internal/bytealg.MaxLen"], apart := false, laid := [("unicode/utf8.acceptRanges", laid_unicode_utf8_acceptRanges), ("unicode/utf8.first", laid_unicode_utf8_first)], narrowed := true }
def QueryMatchesUptoSaid : Prop := queryMatchesUptoRow.holds Tryd.pinned (OpenSpec.upto queryMatchesSpec)

/-- 'stanzakeeplaw18.QueryRows', WHERE WHAT IT READS IS OF BULK AT MOST 1048576: true; the input reads as it did. -/
def queryRowsUptoRow : OpenClaim := { program := "ythlfbpmbkcoclaadoor", sum := "c17adf8bb7c352e43c06ddfc2bd138d809b006803f383dbb0e21c53e6bb0e523", func := "stanzakeep/stanzakeeplaw18.QueryRows", spec := "queryRows", inPlace := ["internal/bytealg.CountString", "internal/bytealg.IndexByteString", "internal/bytealg.IndexString", "internal/abi.NoEscape", "internal/bytealg.MakeNoZero"], unfollowed := true, recurses := true, named := ["unicode/utf8.first", "unicode/utf8.acceptRanges", "internal/bytealg.MaxLen"], apart := false, laid := [("unicode/utf8.acceptRanges", laid_unicode_utf8_acceptRanges), ("unicode/utf8.first", laid_unicode_utf8_first)], narrowed := true }
def QueryRowsUptoSaid : Prop := queryRowsUptoRow.holds Tryd.pinned (OpenSpec.upto queryRowsSpec)

/-- 'stanzakeeplaw04.FoldTexts', WHERE WHAT IT READS IS OF BULK AT MOST 1048576: true; the input reads as it did. -/
def foldTextsUptoRow : OpenClaim := { program := "ythlfbpmbkcoclaadoor", sum := "c17adf8bb7c352e43c06ddfc2bd138d809b006803f383dbb0e21c53e6bb0e523", func := "stanzakeep/stanzakeeplaw04.FoldTexts", spec := "foldTexts", inPlace := ["internal/bytealg.IndexByteString", "internal/bytealg.IndexString", "internal/bytealg.CountString", "internal/abi.NoEscape"], named := ["internal/bytealg.MaxLen", "unicode/utf8.first", "unicode/utf8.acceptRanges"], apart := false, laid := [("unicode/utf8.acceptRanges", laid_unicode_utf8_acceptRanges), ("unicode/utf8.first", laid_unicode_utf8_first)], narrowed := true }
def FoldTextsUptoSaid : Prop := foldTextsUptoRow.holds Tryd.pinned (OpenSpec.upto foldTextsSpec)

/-- 'stanzakeeplaw04.FoldApart', WHERE WHAT IT READS IS OF BULK AT MOST 1048576: true; the input reads as it did. -/
def foldApartUptoRow : OpenClaim := { program := "ythlfbpmbkcoclaadoor", sum := "c17adf8bb7c352e43c06ddfc2bd138d809b006803f383dbb0e21c53e6bb0e523", func := "stanzakeep/stanzakeeplaw04.FoldApart", spec := "foldApart", inPlace := ["internal/bytealg.IndexByteString", "internal/bytealg.IndexString", "internal/bytealg.CountString", "internal/abi.NoEscape"], named := ["internal/bytealg.MaxLen", "unicode/utf8.first", "unicode/utf8.acceptRanges"], apart := false, laid := [("unicode/utf8.acceptRanges", laid_unicode_utf8_acceptRanges), ("unicode/utf8.first", laid_unicode_utf8_first)], narrowed := true }
def FoldApartUptoSaid : Prop := foldApartUptoRow.holds Tryd.pinned (OpenSpec.upto foldApartSpec)

/-- 'stanzakeeplaw04.FoldKinds', WHERE WHAT IT READS IS OF BULK AT MOST 1048576: true; the input reads as it did. -/
def foldKindsUptoRow : OpenClaim := { program := "ythlfbpmbkcoclaadoor", sum := "c17adf8bb7c352e43c06ddfc2bd138d809b006803f383dbb0e21c53e6bb0e523", func := "stanzakeep/stanzakeeplaw04.FoldKinds", spec := "foldKinds", inPlace := ["internal/bytealg.IndexByteString", "internal/bytealg.IndexString", "internal/bytealg.CountString", "internal/abi.NoEscape"], named := ["internal/bytealg.MaxLen", "unicode/utf8.first", "unicode/utf8.acceptRanges"], apart := false, laid := [("unicode/utf8.acceptRanges", laid_unicode_utf8_acceptRanges), ("unicode/utf8.first", laid_unicode_utf8_first)], narrowed := true }
def FoldKindsUptoSaid : Prop := foldKindsUptoRow.holds Tryd.pinned (OpenSpec.upto foldKindsSpec)

/-- 'stanzakeeplaw04.FoldFolds', WHERE WHAT IT READS IS OF BULK AT MOST 1048576: true; the input reads as it did. -/
def foldFoldsUptoRow : OpenClaim := { program := "ythlfbpmbkcoclaadoor", sum := "c17adf8bb7c352e43c06ddfc2bd138d809b006803f383dbb0e21c53e6bb0e523", func := "stanzakeep/stanzakeeplaw04.FoldFolds", spec := "foldFolds", inPlace := ["internal/bytealg.IndexByteString", "internal/bytealg.IndexString", "internal/bytealg.CountString", "internal/abi.NoEscape", "internal/bytealg.MakeNoZero"], named := ["internal/bytealg.MaxLen", "unicode/utf8.first", "unicode/utf8.acceptRanges"], apart := false, laid := [("unicode/utf8.acceptRanges", laid_unicode_utf8_acceptRanges), ("unicode/utf8.first", laid_unicode_utf8_first)], narrowed := true }
def FoldFoldsUptoSaid : Prop := foldFoldsUptoRow.holds Tryd.pinned (OpenSpec.upto foldFoldsSpec)

/-- 'stanzakeeplaw04.FoldUnfolds', WHERE WHAT IT READS IS OF BULK AT MOST 1048576: true; the input reads as it did. -/
def foldUnfoldsUptoRow : OpenClaim := { program := "ythlfbpmbkcoclaadoor", sum := "c17adf8bb7c352e43c06ddfc2bd138d809b006803f383dbb0e21c53e6bb0e523", func := "stanzakeep/stanzakeeplaw04.FoldUnfolds", spec := "foldUnfolds", inPlace := ["internal/bytealg.IndexByteString", "internal/bytealg.IndexString", "internal/bytealg.CountString", "internal/abi.NoEscape", "internal/bytealg.MakeNoZero"], named := ["internal/bytealg.MaxLen", "unicode/utf8.first", "unicode/utf8.acceptRanges"], apart := false, laid := [("unicode/utf8.acceptRanges", laid_unicode_utf8_acceptRanges), ("unicode/utf8.first", laid_unicode_utf8_first)], narrowed := true }
def FoldUnfoldsUptoSaid : Prop := foldUnfoldsUptoRow.holds Tryd.pinned (OpenSpec.upto foldUnfoldsSpec)

/-- 'stanzakeeplaw28.SheetWrites', WHERE WHAT IT READS IS OF BULK AT MOST 1048576: true; the input reads as it did. -/
def sheetWritesUptoRow : OpenClaim := { program := "ythlfbpmbkcoclaadoor", sum := "c17adf8bb7c352e43c06ddfc2bd138d809b006803f383dbb0e21c53e6bb0e523", func := "stanzakeep/stanzakeeplaw28.SheetWrites", spec := "sheetWrites", inPlace := ["internal/bytealg.IndexByteString", "internal/bytealg.IndexString", "internal/bytealg.CountString", "internal/abi.NoEscape", "internal/bytealg.MakeNoZero"], unfollowed := true, recurses := true, named := ["internal/bytealg.MaxLen", "unicode/utf8.first", "unicode/utf8.acceptRanges"], apart := false, laid := [("unicode/utf8.acceptRanges", laid_unicode_utf8_acceptRanges), ("unicode/utf8.first", laid_unicode_utf8_first)], narrowed := true }
def SheetWritesUptoSaid : Prop := sheetWritesUptoRow.holds Tryd.pinned (OpenSpec.upto sheetWritesSpec)

/-- 'stanzakeeplaw28.SheetReads', WHERE WHAT IT READS IS OF BULK AT MOST 1048576: true; the input reads as it did. -/
def sheetReadsUptoRow : OpenClaim := { program := "ythlfbpmbkcoclaadoor", sum := "c17adf8bb7c352e43c06ddfc2bd138d809b006803f383dbb0e21c53e6bb0e523", func := "stanzakeep/stanzakeeplaw28.SheetReads", spec := "sheetReads", inPlace := ["internal/bytealg.IndexByteString", "internal/bytealg.IndexString", "internal/bytealg.CountString", "internal/abi.NoEscape", "internal/bytealg.MakeNoZero"], unfollowed := true, recurses := true, named := ["internal/bytealg.MaxLen", "unicode/utf8.first", "unicode/utf8.acceptRanges"], apart := false, laid := [("unicode/utf8.acceptRanges", laid_unicode_utf8_acceptRanges), ("unicode/utf8.first", laid_unicode_utf8_first)], narrowed := true }
def SheetReadsUptoSaid : Prop := sheetReadsUptoRow.holds Tryd.pinned (OpenSpec.upto sheetReadsSpec)

/-- 'stanzakeeplaw05.StanzaMany', WHERE WHAT IT READS IS OF BULK AT MOST 1048576: true; the input reads as it did. -/
def stanzaManyUptoRow : OpenClaim := { program := "ythlfbpmbkcoclaadoor", sum := "c17adf8bb7c352e43c06ddfc2bd138d809b006803f383dbb0e21c53e6bb0e523", func := "stanzakeep/stanzakeeplaw05.StanzaMany", spec := "stanzaMany", inPlace := ["internal/bytealg.IndexByteString", "internal/bytealg.IndexString", "internal/abi.NoEscape", "internal/bytealg.MakeNoZero"], unfollowed := true, recurses := true, named := ["internal/bytealg.MaxLen", "unicode/utf8.first", "unicode/utf8.acceptRanges"], apart := false, laid := [("unicode/utf8.acceptRanges", laid_unicode_utf8_acceptRanges), ("unicode/utf8.first", laid_unicode_utf8_first)], narrowed := true }
def StanzaManyUptoSaid : Prop := stanzaManyUptoRow.holds Tryd.pinned (OpenSpec.upto stanzaManySpec)

end Rows
end Go.Proofs.YthlfbpmbkcoclaaDoor
