/-
  NARROWER THAN 'FOR EVERY INPUT', by the rows' own cells (each row's printed sentence says how): CursorMoves: laid · CursorPlays: laid · EditChecks: laid · EditTwo: laid · EditDoes: laid · EditNone: laid.
  DERIVED. THE GIVEN ROWS OF THIS SEAT. 6 by the template 'for every input the law returns true; each argument reads behind the call as it read before'; 0 by the template 'total and deterministic' (their statements: YtbfhpimmlehkcaaGreatDoorTotals.lean).
  GIVEN WITH THE SEED: the statements are not yours to turn. If you find one false, say at which input.
  Laid BY PROGRAM, IN A SANDBOX (cutbox-rows.mjs): the forced cells as the released guide's own fill.sh prints them over the translation d294e05c519a346a… (all of the seat's roots in one cut). By AI agents, Wed Nov 11 2026. No macro, syntax, notation, axiom, sorry.
-/
import Derived.Test.YtbfhpimmlehkcaaGreatDoorChecked
import GoSem.PinnedTables
import GoSem.Claim
import GoSem.ClaimJoined
import GoSem.ClaimMapViews
import Derived.JoinedTies
import Derived.KernelRfl
namespace Go.Proofs.YtbfhpimmlehkcaaGreatDoor
/- THE CELL 'sum', in the pinned program and in every row, IS THE sha256 OF THE DUMP (.gsa) THAT YtbfhpimmlehkcaaGreatDoorProg.lean LOADS. Nothing in Lean hashes anything: it is a label: what it is worth is what the hold of that sum in a sandbox is worth. -/
noncomputable def Tryz.pinned : Pinned := { name := "ytbfhpimmlehkcaagreatdoor", sum := "d294e05c519a346a2b9c39c9dfeb445b3c890166693caea435c64c4e8691276d", checked := Tryz.checked }
namespace Rows
def none {H : Type} : Left H := { results := [], args := [] }

/- WHAT THE LISTED PACKAGE-LEVEL VARIABLES READ AS WHEN THE CALL BEGINS. Each datum BY PROGRAM (the guide's laid-datum.mjs) off the statement by which the dump's own 'gosem.cut.vars' lays the variable. In a bare row this is a premise. The card (YtbfhpimmlehkcaaGreatDoorCards.lean) ties it to the program's text. -/
def laid_unicode_utf8_acceptRanges {H : Type} : DataW H := .agg [.agg [.lit (.int .u8 128), .lit (.int .u8 191)], .agg [.lit (.int .u8 160), .lit (.int .u8 191)], .agg [.lit (.int .u8 128), .lit (.int .u8 159)], .agg [.lit (.int .u8 144), .lit (.int .u8 191)], .agg [.lit (.int .u8 128), .lit (.int .u8 143)], .agg [.lit (.int .u8 0), .lit (.int .u8 0)], .agg [.lit (.int .u8 0), .lit (.int .u8 0)], .agg [.lit (.int .u8 0), .lit (.int .u8 0)], .agg [.lit (.int .u8 0), .lit (.int .u8 0)], .agg [.lit (.int .u8 0), .lit (.int .u8 0)], .agg [.lit (.int .u8 0), .lit (.int .u8 0)], .agg [.lit (.int .u8 0), .lit (.int .u8 0)], .agg [.lit (.int .u8 0), .lit (.int .u8 0)], .agg [.lit (.int .u8 0), .lit (.int .u8 0)], .agg [.lit (.int .u8 0), .lit (.int .u8 0)], .agg [.lit (.int .u8 0), .lit (.int .u8 0)]]
/-- One of Go's own tables, pinned by name: the form's constant. -/
def laid_unicode_utf8_first : DataW Unit := Go.Pinned.utf8First
def laid_errors_errorType {H : Type} : DataW H := .iface "internal/reflectlite.rtype" (.agg [.ptr (.lit (.string [101, 114, 114, 111, 114]))])

/-- 'stanzakeeplaw19.CursorMoves': WHATEVER THE INPUT: true; the input reads as it did. -/
def cursorMovesSpec : ChangeSpec := { name := "cursorMoves", fn := fun _ => fun
  | [d1, d2, d3] => { results := [.lit (.bool true)], args := [d1, d2, d3] }
  | _ => none }
def cursorMovesRow : OpenClaim := { program := "ytbfhpimmlehkcaagreatdoor", sum := "d294e05c519a346a2b9c39c9dfeb445b3c890166693caea435c64c4e8691276d", func := "stanzakeep/stanzakeeplaw19.CursorMoves", spec := "cursorMoves", inPlace := ["internal/bytealg.IndexByteString", "internal/bytealg.IndexString", "internal/abi.NoEscape", "internal/bytealg.MakeNoZero"], unfollowed := true, recurses := true, named := ["internal/bytealg.MaxLen", "unicode/utf8.first", "unicode/utf8.acceptRanges"], apart := false, laid := [("unicode/utf8.acceptRanges", laid_unicode_utf8_acceptRanges), ("unicode/utf8.first", laid_unicode_utf8_first)] }
def CursorMovesSaid : Prop := cursorMovesRow.holds Tryz.pinned (OpenSpec.ofChange cursorMovesSpec)

/-- ITS FALSE NEIGHBOUR: 'it returns false'. Refute it at one input. -/
def cursorMovesWrong : ChangeSpec := { name := "cursorMoves", fn := fun _ => fun
  | [d1, d2, d3] => { results := [.lit (.bool false)], args := [d1, d2, d3] }
  | _ => none }
def CursorMovesWrongFalsely : Prop := cursorMovesRow.holds Tryz.pinned (OpenSpec.ofChange cursorMovesWrong)

/-- 'stanzakeeplaw19.CursorPlays': WHATEVER THE INPUT: true; the input reads as it did. -/
def cursorPlaysSpec : ChangeSpec := { name := "cursorPlays", fn := fun _ => fun
  | [d1, d2, d3] => { results := [.lit (.bool true)], args := [d1, d2, d3] }
  | _ => none }
def cursorPlaysRow : OpenClaim := { program := "ytbfhpimmlehkcaagreatdoor", sum := "d294e05c519a346a2b9c39c9dfeb445b3c890166693caea435c64c4e8691276d", func := "stanzakeep/stanzakeeplaw19.CursorPlays", spec := "cursorPlays", inPlace := ["internal/bytealg.IndexByteString", "internal/bytealg.IndexString", "internal/abi.NoEscape", "internal/bytealg.MakeNoZero", "internal/bytealg.CountString", "slices.overlaps[stanzakeep/list.entry]"], unfollowed := true, recurses := true, named := ["internal/bytealg.MaxLen", "unicode/utf8.first", "unicode/utf8.acceptRanges"], apart := false, laid := [("unicode/utf8.acceptRanges", laid_unicode_utf8_acceptRanges), ("unicode/utf8.first", laid_unicode_utf8_first)] }
def CursorPlaysSaid : Prop := cursorPlaysRow.holds Tryz.pinned (OpenSpec.ofChange cursorPlaysSpec)

/-- ITS FALSE NEIGHBOUR: 'it returns false'. Refute it at one input. -/
def cursorPlaysWrong : ChangeSpec := { name := "cursorPlays", fn := fun _ => fun
  | [d1, d2, d3] => { results := [.lit (.bool false)], args := [d1, d2, d3] }
  | _ => none }
def CursorPlaysWrongFalsely : Prop := cursorPlaysRow.holds Tryz.pinned (OpenSpec.ofChange cursorPlaysWrong)

/-- 'stanzakeeplaw09.EditChecks': WHATEVER THE INPUT: true; the input reads as it did. -/
def editChecksSpec : ChangeSpec := { name := "editChecks", fn := fun _ => fun
  | [d1, d2] => { results := [.lit (.bool true)], args := [d1, d2] }
  | _ => none }
def editChecksRow : OpenClaim := { program := "ytbfhpimmlehkcaagreatdoor", sum := "d294e05c519a346a2b9c39c9dfeb445b3c890166693caea435c64c4e8691276d", func := "stanzakeep/stanzakeeplaw09.EditChecks", spec := "editChecks", inPlace := ["internal/bytealg.IndexByteString", "internal/bytealg.IndexString", "internal/abi.NoEscape", "internal/bytealg.MakeNoZero", "internal/reflectlite.ValueOf", "(internal/reflectlite.Value).Type", "(internal/reflectlite.Value).IsNil", "internal/reflectlite.TypeOf", "(internal/reflectlite.Value).Elem", "(internal/reflectlite.Value).Set", "internal/bytealg.CountString", "slices.overlaps[stanzakeep/list.entry]"], unfollowed := true, recurses := true, named := ["internal/bytealg.MaxLen", "unicode/utf8.first", "unicode/utf8.acceptRanges", "errors.errorType"], apart := false, laid := [("unicode/utf8.acceptRanges", laid_unicode_utf8_acceptRanges), ("errors.errorType", laid_errors_errorType), ("unicode/utf8.first", laid_unicode_utf8_first)] }
def EditChecksSaid : Prop := editChecksRow.holds Tryz.pinned (OpenSpec.ofChange editChecksSpec)

/-- ITS FALSE NEIGHBOUR: 'it returns false'. Refute it at one input. -/
def editChecksWrong : ChangeSpec := { name := "editChecks", fn := fun _ => fun
  | [d1, d2] => { results := [.lit (.bool false)], args := [d1, d2] }
  | _ => none }
def EditChecksWrongFalsely : Prop := editChecksRow.holds Tryz.pinned (OpenSpec.ofChange editChecksWrong)

/-- 'stanzakeeplaw09.EditTwo': WHATEVER THE INPUT: true; the input reads as it did. -/
def editTwoSpec : ChangeSpec := { name := "editTwo", fn := fun _ => fun
  | [d1, d2, d3] => { results := [.lit (.bool true)], args := [d1, d2, d3] }
  | _ => none }
def editTwoRow : OpenClaim := { program := "ytbfhpimmlehkcaagreatdoor", sum := "d294e05c519a346a2b9c39c9dfeb445b3c890166693caea435c64c4e8691276d", func := "stanzakeep/stanzakeeplaw09.EditTwo", spec := "editTwo", inPlace := ["internal/bytealg.IndexByteString", "internal/bytealg.IndexString", "internal/abi.NoEscape", "internal/bytealg.MakeNoZero", "internal/reflectlite.ValueOf", "(internal/reflectlite.Value).Type", "(internal/reflectlite.Value).IsNil", "internal/reflectlite.TypeOf", "(internal/reflectlite.Value).Elem", "(internal/reflectlite.Value).Set", "internal/bytealg.CountString", "slices.overlaps[stanzakeep/list.entry]"], unfollowed := true, recurses := true, named := ["internal/bytealg.MaxLen", "unicode/utf8.first", "unicode/utf8.acceptRanges", "errors.errorType"], apart := false, laid := [("unicode/utf8.acceptRanges", laid_unicode_utf8_acceptRanges), ("errors.errorType", laid_errors_errorType), ("unicode/utf8.first", laid_unicode_utf8_first)] }
def EditTwoSaid : Prop := editTwoRow.holds Tryz.pinned (OpenSpec.ofChange editTwoSpec)

/-- ITS FALSE NEIGHBOUR: 'it returns false'. Refute it at one input. -/
def editTwoWrong : ChangeSpec := { name := "editTwo", fn := fun _ => fun
  | [d1, d2, d3] => { results := [.lit (.bool false)], args := [d1, d2, d3] }
  | _ => none }
def EditTwoWrongFalsely : Prop := editTwoRow.holds Tryz.pinned (OpenSpec.ofChange editTwoWrong)

/-- 'stanzakeeplaw09.EditDoes': WHATEVER THE INPUT: true; the input reads as it did. -/
def editDoesSpec : ChangeSpec := { name := "editDoes", fn := fun _ => fun
  | [d1, d2] => { results := [.lit (.bool true)], args := [d1, d2] }
  | _ => none }
def editDoesRow : OpenClaim := { program := "ytbfhpimmlehkcaagreatdoor", sum := "d294e05c519a346a2b9c39c9dfeb445b3c890166693caea435c64c4e8691276d", func := "stanzakeep/stanzakeeplaw09.EditDoes", spec := "editDoes", inPlace := ["internal/bytealg.IndexByteString", "internal/bytealg.IndexString", "internal/abi.NoEscape", "internal/bytealg.MakeNoZero", "internal/reflectlite.ValueOf", "(internal/reflectlite.Value).Type", "(internal/reflectlite.Value).IsNil", "internal/reflectlite.TypeOf", "(internal/reflectlite.Value).Elem", "(internal/reflectlite.Value).Set", "internal/bytealg.CountString", "slices.overlaps[stanzakeep/list.entry]"], unfollowed := true, recurses := true, named := ["internal/bytealg.MaxLen", "unicode/utf8.first", "unicode/utf8.acceptRanges", "errors.errorType"], apart := false, laid := [("unicode/utf8.acceptRanges", laid_unicode_utf8_acceptRanges), ("errors.errorType", laid_errors_errorType), ("unicode/utf8.first", laid_unicode_utf8_first)] }
def EditDoesSaid : Prop := editDoesRow.holds Tryz.pinned (OpenSpec.ofChange editDoesSpec)

/-- ITS FALSE NEIGHBOUR: 'it returns false'. Refute it at one input. -/
def editDoesWrong : ChangeSpec := { name := "editDoes", fn := fun _ => fun
  | [d1, d2] => { results := [.lit (.bool false)], args := [d1, d2] }
  | _ => none }
def EditDoesWrongFalsely : Prop := editDoesRow.holds Tryz.pinned (OpenSpec.ofChange editDoesWrong)

/-- 'stanzakeeplaw09.EditNone': WHATEVER THE INPUT: true; the input reads as it did. -/
def editNoneSpec : ChangeSpec := { name := "editNone", fn := fun _ => fun
  | [d] => { results := [.lit (.bool true)], args := [d] }
  | _ => none }
def editNoneRow : OpenClaim := { program := "ytbfhpimmlehkcaagreatdoor", sum := "d294e05c519a346a2b9c39c9dfeb445b3c890166693caea435c64c4e8691276d", func := "stanzakeep/stanzakeeplaw09.EditNone", spec := "editNone", inPlace := ["internal/bytealg.IndexByteString", "internal/bytealg.IndexString", "internal/abi.NoEscape", "internal/bytealg.MakeNoZero", "internal/reflectlite.ValueOf", "(internal/reflectlite.Value).Type", "(internal/reflectlite.Value).IsNil", "internal/reflectlite.TypeOf", "(internal/reflectlite.Value).Elem", "(internal/reflectlite.Value).Set", "internal/bytealg.CountString", "slices.overlaps[stanzakeep/list.entry]"], unfollowed := true, recurses := true, named := ["internal/bytealg.MaxLen", "unicode/utf8.first", "unicode/utf8.acceptRanges", "errors.errorType"], apart := false, laid := [("unicode/utf8.acceptRanges", laid_unicode_utf8_acceptRanges), ("errors.errorType", laid_errors_errorType), ("unicode/utf8.first", laid_unicode_utf8_first)] }
def EditNoneSaid : Prop := editNoneRow.holds Tryz.pinned (OpenSpec.ofChange editNoneSpec)

/-- ITS FALSE NEIGHBOUR: 'it returns false'. Refute it at one input. -/
def editNoneWrong : ChangeSpec := { name := "editNone", fn := fun _ => fun
  | [d] => { results := [.lit (.bool false)], args := [d] }
  | _ => none }
def EditNoneWrongFalsely : Prop := editNoneRow.holds Tryz.pinned (OpenSpec.ofChange editNoneWrong)

/- THE SECOND FORM. 'bulk': how many values and letters a reading holds, each counted each time it is reached (what is shared counts as often as it is met; a slice's spare places count too). A statement '..UptoSaid' is the law's where the arguments, and the package variables that the reading takes, are together of bulk at most 1048576: NARROWER than '..Said'. Prove '..Said' where nothing that the law and all that it calls make is longer than what came in: it says more and counts as full. Else prove '..UptoSaid'. A law counts once. -/
mutual
def uptoBulk {H : Type} : DataW H → Nat
  | .lit (.string bytes) => bytes.length + 1
  | .lit _ => 1
  | .nil => 1
  | .ptr d => uptoBulk d + 1
  | .slice elems spare => uptoBulkAll elems + uptoBulkAll spare + 1
  | .agg parts => uptoBulkAll parts + 1
  | .iface _ d => uptoBulk d + 1
  | .map entries => uptoBulkEntries entries + 1
  | .held _ => 1
def uptoBulkAll {H : Type} : List (DataW H) → Nat
  | [] => 0
  | d :: r => uptoBulk d + uptoBulkAll r
def uptoBulkEntries {H : Type} : List (Lit × DataW H) → Nat
  | [] => 0
  | x :: r => uptoBulkEntry x + uptoBulkEntries r
def uptoBulkEntry {H : Type} : Lit × DataW H → Nat
  | (.string bytes, d) => bytes.length + uptoBulk d + 1
  | (_, d) => uptoBulk d + 1
 end
def uptoSmall : (H : Type) → List (DataW H) → Bool := fun _ ds => decide (uptoBulkAll ds ≤ 1048576)
def OpenSpec.upto (s : _root_.Go.ChangeSpec) : _root_.Go.OpenSpec := { _root_.Go.OpenSpec.ofChange s with cond := some uptoSmall }

/-- 'stanzakeeplaw19.CursorMoves', WHERE WHAT IT READS IS OF BULK AT MOST 1048576: true; the input reads as it did. -/
def cursorMovesUptoRow : OpenClaim := { program := "ytbfhpimmlehkcaagreatdoor", sum := "d294e05c519a346a2b9c39c9dfeb445b3c890166693caea435c64c4e8691276d", func := "stanzakeep/stanzakeeplaw19.CursorMoves", spec := "cursorMoves", inPlace := ["internal/bytealg.IndexByteString", "internal/bytealg.IndexString", "internal/abi.NoEscape", "internal/bytealg.MakeNoZero"], unfollowed := true, recurses := true, named := ["internal/bytealg.MaxLen", "unicode/utf8.first", "unicode/utf8.acceptRanges"], apart := false, laid := [("unicode/utf8.acceptRanges", laid_unicode_utf8_acceptRanges), ("unicode/utf8.first", laid_unicode_utf8_first)], narrowed := true }
def CursorMovesUptoSaid : Prop := cursorMovesUptoRow.holds Tryz.pinned (OpenSpec.upto cursorMovesSpec)

/-- 'stanzakeeplaw19.CursorPlays', WHERE WHAT IT READS IS OF BULK AT MOST 1048576: true; the input reads as it did. -/
def cursorPlaysUptoRow : OpenClaim := { program := "ytbfhpimmlehkcaagreatdoor", sum := "d294e05c519a346a2b9c39c9dfeb445b3c890166693caea435c64c4e8691276d", func := "stanzakeep/stanzakeeplaw19.CursorPlays", spec := "cursorPlays", inPlace := ["internal/bytealg.IndexByteString", "internal/bytealg.IndexString", "internal/abi.NoEscape", "internal/bytealg.MakeNoZero", "internal/bytealg.CountString", "slices.overlaps[stanzakeep/list.entry]"], unfollowed := true, recurses := true, named := ["internal/bytealg.MaxLen", "unicode/utf8.first", "unicode/utf8.acceptRanges"], apart := false, laid := [("unicode/utf8.acceptRanges", laid_unicode_utf8_acceptRanges), ("unicode/utf8.first", laid_unicode_utf8_first)], narrowed := true }
def CursorPlaysUptoSaid : Prop := cursorPlaysUptoRow.holds Tryz.pinned (OpenSpec.upto cursorPlaysSpec)

/-- 'stanzakeeplaw09.EditChecks', WHERE WHAT IT READS IS OF BULK AT MOST 1048576: true; the input reads as it did. -/
def editChecksUptoRow : OpenClaim := { program := "ytbfhpimmlehkcaagreatdoor", sum := "d294e05c519a346a2b9c39c9dfeb445b3c890166693caea435c64c4e8691276d", func := "stanzakeep/stanzakeeplaw09.EditChecks", spec := "editChecks", inPlace := ["internal/bytealg.IndexByteString", "internal/bytealg.IndexString", "internal/abi.NoEscape", "internal/bytealg.MakeNoZero", "internal/reflectlite.ValueOf", "(internal/reflectlite.Value).Type", "(internal/reflectlite.Value).IsNil", "internal/reflectlite.TypeOf", "(internal/reflectlite.Value).Elem", "(internal/reflectlite.Value).Set", "internal/bytealg.CountString", "slices.overlaps[stanzakeep/list.entry]"], unfollowed := true, recurses := true, named := ["internal/bytealg.MaxLen", "unicode/utf8.first", "unicode/utf8.acceptRanges", "errors.errorType"], apart := false, laid := [("unicode/utf8.acceptRanges", laid_unicode_utf8_acceptRanges), ("errors.errorType", laid_errors_errorType), ("unicode/utf8.first", laid_unicode_utf8_first)], narrowed := true }
def EditChecksUptoSaid : Prop := editChecksUptoRow.holds Tryz.pinned (OpenSpec.upto editChecksSpec)

/-- 'stanzakeeplaw09.EditTwo', WHERE WHAT IT READS IS OF BULK AT MOST 1048576: true; the input reads as it did. -/
def editTwoUptoRow : OpenClaim := { program := "ytbfhpimmlehkcaagreatdoor", sum := "d294e05c519a346a2b9c39c9dfeb445b3c890166693caea435c64c4e8691276d", func := "stanzakeep/stanzakeeplaw09.EditTwo", spec := "editTwo", inPlace := ["internal/bytealg.IndexByteString", "internal/bytealg.IndexString", "internal/abi.NoEscape", "internal/bytealg.MakeNoZero", "internal/reflectlite.ValueOf", "(internal/reflectlite.Value).Type", "(internal/reflectlite.Value).IsNil", "internal/reflectlite.TypeOf", "(internal/reflectlite.Value).Elem", "(internal/reflectlite.Value).Set", "internal/bytealg.CountString", "slices.overlaps[stanzakeep/list.entry]"], unfollowed := true, recurses := true, named := ["internal/bytealg.MaxLen", "unicode/utf8.first", "unicode/utf8.acceptRanges", "errors.errorType"], apart := false, laid := [("unicode/utf8.acceptRanges", laid_unicode_utf8_acceptRanges), ("errors.errorType", laid_errors_errorType), ("unicode/utf8.first", laid_unicode_utf8_first)], narrowed := true }
def EditTwoUptoSaid : Prop := editTwoUptoRow.holds Tryz.pinned (OpenSpec.upto editTwoSpec)

/-- 'stanzakeeplaw09.EditDoes', WHERE WHAT IT READS IS OF BULK AT MOST 1048576: true; the input reads as it did. -/
def editDoesUptoRow : OpenClaim := { program := "ytbfhpimmlehkcaagreatdoor", sum := "d294e05c519a346a2b9c39c9dfeb445b3c890166693caea435c64c4e8691276d", func := "stanzakeep/stanzakeeplaw09.EditDoes", spec := "editDoes", inPlace := ["internal/bytealg.IndexByteString", "internal/bytealg.IndexString", "internal/abi.NoEscape", "internal/bytealg.MakeNoZero", "internal/reflectlite.ValueOf", "(internal/reflectlite.Value).Type", "(internal/reflectlite.Value).IsNil", "internal/reflectlite.TypeOf", "(internal/reflectlite.Value).Elem", "(internal/reflectlite.Value).Set", "internal/bytealg.CountString", "slices.overlaps[stanzakeep/list.entry]"], unfollowed := true, recurses := true, named := ["internal/bytealg.MaxLen", "unicode/utf8.first", "unicode/utf8.acceptRanges", "errors.errorType"], apart := false, laid := [("unicode/utf8.acceptRanges", laid_unicode_utf8_acceptRanges), ("errors.errorType", laid_errors_errorType), ("unicode/utf8.first", laid_unicode_utf8_first)], narrowed := true }
def EditDoesUptoSaid : Prop := editDoesUptoRow.holds Tryz.pinned (OpenSpec.upto editDoesSpec)

/-- 'stanzakeeplaw09.EditNone', WHERE WHAT IT READS IS OF BULK AT MOST 1048576: true; the input reads as it did. -/
def editNoneUptoRow : OpenClaim := { program := "ytbfhpimmlehkcaagreatdoor", sum := "d294e05c519a346a2b9c39c9dfeb445b3c890166693caea435c64c4e8691276d", func := "stanzakeep/stanzakeeplaw09.EditNone", spec := "editNone", inPlace := ["internal/bytealg.IndexByteString", "internal/bytealg.IndexString", "internal/abi.NoEscape", "internal/bytealg.MakeNoZero", "internal/reflectlite.ValueOf", "(internal/reflectlite.Value).Type", "(internal/reflectlite.Value).IsNil", "internal/reflectlite.TypeOf", "(internal/reflectlite.Value).Elem", "(internal/reflectlite.Value).Set", "internal/bytealg.CountString", "slices.overlaps[stanzakeep/list.entry]"], unfollowed := true, recurses := true, named := ["internal/bytealg.MaxLen", "unicode/utf8.first", "unicode/utf8.acceptRanges", "errors.errorType"], apart := false, laid := [("unicode/utf8.acceptRanges", laid_unicode_utf8_acceptRanges), ("errors.errorType", laid_errors_errorType), ("unicode/utf8.first", laid_unicode_utf8_first)], narrowed := true }
def EditNoneUptoSaid : Prop := editNoneUptoRow.holds Tryz.pinned (OpenSpec.upto editNoneSpec)

end Rows
end Go.Proofs.YtbfhpimmlehkcaaGreatDoor
