/-
  DERIVED. GIVEN WITH THE SEED: THE CARDS: each row of YtehmiepjeffloaaGreatDoorRows.lean that lists a variable, with what it lists TIED to the program's text (the seventh form; the later family's looks); each row that meets fmt, with fmt's text TOLD by the authors' own Lean function (tested against real Go, not proved from fmt's source: count such statements apart). THE CARD IS WHAT COUNTS. Prove the row's statement (the work); the ties are given (YtehmiepjeffloaaGreatDoorTie.lean); close each card by the builder's one call (the guide's Derived/Test/ToyasCard.lean, 'card_holds'). Laid BY PROGRAM, IN A SANDBOX (cutbox-door.mjs). By AI agents, Wed Nov 11 2026. No macro, syntax, notation, axiom, sorry.
-/
import Derived.Test.YtehmiepjeffloaaGreatDoorRows
import GoSem.ClaimSeven
namespace Go.Proofs.YtehmiepjeffloaaGreatDoor
namespace Rows

/-- THE TIED CARD OF 'stanzakeeplaw28.SheetExports'. -/
def sheetExportsCard : Claim7 := { stood := { row := sheetExportsRow, standIns := [], harness := (true, "972f3939735e0fd12a88b76a5d47126a0e577939f7c8886b5afff5670ac17caf"), looks := true }, kinds := [], alts := [], laidByText := true, laidKinds := [.data, .pinned], laidTests := true, laidLooks := .later }
def SheetExportsCardSaid : Prop := Claim7.holds Tryz.pinned (.plain (OpenSpec.ofChange sheetExportsSpec)) sheetExportsCard

/-- THE TIED CARD OF 'stanzakeeplaw28.SheetEdits'. -/
def sheetEditsCard : Claim7 := { stood := { row := sheetEditsRow, standIns := [], harness := (true, "972f3939735e0fd12a88b76a5d47126a0e577939f7c8886b5afff5670ac17caf"), looks := true }, kinds := [], alts := [], laidByText := true, laidKinds := [.data, .pinned], laidTests := true, laidLooks := .later }
def SheetEditsCardSaid : Prop := Claim7.holds Tryz.pinned (.plain (OpenSpec.ofChange sheetEditsSpec)) sheetEditsCard

/-- THE TIED CARD OF 'stanzakeeplaw28.SheetBack'. -/
def sheetBackCard : Claim7 := { stood := { row := sheetBackRow, standIns := [], harness := (true, "972f3939735e0fd12a88b76a5d47126a0e577939f7c8886b5afff5670ac17caf"), looks := true }, kinds := [], alts := [], laidByText := true, laidKinds := [.data, .pinned], laidTests := true, laidLooks := .later }
def SheetBackCardSaid : Prop := Claim7.holds Tryz.pinned (.plain (OpenSpec.ofChange sheetBackSpec)) sheetBackCard

/-- THE SECOND FORM's CARD OF 'stanzakeeplaw28.SheetExports'. -/
def sheetExportsUptoCard : Claim7 := { stood := { row := sheetExportsUptoRow, standIns := [], harness := (true, "972f3939735e0fd12a88b76a5d47126a0e577939f7c8886b5afff5670ac17caf"), looks := true }, kinds := [], alts := [], laidByText := true, laidKinds := [.data, .pinned], laidTests := true, laidLooks := .later }
def SheetExportsUptoCardSaid : Prop := Claim7.holds Tryz.pinned (.plain (OpenSpec.upto sheetExportsSpec)) sheetExportsUptoCard

/-- THE SECOND FORM's CARD OF 'stanzakeeplaw28.SheetEdits'. -/
def sheetEditsUptoCard : Claim7 := { stood := { row := sheetEditsUptoRow, standIns := [], harness := (true, "972f3939735e0fd12a88b76a5d47126a0e577939f7c8886b5afff5670ac17caf"), looks := true }, kinds := [], alts := [], laidByText := true, laidKinds := [.data, .pinned], laidTests := true, laidLooks := .later }
def SheetEditsUptoCardSaid : Prop := Claim7.holds Tryz.pinned (.plain (OpenSpec.upto sheetEditsSpec)) sheetEditsUptoCard

/-- THE SECOND FORM's CARD OF 'stanzakeeplaw28.SheetBack'. -/
def sheetBackUptoCard : Claim7 := { stood := { row := sheetBackUptoRow, standIns := [], harness := (true, "972f3939735e0fd12a88b76a5d47126a0e577939f7c8886b5afff5670ac17caf"), looks := true }, kinds := [], alts := [], laidByText := true, laidKinds := [.data, .pinned], laidTests := true, laidLooks := .later }
def SheetBackUptoCardSaid : Prop := Claim7.holds Tryz.pinned (.plain (OpenSpec.upto sheetBackSpec)) sheetBackUptoCard
end Rows
end Go.Proofs.YtehmiepjeffloaaGreatDoor
