/-
  DERIVED. GIVEN WITH THE SEED: THE CARDS: each row of YtehmiepjeffloaaDoorRows.lean that lists a variable, with what it lists TIED to the program's text (the seventh form; the later family's looks); each row that meets fmt, with fmt's text TOLD by the authors' own Lean function (tested against real Go, not proved from fmt's source: count such statements apart). THE CARD IS WHAT COUNTS. Prove the row's statement (the work); the ties are given (YtehmiepjeffloaaDoorTie.lean); close each card by the builder's one call (the guide's Derived/Test/ToyasCard.lean, 'card_holds'). Laid BY PROGRAM, IN A SANDBOX (cutbox-door.mjs). By AI agents, Wed Nov 11 2026. No macro, syntax, notation, axiom, sorry.
-/
import Derived.Test.YtehmiepjeffloaaDoorRows
import GoSem.ClaimSeven
namespace Go.Proofs.YtehmiepjeffloaaDoor
namespace Rows

/-- THE TIED CARD OF 'stanzakeeplaw28.SheetWrites'. -/
def sheetWritesCard : Claim7 := { stood := { row := sheetWritesRow, standIns := [], harness := (true, "e79e019f78a1d51036923cf8e191b9ed210eeabbf81226b4ee63317364978235"), looks := true }, kinds := [], alts := [], laidByText := true, laidKinds := [.data, .pinned], laidTests := true, laidLooks := .later }
def SheetWritesCardSaid : Prop := Claim7.holds Tryd.pinned (.plain (OpenSpec.ofChange sheetWritesSpec)) sheetWritesCard

/-- THE TIED CARD OF 'stanzakeeplaw28.SheetReads'. -/
def sheetReadsCard : Claim7 := { stood := { row := sheetReadsRow, standIns := [], harness := (true, "e79e019f78a1d51036923cf8e191b9ed210eeabbf81226b4ee63317364978235"), looks := true }, kinds := [], alts := [], laidByText := true, laidKinds := [.data, .pinned], laidTests := true, laidLooks := .later }
def SheetReadsCardSaid : Prop := Claim7.holds Tryd.pinned (.plain (OpenSpec.ofChange sheetReadsSpec)) sheetReadsCard

/-- THE SECOND FORM's CARD OF 'stanzakeeplaw28.SheetWrites'. -/
def sheetWritesUptoCard : Claim7 := { stood := { row := sheetWritesUptoRow, standIns := [], harness := (true, "e79e019f78a1d51036923cf8e191b9ed210eeabbf81226b4ee63317364978235"), looks := true }, kinds := [], alts := [], laidByText := true, laidKinds := [.data, .pinned], laidTests := true, laidLooks := .later }
def SheetWritesUptoCardSaid : Prop := Claim7.holds Tryd.pinned (.plain (OpenSpec.upto sheetWritesSpec)) sheetWritesUptoCard

/-- THE SECOND FORM's CARD OF 'stanzakeeplaw28.SheetReads'. -/
def sheetReadsUptoCard : Claim7 := { stood := { row := sheetReadsUptoRow, standIns := [], harness := (true, "e79e019f78a1d51036923cf8e191b9ed210eeabbf81226b4ee63317364978235"), looks := true }, kinds := [], alts := [], laidByText := true, laidKinds := [.data, .pinned], laidTests := true, laidLooks := .later }
def SheetReadsUptoCardSaid : Prop := Claim7.holds Tryd.pinned (.plain (OpenSpec.upto sheetReadsSpec)) sheetReadsUptoCard
end Rows
end Go.Proofs.YtehmiepjeffloaaDoor
