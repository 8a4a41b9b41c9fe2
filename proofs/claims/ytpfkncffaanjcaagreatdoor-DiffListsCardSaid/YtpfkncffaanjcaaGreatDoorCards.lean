/-
  DERIVED. GIVEN WITH THE SEED: THE CARDS: each row of YtpfkncffaanjcaaGreatDoorRows.lean that lists a variable, with what it lists TIED to the program's text (the seventh form; the later family's looks); each row that meets fmt, with fmt's text TOLD by the authors' own Lean function (tested against real Go, not proved from fmt's source: count such statements apart). THE CARD IS WHAT COUNTS. Prove the row's statement (the work); the ties are given (YtpfkncffaanjcaaGreatDoorTie.lean); close each card by the builder's one call (the guide's Derived/Test/ToyasCard.lean, 'card_holds'). Laid BY PROGRAM, IN A SANDBOX (cutbox-door.mjs). By AI agents, Wed Nov 11 2026. No macro, syntax, notation, axiom, sorry.
-/
import Derived.Test.YtpfkncffaanjcaaGreatDoorRows
import GoSem.ClaimSeven
namespace Go.Proofs.YtpfkncffaanjcaaGreatDoor
namespace Rows

/-- THE TIED CARD OF 'stanzakeeplaw09.EditDoes'. -/
def editDoesCard : Claim7 := { stood := { row := editDoesRow, standIns := [], harness := (true, "b2e7ea2ba9742c13b09e4b8304d7ff034e54e05a5ebdca4af8f9bc358187cbc3"), looks := true }, kinds := [], alts := [], laidByText := true, laidKinds := [.data, .handle, .pinned], laidTests := true, laidLooks := .later }
def EditDoesCardSaid : Prop := Claim7.holds Tryz.pinned (.plain (OpenSpec.ofChange editDoesSpec)) editDoesCard

/-- THE TIED CARD OF 'stanzakeeplaw23.MergeTaken'. -/
def mergeTakenCard : Claim7 := { stood := { row := mergeTakenRow, standIns := [], harness := (true, "b2e7ea2ba9742c13b09e4b8304d7ff034e54e05a5ebdca4af8f9bc358187cbc3"), looks := true }, kinds := [], alts := [], laidByText := true, laidKinds := [.data, .handle, .pinned], laidTests := true, laidLooks := .later }
def MergeTakenCardSaid : Prop := Claim7.holds Tryz.pinned (.plain (OpenSpec.ofChange mergeTakenSpec)) mergeTakenCard

/-- THE TIED CARD OF 'stanzakeeplaw23.MergeApart'. -/
def mergeApartCard : Claim7 := { stood := { row := mergeApartRow, standIns := [], harness := (true, "b2e7ea2ba9742c13b09e4b8304d7ff034e54e05a5ebdca4af8f9bc358187cbc3"), looks := true }, kinds := [], alts := [], laidByText := true, laidKinds := [.data, .handle, .pinned], laidTests := true, laidLooks := .later }
def MergeApartCardSaid : Prop := Claim7.holds Tryz.pinned (.plain (OpenSpec.ofChange mergeApartSpec)) mergeApartCard

/-- THE TIED CARD OF 'stanzakeeplaw23.MergeBoth'. -/
def mergeBothCard : Claim7 := { stood := { row := mergeBothRow, standIns := [], harness := (true, "b2e7ea2ba9742c13b09e4b8304d7ff034e54e05a5ebdca4af8f9bc358187cbc3"), looks := true }, kinds := [], alts := [], laidByText := true, laidKinds := [.data, .handle, .pinned], laidTests := true, laidLooks := .later }
def MergeBothCardSaid : Prop := Claim7.holds Tryz.pinned (.plain (OpenSpec.ofChange mergeBothSpec)) mergeBothCard

/-- THE TIED CARD OF 'stanzakeeplaw22.DiffEdits'. -/
def diffEditsCard : Claim7 := { stood := { row := diffEditsRow, standIns := [], harness := (true, "b2e7ea2ba9742c13b09e4b8304d7ff034e54e05a5ebdca4af8f9bc358187cbc3"), looks := true }, kinds := [], alts := [], laidByText := true, laidKinds := [.data, .handle, .pinned], laidTests := true, laidLooks := .later }
def DiffEditsCardSaid : Prop := Claim7.holds Tryz.pinned (.plain (OpenSpec.ofChange diffEditsSpec)) diffEditsCard

/-- THE TIED CARD OF 'stanzakeeplaw22.DiffLists'. -/
def diffListsCard : Claim7 := { stood := { row := diffListsRow, standIns := [], harness := (true, "b2e7ea2ba9742c13b09e4b8304d7ff034e54e05a5ebdca4af8f9bc358187cbc3"), looks := true }, kinds := [], alts := [], laidByText := true, laidKinds := [.data, .handle, .pinned], laidTests := true, laidLooks := .later }
def DiffListsCardSaid : Prop := Claim7.holds Tryz.pinned (.plain (OpenSpec.ofChange diffListsSpec)) diffListsCard

/-- THE SECOND FORM's CARD OF 'stanzakeeplaw09.EditDoes'. -/
def editDoesUptoCard : Claim7 := { stood := { row := editDoesUptoRow, standIns := [], harness := (true, "b2e7ea2ba9742c13b09e4b8304d7ff034e54e05a5ebdca4af8f9bc358187cbc3"), looks := true }, kinds := [], alts := [], laidByText := true, laidKinds := [.data, .handle, .pinned], laidTests := true, laidLooks := .later }
def EditDoesUptoCardSaid : Prop := Claim7.holds Tryz.pinned (.plain (OpenSpec.upto editDoesSpec)) editDoesUptoCard

/-- THE SECOND FORM's CARD OF 'stanzakeeplaw23.MergeTaken'. -/
def mergeTakenUptoCard : Claim7 := { stood := { row := mergeTakenUptoRow, standIns := [], harness := (true, "b2e7ea2ba9742c13b09e4b8304d7ff034e54e05a5ebdca4af8f9bc358187cbc3"), looks := true }, kinds := [], alts := [], laidByText := true, laidKinds := [.data, .handle, .pinned], laidTests := true, laidLooks := .later }
def MergeTakenUptoCardSaid : Prop := Claim7.holds Tryz.pinned (.plain (OpenSpec.upto mergeTakenSpec)) mergeTakenUptoCard

/-- THE SECOND FORM's CARD OF 'stanzakeeplaw23.MergeApart'. -/
def mergeApartUptoCard : Claim7 := { stood := { row := mergeApartUptoRow, standIns := [], harness := (true, "b2e7ea2ba9742c13b09e4b8304d7ff034e54e05a5ebdca4af8f9bc358187cbc3"), looks := true }, kinds := [], alts := [], laidByText := true, laidKinds := [.data, .handle, .pinned], laidTests := true, laidLooks := .later }
def MergeApartUptoCardSaid : Prop := Claim7.holds Tryz.pinned (.plain (OpenSpec.upto mergeApartSpec)) mergeApartUptoCard

/-- THE SECOND FORM's CARD OF 'stanzakeeplaw23.MergeBoth'. -/
def mergeBothUptoCard : Claim7 := { stood := { row := mergeBothUptoRow, standIns := [], harness := (true, "b2e7ea2ba9742c13b09e4b8304d7ff034e54e05a5ebdca4af8f9bc358187cbc3"), looks := true }, kinds := [], alts := [], laidByText := true, laidKinds := [.data, .handle, .pinned], laidTests := true, laidLooks := .later }
def MergeBothUptoCardSaid : Prop := Claim7.holds Tryz.pinned (.plain (OpenSpec.upto mergeBothSpec)) mergeBothUptoCard

/-- THE SECOND FORM's CARD OF 'stanzakeeplaw22.DiffEdits'. -/
def diffEditsUptoCard : Claim7 := { stood := { row := diffEditsUptoRow, standIns := [], harness := (true, "b2e7ea2ba9742c13b09e4b8304d7ff034e54e05a5ebdca4af8f9bc358187cbc3"), looks := true }, kinds := [], alts := [], laidByText := true, laidKinds := [.data, .handle, .pinned], laidTests := true, laidLooks := .later }
def DiffEditsUptoCardSaid : Prop := Claim7.holds Tryz.pinned (.plain (OpenSpec.upto diffEditsSpec)) diffEditsUptoCard

/-- THE SECOND FORM's CARD OF 'stanzakeeplaw22.DiffLists'. -/
def diffListsUptoCard : Claim7 := { stood := { row := diffListsUptoRow, standIns := [], harness := (true, "b2e7ea2ba9742c13b09e4b8304d7ff034e54e05a5ebdca4af8f9bc358187cbc3"), looks := true }, kinds := [], alts := [], laidByText := true, laidKinds := [.data, .handle, .pinned], laidTests := true, laidLooks := .later }
def DiffListsUptoCardSaid : Prop := Claim7.holds Tryz.pinned (.plain (OpenSpec.upto diffListsSpec)) diffListsUptoCard
end Rows
end Go.Proofs.YtpfkncffaanjcaaGreatDoor
