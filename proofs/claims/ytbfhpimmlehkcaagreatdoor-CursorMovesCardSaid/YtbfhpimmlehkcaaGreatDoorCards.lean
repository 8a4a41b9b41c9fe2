/-
  DERIVED. GIVEN WITH THE SEED: THE CARDS: each row of YtbfhpimmlehkcaaGreatDoorRows.lean that lists a variable, with what it lists TIED to the program's text (the seventh form; the later family's looks); each row that meets fmt, with fmt's text TOLD by the authors' own Lean function (tested against real Go, not proved from fmt's source: count such statements apart). THE CARD IS WHAT COUNTS. Prove the row's statement (the work); the ties are given (YtbfhpimmlehkcaaGreatDoorTie.lean); close each card by the builder's one call (the guide's Derived/Test/ToyasCard.lean, 'card_holds'). Laid BY PROGRAM, IN A SANDBOX (cutbox-door.mjs). By AI agents, Wed Nov 11 2026. No macro, syntax, notation, axiom, sorry.
-/
import Derived.Test.YtbfhpimmlehkcaaGreatDoorRows
import GoSem.ClaimSeven
namespace Go.Proofs.YtbfhpimmlehkcaaGreatDoor
namespace Rows

/-- THE TIED CARD OF 'stanzakeeplaw19.CursorMoves'. -/
def cursorMovesCard : Claim7 := { stood := { row := cursorMovesRow, standIns := [], harness := (true, "c8ec13611b719b19a49c94276075e8c03832adb221cc86fce106a5d9afefd6f2"), looks := true }, kinds := [], alts := [], laidByText := true, laidKinds := [.data, .pinned], laidTests := true, laidLooks := .later }
def CursorMovesCardSaid : Prop := Claim7.holds Tryz.pinned (.plain (OpenSpec.ofChange cursorMovesSpec)) cursorMovesCard

/-- THE TIED CARD OF 'stanzakeeplaw19.CursorPlays'. -/
def cursorPlaysCard : Claim7 := { stood := { row := cursorPlaysRow, standIns := [], harness := (true, "c8ec13611b719b19a49c94276075e8c03832adb221cc86fce106a5d9afefd6f2"), looks := true }, kinds := [], alts := [], laidByText := true, laidKinds := [.data, .pinned], laidTests := true, laidLooks := .later }
def CursorPlaysCardSaid : Prop := Claim7.holds Tryz.pinned (.plain (OpenSpec.ofChange cursorPlaysSpec)) cursorPlaysCard

/-- THE TIED CARD OF 'stanzakeeplaw09.EditChecks'. -/
def editChecksCard : Claim7 := { stood := { row := editChecksRow, standIns := [], harness := (true, "c8ec13611b719b19a49c94276075e8c03832adb221cc86fce106a5d9afefd6f2"), looks := true }, kinds := [], alts := [], laidByText := true, laidKinds := [.data, .handle, .pinned], laidTests := true, laidLooks := .later }
def EditChecksCardSaid : Prop := Claim7.holds Tryz.pinned (.plain (OpenSpec.ofChange editChecksSpec)) editChecksCard

/-- THE TIED CARD OF 'stanzakeeplaw09.EditTwo'. -/
def editTwoCard : Claim7 := { stood := { row := editTwoRow, standIns := [], harness := (true, "c8ec13611b719b19a49c94276075e8c03832adb221cc86fce106a5d9afefd6f2"), looks := true }, kinds := [], alts := [], laidByText := true, laidKinds := [.data, .handle, .pinned], laidTests := true, laidLooks := .later }
def EditTwoCardSaid : Prop := Claim7.holds Tryz.pinned (.plain (OpenSpec.ofChange editTwoSpec)) editTwoCard

/-- THE TIED CARD OF 'stanzakeeplaw09.EditDoes'. -/
def editDoesCard : Claim7 := { stood := { row := editDoesRow, standIns := [], harness := (true, "c8ec13611b719b19a49c94276075e8c03832adb221cc86fce106a5d9afefd6f2"), looks := true }, kinds := [], alts := [], laidByText := true, laidKinds := [.data, .handle, .pinned], laidTests := true, laidLooks := .later }
def EditDoesCardSaid : Prop := Claim7.holds Tryz.pinned (.plain (OpenSpec.ofChange editDoesSpec)) editDoesCard

/-- THE TIED CARD OF 'stanzakeeplaw09.EditNone'. -/
def editNoneCard : Claim7 := { stood := { row := editNoneRow, standIns := [], harness := (true, "c8ec13611b719b19a49c94276075e8c03832adb221cc86fce106a5d9afefd6f2"), looks := true }, kinds := [], alts := [], laidByText := true, laidKinds := [.data, .handle, .pinned], laidTests := true, laidLooks := .later }
def EditNoneCardSaid : Prop := Claim7.holds Tryz.pinned (.plain (OpenSpec.ofChange editNoneSpec)) editNoneCard

/-- THE SECOND FORM's CARD OF 'stanzakeeplaw19.CursorMoves'. -/
def cursorMovesUptoCard : Claim7 := { stood := { row := cursorMovesUptoRow, standIns := [], harness := (true, "c8ec13611b719b19a49c94276075e8c03832adb221cc86fce106a5d9afefd6f2"), looks := true }, kinds := [], alts := [], laidByText := true, laidKinds := [.data, .pinned], laidTests := true, laidLooks := .later }
def CursorMovesUptoCardSaid : Prop := Claim7.holds Tryz.pinned (.plain (OpenSpec.upto cursorMovesSpec)) cursorMovesUptoCard

/-- THE SECOND FORM's CARD OF 'stanzakeeplaw19.CursorPlays'. -/
def cursorPlaysUptoCard : Claim7 := { stood := { row := cursorPlaysUptoRow, standIns := [], harness := (true, "c8ec13611b719b19a49c94276075e8c03832adb221cc86fce106a5d9afefd6f2"), looks := true }, kinds := [], alts := [], laidByText := true, laidKinds := [.data, .pinned], laidTests := true, laidLooks := .later }
def CursorPlaysUptoCardSaid : Prop := Claim7.holds Tryz.pinned (.plain (OpenSpec.upto cursorPlaysSpec)) cursorPlaysUptoCard

/-- THE SECOND FORM's CARD OF 'stanzakeeplaw09.EditChecks'. -/
def editChecksUptoCard : Claim7 := { stood := { row := editChecksUptoRow, standIns := [], harness := (true, "c8ec13611b719b19a49c94276075e8c03832adb221cc86fce106a5d9afefd6f2"), looks := true }, kinds := [], alts := [], laidByText := true, laidKinds := [.data, .handle, .pinned], laidTests := true, laidLooks := .later }
def EditChecksUptoCardSaid : Prop := Claim7.holds Tryz.pinned (.plain (OpenSpec.upto editChecksSpec)) editChecksUptoCard

/-- THE SECOND FORM's CARD OF 'stanzakeeplaw09.EditTwo'. -/
def editTwoUptoCard : Claim7 := { stood := { row := editTwoUptoRow, standIns := [], harness := (true, "c8ec13611b719b19a49c94276075e8c03832adb221cc86fce106a5d9afefd6f2"), looks := true }, kinds := [], alts := [], laidByText := true, laidKinds := [.data, .handle, .pinned], laidTests := true, laidLooks := .later }
def EditTwoUptoCardSaid : Prop := Claim7.holds Tryz.pinned (.plain (OpenSpec.upto editTwoSpec)) editTwoUptoCard

/-- THE SECOND FORM's CARD OF 'stanzakeeplaw09.EditDoes'. -/
def editDoesUptoCard : Claim7 := { stood := { row := editDoesUptoRow, standIns := [], harness := (true, "c8ec13611b719b19a49c94276075e8c03832adb221cc86fce106a5d9afefd6f2"), looks := true }, kinds := [], alts := [], laidByText := true, laidKinds := [.data, .handle, .pinned], laidTests := true, laidLooks := .later }
def EditDoesUptoCardSaid : Prop := Claim7.holds Tryz.pinned (.plain (OpenSpec.upto editDoesSpec)) editDoesUptoCard

/-- THE SECOND FORM's CARD OF 'stanzakeeplaw09.EditNone'. -/
def editNoneUptoCard : Claim7 := { stood := { row := editNoneUptoRow, standIns := [], harness := (true, "c8ec13611b719b19a49c94276075e8c03832adb221cc86fce106a5d9afefd6f2"), looks := true }, kinds := [], alts := [], laidByText := true, laidKinds := [.data, .handle, .pinned], laidTests := true, laidLooks := .later }
def EditNoneUptoCardSaid : Prop := Claim7.holds Tryz.pinned (.plain (OpenSpec.upto editNoneSpec)) editNoneUptoCard
end Rows
end Go.Proofs.YtbfhpimmlehkcaaGreatDoor
