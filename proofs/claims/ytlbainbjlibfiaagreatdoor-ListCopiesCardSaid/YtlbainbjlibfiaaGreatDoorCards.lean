/-
  DERIVED. GIVEN WITH THE SEED: THE CARDS: each row of YtlbainbjlibfiaaGreatDoorRows.lean that lists a variable, with what it lists TIED to the program's text (the seventh form; the later family's looks); each row that meets fmt, with fmt's text TOLD by the authors' own Lean function (tested against real Go, not proved from fmt's source: count such statements apart). THE CARD IS WHAT COUNTS. Prove the row's statement (the work); the ties are given (YtlbainbjlibfiaaGreatDoorTie.lean); close each card by the builder's one call (the guide's Derived/Test/ToyasCard.lean, 'card_holds'). Laid BY PROGRAM, IN A SANDBOX (cutbox-door.mjs). By AI agents, Wed Nov 11 2026. No macro, syntax, notation, axiom, sorry.
-/
import Derived.Test.YtlbainbjlibfiaaGreatDoorRows
import GoSem.ClaimSeven
namespace Go.Proofs.YtlbainbjlibfiaaGreatDoor
namespace Rows

/-- THE TIED CARD OF 'stanzakeeplaw19.CursorMoves'. -/
def cursorMovesCard : Claim7 := { stood := { row := cursorMovesRow, standIns := [], harness := (true, "48b772c352fd99ddd161f72fd55753f9a19fa76a64d888afb6a3d1310078d562"), looks := true }, kinds := [], alts := [], laidByText := true, laidKinds := [.data, .pinned], laidTests := true, laidLooks := .later }
def CursorMovesCardSaid : Prop := Claim7.holds Tryz.pinned (.plain (OpenSpec.ofChange cursorMovesSpec)) cursorMovesCard

/-- THE TIED CARD OF 'stanzakeeplaw07.ListPlays'. -/
def listPlaysCard : Claim7 := { stood := { row := listPlaysRow, standIns := [], harness := (true, "48b772c352fd99ddd161f72fd55753f9a19fa76a64d888afb6a3d1310078d562"), looks := true }, kinds := [], alts := [], laidByText := true, laidKinds := [.data, .pinned], laidTests := true, laidLooks := .later }
def ListPlaysCardSaid : Prop := Claim7.holds Tryz.pinned (.plain (OpenSpec.ofChange listPlaysSpec)) listPlaysCard

/-- THE TIED CARD OF 'stanzakeeplaw07.ListCopies'. -/
def listCopiesCard : Claim7 := { stood := { row := listCopiesRow, standIns := [], harness := (true, "48b772c352fd99ddd161f72fd55753f9a19fa76a64d888afb6a3d1310078d562"), looks := true }, kinds := [], alts := [], laidByText := true, laidKinds := [.data, .pinned], laidTests := true, laidLooks := .later }
def ListCopiesCardSaid : Prop := Claim7.holds Tryz.pinned (.plain (OpenSpec.ofChange listCopiesSpec)) listCopiesCard

/-- THE TIED CARD OF 'stanzakeeplaw19.CursorPlays'. -/
def cursorPlaysCard : Claim7 := { stood := { row := cursorPlaysRow, standIns := [], harness := (true, "48b772c352fd99ddd161f72fd55753f9a19fa76a64d888afb6a3d1310078d562"), looks := true }, kinds := [], alts := [], laidByText := true, laidKinds := [.data, .pinned], laidTests := true, laidLooks := .later }
def CursorPlaysCardSaid : Prop := Claim7.holds Tryz.pinned (.plain (OpenSpec.ofChange cursorPlaysSpec)) cursorPlaysCard

/-- THE SECOND FORM's CARD OF 'stanzakeeplaw19.CursorMoves'. -/
def cursorMovesUptoCard : Claim7 := { stood := { row := cursorMovesUptoRow, standIns := [], harness := (true, "48b772c352fd99ddd161f72fd55753f9a19fa76a64d888afb6a3d1310078d562"), looks := true }, kinds := [], alts := [], laidByText := true, laidKinds := [.data, .pinned], laidTests := true, laidLooks := .later }
def CursorMovesUptoCardSaid : Prop := Claim7.holds Tryz.pinned (.plain (OpenSpec.upto cursorMovesSpec)) cursorMovesUptoCard

/-- THE SECOND FORM's CARD OF 'stanzakeeplaw07.ListPlays'. -/
def listPlaysUptoCard : Claim7 := { stood := { row := listPlaysUptoRow, standIns := [], harness := (true, "48b772c352fd99ddd161f72fd55753f9a19fa76a64d888afb6a3d1310078d562"), looks := true }, kinds := [], alts := [], laidByText := true, laidKinds := [.data, .pinned], laidTests := true, laidLooks := .later }
def ListPlaysUptoCardSaid : Prop := Claim7.holds Tryz.pinned (.plain (OpenSpec.upto listPlaysSpec)) listPlaysUptoCard

/-- THE SECOND FORM's CARD OF 'stanzakeeplaw07.ListCopies'. -/
def listCopiesUptoCard : Claim7 := { stood := { row := listCopiesUptoRow, standIns := [], harness := (true, "48b772c352fd99ddd161f72fd55753f9a19fa76a64d888afb6a3d1310078d562"), looks := true }, kinds := [], alts := [], laidByText := true, laidKinds := [.data, .pinned], laidTests := true, laidLooks := .later }
def ListCopiesUptoCardSaid : Prop := Claim7.holds Tryz.pinned (.plain (OpenSpec.upto listCopiesSpec)) listCopiesUptoCard

/-- THE SECOND FORM's CARD OF 'stanzakeeplaw19.CursorPlays'. -/
def cursorPlaysUptoCard : Claim7 := { stood := { row := cursorPlaysUptoRow, standIns := [], harness := (true, "48b772c352fd99ddd161f72fd55753f9a19fa76a64d888afb6a3d1310078d562"), looks := true }, kinds := [], alts := [], laidByText := true, laidKinds := [.data, .pinned], laidTests := true, laidLooks := .later }
def CursorPlaysUptoCardSaid : Prop := Claim7.holds Tryz.pinned (.plain (OpenSpec.upto cursorPlaysSpec)) cursorPlaysUptoCard
end Rows
end Go.Proofs.YtlbainbjlibfiaaGreatDoor
