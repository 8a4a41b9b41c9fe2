/-
  DERIVED. GIVEN WITH THE SEED: THE CARDS: each row of YtnimhpgacmojiaaGreatDoorRows.lean that lists a variable, with what it lists TIED to the program's text (the seventh form; the later family's looks); each row that meets fmt, with fmt's text TOLD by the authors' own Lean function (tested against real Go, not proved from fmt's source: count such statements apart). THE CARD IS WHAT COUNTS. Prove the row's statement (the work); the ties are given (YtnimhpgacmojiaaGreatDoorTie.lean); close each card by the builder's one call (the guide's Derived/Test/ToyasCard.lean, 'card_holds'). Laid BY PROGRAM, IN A SANDBOX (cutbox-door.mjs). By AI agents, Wed Nov 11 2026. No macro, syntax, notation, axiom, sorry.
-/
import Derived.Test.YtnimhpgacmojiaaGreatDoorRows
import GoSem.ClaimSeven
namespace Go.Proofs.YtnimhpgacmojiaaGreatDoor
namespace Rows

/-- THE TIED CARD OF 'stanzakeeplaw19.CursorNone'. -/
def cursorNoneCard : Claim7 := { stood := { row := cursorNoneRow, standIns := [], harness := (true, "f4619ba76f0696acf0f15ddfdf57e535a09703ec5c9b6b525a1cfe3e86023a64"), looks := true }, kinds := [], alts := [], laidByText := true, laidKinds := [.data, .pinned], laidTests := true, laidLooks := .later }
def CursorNoneCardSaid : Prop := Claim7.holds Tryz.pinned (.plain (OpenSpec.ofChange cursorNoneSpec)) cursorNoneCard

/-- THE TIED CARD OF 'stanzakeeplaw19.CursorTells'. -/
def cursorTellsCard : Claim7 := { stood := { row := cursorTellsRow, standIns := [], harness := (true, "f4619ba76f0696acf0f15ddfdf57e535a09703ec5c9b6b525a1cfe3e86023a64"), looks := true }, kinds := [], alts := [], laidByText := true, laidKinds := [.data, .pinned], laidTests := true, laidLooks := .later }
def CursorTellsCardSaid : Prop := Claim7.holds Tryz.pinned (.plain (OpenSpec.ofChange cursorTellsSpec)) cursorTellsCard

/-- THE TIED CARD OF 'stanzakeeplaw19.CursorMoves'. -/
def cursorMovesCard : Claim7 := { stood := { row := cursorMovesRow, standIns := [], harness := (true, "f4619ba76f0696acf0f15ddfdf57e535a09703ec5c9b6b525a1cfe3e86023a64"), looks := true }, kinds := [], alts := [], laidByText := true, laidKinds := [.data, .pinned], laidTests := true, laidLooks := .later }
def CursorMovesCardSaid : Prop := Claim7.holds Tryz.pinned (.plain (OpenSpec.ofChange cursorMovesSpec)) cursorMovesCard

/-- THE TIED CARD OF 'stanzakeeplaw07.ListVerbatim'. -/
def listVerbatimCard : Claim7 := { stood := { row := listVerbatimRow, standIns := [], harness := (true, "f4619ba76f0696acf0f15ddfdf57e535a09703ec5c9b6b525a1cfe3e86023a64"), looks := true }, kinds := [], alts := [], laidByText := true, laidKinds := [.data, .pinned], laidTests := true, laidLooks := .later }
def ListVerbatimCardSaid : Prop := Claim7.holds Tryz.pinned (.plain (OpenSpec.ofChange listVerbatimSpec)) listVerbatimCard

/-- THE TIED CARD OF 'stanzakeeplaw07.ListParses'. -/
def listParsesCard : Claim7 := { stood := { row := listParsesRow, standIns := [], harness := (true, "f4619ba76f0696acf0f15ddfdf57e535a09703ec5c9b6b525a1cfe3e86023a64"), looks := true }, kinds := [], alts := [], laidByText := true, laidKinds := [.data, .pinned], laidTests := true, laidLooks := .later }
def ListParsesCardSaid : Prop := Claim7.holds Tryz.pinned (.plain (OpenSpec.ofChange listParsesSpec)) listParsesCard

/-- THE TIED CARD OF 'stanzakeeplaw07.ListNumbers'. -/
def listNumbersCard : Claim7 := { stood := { row := listNumbersRow, standIns := [], harness := (true, "f4619ba76f0696acf0f15ddfdf57e535a09703ec5c9b6b525a1cfe3e86023a64"), looks := true }, kinds := [], alts := [], laidByText := true, laidKinds := [.data, .pinned], laidTests := true, laidLooks := .later }
def ListNumbersCardSaid : Prop := Claim7.holds Tryz.pinned (.plain (OpenSpec.ofChange listNumbersSpec)) listNumbersCard

/-- THE TIED CARD OF 'stanzakeeplaw07.ListPlays'. -/
def listPlaysCard : Claim7 := { stood := { row := listPlaysRow, standIns := [], harness := (true, "f4619ba76f0696acf0f15ddfdf57e535a09703ec5c9b6b525a1cfe3e86023a64"), looks := true }, kinds := [], alts := [], laidByText := true, laidKinds := [.data, .pinned], laidTests := true, laidLooks := .later }
def ListPlaysCardSaid : Prop := Claim7.holds Tryz.pinned (.plain (OpenSpec.ofChange listPlaysSpec)) listPlaysCard

/-- THE TIED CARD OF 'stanzakeeplaw07.ListCopies'. -/
def listCopiesCard : Claim7 := { stood := { row := listCopiesRow, standIns := [], harness := (true, "f4619ba76f0696acf0f15ddfdf57e535a09703ec5c9b6b525a1cfe3e86023a64"), looks := true }, kinds := [], alts := [], laidByText := true, laidKinds := [.data, .pinned], laidTests := true, laidLooks := .later }
def ListCopiesCardSaid : Prop := Claim7.holds Tryz.pinned (.plain (OpenSpec.ofChange listCopiesSpec)) listCopiesCard

/-- THE TIED CARD OF 'stanzakeeplaw19.CursorPlays'. -/
def cursorPlaysCard : Claim7 := { stood := { row := cursorPlaysRow, standIns := [], harness := (true, "f4619ba76f0696acf0f15ddfdf57e535a09703ec5c9b6b525a1cfe3e86023a64"), looks := true }, kinds := [], alts := [], laidByText := true, laidKinds := [.data, .pinned], laidTests := true, laidLooks := .later }
def CursorPlaysCardSaid : Prop := Claim7.holds Tryz.pinned (.plain (OpenSpec.ofChange cursorPlaysSpec)) cursorPlaysCard

/-- THE SECOND FORM's CARD OF 'stanzakeeplaw19.CursorNone'. -/
def cursorNoneUptoCard : Claim7 := { stood := { row := cursorNoneUptoRow, standIns := [], harness := (true, "f4619ba76f0696acf0f15ddfdf57e535a09703ec5c9b6b525a1cfe3e86023a64"), looks := true }, kinds := [], alts := [], laidByText := true, laidKinds := [.data, .pinned], laidTests := true, laidLooks := .later }
def CursorNoneUptoCardSaid : Prop := Claim7.holds Tryz.pinned (.plain (OpenSpec.upto cursorNoneSpec)) cursorNoneUptoCard

/-- THE SECOND FORM's CARD OF 'stanzakeeplaw19.CursorTells'. -/
def cursorTellsUptoCard : Claim7 := { stood := { row := cursorTellsUptoRow, standIns := [], harness := (true, "f4619ba76f0696acf0f15ddfdf57e535a09703ec5c9b6b525a1cfe3e86023a64"), looks := true }, kinds := [], alts := [], laidByText := true, laidKinds := [.data, .pinned], laidTests := true, laidLooks := .later }
def CursorTellsUptoCardSaid : Prop := Claim7.holds Tryz.pinned (.plain (OpenSpec.upto cursorTellsSpec)) cursorTellsUptoCard

/-- THE SECOND FORM's CARD OF 'stanzakeeplaw19.CursorMoves'. -/
def cursorMovesUptoCard : Claim7 := { stood := { row := cursorMovesUptoRow, standIns := [], harness := (true, "f4619ba76f0696acf0f15ddfdf57e535a09703ec5c9b6b525a1cfe3e86023a64"), looks := true }, kinds := [], alts := [], laidByText := true, laidKinds := [.data, .pinned], laidTests := true, laidLooks := .later }
def CursorMovesUptoCardSaid : Prop := Claim7.holds Tryz.pinned (.plain (OpenSpec.upto cursorMovesSpec)) cursorMovesUptoCard

/-- THE SECOND FORM's CARD OF 'stanzakeeplaw07.ListVerbatim'. -/
def listVerbatimUptoCard : Claim7 := { stood := { row := listVerbatimUptoRow, standIns := [], harness := (true, "f4619ba76f0696acf0f15ddfdf57e535a09703ec5c9b6b525a1cfe3e86023a64"), looks := true }, kinds := [], alts := [], laidByText := true, laidKinds := [.data, .pinned], laidTests := true, laidLooks := .later }
def ListVerbatimUptoCardSaid : Prop := Claim7.holds Tryz.pinned (.plain (OpenSpec.upto listVerbatimSpec)) listVerbatimUptoCard

/-- THE SECOND FORM's CARD OF 'stanzakeeplaw07.ListParses'. -/
def listParsesUptoCard : Claim7 := { stood := { row := listParsesUptoRow, standIns := [], harness := (true, "f4619ba76f0696acf0f15ddfdf57e535a09703ec5c9b6b525a1cfe3e86023a64"), looks := true }, kinds := [], alts := [], laidByText := true, laidKinds := [.data, .pinned], laidTests := true, laidLooks := .later }
def ListParsesUptoCardSaid : Prop := Claim7.holds Tryz.pinned (.plain (OpenSpec.upto listParsesSpec)) listParsesUptoCard

/-- THE SECOND FORM's CARD OF 'stanzakeeplaw07.ListNumbers'. -/
def listNumbersUptoCard : Claim7 := { stood := { row := listNumbersUptoRow, standIns := [], harness := (true, "f4619ba76f0696acf0f15ddfdf57e535a09703ec5c9b6b525a1cfe3e86023a64"), looks := true }, kinds := [], alts := [], laidByText := true, laidKinds := [.data, .pinned], laidTests := true, laidLooks := .later }
def ListNumbersUptoCardSaid : Prop := Claim7.holds Tryz.pinned (.plain (OpenSpec.upto listNumbersSpec)) listNumbersUptoCard

/-- THE SECOND FORM's CARD OF 'stanzakeeplaw07.ListPlays'. -/
def listPlaysUptoCard : Claim7 := { stood := { row := listPlaysUptoRow, standIns := [], harness := (true, "f4619ba76f0696acf0f15ddfdf57e535a09703ec5c9b6b525a1cfe3e86023a64"), looks := true }, kinds := [], alts := [], laidByText := true, laidKinds := [.data, .pinned], laidTests := true, laidLooks := .later }
def ListPlaysUptoCardSaid : Prop := Claim7.holds Tryz.pinned (.plain (OpenSpec.upto listPlaysSpec)) listPlaysUptoCard

/-- THE SECOND FORM's CARD OF 'stanzakeeplaw07.ListCopies'. -/
def listCopiesUptoCard : Claim7 := { stood := { row := listCopiesUptoRow, standIns := [], harness := (true, "f4619ba76f0696acf0f15ddfdf57e535a09703ec5c9b6b525a1cfe3e86023a64"), looks := true }, kinds := [], alts := [], laidByText := true, laidKinds := [.data, .pinned], laidTests := true, laidLooks := .later }
def ListCopiesUptoCardSaid : Prop := Claim7.holds Tryz.pinned (.plain (OpenSpec.upto listCopiesSpec)) listCopiesUptoCard

/-- THE SECOND FORM's CARD OF 'stanzakeeplaw19.CursorPlays'. -/
def cursorPlaysUptoCard : Claim7 := { stood := { row := cursorPlaysUptoRow, standIns := [], harness := (true, "f4619ba76f0696acf0f15ddfdf57e535a09703ec5c9b6b525a1cfe3e86023a64"), looks := true }, kinds := [], alts := [], laidByText := true, laidKinds := [.data, .pinned], laidTests := true, laidLooks := .later }
def CursorPlaysUptoCardSaid : Prop := Claim7.holds Tryz.pinned (.plain (OpenSpec.upto cursorPlaysSpec)) cursorPlaysUptoCard
end Rows
end Go.Proofs.YtnimhpgacmojiaaGreatDoor
