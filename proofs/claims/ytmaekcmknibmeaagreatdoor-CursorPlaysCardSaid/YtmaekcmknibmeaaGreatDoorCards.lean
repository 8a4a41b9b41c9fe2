/-
  DERIVED. GIVEN WITH THE SEED: THE CARDS: each row of YtmaekcmknibmeaaGreatDoorRows.lean that lists a variable, with what it lists TIED to the program's text (the seventh form; the later family's looks); each row that meets fmt, with fmt's text TOLD by the authors' own Lean function (tested against real Go, not proved from fmt's source: count such statements apart). THE CARD IS WHAT COUNTS. Prove the row's statement (the work); the ties are given (YtmaekcmknibmeaaGreatDoorTie.lean); close each card by the builder's one call (the guide's Derived/Test/ToyasCard.lean, 'card_holds'). Laid BY PROGRAM, IN A SANDBOX (cutbox-door.mjs). By AI agents, Wed Nov 11 2026. No macro, syntax, notation, axiom, sorry.
-/
import Derived.Test.YtmaekcmknibmeaaGreatDoorRows
import GoSem.ClaimSeven
namespace Go.Proofs.YtmaekcmknibmeaaGreatDoor
namespace Rows

/-- THE TIED CARD OF 'stanzakeeplaw19.CursorPlays'. -/
def cursorPlaysCard : Claim7 := { stood := { row := cursorPlaysRow, standIns := [], harness := (true, "b0ffa9ad3f951a944c84d89ed80e9c6abc38945a4f6afdfa8c6dadd064748b42"), looks := false }, kinds := [], alts := [], laidByText := true, laidKinds := [.data, .pinned], laidTests := true, laidLooks := .later }
def CursorPlaysCardSaid : Prop := Claim7.holds Tryz.pinned (.plain (OpenSpec.ofChange cursorPlaysSpec)) cursorPlaysCard

/-- THE SECOND FORM's CARD OF 'stanzakeeplaw19.CursorPlays'. -/
def cursorPlaysUptoCard : Claim7 := { stood := { row := cursorPlaysUptoRow, standIns := [], harness := (true, "b0ffa9ad3f951a944c84d89ed80e9c6abc38945a4f6afdfa8c6dadd064748b42"), looks := false }, kinds := [], alts := [], laidByText := true, laidKinds := [.data, .pinned], laidTests := true, laidLooks := .later }
def CursorPlaysUptoCardSaid : Prop := Claim7.holds Tryz.pinned (.plain (OpenSpec.upto cursorPlaysSpec)) cursorPlaysUptoCard
end Rows
end Go.Proofs.YtmaekcmknibmeaaGreatDoor
