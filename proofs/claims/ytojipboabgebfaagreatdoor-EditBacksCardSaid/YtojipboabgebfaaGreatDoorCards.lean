/-
  DERIVED. GIVEN WITH THE SEED: THE CARDS: each row of YtojipboabgebfaaGreatDoorRows.lean that lists a variable, with what it lists TIED to the program's text (the seventh form; the later family's looks); each row that meets fmt, with fmt's text TOLD by the authors' own Lean function (tested against real Go, not proved from fmt's source: count such statements apart). THE CARD IS WHAT COUNTS. Prove the row's statement (the work); the ties are given (YtojipboabgebfaaGreatDoorTie.lean); close each card by the builder's one call (the guide's Derived/Test/ToyasCard.lean, 'card_holds'). Laid BY PROGRAM, IN A SANDBOX (cutbox-door.mjs). By AI agents, Wed Nov 11 2026. No macro, syntax, notation, axiom, sorry.
-/
import Derived.Test.YtojipboabgebfaaGreatDoorRows
import GoSem.ClaimSeven
namespace Go.Proofs.YtojipboabgebfaaGreatDoor
namespace Rows

/-- THE TIED CARD OF 'stanzakeeplaw17.TxnSqueezes'. -/
def txnSqueezesCard : Claim7 := { stood := { row := txnSqueezesRow, standIns := [], harness := (true, "906704b5aea8d7e303f99ca38eb6d5c41ffa979f573cc45d5b50a8ea5db8e452"), looks := true }, kinds := [], alts := [], laidByText := true, laidKinds := [.data, .pinned], laidTests := true, laidLooks := .later }
def TxnSqueezesCardSaid : Prop := Claim7.holds Tryz.pinned (.plain (OpenSpec.ofChange txnSqueezesSpec)) txnSqueezesCard

/-- THE TIED CARD OF 'stanzakeeplaw17.TxnNone'. -/
def txnNoneCard : Claim7 := { stood := { row := txnNoneRow, standIns := [], harness := (true, "906704b5aea8d7e303f99ca38eb6d5c41ffa979f573cc45d5b50a8ea5db8e452"), looks := true }, kinds := [], alts := [], laidByText := true, laidKinds := [.data, .pinned], laidTests := true, laidLooks := .later }
def TxnNoneCardSaid : Prop := Claim7.holds Tryz.pinned (.plain (OpenSpec.ofChange txnNoneSpec)) txnNoneCard

/-- THE TIED CARD OF 'stanzakeeplaw19.CursorPlays'. -/
def cursorPlaysCard : Claim7 := { stood := { row := cursorPlaysRow, standIns := [], harness := (true, "906704b5aea8d7e303f99ca38eb6d5c41ffa979f573cc45d5b50a8ea5db8e452"), looks := true }, kinds := [], alts := [], laidByText := true, laidKinds := [.data, .pinned], laidTests := true, laidLooks := .later }
def CursorPlaysCardSaid : Prop := Claim7.holds Tryz.pinned (.plain (OpenSpec.ofChange cursorPlaysSpec)) cursorPlaysCard

/-- THE TIED CARD OF 'stanzakeeplaw09.EditBacks'. -/
def editBacksCard : Claim7 := { stood := { row := editBacksRow, standIns := [], harness := (true, "906704b5aea8d7e303f99ca38eb6d5c41ffa979f573cc45d5b50a8ea5db8e452"), looks := true }, kinds := [], alts := [], laidByText := true, laidKinds := [.data, .handle, .pinned], laidTests := true, laidLooks := .later }
def EditBacksCardSaid : Prop := Claim7.holds Tryz.pinned (.plain (OpenSpec.ofChange editBacksSpec)) editBacksCard

/-- THE TIED CARD OF 'stanzakeeplaw17.TxnCommits'. -/
def txnCommitsCard : Claim7 := { stood := { row := txnCommitsRow, standIns := [], harness := (true, "906704b5aea8d7e303f99ca38eb6d5c41ffa979f573cc45d5b50a8ea5db8e452"), looks := true }, kinds := [], alts := [], laidByText := true, laidKinds := [.data, .handle, .pinned], laidTests := true, laidLooks := .later }
def TxnCommitsCardSaid : Prop := Claim7.holds Tryz.pinned (.plain (OpenSpec.ofChange txnCommitsSpec)) txnCommitsCard

/-- THE SECOND FORM's CARD OF 'stanzakeeplaw17.TxnSqueezes'. -/
def txnSqueezesUptoCard : Claim7 := { stood := { row := txnSqueezesUptoRow, standIns := [], harness := (true, "906704b5aea8d7e303f99ca38eb6d5c41ffa979f573cc45d5b50a8ea5db8e452"), looks := true }, kinds := [], alts := [], laidByText := true, laidKinds := [.data, .pinned], laidTests := true, laidLooks := .later }
def TxnSqueezesUptoCardSaid : Prop := Claim7.holds Tryz.pinned (.plain (OpenSpec.upto txnSqueezesSpec)) txnSqueezesUptoCard

/-- THE SECOND FORM's CARD OF 'stanzakeeplaw17.TxnNone'. -/
def txnNoneUptoCard : Claim7 := { stood := { row := txnNoneUptoRow, standIns := [], harness := (true, "906704b5aea8d7e303f99ca38eb6d5c41ffa979f573cc45d5b50a8ea5db8e452"), looks := true }, kinds := [], alts := [], laidByText := true, laidKinds := [.data, .pinned], laidTests := true, laidLooks := .later }
def TxnNoneUptoCardSaid : Prop := Claim7.holds Tryz.pinned (.plain (OpenSpec.upto txnNoneSpec)) txnNoneUptoCard

/-- THE SECOND FORM's CARD OF 'stanzakeeplaw19.CursorPlays'. -/
def cursorPlaysUptoCard : Claim7 := { stood := { row := cursorPlaysUptoRow, standIns := [], harness := (true, "906704b5aea8d7e303f99ca38eb6d5c41ffa979f573cc45d5b50a8ea5db8e452"), looks := true }, kinds := [], alts := [], laidByText := true, laidKinds := [.data, .pinned], laidTests := true, laidLooks := .later }
def CursorPlaysUptoCardSaid : Prop := Claim7.holds Tryz.pinned (.plain (OpenSpec.upto cursorPlaysSpec)) cursorPlaysUptoCard

/-- THE SECOND FORM's CARD OF 'stanzakeeplaw09.EditBacks'. -/
def editBacksUptoCard : Claim7 := { stood := { row := editBacksUptoRow, standIns := [], harness := (true, "906704b5aea8d7e303f99ca38eb6d5c41ffa979f573cc45d5b50a8ea5db8e452"), looks := true }, kinds := [], alts := [], laidByText := true, laidKinds := [.data, .handle, .pinned], laidTests := true, laidLooks := .later }
def EditBacksUptoCardSaid : Prop := Claim7.holds Tryz.pinned (.plain (OpenSpec.upto editBacksSpec)) editBacksUptoCard

/-- THE SECOND FORM's CARD OF 'stanzakeeplaw17.TxnCommits'. -/
def txnCommitsUptoCard : Claim7 := { stood := { row := txnCommitsUptoRow, standIns := [], harness := (true, "906704b5aea8d7e303f99ca38eb6d5c41ffa979f573cc45d5b50a8ea5db8e452"), looks := true }, kinds := [], alts := [], laidByText := true, laidKinds := [.data, .handle, .pinned], laidTests := true, laidLooks := .later }
def TxnCommitsUptoCardSaid : Prop := Claim7.holds Tryz.pinned (.plain (OpenSpec.upto txnCommitsSpec)) txnCommitsUptoCard
end Rows
end Go.Proofs.YtojipboabgebfaaGreatDoor
