/-
  DERIVED. GIVEN WITH THE SEED: THE CARDS: each row of YtlbainbjlibfiaaDoorRows.lean that lists a variable, with what it lists TIED to the program's text (the seventh form; the later family's looks); each row that meets fmt, with fmt's text TOLD by the authors' own Lean function (tested against real Go, not proved from fmt's source: count such statements apart). THE CARD IS WHAT COUNTS. Prove the row's statement (the work); the ties are given (YtlbainbjlibfiaaDoorTie.lean); close each card by the builder's one call (the guide's Derived/Test/ToyasCard.lean, 'card_holds'). Laid BY PROGRAM, IN A SANDBOX (cutbox-door.mjs). By AI agents, Wed Nov 11 2026. No macro, syntax, notation, axiom, sorry.
-/
import Derived.Test.YtlbainbjlibfiaaDoorRows
import GoSem.ClaimSeven
namespace Go.Proofs.YtlbainbjlibfiaaDoor
namespace Rows

/-- THE TIED CARD OF 'stanzakeeplaw06.PrintApart'. -/
def printApartCard : Claim7 := { stood := { row := printApartRow, standIns := [], harness := (true, "bd9a15eac2f174f207dcb41a659ce72b6e144cb95e2d3256499a1040a5b0bc4a"), looks := true }, kinds := [], alts := [], laidByText := true, laidKinds := [.data, .pinned], laidTests := true, laidLooks := .later }
def PrintApartCardSaid : Prop := Claim7.holds Tryd.pinned (.plain (OpenSpec.ofChange printApartSpec)) printApartCard

/-- THE TIED CARD OF 'stanzakeeplaw05.StanzaJoins'. -/
def stanzaJoinsCard : Claim7 := { stood := { row := stanzaJoinsRow, standIns := [], harness := (true, "bd9a15eac2f174f207dcb41a659ce72b6e144cb95e2d3256499a1040a5b0bc4a"), looks := true }, kinds := [], alts := [], laidByText := true, laidKinds := [.data, .pinned], laidTests := true, laidLooks := .later }
def StanzaJoinsCardSaid : Prop := Claim7.holds Tryd.pinned (.plain (OpenSpec.ofChange stanzaJoinsSpec)) stanzaJoinsCard

/-- THE TIED CARD OF 'stanzakeeplaw06.PrintStanzas'. -/
def printStanzasCard : Claim7 := { stood := { row := printStanzasRow, standIns := [], harness := (true, "bd9a15eac2f174f207dcb41a659ce72b6e144cb95e2d3256499a1040a5b0bc4a"), looks := true }, kinds := [], alts := [], laidByText := true, laidKinds := [.data, .pinned], laidTests := true, laidLooks := .later }
def PrintStanzasCardSaid : Prop := Claim7.holds Tryd.pinned (.plain (OpenSpec.ofChange printStanzasSpec)) printStanzasCard

/-- THE SECOND FORM's CARD OF 'stanzakeeplaw06.PrintApart'. -/
def printApartUptoCard : Claim7 := { stood := { row := printApartUptoRow, standIns := [], harness := (true, "bd9a15eac2f174f207dcb41a659ce72b6e144cb95e2d3256499a1040a5b0bc4a"), looks := true }, kinds := [], alts := [], laidByText := true, laidKinds := [.data, .pinned], laidTests := true, laidLooks := .later }
def PrintApartUptoCardSaid : Prop := Claim7.holds Tryd.pinned (.plain (OpenSpec.upto printApartSpec)) printApartUptoCard

/-- THE SECOND FORM's CARD OF 'stanzakeeplaw05.StanzaJoins'. -/
def stanzaJoinsUptoCard : Claim7 := { stood := { row := stanzaJoinsUptoRow, standIns := [], harness := (true, "bd9a15eac2f174f207dcb41a659ce72b6e144cb95e2d3256499a1040a5b0bc4a"), looks := true }, kinds := [], alts := [], laidByText := true, laidKinds := [.data, .pinned], laidTests := true, laidLooks := .later }
def StanzaJoinsUptoCardSaid : Prop := Claim7.holds Tryd.pinned (.plain (OpenSpec.upto stanzaJoinsSpec)) stanzaJoinsUptoCard

/-- THE SECOND FORM's CARD OF 'stanzakeeplaw06.PrintStanzas'. -/
def printStanzasUptoCard : Claim7 := { stood := { row := printStanzasUptoRow, standIns := [], harness := (true, "bd9a15eac2f174f207dcb41a659ce72b6e144cb95e2d3256499a1040a5b0bc4a"), looks := true }, kinds := [], alts := [], laidByText := true, laidKinds := [.data, .pinned], laidTests := true, laidLooks := .later }
def PrintStanzasUptoCardSaid : Prop := Claim7.holds Tryd.pinned (.plain (OpenSpec.upto printStanzasSpec)) printStanzasUptoCard
end Rows
end Go.Proofs.YtlbainbjlibfiaaDoor
