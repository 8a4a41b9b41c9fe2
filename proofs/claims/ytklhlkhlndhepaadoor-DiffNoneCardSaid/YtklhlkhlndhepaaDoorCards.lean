/-
  DERIVED. GIVEN WITH THE SEED: THE CARDS: each row of YtklhlkhlndhepaaDoorRows.lean that lists a variable, with what it lists TIED to the program's text (the seventh form; the later family's looks); each row that meets fmt, with fmt's text TOLD by the authors' own Lean function (tested against real Go, not proved from fmt's source: count such statements apart). THE CARD IS WHAT COUNTS. Prove the row's statement (the work); the ties are given (YtklhlkhlndhepaaDoorTie.lean); close each card by the builder's one call (the guide's Derived/Test/ToyasCard.lean, 'card_holds'). Laid BY PROGRAM, IN A SANDBOX (cutbox-door.mjs). By AI agents, Wed Nov 11 2026. No macro, syntax, notation, axiom, sorry.
-/
import Derived.Test.YtklhlkhlndhepaaDoorRows
import GoSem.ClaimSeven
namespace Go.Proofs.YtklhlkhlndhepaaDoor
namespace Rows

/-- THE TIED CARD OF 'stanzakeeplaw06.PrintApart'. -/
def printApartCard : Claim7 := { stood := { row := printApartRow, standIns := [], harness := (true, "2195b84f4eecbd250e5008507260785d41a657c59767c55d8d49f111474f0ab8"), looks := true }, kinds := [], alts := [], laidByText := true, laidKinds := [.data, .pinned], laidTests := true, laidLooks := .later }
def PrintApartCardSaid : Prop := Claim7.holds Tryd.pinned (.plain (OpenSpec.ofChange printApartSpec)) printApartCard

/-- THE TIED CARD OF 'stanzakeeplaw05.StanzaJoins'. -/
def stanzaJoinsCard : Claim7 := { stood := { row := stanzaJoinsRow, standIns := [], harness := (true, "2195b84f4eecbd250e5008507260785d41a657c59767c55d8d49f111474f0ab8"), looks := true }, kinds := [], alts := [], laidByText := true, laidKinds := [.data, .pinned], laidTests := true, laidLooks := .later }
def StanzaJoinsCardSaid : Prop := Claim7.holds Tryd.pinned (.plain (OpenSpec.ofChange stanzaJoinsSpec)) stanzaJoinsCard

/-- THE TIED CARD OF 'stanzakeeplaw06.PrintStanzas'. -/
def printStanzasCard : Claim7 := { stood := { row := printStanzasRow, standIns := [], harness := (true, "2195b84f4eecbd250e5008507260785d41a657c59767c55d8d49f111474f0ab8"), looks := true }, kinds := [], alts := [], laidByText := true, laidKinds := [.data, .pinned], laidTests := true, laidLooks := .later }
def PrintStanzasCardSaid : Prop := Claim7.holds Tryd.pinned (.plain (OpenSpec.ofChange printStanzasSpec)) printStanzasCard

/-- THE TIED CARD OF 'stanzakeeplaw22.DiffNone'. -/
def diffNoneCard : Claim7 := { stood := { row := diffNoneRow, standIns := [], harness := (true, "2195b84f4eecbd250e5008507260785d41a657c59767c55d8d49f111474f0ab8"), looks := true }, kinds := [], alts := [], laidByText := true, laidKinds := [.data, .pinned], laidTests := true, laidLooks := .later }
def DiffNoneCardSaid : Prop := Claim7.holds Tryd.pinned (.plain (OpenSpec.ofChange diffNoneSpec)) diffNoneCard

/-- THE SECOND FORM's CARD OF 'stanzakeeplaw06.PrintApart'. -/
def printApartUptoCard : Claim7 := { stood := { row := printApartUptoRow, standIns := [], harness := (true, "2195b84f4eecbd250e5008507260785d41a657c59767c55d8d49f111474f0ab8"), looks := true }, kinds := [], alts := [], laidByText := true, laidKinds := [.data, .pinned], laidTests := true, laidLooks := .later }
def PrintApartUptoCardSaid : Prop := Claim7.holds Tryd.pinned (.plain (OpenSpec.upto printApartSpec)) printApartUptoCard

/-- THE SECOND FORM's CARD OF 'stanzakeeplaw05.StanzaJoins'. -/
def stanzaJoinsUptoCard : Claim7 := { stood := { row := stanzaJoinsUptoRow, standIns := [], harness := (true, "2195b84f4eecbd250e5008507260785d41a657c59767c55d8d49f111474f0ab8"), looks := true }, kinds := [], alts := [], laidByText := true, laidKinds := [.data, .pinned], laidTests := true, laidLooks := .later }
def StanzaJoinsUptoCardSaid : Prop := Claim7.holds Tryd.pinned (.plain (OpenSpec.upto stanzaJoinsSpec)) stanzaJoinsUptoCard

/-- THE SECOND FORM's CARD OF 'stanzakeeplaw06.PrintStanzas'. -/
def printStanzasUptoCard : Claim7 := { stood := { row := printStanzasUptoRow, standIns := [], harness := (true, "2195b84f4eecbd250e5008507260785d41a657c59767c55d8d49f111474f0ab8"), looks := true }, kinds := [], alts := [], laidByText := true, laidKinds := [.data, .pinned], laidTests := true, laidLooks := .later }
def PrintStanzasUptoCardSaid : Prop := Claim7.holds Tryd.pinned (.plain (OpenSpec.upto printStanzasSpec)) printStanzasUptoCard

/-- THE SECOND FORM's CARD OF 'stanzakeeplaw22.DiffNone'. -/
def diffNoneUptoCard : Claim7 := { stood := { row := diffNoneUptoRow, standIns := [], harness := (true, "2195b84f4eecbd250e5008507260785d41a657c59767c55d8d49f111474f0ab8"), looks := true }, kinds := [], alts := [], laidByText := true, laidKinds := [.data, .pinned], laidTests := true, laidLooks := .later }
def DiffNoneUptoCardSaid : Prop := Claim7.holds Tryd.pinned (.plain (OpenSpec.upto diffNoneSpec)) diffNoneUptoCard
end Rows
end Go.Proofs.YtklhlkhlndhepaaDoor
