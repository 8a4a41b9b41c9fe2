/-
  DERIVED. GIVEN WITH THE SEED: THE CARDS: each row of YtlhjcdihbbdfnaaDoorRows.lean that lists a variable, with what it lists TIED to the program's text (the seventh form; the later family's looks); each row that meets fmt, with fmt's text TOLD by the authors' own Lean function (tested against real Go, not proved from fmt's source: count such statements apart). THE CARD IS WHAT COUNTS. Prove the row's statement (the work); the ties are given (YtlhjcdihbbdfnaaDoorTie.lean); close each card by the builder's one call (the guide's Derived/Test/ToyasCard.lean, 'card_holds'). Laid BY PROGRAM, IN A SANDBOX (cutbox-door.mjs). By AI agents, Wed Nov 11 2026. No macro, syntax, notation, axiom, sorry.
-/
import Derived.Test.YtlhjcdihbbdfnaaDoorRows
import GoSem.ClaimSeven
namespace Go.Proofs.YtlhjcdihbbdfnaaDoor
namespace Rows

/-- THE TIED CARD OF 'stanzakeeplaw06.PrintTexts'. -/
def printTextsCard : Claim7 := { stood := { row := printTextsRow, standIns := [], harness := (true, "183a9b7d5b9a1b4192f0a87459315317ff16cd918413a585bed6c5ca77ef95c7"), looks := true }, kinds := [], alts := [], laidByText := true, laidKinds := [.data, .pinned], laidTests := true, laidLooks := .later }
def PrintTextsCardSaid : Prop := Claim7.holds Tryd.pinned (.plain (OpenSpec.ofChange printTextsSpec)) printTextsCard

/-- THE TIED CARD OF 'stanzakeeplaw06.PrintStanzas'. -/
def printStanzasCard : Claim7 := { stood := { row := printStanzasRow, standIns := [], harness := (true, "183a9b7d5b9a1b4192f0a87459315317ff16cd918413a585bed6c5ca77ef95c7"), looks := true }, kinds := [], alts := [], laidByText := true, laidKinds := [.data, .pinned], laidTests := true, laidLooks := .later }
def PrintStanzasCardSaid : Prop := Claim7.holds Tryd.pinned (.plain (OpenSpec.ofChange printStanzasSpec)) printStanzasCard

/-- THE TIED CARD OF 'stanzakeeplaw06.PrintVerbatim'. -/
def printVerbatimCard : Claim7 := { stood := { row := printVerbatimRow, standIns := [], harness := (true, "183a9b7d5b9a1b4192f0a87459315317ff16cd918413a585bed6c5ca77ef95c7"), looks := true }, kinds := [], alts := [], laidByText := true, laidKinds := [.data, .pinned], laidTests := true, laidLooks := .later }
def PrintVerbatimCardSaid : Prop := Claim7.holds Tryd.pinned (.plain (OpenSpec.ofChange printVerbatimSpec)) printVerbatimCard

/-- THE TIED CARD OF 'stanzakeeplaw06.PrintMixes'. -/
def printMixesCard : Claim7 := { stood := { row := printMixesRow, standIns := [], harness := (true, "183a9b7d5b9a1b4192f0a87459315317ff16cd918413a585bed6c5ca77ef95c7"), looks := true }, kinds := [], alts := [], laidByText := true, laidKinds := [.data, .pinned], laidTests := true, laidLooks := .later }
def PrintMixesCardSaid : Prop := Claim7.holds Tryd.pinned (.plain (OpenSpec.ofChange printMixesSpec)) printMixesCard

/-- THE TIED CARD OF 'stanzakeeplaw22.DiffNone'. -/
def diffNoneCard : Claim7 := { stood := { row := diffNoneRow, standIns := [], harness := (true, "183a9b7d5b9a1b4192f0a87459315317ff16cd918413a585bed6c5ca77ef95c7"), looks := true }, kinds := [], alts := [], laidByText := true, laidKinds := [.data, .pinned], laidTests := true, laidLooks := .later }
def DiffNoneCardSaid : Prop := Claim7.holds Tryd.pinned (.plain (OpenSpec.ofChange diffNoneSpec)) diffNoneCard

/-- THE SECOND FORM's CARD OF 'stanzakeeplaw06.PrintTexts'. -/
def printTextsUptoCard : Claim7 := { stood := { row := printTextsUptoRow, standIns := [], harness := (true, "183a9b7d5b9a1b4192f0a87459315317ff16cd918413a585bed6c5ca77ef95c7"), looks := true }, kinds := [], alts := [], laidByText := true, laidKinds := [.data, .pinned], laidTests := true, laidLooks := .later }
def PrintTextsUptoCardSaid : Prop := Claim7.holds Tryd.pinned (.plain (OpenSpec.upto printTextsSpec)) printTextsUptoCard

/-- THE SECOND FORM's CARD OF 'stanzakeeplaw06.PrintStanzas'. -/
def printStanzasUptoCard : Claim7 := { stood := { row := printStanzasUptoRow, standIns := [], harness := (true, "183a9b7d5b9a1b4192f0a87459315317ff16cd918413a585bed6c5ca77ef95c7"), looks := true }, kinds := [], alts := [], laidByText := true, laidKinds := [.data, .pinned], laidTests := true, laidLooks := .later }
def PrintStanzasUptoCardSaid : Prop := Claim7.holds Tryd.pinned (.plain (OpenSpec.upto printStanzasSpec)) printStanzasUptoCard

/-- THE SECOND FORM's CARD OF 'stanzakeeplaw06.PrintVerbatim'. -/
def printVerbatimUptoCard : Claim7 := { stood := { row := printVerbatimUptoRow, standIns := [], harness := (true, "183a9b7d5b9a1b4192f0a87459315317ff16cd918413a585bed6c5ca77ef95c7"), looks := true }, kinds := [], alts := [], laidByText := true, laidKinds := [.data, .pinned], laidTests := true, laidLooks := .later }
def PrintVerbatimUptoCardSaid : Prop := Claim7.holds Tryd.pinned (.plain (OpenSpec.upto printVerbatimSpec)) printVerbatimUptoCard

/-- THE SECOND FORM's CARD OF 'stanzakeeplaw06.PrintMixes'. -/
def printMixesUptoCard : Claim7 := { stood := { row := printMixesUptoRow, standIns := [], harness := (true, "183a9b7d5b9a1b4192f0a87459315317ff16cd918413a585bed6c5ca77ef95c7"), looks := true }, kinds := [], alts := [], laidByText := true, laidKinds := [.data, .pinned], laidTests := true, laidLooks := .later }
def PrintMixesUptoCardSaid : Prop := Claim7.holds Tryd.pinned (.plain (OpenSpec.upto printMixesSpec)) printMixesUptoCard

/-- THE SECOND FORM's CARD OF 'stanzakeeplaw22.DiffNone'. -/
def diffNoneUptoCard : Claim7 := { stood := { row := diffNoneUptoRow, standIns := [], harness := (true, "183a9b7d5b9a1b4192f0a87459315317ff16cd918413a585bed6c5ca77ef95c7"), looks := true }, kinds := [], alts := [], laidByText := true, laidKinds := [.data, .pinned], laidTests := true, laidLooks := .later }
def DiffNoneUptoCardSaid : Prop := Claim7.holds Tryd.pinned (.plain (OpenSpec.upto diffNoneSpec)) diffNoneUptoCard
end Rows
end Go.Proofs.YtlhjcdihbbdfnaaDoor
