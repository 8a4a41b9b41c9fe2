/-
  DERIVED. GIVEN WITH THE SEED: THE CARDS: each row of YtdedkoiodehmnaaDoorRows.lean that lists a variable, with what it lists TIED to the program's text (the seventh form; the later family's looks); each row that meets fmt, with fmt's text TOLD by the authors' own Lean function (tested against real Go, not proved from fmt's source: count such statements apart). THE CARD IS WHAT COUNTS. Prove the row's statement (the work); the ties are given (YtdedkoiodehmnaaDoorTie.lean); close each card by the builder's one call (the guide's Derived/Test/ToyasCard.lean, 'card_holds'). Laid BY PROGRAM, IN A SANDBOX (cutbox-door.mjs). By AI agents, Wed Nov 11 2026. No macro, syntax, notation, axiom, sorry.
-/
import Derived.Test.YtdedkoiodehmnaaDoorRows
import GoSem.ClaimSeven
namespace Go.Proofs.YtdedkoiodehmnaaDoor
namespace Rows

/-- THE TIED CARD OF 'stanzakeeplaw04.FoldTexts'. -/
def foldTextsCard : Claim7 := { stood := { row := foldTextsRow, standIns := [], harness := (true, "b3cfac2132d04b45225fa2114bdf21323b423ab0328582b39c9ec7774db5a51d"), looks := true }, kinds := [], alts := [], laidByText := true, laidKinds := [.data, .pinned], laidTests := true, laidLooks := .later }
def FoldTextsCardSaid : Prop := Claim7.holds Tryd.pinned (.plain (OpenSpec.ofChange foldTextsSpec)) foldTextsCard

/-- THE TIED CARD OF 'stanzakeeplaw04.FoldKinds'. -/
def foldKindsCard : Claim7 := { stood := { row := foldKindsRow, standIns := [], harness := (true, "b3cfac2132d04b45225fa2114bdf21323b423ab0328582b39c9ec7774db5a51d"), looks := true }, kinds := [], alts := [], laidByText := true, laidKinds := [.data, .pinned], laidTests := true, laidLooks := .later }
def FoldKindsCardSaid : Prop := Claim7.holds Tryd.pinned (.plain (OpenSpec.ofChange foldKindsSpec)) foldKindsCard

/-- THE TIED CARD OF 'stanzakeeplaw04.FoldFolds'. -/
def foldFoldsCard : Claim7 := { stood := { row := foldFoldsRow, standIns := [], harness := (true, "b3cfac2132d04b45225fa2114bdf21323b423ab0328582b39c9ec7774db5a51d"), looks := true }, kinds := [], alts := [], laidByText := true, laidKinds := [.data, .pinned], laidTests := true, laidLooks := .later }
def FoldFoldsCardSaid : Prop := Claim7.holds Tryd.pinned (.plain (OpenSpec.ofChange foldFoldsSpec)) foldFoldsCard

/-- THE TIED CARD OF 'stanzakeeplaw04.FoldUnfolds'. -/
def foldUnfoldsCard : Claim7 := { stood := { row := foldUnfoldsRow, standIns := [], harness := (true, "b3cfac2132d04b45225fa2114bdf21323b423ab0328582b39c9ec7774db5a51d"), looks := true }, kinds := [], alts := [], laidByText := true, laidKinds := [.data, .pinned], laidTests := true, laidLooks := .later }
def FoldUnfoldsCardSaid : Prop := Claim7.holds Tryd.pinned (.plain (OpenSpec.ofChange foldUnfoldsSpec)) foldUnfoldsCard

/-- THE TIED CARD OF 'stanzakeeplaw28.SheetWrites'. -/
def sheetWritesCard : Claim7 := { stood := { row := sheetWritesRow, standIns := [], harness := (true, "b3cfac2132d04b45225fa2114bdf21323b423ab0328582b39c9ec7774db5a51d"), looks := true }, kinds := [], alts := [], laidByText := true, laidKinds := [.data, .pinned], laidTests := true, laidLooks := .later }
def SheetWritesCardSaid : Prop := Claim7.holds Tryd.pinned (.plain (OpenSpec.ofChange sheetWritesSpec)) sheetWritesCard

/-- THE TIED CARD OF 'stanzakeeplaw28.SheetReads'. -/
def sheetReadsCard : Claim7 := { stood := { row := sheetReadsRow, standIns := [], harness := (true, "b3cfac2132d04b45225fa2114bdf21323b423ab0328582b39c9ec7774db5a51d"), looks := true }, kinds := [], alts := [], laidByText := true, laidKinds := [.data, .pinned], laidTests := true, laidLooks := .later }
def SheetReadsCardSaid : Prop := Claim7.holds Tryd.pinned (.plain (OpenSpec.ofChange sheetReadsSpec)) sheetReadsCard

/-- THE TIED CARD OF 'stanzakeeplaw05.StanzaMany'. -/
def stanzaManyCard : Claim7 := { stood := { row := stanzaManyRow, standIns := [], harness := (true, "b3cfac2132d04b45225fa2114bdf21323b423ab0328582b39c9ec7774db5a51d"), looks := true }, kinds := [], alts := [], laidByText := true, laidKinds := [.data, .pinned], laidTests := true, laidLooks := .later }
def StanzaManyCardSaid : Prop := Claim7.holds Tryd.pinned (.plain (OpenSpec.ofChange stanzaManySpec)) stanzaManyCard

/-- THE TIED CARD OF 'stanzakeeplaw05.StanzaCuts'. -/
def stanzaCutsCard : Claim7 := { stood := { row := stanzaCutsRow, standIns := [], harness := (true, "b3cfac2132d04b45225fa2114bdf21323b423ab0328582b39c9ec7774db5a51d"), looks := true }, kinds := [], alts := [], laidByText := true, laidKinds := [.data, .pinned], laidTests := true, laidLooks := .later }
def StanzaCutsCardSaid : Prop := Claim7.holds Tryd.pinned (.plain (OpenSpec.ofChange stanzaCutsSpec)) stanzaCutsCard

/-- THE TIED CARD OF 'stanzakeeplaw06.PrintApart'. -/
def printApartCard : Claim7 := { stood := { row := printApartRow, standIns := [], harness := (true, "b3cfac2132d04b45225fa2114bdf21323b423ab0328582b39c9ec7774db5a51d"), looks := true }, kinds := [], alts := [], laidByText := true, laidKinds := [.data, .pinned], laidTests := true, laidLooks := .later }
def PrintApartCardSaid : Prop := Claim7.holds Tryd.pinned (.plain (OpenSpec.ofChange printApartSpec)) printApartCard

/-- THE TIED CARD OF 'stanzakeeplaw05.StanzaJoins'. -/
def stanzaJoinsCard : Claim7 := { stood := { row := stanzaJoinsRow, standIns := [], harness := (true, "b3cfac2132d04b45225fa2114bdf21323b423ab0328582b39c9ec7774db5a51d"), looks := true }, kinds := [], alts := [], laidByText := true, laidKinds := [.data, .pinned], laidTests := true, laidLooks := .later }
def StanzaJoinsCardSaid : Prop := Claim7.holds Tryd.pinned (.plain (OpenSpec.ofChange stanzaJoinsSpec)) stanzaJoinsCard

/-- THE TIED CARD OF 'stanzakeeplaw05.StanzaParses'. -/
def stanzaParsesCard : Claim7 := { stood := { row := stanzaParsesRow, standIns := [], harness := (true, "b3cfac2132d04b45225fa2114bdf21323b423ab0328582b39c9ec7774db5a51d"), looks := true }, kinds := [], alts := [], laidByText := true, laidKinds := [.data, .pinned], laidTests := true, laidLooks := .later }
def StanzaParsesCardSaid : Prop := Claim7.holds Tryd.pinned (.plain (OpenSpec.ofChange stanzaParsesSpec)) stanzaParsesCard

/-- THE TIED CARD OF 'stanzakeeplaw05.StanzaFolds'. -/
def stanzaFoldsCard : Claim7 := { stood := { row := stanzaFoldsRow, standIns := [], harness := (true, "b3cfac2132d04b45225fa2114bdf21323b423ab0328582b39c9ec7774db5a51d"), looks := true }, kinds := [], alts := [], laidByText := true, laidKinds := [.data, .pinned], laidTests := true, laidLooks := .later }
def StanzaFoldsCardSaid : Prop := Claim7.holds Tryd.pinned (.plain (OpenSpec.ofChange stanzaFoldsSpec)) stanzaFoldsCard

/-- THE SECOND FORM's CARD OF 'stanzakeeplaw04.FoldTexts'. -/
def foldTextsUptoCard : Claim7 := { stood := { row := foldTextsUptoRow, standIns := [], harness := (true, "b3cfac2132d04b45225fa2114bdf21323b423ab0328582b39c9ec7774db5a51d"), looks := true }, kinds := [], alts := [], laidByText := true, laidKinds := [.data, .pinned], laidTests := true, laidLooks := .later }
def FoldTextsUptoCardSaid : Prop := Claim7.holds Tryd.pinned (.plain (OpenSpec.upto foldTextsSpec)) foldTextsUptoCard

/-- THE SECOND FORM's CARD OF 'stanzakeeplaw04.FoldKinds'. -/
def foldKindsUptoCard : Claim7 := { stood := { row := foldKindsUptoRow, standIns := [], harness := (true, "b3cfac2132d04b45225fa2114bdf21323b423ab0328582b39c9ec7774db5a51d"), looks := true }, kinds := [], alts := [], laidByText := true, laidKinds := [.data, .pinned], laidTests := true, laidLooks := .later }
def FoldKindsUptoCardSaid : Prop := Claim7.holds Tryd.pinned (.plain (OpenSpec.upto foldKindsSpec)) foldKindsUptoCard

/-- THE SECOND FORM's CARD OF 'stanzakeeplaw04.FoldFolds'. -/
def foldFoldsUptoCard : Claim7 := { stood := { row := foldFoldsUptoRow, standIns := [], harness := (true, "b3cfac2132d04b45225fa2114bdf21323b423ab0328582b39c9ec7774db5a51d"), looks := true }, kinds := [], alts := [], laidByText := true, laidKinds := [.data, .pinned], laidTests := true, laidLooks := .later }
def FoldFoldsUptoCardSaid : Prop := Claim7.holds Tryd.pinned (.plain (OpenSpec.upto foldFoldsSpec)) foldFoldsUptoCard

/-- THE SECOND FORM's CARD OF 'stanzakeeplaw04.FoldUnfolds'. -/
def foldUnfoldsUptoCard : Claim7 := { stood := { row := foldUnfoldsUptoRow, standIns := [], harness := (true, "b3cfac2132d04b45225fa2114bdf21323b423ab0328582b39c9ec7774db5a51d"), looks := true }, kinds := [], alts := [], laidByText := true, laidKinds := [.data, .pinned], laidTests := true, laidLooks := .later }
def FoldUnfoldsUptoCardSaid : Prop := Claim7.holds Tryd.pinned (.plain (OpenSpec.upto foldUnfoldsSpec)) foldUnfoldsUptoCard

/-- THE SECOND FORM's CARD OF 'stanzakeeplaw28.SheetWrites'. -/
def sheetWritesUptoCard : Claim7 := { stood := { row := sheetWritesUptoRow, standIns := [], harness := (true, "b3cfac2132d04b45225fa2114bdf21323b423ab0328582b39c9ec7774db5a51d"), looks := true }, kinds := [], alts := [], laidByText := true, laidKinds := [.data, .pinned], laidTests := true, laidLooks := .later }
def SheetWritesUptoCardSaid : Prop := Claim7.holds Tryd.pinned (.plain (OpenSpec.upto sheetWritesSpec)) sheetWritesUptoCard

/-- THE SECOND FORM's CARD OF 'stanzakeeplaw28.SheetReads'. -/
def sheetReadsUptoCard : Claim7 := { stood := { row := sheetReadsUptoRow, standIns := [], harness := (true, "b3cfac2132d04b45225fa2114bdf21323b423ab0328582b39c9ec7774db5a51d"), looks := true }, kinds := [], alts := [], laidByText := true, laidKinds := [.data, .pinned], laidTests := true, laidLooks := .later }
def SheetReadsUptoCardSaid : Prop := Claim7.holds Tryd.pinned (.plain (OpenSpec.upto sheetReadsSpec)) sheetReadsUptoCard

/-- THE SECOND FORM's CARD OF 'stanzakeeplaw05.StanzaMany'. -/
def stanzaManyUptoCard : Claim7 := { stood := { row := stanzaManyUptoRow, standIns := [], harness := (true, "b3cfac2132d04b45225fa2114bdf21323b423ab0328582b39c9ec7774db5a51d"), looks := true }, kinds := [], alts := [], laidByText := true, laidKinds := [.data, .pinned], laidTests := true, laidLooks := .later }
def StanzaManyUptoCardSaid : Prop := Claim7.holds Tryd.pinned (.plain (OpenSpec.upto stanzaManySpec)) stanzaManyUptoCard

/-- THE SECOND FORM's CARD OF 'stanzakeeplaw05.StanzaCuts'. -/
def stanzaCutsUptoCard : Claim7 := { stood := { row := stanzaCutsUptoRow, standIns := [], harness := (true, "b3cfac2132d04b45225fa2114bdf21323b423ab0328582b39c9ec7774db5a51d"), looks := true }, kinds := [], alts := [], laidByText := true, laidKinds := [.data, .pinned], laidTests := true, laidLooks := .later }
def StanzaCutsUptoCardSaid : Prop := Claim7.holds Tryd.pinned (.plain (OpenSpec.upto stanzaCutsSpec)) stanzaCutsUptoCard

/-- THE SECOND FORM's CARD OF 'stanzakeeplaw06.PrintApart'. -/
def printApartUptoCard : Claim7 := { stood := { row := printApartUptoRow, standIns := [], harness := (true, "b3cfac2132d04b45225fa2114bdf21323b423ab0328582b39c9ec7774db5a51d"), looks := true }, kinds := [], alts := [], laidByText := true, laidKinds := [.data, .pinned], laidTests := true, laidLooks := .later }
def PrintApartUptoCardSaid : Prop := Claim7.holds Tryd.pinned (.plain (OpenSpec.upto printApartSpec)) printApartUptoCard

/-- THE SECOND FORM's CARD OF 'stanzakeeplaw05.StanzaJoins'. -/
def stanzaJoinsUptoCard : Claim7 := { stood := { row := stanzaJoinsUptoRow, standIns := [], harness := (true, "b3cfac2132d04b45225fa2114bdf21323b423ab0328582b39c9ec7774db5a51d"), looks := true }, kinds := [], alts := [], laidByText := true, laidKinds := [.data, .pinned], laidTests := true, laidLooks := .later }
def StanzaJoinsUptoCardSaid : Prop := Claim7.holds Tryd.pinned (.plain (OpenSpec.upto stanzaJoinsSpec)) stanzaJoinsUptoCard

/-- THE SECOND FORM's CARD OF 'stanzakeeplaw05.StanzaParses'. -/
def stanzaParsesUptoCard : Claim7 := { stood := { row := stanzaParsesUptoRow, standIns := [], harness := (true, "b3cfac2132d04b45225fa2114bdf21323b423ab0328582b39c9ec7774db5a51d"), looks := true }, kinds := [], alts := [], laidByText := true, laidKinds := [.data, .pinned], laidTests := true, laidLooks := .later }
def StanzaParsesUptoCardSaid : Prop := Claim7.holds Tryd.pinned (.plain (OpenSpec.upto stanzaParsesSpec)) stanzaParsesUptoCard

/-- THE SECOND FORM's CARD OF 'stanzakeeplaw05.StanzaFolds'. -/
def stanzaFoldsUptoCard : Claim7 := { stood := { row := stanzaFoldsUptoRow, standIns := [], harness := (true, "b3cfac2132d04b45225fa2114bdf21323b423ab0328582b39c9ec7774db5a51d"), looks := true }, kinds := [], alts := [], laidByText := true, laidKinds := [.data, .pinned], laidTests := true, laidLooks := .later }
def StanzaFoldsUptoCardSaid : Prop := Claim7.holds Tryd.pinned (.plain (OpenSpec.upto stanzaFoldsSpec)) stanzaFoldsUptoCard
end Rows
end Go.Proofs.YtdedkoiodehmnaaDoor
