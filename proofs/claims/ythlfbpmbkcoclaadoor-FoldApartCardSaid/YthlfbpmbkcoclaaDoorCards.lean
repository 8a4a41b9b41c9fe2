/-
  DERIVED. GIVEN WITH THE SEED: THE CARDS: each row of YthlfbpmbkcoclaaDoorRows.lean that lists a variable, with what it lists TIED to the program's text (the seventh form; the later family's looks); each row that meets fmt, with fmt's text TOLD by the authors' own Lean function (tested against real Go, not proved from fmt's source: count such statements apart). THE CARD IS WHAT COUNTS. Prove the row's statement (the work); the ties are given (YthlfbpmbkcoclaaDoorTie.lean); close each card by the builder's one call (the guide's Derived/Test/ToyasCard.lean, 'card_holds'). Laid BY PROGRAM, IN A SANDBOX (cutbox-door.mjs). By AI agents, Wed Nov 11 2026. No macro, syntax, notation, axiom, sorry.
-/
import Derived.Test.YthlfbpmbkcoclaaDoorRows
import GoSem.ClaimSeven
namespace Go.Proofs.YthlfbpmbkcoclaaDoor
namespace Rows

/-- THE TIED CARD OF 'stanzakeeplaw18.QueryPrints'. -/
def queryPrintsCard : Claim7 := { stood := { row := queryPrintsRow, standIns := [], harness := (true, "552c30bfb6cdc8aa66f7c68f398167d79ecc7ad755eca3b7ed5bacc9696cd013"), looks := true }, kinds := [], alts := [], laidByText := true, laidKinds := [.data, .pinned], laidTests := true, laidLooks := .later }
def QueryPrintsCardSaid : Prop := Claim7.holds Tryd.pinned (.plain (OpenSpec.ofChange queryPrintsSpec)) queryPrintsCard

/-- THE TIED CARD OF 'stanzakeeplaw18.QueryParses'. -/
def queryParsesCard : Claim7 := { stood := { row := queryParsesRow, standIns := [], harness := (true, "552c30bfb6cdc8aa66f7c68f398167d79ecc7ad755eca3b7ed5bacc9696cd013"), looks := true }, kinds := [], alts := [], laidByText := true, laidKinds := [.data, .pinned], laidTests := true, laidLooks := .later }
def QueryParsesCardSaid : Prop := Claim7.holds Tryd.pinned (.plain (OpenSpec.ofChange queryParsesSpec)) queryParsesCard

/-- THE TIED CARD OF 'stanzakeeplaw18.QueryMatches'. -/
def queryMatchesCard : Claim7 := { stood := { row := queryMatchesRow, standIns := [], harness := (true, "552c30bfb6cdc8aa66f7c68f398167d79ecc7ad755eca3b7ed5bacc9696cd013"), looks := true }, kinds := [], alts := [], laidByText := true, laidKinds := [.data, .pinned], laidTests := true, laidLooks := .later }
def QueryMatchesCardSaid : Prop := Claim7.holds Tryd.pinned (.plain (OpenSpec.ofChange queryMatchesSpec)) queryMatchesCard

/-- THE TIED CARD OF 'stanzakeeplaw18.QueryRows'. -/
def queryRowsCard : Claim7 := { stood := { row := queryRowsRow, standIns := [], harness := (true, "552c30bfb6cdc8aa66f7c68f398167d79ecc7ad755eca3b7ed5bacc9696cd013"), looks := true }, kinds := [], alts := [], laidByText := true, laidKinds := [.data, .pinned], laidTests := true, laidLooks := .later }
def QueryRowsCardSaid : Prop := Claim7.holds Tryd.pinned (.plain (OpenSpec.ofChange queryRowsSpec)) queryRowsCard

/-- THE TIED CARD OF 'stanzakeeplaw04.FoldTexts'. -/
def foldTextsCard : Claim7 := { stood := { row := foldTextsRow, standIns := [], harness := (true, "552c30bfb6cdc8aa66f7c68f398167d79ecc7ad755eca3b7ed5bacc9696cd013"), looks := true }, kinds := [], alts := [], laidByText := true, laidKinds := [.data, .pinned], laidTests := true, laidLooks := .later }
def FoldTextsCardSaid : Prop := Claim7.holds Tryd.pinned (.plain (OpenSpec.ofChange foldTextsSpec)) foldTextsCard

/-- THE TIED CARD OF 'stanzakeeplaw04.FoldApart'. -/
def foldApartCard : Claim7 := { stood := { row := foldApartRow, standIns := [], harness := (true, "552c30bfb6cdc8aa66f7c68f398167d79ecc7ad755eca3b7ed5bacc9696cd013"), looks := true }, kinds := [], alts := [], laidByText := true, laidKinds := [.data, .pinned], laidTests := true, laidLooks := .later }
def FoldApartCardSaid : Prop := Claim7.holds Tryd.pinned (.plain (OpenSpec.ofChange foldApartSpec)) foldApartCard

/-- THE TIED CARD OF 'stanzakeeplaw04.FoldKinds'. -/
def foldKindsCard : Claim7 := { stood := { row := foldKindsRow, standIns := [], harness := (true, "552c30bfb6cdc8aa66f7c68f398167d79ecc7ad755eca3b7ed5bacc9696cd013"), looks := true }, kinds := [], alts := [], laidByText := true, laidKinds := [.data, .pinned], laidTests := true, laidLooks := .later }
def FoldKindsCardSaid : Prop := Claim7.holds Tryd.pinned (.plain (OpenSpec.ofChange foldKindsSpec)) foldKindsCard

/-- THE TIED CARD OF 'stanzakeeplaw04.FoldFolds'. -/
def foldFoldsCard : Claim7 := { stood := { row := foldFoldsRow, standIns := [], harness := (true, "552c30bfb6cdc8aa66f7c68f398167d79ecc7ad755eca3b7ed5bacc9696cd013"), looks := true }, kinds := [], alts := [], laidByText := true, laidKinds := [.data, .pinned], laidTests := true, laidLooks := .later }
def FoldFoldsCardSaid : Prop := Claim7.holds Tryd.pinned (.plain (OpenSpec.ofChange foldFoldsSpec)) foldFoldsCard

/-- THE TIED CARD OF 'stanzakeeplaw04.FoldUnfolds'. -/
def foldUnfoldsCard : Claim7 := { stood := { row := foldUnfoldsRow, standIns := [], harness := (true, "552c30bfb6cdc8aa66f7c68f398167d79ecc7ad755eca3b7ed5bacc9696cd013"), looks := true }, kinds := [], alts := [], laidByText := true, laidKinds := [.data, .pinned], laidTests := true, laidLooks := .later }
def FoldUnfoldsCardSaid : Prop := Claim7.holds Tryd.pinned (.plain (OpenSpec.ofChange foldUnfoldsSpec)) foldUnfoldsCard

/-- THE TIED CARD OF 'stanzakeeplaw28.SheetWrites'. -/
def sheetWritesCard : Claim7 := { stood := { row := sheetWritesRow, standIns := [], harness := (true, "552c30bfb6cdc8aa66f7c68f398167d79ecc7ad755eca3b7ed5bacc9696cd013"), looks := true }, kinds := [], alts := [], laidByText := true, laidKinds := [.data, .pinned], laidTests := true, laidLooks := .later }
def SheetWritesCardSaid : Prop := Claim7.holds Tryd.pinned (.plain (OpenSpec.ofChange sheetWritesSpec)) sheetWritesCard

/-- THE TIED CARD OF 'stanzakeeplaw28.SheetReads'. -/
def sheetReadsCard : Claim7 := { stood := { row := sheetReadsRow, standIns := [], harness := (true, "552c30bfb6cdc8aa66f7c68f398167d79ecc7ad755eca3b7ed5bacc9696cd013"), looks := true }, kinds := [], alts := [], laidByText := true, laidKinds := [.data, .pinned], laidTests := true, laidLooks := .later }
def SheetReadsCardSaid : Prop := Claim7.holds Tryd.pinned (.plain (OpenSpec.ofChange sheetReadsSpec)) sheetReadsCard

/-- THE TIED CARD OF 'stanzakeeplaw05.StanzaMany'. -/
def stanzaManyCard : Claim7 := { stood := { row := stanzaManyRow, standIns := [], harness := (true, "552c30bfb6cdc8aa66f7c68f398167d79ecc7ad755eca3b7ed5bacc9696cd013"), looks := true }, kinds := [], alts := [], laidByText := true, laidKinds := [.data, .pinned], laidTests := true, laidLooks := .later }
def StanzaManyCardSaid : Prop := Claim7.holds Tryd.pinned (.plain (OpenSpec.ofChange stanzaManySpec)) stanzaManyCard

/-- THE SECOND FORM's CARD OF 'stanzakeeplaw18.QueryPrints'. -/
def queryPrintsUptoCard : Claim7 := { stood := { row := queryPrintsUptoRow, standIns := [], harness := (true, "552c30bfb6cdc8aa66f7c68f398167d79ecc7ad755eca3b7ed5bacc9696cd013"), looks := true }, kinds := [], alts := [], laidByText := true, laidKinds := [.data, .pinned], laidTests := true, laidLooks := .later }
def QueryPrintsUptoCardSaid : Prop := Claim7.holds Tryd.pinned (.plain (OpenSpec.upto queryPrintsSpec)) queryPrintsUptoCard

/-- THE SECOND FORM's CARD OF 'stanzakeeplaw18.QueryParses'. -/
def queryParsesUptoCard : Claim7 := { stood := { row := queryParsesUptoRow, standIns := [], harness := (true, "552c30bfb6cdc8aa66f7c68f398167d79ecc7ad755eca3b7ed5bacc9696cd013"), looks := true }, kinds := [], alts := [], laidByText := true, laidKinds := [.data, .pinned], laidTests := true, laidLooks := .later }
def QueryParsesUptoCardSaid : Prop := Claim7.holds Tryd.pinned (.plain (OpenSpec.upto queryParsesSpec)) queryParsesUptoCard

/-- THE SECOND FORM's CARD OF 'stanzakeeplaw18.QueryMatches'. -/
def queryMatchesUptoCard : Claim7 := { stood := { row := queryMatchesUptoRow, standIns := [], harness := (true, "552c30bfb6cdc8aa66f7c68f398167d79ecc7ad755eca3b7ed5bacc9696cd013"), looks := true }, kinds := [], alts := [], laidByText := true, laidKinds := [.data, .pinned], laidTests := true, laidLooks := .later }
def QueryMatchesUptoCardSaid : Prop := Claim7.holds Tryd.pinned (.plain (OpenSpec.upto queryMatchesSpec)) queryMatchesUptoCard

/-- THE SECOND FORM's CARD OF 'stanzakeeplaw18.QueryRows'. -/
def queryRowsUptoCard : Claim7 := { stood := { row := queryRowsUptoRow, standIns := [], harness := (true, "552c30bfb6cdc8aa66f7c68f398167d79ecc7ad755eca3b7ed5bacc9696cd013"), looks := true }, kinds := [], alts := [], laidByText := true, laidKinds := [.data, .pinned], laidTests := true, laidLooks := .later }
def QueryRowsUptoCardSaid : Prop := Claim7.holds Tryd.pinned (.plain (OpenSpec.upto queryRowsSpec)) queryRowsUptoCard

/-- THE SECOND FORM's CARD OF 'stanzakeeplaw04.FoldTexts'. -/
def foldTextsUptoCard : Claim7 := { stood := { row := foldTextsUptoRow, standIns := [], harness := (true, "552c30bfb6cdc8aa66f7c68f398167d79ecc7ad755eca3b7ed5bacc9696cd013"), looks := true }, kinds := [], alts := [], laidByText := true, laidKinds := [.data, .pinned], laidTests := true, laidLooks := .later }
def FoldTextsUptoCardSaid : Prop := Claim7.holds Tryd.pinned (.plain (OpenSpec.upto foldTextsSpec)) foldTextsUptoCard

/-- THE SECOND FORM's CARD OF 'stanzakeeplaw04.FoldApart'. -/
def foldApartUptoCard : Claim7 := { stood := { row := foldApartUptoRow, standIns := [], harness := (true, "552c30bfb6cdc8aa66f7c68f398167d79ecc7ad755eca3b7ed5bacc9696cd013"), looks := true }, kinds := [], alts := [], laidByText := true, laidKinds := [.data, .pinned], laidTests := true, laidLooks := .later }
def FoldApartUptoCardSaid : Prop := Claim7.holds Tryd.pinned (.plain (OpenSpec.upto foldApartSpec)) foldApartUptoCard

/-- THE SECOND FORM's CARD OF 'stanzakeeplaw04.FoldKinds'. -/
def foldKindsUptoCard : Claim7 := { stood := { row := foldKindsUptoRow, standIns := [], harness := (true, "552c30bfb6cdc8aa66f7c68f398167d79ecc7ad755eca3b7ed5bacc9696cd013"), looks := true }, kinds := [], alts := [], laidByText := true, laidKinds := [.data, .pinned], laidTests := true, laidLooks := .later }
def FoldKindsUptoCardSaid : Prop := Claim7.holds Tryd.pinned (.plain (OpenSpec.upto foldKindsSpec)) foldKindsUptoCard

/-- THE SECOND FORM's CARD OF 'stanzakeeplaw04.FoldFolds'. -/
def foldFoldsUptoCard : Claim7 := { stood := { row := foldFoldsUptoRow, standIns := [], harness := (true, "552c30bfb6cdc8aa66f7c68f398167d79ecc7ad755eca3b7ed5bacc9696cd013"), looks := true }, kinds := [], alts := [], laidByText := true, laidKinds := [.data, .pinned], laidTests := true, laidLooks := .later }
def FoldFoldsUptoCardSaid : Prop := Claim7.holds Tryd.pinned (.plain (OpenSpec.upto foldFoldsSpec)) foldFoldsUptoCard

/-- THE SECOND FORM's CARD OF 'stanzakeeplaw04.FoldUnfolds'. -/
def foldUnfoldsUptoCard : Claim7 := { stood := { row := foldUnfoldsUptoRow, standIns := [], harness := (true, "552c30bfb6cdc8aa66f7c68f398167d79ecc7ad755eca3b7ed5bacc9696cd013"), looks := true }, kinds := [], alts := [], laidByText := true, laidKinds := [.data, .pinned], laidTests := true, laidLooks := .later }
def FoldUnfoldsUptoCardSaid : Prop := Claim7.holds Tryd.pinned (.plain (OpenSpec.upto foldUnfoldsSpec)) foldUnfoldsUptoCard

/-- THE SECOND FORM's CARD OF 'stanzakeeplaw28.SheetWrites'. -/
def sheetWritesUptoCard : Claim7 := { stood := { row := sheetWritesUptoRow, standIns := [], harness := (true, "552c30bfb6cdc8aa66f7c68f398167d79ecc7ad755eca3b7ed5bacc9696cd013"), looks := true }, kinds := [], alts := [], laidByText := true, laidKinds := [.data, .pinned], laidTests := true, laidLooks := .later }
def SheetWritesUptoCardSaid : Prop := Claim7.holds Tryd.pinned (.plain (OpenSpec.upto sheetWritesSpec)) sheetWritesUptoCard

/-- THE SECOND FORM's CARD OF 'stanzakeeplaw28.SheetReads'. -/
def sheetReadsUptoCard : Claim7 := { stood := { row := sheetReadsUptoRow, standIns := [], harness := (true, "552c30bfb6cdc8aa66f7c68f398167d79ecc7ad755eca3b7ed5bacc9696cd013"), looks := true }, kinds := [], alts := [], laidByText := true, laidKinds := [.data, .pinned], laidTests := true, laidLooks := .later }
def SheetReadsUptoCardSaid : Prop := Claim7.holds Tryd.pinned (.plain (OpenSpec.upto sheetReadsSpec)) sheetReadsUptoCard

/-- THE SECOND FORM's CARD OF 'stanzakeeplaw05.StanzaMany'. -/
def stanzaManyUptoCard : Claim7 := { stood := { row := stanzaManyUptoRow, standIns := [], harness := (true, "552c30bfb6cdc8aa66f7c68f398167d79ecc7ad755eca3b7ed5bacc9696cd013"), looks := true }, kinds := [], alts := [], laidByText := true, laidKinds := [.data, .pinned], laidTests := true, laidLooks := .later }
def StanzaManyUptoCardSaid : Prop := Claim7.holds Tryd.pinned (.plain (OpenSpec.upto stanzaManySpec)) stanzaManyUptoCard
end Rows
end Go.Proofs.YthlfbpmbkcoclaaDoor
