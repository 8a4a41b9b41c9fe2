/-
  No cell of these rows narrows 'for every input' (looked for: loops, veiled, ifaces, maps, wideKeys, modest, calm, conditions, laid).
  DERIVED. THE GIVEN ROWS OF THIS SEAT. 7 by the template 'for every input the law returns true; each argument reads behind the call as it read before'; 0 by the template 'total and deterministic' (their statements: YtahdeifoakjccaaTotals.lean).
  GIVEN WITH THE SEED: the statements are not yours to turn. If you find one false, say at which input.
  Laid BY PROGRAM, IN A SANDBOX (cutbox-rows.mjs): the forced cells as the released guide's own fill.sh prints them over the translation 379e75ae264a1075… (all of the seat's roots in one cut). By AI agents, Wed Nov 11 2026. No macro, syntax, notation, axiom, sorry.
-/
import Derived.Test.YtahdeifoakjccaaChecked
import GoSem.Claim
import GoSem.ClaimJoined
import GoSem.ClaimMapViews
import Derived.JoinedTies
import Derived.KernelRfl
namespace Go.Proofs.Ytahdeifoakjccaa
/- THE CELL 'sum', in the pinned program and in every row, IS THE sha256 OF THE DUMP (.gsa) THAT YtahdeifoakjccaaProg.lean LOADS. Nothing in Lean hashes anything: it is a label: what it is worth is what the hold of that sum in a sandbox is worth. -/
noncomputable def Try.pinned : Pinned := { name := "ytahdeifoakjccaa", sum := "379e75ae264a107508b5dc1daf7269196d093359af4dca98f69585da06d46619", checked := Try.checked }
namespace Rows
def none {H : Type} : Left H := { results := [], args := [] }

/-- 'stanzakeeplaw01.SumSums': WHATEVER THE INPUT: true; the input reads as it did. -/
def sumSumsSpec : ChangeSpec := { name := "sumSums", fn := fun _ => fun
  | [d1, d2, d3] => { results := [.lit (.bool true)], args := [d1, d2, d3] }
  | _ => none }
def sumSumsRow : OpenClaim := { program := "ytahdeifoakjccaa", sum := "379e75ae264a107508b5dc1daf7269196d093359af4dca98f69585da06d46619", func := "stanzakeep/stanzakeeplaw01.SumSums", spec := "sumSums", apart := false }
def SumSumsSaid : Prop := sumSumsRow.holds Try.pinned (OpenSpec.ofChange sumSumsSpec)

/-- ITS FALSE NEIGHBOUR: 'it returns false'. Refute it at one input. -/
def sumSumsWrong : ChangeSpec := { name := "sumSums", fn := fun _ => fun
  | [d1, d2, d3] => { results := [.lit (.bool false)], args := [d1, d2, d3] }
  | _ => none }
def SumSumsWrongFalsely : Prop := sumSumsRow.holds Try.pinned (OpenSpec.ofChange sumSumsWrong)

/-- 'stanzakeeplaw01.SumParts': WHATEVER THE INPUT: true; the input reads as it did. -/
def sumPartsSpec : ChangeSpec := { name := "sumParts", fn := fun _ => fun
  | [d] => { results := [.lit (.bool true)], args := [d] }
  | _ => none }
def sumPartsRow : OpenClaim := { program := "ytahdeifoakjccaa", sum := "379e75ae264a107508b5dc1daf7269196d093359af4dca98f69585da06d46619", func := "stanzakeep/stanzakeeplaw01.SumParts", spec := "sumParts", inPlace := ["internal/abi.NoEscape"], apart := false }
def SumPartsSaid : Prop := sumPartsRow.holds Try.pinned (OpenSpec.ofChange sumPartsSpec)

/-- ITS FALSE NEIGHBOUR: 'it returns false'. Refute it at one input. -/
def sumPartsWrong : ChangeSpec := { name := "sumParts", fn := fun _ => fun
  | [d] => { results := [.lit (.bool false)], args := [d] }
  | _ => none }
def SumPartsWrongFalsely : Prop := sumPartsRow.holds Try.pinned (OpenSpec.ofChange sumPartsWrong)

/-- 'stanzakeeplaw01.SumFinds': WHATEVER THE INPUT: true; the input reads as it did. -/
def sumFindsSpec : ChangeSpec := { name := "sumFinds", fn := fun _ => fun
  | [d1, d2, d3] => { results := [.lit (.bool true)], args := [d1, d2, d3] }
  | _ => none }
def sumFindsRow : OpenClaim := { program := "ytahdeifoakjccaa", sum := "379e75ae264a107508b5dc1daf7269196d093359af4dca98f69585da06d46619", func := "stanzakeep/stanzakeeplaw01.SumFinds", spec := "sumFinds", inPlace := ["internal/abi.NoEscape"], apart := false }
def SumFindsSaid : Prop := sumFindsRow.holds Try.pinned (OpenSpec.ofChange sumFindsSpec)

/-- ITS FALSE NEIGHBOUR: 'it returns false'. Refute it at one input. -/
def sumFindsWrong : ChangeSpec := { name := "sumFinds", fn := fun _ => fun
  | [d1, d2, d3] => { results := [.lit (.bool false)], args := [d1, d2, d3] }
  | _ => none }
def SumFindsWrongFalsely : Prop := sumFindsRow.holds Try.pinned (OpenSpec.ofChange sumFindsWrong)

/-- 'stanzakeeplaw01.SumAsks': WHATEVER THE INPUT: true; the input reads as it did. -/
def sumAsksSpec : ChangeSpec := { name := "sumAsks", fn := fun _ => fun
  | [d1, d2, d3] => { results := [.lit (.bool true)], args := [d1, d2, d3] }
  | _ => none }
def sumAsksRow : OpenClaim := { program := "ytahdeifoakjccaa", sum := "379e75ae264a107508b5dc1daf7269196d093359af4dca98f69585da06d46619", func := "stanzakeep/stanzakeeplaw01.SumAsks", spec := "sumAsks", inPlace := ["internal/abi.NoEscape"], apart := false }
def SumAsksSaid : Prop := sumAsksRow.holds Try.pinned (OpenSpec.ofChange sumAsksSpec)

/-- ITS FALSE NEIGHBOUR: 'it returns false'. Refute it at one input. -/
def sumAsksWrong : ChangeSpec := { name := "sumAsks", fn := fun _ => fun
  | [d1, d2, d3] => { results := [.lit (.bool false)], args := [d1, d2, d3] }
  | _ => none }
def SumAsksWrongFalsely : Prop := sumAsksRow.holds Try.pinned (OpenSpec.ofChange sumAsksWrong)

/-- 'stanzakeeplaw22.DiffWays': WHATEVER THE INPUT: true; the input reads as it did. -/
def diffWaysSpec : ChangeSpec := { name := "diffWays", fn := fun _ => fun
  | [d1, d2] => { results := [.lit (.bool true)], args := [d1, d2] }
  | _ => none }
def diffWaysRow : OpenClaim := { program := "ytahdeifoakjccaa", sum := "379e75ae264a107508b5dc1daf7269196d093359af4dca98f69585da06d46619", func := "stanzakeep/stanzakeeplaw22.DiffWays", spec := "diffWays", unfollowed := true, recurses := true, apart := false }
def DiffWaysSaid : Prop := diffWaysRow.holds Try.pinned (OpenSpec.ofChange diffWaysSpec)

/-- ITS FALSE NEIGHBOUR: 'it returns false'. Refute it at one input. -/
def diffWaysWrong : ChangeSpec := { name := "diffWays", fn := fun _ => fun
  | [d1, d2] => { results := [.lit (.bool false)], args := [d1, d2] }
  | _ => none }
def DiffWaysWrongFalsely : Prop := diffWaysRow.holds Try.pinned (OpenSpec.ofChange diffWaysWrong)

/-- 'stanzakeeplaw22.DiffMeasures': WHATEVER THE INPUT: true; the input reads as it did. -/
def diffMeasuresSpec : ChangeSpec := { name := "diffMeasures", fn := fun _ => fun
  | [d1, d2, d3] => { results := [.lit (.bool true)], args := [d1, d2, d3] }
  | _ => none }
def diffMeasuresRow : OpenClaim := { program := "ytahdeifoakjccaa", sum := "379e75ae264a107508b5dc1daf7269196d093359af4dca98f69585da06d46619", func := "stanzakeep/stanzakeeplaw22.DiffMeasures", spec := "diffMeasures", unfollowed := true, recurses := true, apart := false }
def DiffMeasuresSaid : Prop := diffMeasuresRow.holds Try.pinned (OpenSpec.ofChange diffMeasuresSpec)

/-- ITS FALSE NEIGHBOUR: 'it returns false'. Refute it at one input. -/
def diffMeasuresWrong : ChangeSpec := { name := "diffMeasures", fn := fun _ => fun
  | [d1, d2, d3] => { results := [.lit (.bool false)], args := [d1, d2, d3] }
  | _ => none }
def DiffMeasuresWrongFalsely : Prop := diffMeasuresRow.holds Try.pinned (OpenSpec.ofChange diffMeasuresWrong)

/-- 'stanzakeeplaw01.SumFigures': WHATEVER THE INPUT: true; the input reads as it did. -/
def sumFiguresSpec : ChangeSpec := { name := "sumFigures", fn := fun _ => fun
  | [d1, d2, d3] => { results := [.lit (.bool true)], args := [d1, d2, d3] }
  | _ => none }
def sumFiguresRow : OpenClaim := { program := "ytahdeifoakjccaa", sum := "379e75ae264a107508b5dc1daf7269196d093359af4dca98f69585da06d46619", func := "stanzakeep/stanzakeeplaw01.SumFigures", spec := "sumFigures", inPlace := ["internal/abi.NoEscape", "internal/bytealg.IndexByteString"], apart := false }
def SumFiguresSaid : Prop := sumFiguresRow.holds Try.pinned (OpenSpec.ofChange sumFiguresSpec)

/-- ITS FALSE NEIGHBOUR: 'it returns false'. Refute it at one input. -/
def sumFiguresWrong : ChangeSpec := { name := "sumFigures", fn := fun _ => fun
  | [d1, d2, d3] => { results := [.lit (.bool false)], args := [d1, d2, d3] }
  | _ => none }
def SumFiguresWrongFalsely : Prop := sumFiguresRow.holds Try.pinned (OpenSpec.ofChange sumFiguresWrong)

/- THE SECOND FORM. 'bulk': how many values and letters a reading holds, each counted each time it is reached (what is shared counts as often as it is met; a slice's spare places count too). A statement '..UptoSaid' is the law's where the arguments, and the package variables that the reading takes, are together of bulk at most 1048576: NARROWER than '..Said'. Prove '..Said' where nothing that the law and all that it calls make is longer than what came in: it says more and counts as full. Else prove '..UptoSaid'. A law counts once. -/
mutual
def uptoBulk {H : Type} : DataW H → Nat
  | .lit (.string bytes) => bytes.length + 1
  | .lit _ => 1
  | .nil => 1
  | .ptr d => uptoBulk d + 1
  | .slice elems spare => uptoBulkAll elems + uptoBulkAll spare + 1
  | .agg parts => uptoBulkAll parts + 1
  | .iface _ d => uptoBulk d + 1
  | .map entries => uptoBulkEntries entries + 1
  | .held _ => 1
def uptoBulkAll {H : Type} : List (DataW H) → Nat
  | [] => 0
  | d :: r => uptoBulk d + uptoBulkAll r
def uptoBulkEntries {H : Type} : List (Lit × DataW H) → Nat
  | [] => 0
  | x :: r => uptoBulkEntry x + uptoBulkEntries r
def uptoBulkEntry {H : Type} : Lit × DataW H → Nat
  | (.string bytes, d) => bytes.length + uptoBulk d + 1
  | (_, d) => uptoBulk d + 1
 end
def uptoSmall : (H : Type) → List (DataW H) → Bool := fun _ ds => decide (uptoBulkAll ds ≤ 1048576)
def OpenSpec.upto (s : _root_.Go.ChangeSpec) : _root_.Go.OpenSpec := { _root_.Go.OpenSpec.ofChange s with cond := some uptoSmall }

/-- 'stanzakeeplaw01.SumSums', WHERE WHAT IT READS IS OF BULK AT MOST 1048576: true; the input reads as it did. -/
def sumSumsUptoRow : OpenClaim := { program := "ytahdeifoakjccaa", sum := "379e75ae264a107508b5dc1daf7269196d093359af4dca98f69585da06d46619", func := "stanzakeep/stanzakeeplaw01.SumSums", spec := "sumSums", apart := false, narrowed := true }
def SumSumsUptoSaid : Prop := sumSumsUptoRow.holds Try.pinned (OpenSpec.upto sumSumsSpec)

/-- 'stanzakeeplaw01.SumParts', WHERE WHAT IT READS IS OF BULK AT MOST 1048576: true; the input reads as it did. -/
def sumPartsUptoRow : OpenClaim := { program := "ytahdeifoakjccaa", sum := "379e75ae264a107508b5dc1daf7269196d093359af4dca98f69585da06d46619", func := "stanzakeep/stanzakeeplaw01.SumParts", spec := "sumParts", inPlace := ["internal/abi.NoEscape"], apart := false, narrowed := true }
def SumPartsUptoSaid : Prop := sumPartsUptoRow.holds Try.pinned (OpenSpec.upto sumPartsSpec)

/-- 'stanzakeeplaw01.SumFinds', WHERE WHAT IT READS IS OF BULK AT MOST 1048576: true; the input reads as it did. -/
def sumFindsUptoRow : OpenClaim := { program := "ytahdeifoakjccaa", sum := "379e75ae264a107508b5dc1daf7269196d093359af4dca98f69585da06d46619", func := "stanzakeep/stanzakeeplaw01.SumFinds", spec := "sumFinds", inPlace := ["internal/abi.NoEscape"], apart := false, narrowed := true }
def SumFindsUptoSaid : Prop := sumFindsUptoRow.holds Try.pinned (OpenSpec.upto sumFindsSpec)

/-- 'stanzakeeplaw01.SumAsks', WHERE WHAT IT READS IS OF BULK AT MOST 1048576: true; the input reads as it did. -/
def sumAsksUptoRow : OpenClaim := { program := "ytahdeifoakjccaa", sum := "379e75ae264a107508b5dc1daf7269196d093359af4dca98f69585da06d46619", func := "stanzakeep/stanzakeeplaw01.SumAsks", spec := "sumAsks", inPlace := ["internal/abi.NoEscape"], apart := false, narrowed := true }
def SumAsksUptoSaid : Prop := sumAsksUptoRow.holds Try.pinned (OpenSpec.upto sumAsksSpec)

/-- 'stanzakeeplaw22.DiffWays', WHERE WHAT IT READS IS OF BULK AT MOST 1048576: true; the input reads as it did. -/
def diffWaysUptoRow : OpenClaim := { program := "ytahdeifoakjccaa", sum := "379e75ae264a107508b5dc1daf7269196d093359af4dca98f69585da06d46619", func := "stanzakeep/stanzakeeplaw22.DiffWays", spec := "diffWays", unfollowed := true, recurses := true, apart := false, narrowed := true }
def DiffWaysUptoSaid : Prop := diffWaysUptoRow.holds Try.pinned (OpenSpec.upto diffWaysSpec)

/-- 'stanzakeeplaw22.DiffMeasures', WHERE WHAT IT READS IS OF BULK AT MOST 1048576: true; the input reads as it did. -/
def diffMeasuresUptoRow : OpenClaim := { program := "ytahdeifoakjccaa", sum := "379e75ae264a107508b5dc1daf7269196d093359af4dca98f69585da06d46619", func := "stanzakeep/stanzakeeplaw22.DiffMeasures", spec := "diffMeasures", unfollowed := true, recurses := true, apart := false, narrowed := true }
def DiffMeasuresUptoSaid : Prop := diffMeasuresUptoRow.holds Try.pinned (OpenSpec.upto diffMeasuresSpec)

/-- 'stanzakeeplaw01.SumFigures', WHERE WHAT IT READS IS OF BULK AT MOST 1048576: true; the input reads as it did. -/
def sumFiguresUptoRow : OpenClaim := { program := "ytahdeifoakjccaa", sum := "379e75ae264a107508b5dc1daf7269196d093359af4dca98f69585da06d46619", func := "stanzakeep/stanzakeeplaw01.SumFigures", spec := "sumFigures", inPlace := ["internal/abi.NoEscape", "internal/bytealg.IndexByteString"], apart := false, narrowed := true }
def SumFiguresUptoSaid : Prop := sumFiguresUptoRow.holds Try.pinned (OpenSpec.upto sumFiguresSpec)

end Rows
end Go.Proofs.Ytahdeifoakjccaa
