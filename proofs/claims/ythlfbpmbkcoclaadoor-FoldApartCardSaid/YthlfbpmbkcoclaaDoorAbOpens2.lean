/-
  What came into this seat's laws, opened: structs by value. No condition.
-/
import Derived.Test.YthlfbpmbkcoclaaDoorAbOpens
namespace Go.Proofs.YthlfbpmbkcoclaaDoor
open Go.RowKit
namespace Ab
set_option maxRecDepth 100000
theorem open_agg {P : Program} {α : Type} {R : Rd α} {t : TypeId} {fs : Array Field} (hu : P.underlying t = some (.struct fs)) (ho : Opens P t R) {H : Type} {enc : TypeId × Value → H} {W : World} {base : Nat} {v : Value} {d : DataW H} {p : List MemPlace} (hv : Value.okWide P W .any base t v)
    (h : DataW.Trod enc P W 0 (fun _ => true) true t v d p) : ∃ x : α, (A.agg (toL R x)).rep AllOk noNames W v := by
  obtain ⟨cs, rfl, _⟩ := Go.WideShapes.okWide_struct hu hv
  obtain ⟨fuel, hf⟩ := h
  obtain ⟨x, hx⟩ := ho.2 enc W _ _ _ _ _ _ hf
  exact ⟨x, cs.toList, by simp, toL_rep R hx⟩
theorem open_field {H : Type} {enc : TypeId × Value → H} {W : World} {base : Nat} {v : Value} {d : DataW H} {p : List MemPlace} (hv : Value.okWide Tryd.prog W .any base 57 v) (h : DataW.Trod enc Tryd.prog W 0 (fun _ => true) true 57 v d p) :
    ∃ x, (A.agg (toL (.st .str .str) x)).rep AllOk noNames W v := open_agg Tryd.underlying57 o_field hv h
end Ab
end Go.Proofs.YthlfbpmbkcoclaaDoor
