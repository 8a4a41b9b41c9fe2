/-
  What came into this seat's laws, opened. No condition.
-/
import Derived.Test.YthlfbpmbkcoclaaDoorAbOpen
import Derived.Test.YthlfbpmbkcoclaaDoorAbTe
import Derived.Shelf.Vars
import Derived.KernelRfl
namespace Go.Proofs.YthlfbpmbkcoclaaDoor
open Go.RowKit
namespace Ab
set_option maxRecDepth 100000
theorem o_str : Opens Tryd.prog 9 .str := opens_str Tryd.underlying9 (by kernel_rfl)
theorem o_int : Opens Tryd.prog 3 (.int .i64) := opens_int Tryd.underlying3 (by kernel_rfl)
theorem o_bool : Opens Tryd.prog 4 .bool := opens_bool Tryd.underlying4 (by kernel_rfl)
theorem o_field : Opens Tryd.prog 57 (.st .str .str) := opens_st Tryd.underlying57 (by kernel_rfl) (.cons rfl o_str (.one rfl o_str))
theorem o_fields : Opens Tryd.prog 42 (.sl (.st .str .str)) := opens_sl (by decide) Tryd.underlying42 (by kernel_rfl) o_field
theorem open_fields {H : Type} {enc : TypeId × Value → H} {W : World} {base : Nat} {v : Value} {d : DataW H} {p : List MemPlace} (hv : Value.okWide Tryd.prog W .any base 42 v) (h : DataW.Trod enc Tryd.prog W 0 (fun _ => true) true 42 v d p) :
    ∃ xs, (C.sl (.st .str .str) xs).rep AllOk noNames W v := open_sl Tryd.underlying42 o_fields hv h
theorem o_term : Opens Tryd.prog 49 (.st .bool (.st .str (.st (.int .i64) .str))) :=
  opens_st Tryd.underlying49 (by kernel_rfl) (.cons rfl o_bool (.cons rfl o_str (.cons rfl o_int (.one rfl o_str))))
theorem o_terms1 : Opens Tryd.prog 100 (.sl (.st .bool (.st .str (.st (.int .i64) .str)))) := opens_sl (by decide) Tryd.underlying100 (by kernel_rfl) o_term
theorem o_terms : Opens Tryd.prog 22 (.sl (.sl (.st .bool (.st .str (.st (.int .i64) .str))))) := opens_sl (by decide) Tryd.underlying22 (by kernel_rfl) o_terms1
theorem open_terms {H : Type} {enc : TypeId × Value → H} {W : World} {base : Nat} {v : Value} {d : DataW H} {p : List MemPlace} (hv : Value.okWide Tryd.prog W .any base 22 v) (h : DataW.Trod enc Tryd.prog W 0 (fun _ => true) true 22 v d p) :
    ∃ xs, (C.sl (.sl (.st .bool (.st .str (.st (.int .i64) .str)))) xs).rep AllOk noNames W v := open_sl Tryd.underlying22 o_terms hv h
/-- The library's variable holds some number. -/
theorem globAt {W : World} (h : W.ShapedOpen Tryd.prog) : GlobAt AllOk W := by
  have hc : GlobCell W := cell_of_shapedOpen_int (g := 0) (t := 3) (zero := #[.int .i64 0]) h (of_decide_eq_true (by kernel_rfl)) (by kernel_rfl) rfl (by kernel_rfl) (by kernel_rfl) Tryd.underlying3
  refine ⟨trivial, ?_, hc⟩
  obtain ⟨m, hm⟩ := hc
  rcases Nat.lt_or_ge 0 W.heap.size with h1 | h1
  · exact h1
  · exfalso
    simp only [World.cell?, Array.getElem?_eq_none h1] at hm
    cases hm
end Ab
end Go.Proofs.YthlfbpmbkcoclaaDoor
