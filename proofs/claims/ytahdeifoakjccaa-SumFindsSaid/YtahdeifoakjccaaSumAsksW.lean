/-
  The walk of the law SumAsks. Over every input; no condition but the model's own bounds.
-/
import Derived.Test.YtahdeifoakjccaaSumSumsW
import Derived.Test.YtahdeifoakjccaaSumFig
namespace Go.Proofs.Ytahdeifoakjccaa
open Go.RowKit
namespace Crc

theorem two_sized {a b : ByteArray} (ha : a.size ≤ maxLen) (hb : b.size ≤ maxLen) : ∀ s ∈ [a, b], s.size ≤ maxLen := by
  intro s hs
  simp only [List.mem_cons, List.not_mem_nil, or_false] at hs
  rcases hs with rfl | rfl
  · exact ha
  · exact hb

theorem SumAsks_walk (f : ByteArray) (_hf : f.size ≤ maxLen) (a : ByteArray) (ha : a.size ≤ maxLen) (b : ByteArray) (hb : b.size ≤ maxLen) (w : World) :
    Calls Try.prog 6 #[.string f, .string a, .string b] w fun e w' => e = .returned (.bool true) ∧ Below w.heap.size w w' := by
  have HA := Lib.hid alive_any
  have T := Lib.hid (two_sized ha hb)
  unfold maxLen at ha hb
  by_cases h1 : 3000 < a.size
  · go_enter Try.func6, Try.ntmps6
    go_wp2_with fail
    refine (HA.out _).mono ?_
    rintro e w1 ⟨rfl, hb1⟩
    go_wp2
    go_ret
    exact ⟨rfl, hb1⟩
  by_cases h2 : 3000 < b.size
  · go_enter Try.func6, Try.ntmps6
    go_wp2_with fail
    refine (HA.out _).mono ?_
    rintro e w1 ⟨rfl, hb1⟩
    go_wp2
    go_ret
    exact ⟨rfl, hb1⟩
  have S1 : Hid ((a ++ b).size ≤ maxLen) := Lib.hid (by unfold maxLen; rw [ByteArray.size_append]; omega)
  have e1 : (a ++ b).data.toList = a.data.toList ++ b.data.toList := by simp
  have E2 : Hid (addB 0#32 (a ++ b).data.toList = sumT [a, b]) := Lib.hid (by
    rw [e1, addB_append]; simp only [sumT, List.foldl_cons, List.foldl_nil]; rw [addT_is, addT_is])
  clear e1
  go_enter Try.func6, Try.ntmps6
  go_wp2_with fail
  refine (HA.out _).mono ?_
  rintro e w1 ⟨rfl, hb1⟩
  go_wp2_with fail
  refine (ref_sum (a ++ b) _ S1.out).mono ?_
  rintro e w' ⟨rfl, rfl⟩
  rw [E2.out]
  go_wp2_with fail
  refine (RefFigures_any _ _).mono ?_
  rintro e w' ⟨rfl, rfl⟩
  go_wp2_with fail
  refine (Is_any f _ [a, b] _ (strs_two _ _ _ _) (by simp) T.out).mono ?_
  rintro e w2 ⟨rfl, hb2⟩
  go_wp2_with fail
  refine (Is_any _ _ [a, b] _ (strs_two _ _ _ _) (by simp) T.out).mono ?_
  rintro e w3 ⟨rfl, hb3⟩
  go_wp2
  go_ret
  have k2 := via_alloc hb1 hb1.size hb2
  exact ⟨rfl, via_alloc k2 k2.size hb3⟩
end Crc
end Go.Proofs.Ytahdeifoakjccaa
