/-
  The walk of the law SumSums. Over every input; no condition but the model's own bounds.
-/
import Derived.Test.YtahdeifoakjccaaSumSum
import Derived.Test.YtahdeifoakjccaaSumLaw
namespace Go.Proofs.Ytahdeifoakjccaa
open Go.RowKit
namespace Crc

def t1234 : ByteArray := ⟨#[49, 50, 51, 52]⟩
def t56789 : ByteArray := ⟨#[53, 54, 55, 56, 57]⟩
theorem check : sumT [t1234, t56789] = 0xfc891918#32 := by decide +kernel

theorem strs_two (w : World) (a b : ByteArray) (t : TypeId) : Strs (w.alloc (.cells #[.string a, .string b] t)) (.slice (some ⟨w.heap.size, 0, none⟩) 2 2) [a, b] := by
  refine ⟨_, 2, rfl, ?_⟩
  intro i h
  refine ⟨w.heap.size, 0, rfl, ?_⟩
  rw [World.cell?_alloc_at _ _ _ _ rfl]
  match i, h with
  | 0, _ => rfl
  | 1, _ => rfl

theorem alive_any (w : World) :
    Calls Try.prog 10 #[] w fun e w' => e = .returned (.bool true) ∧ Below w.heap.size w w' := by
  have h := sum_sum (.slice (some ⟨w.heap.size, 0, none⟩) 2 2) [t1234, t56789] _ (strs_two w t1234 t56789 9) (by decide) (by intro s hs; simp only [List.mem_cons, List.not_mem_nil, or_false] at hs; unfold maxLen; rcases hs with rfl | rfl <;> decide)
  rw [check] at h
  have H := Lib.hid h
  clear h
  go_enter Try.func10, Try.ntmps10
  go_wp2_with fail
  refine H.out.mono ?_
  rintro e w' ⟨rfl, hb⟩
  go_wp2
  go_ret
  exact ⟨rfl, ((Below.refl _ _).alloc (Nat.le_refl _) _).trans (hb.mono (by simp))⟩

theorem SumSums_walk (a : ByteArray) (ha : a.size ≤ maxLen) (b : ByteArray) (hb : b.size ≤ maxLen) (n : Int) (hn : (Lit.int .u32 n).wf = true) (w : World) :
    Calls Try.prog 3 #[.string a, .string b, .int .u32 n] w fun e w' => e = .returned (.bool true) ∧ Below w.heap.size w w' := by
  have hal := alive_any
  have HA := Lib.hid hal
  clear hal
  unfold maxLen at ha hb
  by_cases h1 : 5000 < a.size
  · go_enter Try.func3, Try.ntmps3
    go_wp2_with fail
    refine (HA.out _).mono ?_
    rintro e w1 ⟨rfl, hb1⟩
    go_wp2
    go_ret
    exact ⟨rfl, hb1⟩
  by_cases h2 : 5000 < b.size
  · go_enter Try.func3, Try.ntmps3
    go_wp2_with fail
    refine (HA.out _).mono ?_
    rintro e w1 ⟨rfl, hb1⟩
    go_wp2
    go_ret
    exact ⟨rfl, hb1⟩
  obtain ⟨x, rfl⟩ := u32_bv hn
  have g1 := ref_sum (a ++ b)
  have g2 := ref_sum a
  have G1 := Lib.hid g1
  have G2 := Lib.hid g2
  clear g1 g2
  have s1 : (a ++ b).size ≤ maxLen := by unfold maxLen; rw [ByteArray.size_append]; omega
  have s2 : a.size ≤ maxLen := ha
  have s3 : b.size ≤ maxLen := hb
  have S1 := Lib.hid s1
  have S2 := Lib.hid s2
  have S3 := Lib.hid s3
  clear s1 s2 s3
  have e1 : (a ++ b).data.toList = a.data.toList ++ b.data.toList := by simp
  have e2 : addB 0#32 (a ++ b).data.toList = addB (addB 0#32 a.data.toList) b.data.toList := by rw [e1, addB_append]
  have e3 : sumT [a, b] = addB (addB 0#32 a.data.toList) b.data.toList := by
    simp only [sumT, List.foldl_cons, List.foldl_nil]; rw [addT_is, addT_is]
  have E2 := Lib.hid e2
  have E3 := Lib.hid e3
  clear e1 e2 e3
  go_enter Try.func3, Try.ntmps3
  go_wp2_with fail
  refine (HA.out _).mono ?_
  rintro e w1 ⟨rfl, hb1⟩
  go_wp2_with fail
  refine (G1.out _ S1.out).mono ?_
  rintro e w' ⟨rfl, rfl⟩
  rw [E2.out]
  go_wp2_with fail
  refine (sum_sum _ [a, b] _ (strs_two _ _ _ _) (by simp) (by intro s hs; simp only [List.mem_cons, List.not_mem_nil, or_false] at hs; rcases hs with rfl | rfl; exact S2.out; exact S3.out)).mono ?_
  rintro e w2 ⟨rfl, hb2⟩
  rw [E3.out]
  go_wp2_with fail
  refine (G2.out _ S2.out).mono ?_
  rintro e w' ⟨rfl, rfl⟩
  go_wp2_with fail
  refine (sum_add _ b _ S3.out).mono ?_
  rintro e w3 ⟨rfl, hb3⟩
  rw [addT_is]
  go_wp2_with fail
  refine (sum_add x b _ S3.out).mono ?_
  rintro e w4 ⟨rfl, hb4⟩
  rw [addT_is]
  go_wp2_with fail
  refine (ref_add x b _ S3.out).mono ?_
  rintro e w' ⟨rfl, rfl⟩
  go_wp2
  go_ret
  have k2 : Below w.heap.size w w2 := (hb1.alloc hb1.size _).trans (hb2.mono (by have := hb1.size; simp; omega))
  have k3 : Below w.heap.size w w3 := k2.trans (hb3.mono k2.size)
  exact ⟨rfl, k3.trans (hb4.mono k3.size)⟩
end Crc
end Go.Proofs.Ytahdeifoakjccaa
