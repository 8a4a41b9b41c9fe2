/-
  The walks over package sum and its reference: what the Go functions compute, in words over 32 bits. Over every input; no condition.
-/
import Derived.Test.YtahdeifoakjccaaRows
import Derived.Test.YtahdeifoakjccaaSumBits
import Derived.WalkKit
import Derived.LoopTactic
namespace Go.Proofs.Ytahdeifoakjccaa
open Go.RowKit
namespace Crc

theorem row_any (x : BitVec 32) (w : World) :
    Calls Try.prog 41 #[.int .u32 (x.toNat : Int)] w fun e w' => e = .returned (.int .u32 ((stps 4 (x <<< 28)).toNat : Int)) ∧ w = w' := by
  go_enter Try.func41, Try.ntmps41
  go_wp2
  go_loop [3, 6] (fun t i => ∃ k : Nat, k ≤ 4 ∧ i = .int .i64 k ∧ t = .int .u32 ((stps k (x <<< 28)).toNat : Int)) (fun _ i => 4 - (intOf i).toNat)
  case atStart => exact ⟨0, by omega, rfl, by rw [shl28]; rfl⟩
  case round =>
    obtain ⟨k, hk, rfl, rfl⟩ := hrel
    go_wp2
    · go_round
      case rel => exact ⟨k + 1, by omega, by go_num, by rw [step_yes _ ‹_›]; rfl⟩
      case measure => simp [intOf]; omega
    · go_round
      case rel => exact ⟨k + 1, by omega, by go_num, by rw [step_no _ ‹_›]; rfl⟩
      case measure => simp [intOf]; omega
    · go_ret
      obtain rfl : k = 4 := by omega
      exact ⟨rfl, rfl⟩

/-- The array of the table's first k entries, as rows lays it. -/
def arr : Nat → Array Value
  | 0 => #[.int .u32 0, .int .u32 0, .int .u32 0, .int .u32 0, .int .u32 0, .int .u32 0, .int .u32 0, .int .u32 0, .int .u32 0, .int .u32 0, .int .u32 0, .int .u32 0, .int .u32 0, .int .u32 0, .int .u32 0, .int .u32 0]
  | k + 1 => (arr k).setIfInBounds k (.int .u32 (tt k))
theorem arr_size (k : Nat) : (arr k).size = 16 := by
  induction k with
  | zero => rfl
  | succ k ih => simp [arr, ih]

theorem arr_all : ∃ t0 t1 t2 t3 t4 t5 t6 t7 t8 t9 t10 t11 t12 t13 t14 t15 : Int, arr 16 = #[.int .u32 t0, .int .u32 t1, .int .u32 t2, .int .u32 t3, .int .u32 t4, .int .u32 t5, .int .u32 t6, .int .u32 t7, .int .u32 t8, .int .u32 t9, .int .u32 t10, .int .u32 t11, .int .u32 t12, .int .u32 t13, .int .u32 t14, .int .u32 t15] := ⟨tt 0, tt 1, tt 2, tt 3, tt 4, tt 5, tt 6, tt 7, tt 8, tt 9, tt 10, tt 11, tt 12, tt 13, tt 14, tt 15, rfl⟩

theorem row_nat (n : Nat) (h : n < 16) (w : World) :
    Calls Try.prog 41 #[.int .u32 (n : Int)] w fun e w' => e = .returned (.int .u32 (tt n)) ∧ w = w' := by
  have e : (n : Int) = ((BitVec.ofNat 32 n).toNat : Int) := by
    rw [BitVec.toNat_ofNat]; omega
  rw [e]
  exact row_any _ w

theorem rows_any (w : World) :
    Calls Try.prog 29 #[] w fun e w' => e = .returned (.agg (arr 16)) ∧ Below w.heap.size w w' := by
  go_enter Try.func29, Try.ntmps29
  go_wp2
  go_loopw [2] (fun i wr => ∃ k : Nat, k ≤ 16 ∧ i = .int .i64 k ∧ wr = w.alloc (.cells (arr k) 47)) (fun i _ => 16 - (intOf i).toNat)
  case atStart => exact ⟨0, by omega, rfl, rfl⟩
  case round =>
    obtain ⟨k, hk, rfl, rfl⟩ := hrel
    by_cases hlt : k < 16
    · have hs := arr_size k
      go_wp2_with (go_at_call 41; refine (row_nat k hlt _).mono ?_; rintro e w' ⟨rfl, rfl⟩)
      go_roundw
      case rel => exact ⟨k + 1, by omega, by go_num, rfl⟩
      case measure => simp [intOf]; omega
    · obtain rfl : k = 16 := by omega
      obtain ⟨t0, t1, t2, t3, t4, t5, t6, t7, t8, t9, t10, t11, t12, t13, t14, t15, ha⟩ := arr_all
      go_wp2
      refine bodyPost_ret (v := .agg (arr 16)) (by rw [ha]; simp [results, Try.results29, go_sem]) rfl ⟨rfl, (Below.refl _ _).alloc (Nat.le_refl _) _⟩

end Crc
end Go.Proofs.Ytahdeifoakjccaa
