/-
  The walks over the reference of package sum. Over every input; no condition.
-/
import Derived.Test.YtahdeifoakjccaaRows
import Derived.Test.YtahdeifoakjccaaSumBits
import Derived.WalkKit
import Derived.LoopTactic
import Derived.Lib.Hide
namespace Go.Proofs.Ytahdeifoakjccaa
open Go.RowKit
namespace Crc

theorem ref_add (x : BitVec 32) (s : ByteArray) (w : World) (hs : s.size ≤ maxLen) :
    Calls Try.prog 14 #[.int .u32 (x.toNat : Int), .string s] w fun e w' => e = .returned (.int .u32 ((addB x s.data.toList).toNat : Int)) ∧ w = w' := by
  unfold maxLen at hs
  have hx := x.isLt
  go_enter Try.func14, Try.ntmps14
  go_wp2
  go_loop [5, 6] (fun t i => ∃ (k : Nat), k ≤ s.size ∧ i = .int .i64 k ∧ t = .int .u32 (((s.data.toList.take k).foldl feedB (~~~ x)).toNat : Int)) (fun _ i => s.size - (intOf i).toNat)
  case atStart => exact ⟨0, by omega, rfl, by rw [sub32]; rfl⟩
  case round =>
    obtain ⟨k, hk, rfl, rfl⟩ := hrel
    generalize hX : (s.data.toList.take k).foldl feedB (~~~ x) = X
    have HXX := Lib.hid hX
    clear hX
    by_cases hlt : k < s.size
    · have hc := s[k].toNat_lt
      go_wp2
      have e1 : bits .xor .u32 (X.toNat : Int) ((s[k].toNat : Int) * 16777216) = ((X ^^^ (BitVec.ofNat 32 s[k].toNat <<< 24)).toNat : Int) := by
        rw [shl24 _ hc, xor32]
      rw [e1]
      have HF : Hid (feedB X s[k] = stps 8 (X ^^^ (BitVec.ofNat 32 s[k].toNat <<< 24))) := rfl
      clear e1
      generalize X ^^^ (BitVec.ofNat 32 s[k].toNat <<< 24) = Y at *
      go_loop [5, 7] (fun t i => ∃ (j : Nat), j ≤ 8 ∧ i = .int .i64 j ∧ t = .int .u32 ((stps j Y).toNat : Int)) (fun _ i => 8 - (intOf i).toNat)
      case atStart => exact ⟨0, by omega, rfl, rfl⟩
      case round =>
        obtain ⟨j, hj, rfl, rfl⟩ := hrel
        generalize hZ : stps j Y = Z
        have HZ := Lib.hid hZ
        clear hZ
        have hz := Z.isLt
        by_cases hjl : j < 8
        · go_wp2
          · go_round
            case rel => exact ⟨j + 1, by omega, by go_num, by rw [step_yes' _ ‹_›, ← HZ.out]; rfl⟩
            case measure => simp [intOf]; omega
          · go_round
            case rel => exact ⟨j + 1, by omega, by go_num, by rw [step_no' _ ‹_›, ← HZ.out]; rfl⟩
            case measure => simp [intOf]; omega
        · go_wp2
          go_round
          case rel => exact ⟨k + 1, by omega, by go_num, by rw [fold_snoc feedB _ s k hlt, HXX.out, HF.out, ← HZ.out, show j = 8 from by omega]⟩
          case measure => simp [intOf]; omega
    · have hX := X.isLt
      go_wp2
      go_ret
      obtain rfl : k = s.size := by omega
      exact ⟨ret_u32 (by rw [sub32, ← HXX.out, fold_all]; rfl), rfl⟩

end Crc
end Go.Proofs.Ytahdeifoakjccaa
