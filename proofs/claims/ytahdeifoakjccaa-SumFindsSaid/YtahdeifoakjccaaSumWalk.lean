/-
  The walks over package sum and its reference: what the Go functions compute, in words over 32 bits. Over every input; no condition.
-/
import Derived.Test.YtahdeifoakjccaaSumRows
import Derived.Test.YtahdeifoakjccaaSumBits
import Derived.WalkKit
import Derived.LoopTactic
import Derived.Lib.Hide
import Derived.Deep.QuietTactic
import Derived.BigQuiet
import Derived.WalkSmall
namespace Go.Proofs.Ytahdeifoakjccaa
open Go.RowKit
namespace Crc

theorem arr_at (k : Nat) : ∀ j, j < k → k ≤ 16 → (arr k)[j]? = some (.int .u32 (tt j)) := by
  induction k with
  | zero => intro j h; omega
  | succ k ih =>
    intro j h hk
    rw [arr, Array.getElem?_setIfInBounds]
    by_cases e : k = j
    · subst e; rw [if_pos rfl, if_pos (by rw [arr_size]; omega)]
    · rw [if_neg e]; exact ih j (by omega) (by omega)

theorem pair0 (p q : Int) (w : World) : (Instr.index 49 (.agg #[.int .u32 p, .int .u32 q]) (.int .i64 0)).run Try.prog w = .ok (.int .u32 p) w := by kernel_rfl
theorem pair1 (p q : Int) (w : World) : (Instr.index 49 (.agg #[.int .u32 p, .int .u32 q]) (.int .i64 1)).run Try.prog w = .ok (.int .u32 q) w := by kernel_rfl

theorem sum_add (x : BitVec 32) (s : ByteArray) (w : World) (hs : s.size ≤ maxLen) :
    Calls Try.prog 13 #[.int .u32 (x.toNat : Int), .string s] w fun e w' => e = .returned (.int .u32 ((addT x s.data.toList).toNat : Int)) ∧ Below w.heap.size w w' := by
  unfold maxLen at hs
  obtain ⟨t0, t1, t2, t3, t4, t5, t6, t7, t8, t9, t10, t11, t12, t13, t14, t15, ha⟩ := arr_all
  have hrows : ∀ w, Calls Try.prog 29 #[] w fun e w' => e = .returned (.agg #[.int .u32 t0, .int .u32 t1, .int .u32 t2, .int .u32 t3, .int .u32 t4, .int .u32 t5, .int .u32 t6, .int .u32 t7, .int .u32 t8, .int .u32 t9, .int .u32 t10, .int .u32 t11, .int .u32 t12, .int .u32 t13, .int .u32 t14, .int .u32 t15]) ∧ Below w.heap.size w w' := by
    intro w; rw [← ha]; exact rows_any w
  have hat : ∀ j, j < 16 → (#[.int .u32 t0, .int .u32 t1, .int .u32 t2, .int .u32 t3, .int .u32 t4, .int .u32 t5, .int .u32 t6, .int .u32 t7, .int .u32 t8, .int .u32 t9, .int .u32 t10, .int .u32 t11, .int .u32 t12, .int .u32 t13, .int .u32 t14, .int .u32 t15] : Array Value)[j]? = some (.int .u32 (tt j)) := by
    intro j h; rw [← ha]; exact arr_at 16 j h (by omega)
  have HA := Lib.hid ha
  clear ha
  have HR := Lib.hid hrows
  clear hrows
  have HT := Lib.hid hat
  clear hat
  go_enter Try.func13, Try.ntmps13
  go_wp2_with (go_at_call 29; refine (HR.out _).mono ?_; rintro e w1 ⟨rfl, hb⟩)
  have hc : ∀ j, j < 16 → (w1.alloc (.cells #[.int .u32 t0, .int .u32 t1, .int .u32 t2, .int .u32 t3, .int .u32 t4, .int .u32 t5, .int .u32 t6, .int .u32 t7, .int .u32 t8, .int .u32 t9, .int .u32 t10, .int .u32 t11, .int .u32 t12, .int .u32 t13, .int .u32 t14, .int .u32 t15] 47)).cell? ⟨w1.heap.size, j, none⟩ = some (.int .u32 (tt j)) := by
    intro j h
    have h1 := HT.out j h
    rw [World.cell?_alloc_at _ _ _ _ rfl]; exact h1
  have hbb : Below w.heap.size w (w1.alloc (.cells #[.int .u32 t0, .int .u32 t1, .int .u32 t2, .int .u32 t3, .int .u32 t4, .int .u32 t5, .int .u32 t6, .int .u32 t7, .int .u32 t8, .int .u32 t9, .int .u32 t10, .int .u32 t11, .int .u32 t12, .int .u32 t13, .int .u32 t14, .int .u32 t15] 47)) := hb.alloc hb.size _
  have HC := Lib.hid hc
  clear hc hb HA HT HR
  generalize w1.alloc (.cells #[.int .u32 t0, .int .u32 t1, .int .u32 t2, .int .u32 t3, .int .u32 t4, .int .u32 t5, .int .u32 t6, .int .u32 t7, .int .u32 t8, .int .u32 t9, .int .u32 t10, .int .u32 t11, .int .u32 t12, .int .u32 t13, .int .u32 t14, .int .u32 t15] 47) = W2 at *
  generalize w1.heap.size = B at *
  have hnot : bits BinOp.xor IntKind.u32 IntKind.u32.max ↑x.toNat = ((~~~ x).toNat : Int) := not32 x
  rw [hnot]
  clear hnot
  go_loopw [6, 15] (fun t i wr => ∃ (k n : Nat), k ≤ s.size ∧ i = .int .i64 k ∧ t = .int .u32 (((s.data.toList.take k).foldl feedT (~~~ x)).toNat : Int) ∧ wr = W2.drewN n) (fun _ i _ => s.size - (intOf i).toNat)
  case atStart => exact ⟨0, 0, by omega, rfl, rfl, rfl⟩
  case round =>
    obtain ⟨k, n, hk, rfl, rfl, rfl⟩ := hrel
    generalize hX : (s.data.toList.take k).foldl feedT (~~~ x) = X
    have HXX := Lib.hid hX
    clear hX
    by_cases hlt : k < s.size
    · go_wp2
      go_quiet (fail)
      go_wp2
      have ea : (↑s[k].toNat / 16 % 4294967296 : Int) = ((BitVec.ofNat 32 (s[k].toNat / 16)).toNat : Int) := by
        rw [BitVec.toNat_ofNat]; omega
      have eb : bits .and .u8 (↑s[k].toNat : Int) 15 % 4294967296 = ((BitVec.ofNat 32 (s[k].toNat % 16)).toNat : Int) := by
        have := s[k].toNat_lt
        rw [u8_and15 _ (by omega) (by omega), BitVec.toNat_ofNat]; omega
      rw [ea, eb]
      have hn1 : (BitVec.ofNat 32 (s[k].toNat / 16)).toNat < 16 := by
        have := s[k].toNat_lt
        rw [BitVec.toNat_ofNat]; omega
      have hn2 : (BitVec.ofNat 32 (s[k].toNat % 16)).toNat < 16 := by
        rw [BitVec.toNat_ofNat]; omega
      have HX : Hid (feedT X s[k] = hf X (BitVec.ofNat 32 (s[k].toNat / 16)) (BitVec.ofNat 32 (s[k].toNat % 16)) 2) := rfl
      clear ea eb
      generalize BitVec.ofNat 32 (s[k].toNat / 16) = a at *
      generalize BitVec.ofNat 32 (s[k].toNat % 16) = b at *
      go_loopw [6, 29] (fun t i wr => ∃ (j m : Nat), j ≤ 2 ∧ i = .int .i64 j ∧ t = .int .u32 ((hf X a b j).toNat : Int) ∧ wr = W2.drewN m) (fun _ i _ => 2 - (intOf i).toNat)
      case atStart => exact ⟨0, n + nq, by omega, rfl, rfl, by simp [World.drewN_drewN]⟩
      case round =>
        obtain ⟨j, m, hj, rfl, rfl, rfl⟩ := hrel
        have hcase : j = 0 ∨ j = 1 ∨ j = 2 := by omega
        rcases hcase with rfl | rfl | rfl
        · have h1 := idx32 (X) a
          have h2 := idx_lt (X) a hn1
          have h3 := HC.out _ h2
          have e0 : hf X a b 0 = X := rfl
          rw [e0]
          clear e0
          have HN : Hid (hf X a b (0 + 1) = half (X) a) := rfl
          generalize hXX : X = XX at *
          clear hXX
          generalize hv : ((XX >>> 28) ^^^ a).toNat = v at *
          have HV := Lib.hid hv
          clear hv
          have hp := pair0 a.toNat b.toNat
          go_wp2
          go_roundw
          case rel => exact ⟨0 + 1, m, by omega, rfl, by rw [HN.out, half_close XX a v HV.out], rfl⟩
          case measure => simp [intOf]
        · have h1 := idx32 (half X a) b
          have h2 := idx_lt (half X a) b hn2
          have h3 := HC.out _ h2
          have e0 : hf X a b 1 = half X a := rfl
          rw [e0]
          clear e0
          have HN : Hid (hf X a b (1 + 1) = half (half X a) b) := rfl
          generalize hXX : half X a = XX at *
          clear hXX
          generalize hv : ((XX >>> 28) ^^^ b).toNat = v at *
          have HV := Lib.hid hv
          clear hv
          have hp := pair1 a.toNat b.toNat
          go_wp2
          go_roundw
          case rel => exact ⟨1 + 1, m, by omega, rfl, by rw [HN.out, half_close XX b v HV.out], rfl⟩
          case measure => simp [intOf]
        · go_wp2
          go_roundw
          case rel => exact ⟨k + 1, m, by omega, by go_num, by rw [fold_snoc feedT _ s k hlt, HXX.out, HX.out], rfl⟩
          case measure => simp [intOf]; omega
    · go_wp2
      go_ret
      obtain rfl : k = s.size := by omega
      exact ⟨by rw [← HXX.out, fold_all, not32]; rfl, below_drewN hbb _⟩

end Crc
end Go.Proofs.Ytahdeifoakjccaa
