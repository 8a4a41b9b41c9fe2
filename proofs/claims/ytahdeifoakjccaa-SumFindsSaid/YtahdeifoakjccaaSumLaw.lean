/-
  Plain law of check sums: half bytes by a table come to what whole bytes come to bit by bit; parts add up; bursts of four bytes are found. No program in sight; no condition.
-/
import Derived.Test.YtahdeifoakjccaaSumBits
namespace Go.Proofs.Ytahdeifoakjccaa
namespace Crc

theorem stp_xor (x y : BitVec 32) : stp (x ^^^ y) = stp x ^^^ stp y := by
  have h4 : ∀ a b p : BitVec 32, a ^^^ b = (a ^^^ p) ^^^ (b ^^^ p) := by
    intro a b p
    rw [BitVec.xor_comm b p, BitVec.xor_assoc a p, ← BitVec.xor_assoc p p b, BitVec.xor_self, BitVec.zero_xor]
  unfold stp
  rw [BitVec.shiftLeft_xor_distrib, BitVec.msb_xor]
  cases x.msb <;> cases y.msb <;> simp
  · ac_rfl
  · ac_rfl
  · exact h4 _ _ _
theorem stps_xor (n : Nat) (x y : BitVec 32) : stps n (x ^^^ y) = stps n x ^^^ stps n y := by
  induction n with
  | zero => rfl
  | succ n ih => rw [stps, ih, stp_xor]; rfl
theorem stps_add (m n : Nat) (x : BitVec 32) : stps (m + n) x = stps m (stps n x) := by
  induction m with
  | zero => simp [stps]
  | succ m ih => rw [Nat.add_right_comm, stps, ih]; rfl
theorem stp_low (x : BitVec 32) (h : x.msb = false) : stp x = x <<< 1 := by simp [stp, h]
theorem stps_low (n : Nat) : ∀ (x : BitVec 32), x.toNat < 2 ^ (32 - n) → n ≤ 32 → stps n x = x <<< n := by
  induction n with
  | zero => intro x _ _; simp [stps]
  | succ n ih =>
    intro x h hn
    have h2 : x.toNat < 2 ^ (32 - n) := Nat.lt_trans h (Nat.pow_lt_pow_right (by omega) (by omega))
    have hp : (2 : Nat) ^ (32 - (n + 1)) * 2 ^ n = 2 ^ 31 := by rw [← Nat.pow_add]; congr 1; omega
    have hx : x.toNat * 2 ^ n < 2 ^ 31 := by rw [← hp]; exact Nat.mul_lt_mul_of_pos_right h (Nat.two_pow_pos n)
    rw [stps, ih x h2 (by omega), stp_low, BitVec.shiftLeft_add]
    rw [BitVec.msb_eq_decide, BitVec.toNat_shiftLeft, Nat.shiftLeft_eq]
    have : x.toNat * 2 ^ n % 2 ^ 32 = x.toNat * 2 ^ n := Nat.mod_eq_of_lt (by omega)
    rw [this]
    simp; omega
theorem parted (x : BitVec 32) : x = ((x >>> 28) <<< 28) ^^^ (x &&& 268435455#32) := by
  have hm : ∀ j : Fin 32, (268435455#32).getLsbD j = decide (j.val < 28) := by decide
  apply BitVec.eq_of_getLsbD_eq
  intro i hi
  have := hm ⟨i, hi⟩
  simp only at this
  rw [BitVec.getLsbD_xor, BitVec.getLsbD_and, this, BitVec.getLsbD_shiftLeft, BitVec.getLsbD_ushiftRight]
  by_cases h : i < 28
  · simp [h]
  · have : 28 + (i - 28) = i := by omega
    simp [h, this, hi]
theorem low_lt (x : BitVec 32) : (x &&& 268435455#32).toNat < 2 ^ (32 - 4) := by
  rw [BitVec.toNat_and]
  exact Nat.lt_of_le_of_lt Nat.and_le_right (by decide)
theorem half_is (x n : BitVec 32) : half x n = stps 4 (x ^^^ (n <<< 28)) := by
  have e : BitVec.ofNat 32 ((x >>> 28) ^^^ n).toNat = (x >>> 28) ^^^ n := by rw [BitVec.ofNat_toNat, BitVec.setWidth_eq]
  unfold half tab
  rw [e, BitVec.shiftLeft_xor_distrib, stps_xor, stps_xor]
  conv => rhs; rw [parted x, stps_xor, stps_low 4 (x &&& 268435455#32) (low_lt x) (by omega)]
  have h2 : (x &&& 268435455#32) <<< 4 = x <<< 4 := by
    have hm : ∀ j : Fin 32, (268435455#32).getLsbD j = decide (j.val < 28) := by decide
    apply BitVec.eq_of_getLsbD_eq
    intro i hi
    rw [BitVec.getLsbD_shiftLeft, BitVec.getLsbD_shiftLeft, BitVec.getLsbD_and]
    by_cases h : i < 4
    · simp [h]
    · have := hm ⟨i - 4, by omega⟩
      simp only at this
      rw [this]
      have : i - 4 < 28 := by omega
      simp [this]
  rw [h2]
  ac_rfl
theorem byte_parted : ∀ c : Fin 256, BitVec.ofNat 32 c.val <<< 24 = (BitVec.ofNat 32 (c.val / 16) <<< 28) ^^^ (BitVec.ofNat 32 (c.val % 16) <<< 24) := by decide +kernel
theorem feedT_is (x : BitVec 32) (c : UInt8) : feedT x c = feedB x c := by
  unfold feedT feedB
  have h := byte_parted ⟨c.toNat, c.toNat_lt⟩
  simp only at h
  have h4 : stps 4 (BitVec.ofNat 32 (c.toNat % 16) <<< 24) = BitVec.ofNat 32 (c.toNat % 16) <<< 28 := by
    rw [stps_low 4 _ _ (by omega), ← BitVec.shiftLeft_add]
    rw [BitVec.toNat_shiftLeft, Nat.shiftLeft_eq, BitVec.toNat_ofNat]
    omega
  rw [half_is, half_is, show (8 : Nat) = 4 + 4 from rfl, stps_add, h, ← BitVec.xor_assoc, stps_xor 4 (x ^^^ _), h4]
theorem addT_is (x : BitVec 32) (l : List UInt8) : addT x l = addB x l := by
  unfold addT addB
  have : (feedT : BitVec 32 → UInt8 → BitVec 32) = feedB := by funext a b; exact feedT_is a b
  rw [this]
theorem addB_append (x : BitVec 32) (l m : List UInt8) : addB x (l ++ m) = addB (addB x l) m := by
  unfold addB; rw [List.foldl_append, BitVec.not_not]
end Crc
end Go.Proofs.Ytahdeifoakjccaa
