/-
  Plain law of check sums over 32 bits: the register's step, its linearity, half bytes by a table, whole bytes bit by bit. No program in sight; no condition.
-/
import Derived.Laws.BitsAllLaws
namespace Go.Proofs.Ytahdeifoakjccaa
namespace Crc

/-- One bit's step of the register. -/
def stp (x : BitVec 32) : BitVec 32 := (x <<< 1) ^^^ (if x.msb then 79764919#32 else 0#32)
/-- So many steps. -/
def stps : Nat → BitVec 32 → BitVec 32
  | 0, x => x
  | k + 1, x => stp (stps k x)
def tab (i : Nat) : BitVec 32 := stps 4 (BitVec.ofNat 32 i <<< 28)

theorem shl28 (x : BitVec 32) : (x.toNat : Int) * (268435456 : Int) % (4294967296 : Int) = ((x <<< 28).toNat : Int) := by
  have h : (x <<< 28).toNat = x.toNat * 268435456 % 4294967296 := by rw [BitVec.toNat_shiftLeft, Nat.shiftLeft_eq]
  rw [h]; omega
theorem shl1 (x : BitVec 32) : (x.toNat : Int) * (2 : Int) % (4294967296 : Int) = ((x <<< 1).toNat : Int) := by
  have h : (x <<< 1).toNat = x.toNat * 2 % 4294967296 := by rw [BitVec.toNat_shiftLeft, Nat.shiftLeft_eq]
  rw [h]; omega
theorem shl4 (x : BitVec 32) : (x.toNat : Int) * (16 : Int) % (4294967296 : Int) = ((x <<< 4).toNat : Int) := by
  have h : (x <<< 4).toNat = x.toNat * 16 % 4294967296 := by rw [BitVec.toNat_shiftLeft, Nat.shiftLeft_eq]
  rw [h]; omega
theorem xor32 (a b : BitVec 32) : bits .xor .u32 (a.toNat : Int) (b.toNat : Int) = ((a ^^^ b).toNat : Int) := by
  rw [u32_xor_nat a.toNat b.toNat (by have := a.isLt; omega) (by have := b.isLt; omega), BitVec.toNat_xor]
theorem and32 (a b : BitVec 32) : bits .and .u32 (a.toNat : Int) (b.toNat : Int) = ((a &&& b).toNat : Int) := by
  rw [u32_and_nat a.toNat b.toNat (by have := a.isLt; omega) (by have := b.isLt; omega), BitVec.toNat_and]
theorem top_of (x : BitVec 32) : x &&& 2147483648#32 = if x.msb then 2147483648#32 else 0#32 := by
  apply BitVec.eq_of_getLsbD_eq
  intro i hi
  rw [BitVec.msb_eq_getLsbD_last, BitVec.getLsbD_and]
  have h : (2147483648#32).getLsbD i = decide (i = 31) := by
    have : ∀ j : Fin 32, (2147483648#32).getLsbD j = decide (j.val = 31) := by decide
    exact this ⟨i, hi⟩
  rw [h]
  by_cases e : i = 31
  · subst e; cases x.getLsbD 31 <;> simp
  · simp only [e, decide_false, Bool.and_false]
    split
    · rw [h]; simp [e]
    · simp
theorem top_test (x : BitVec 32) : (bits .and .u32 (x.toNat : Int) 2147483648 != 0) = x.msb := by
  have h := and32 x 2147483648#32
  rw [top_of] at h
  have e : ((2147483648#32).toNat : Int) = 2147483648 := by decide
  rw [e] at h; rw [h]
  cases x.msb <;> decide
theorem step_yes (x : BitVec 32) (h : (bits .and .u32 (x.toNat : Int) 2147483648 != 0) = true) : bits .xor .u32 ((x.toNat : Int) * (2 : Int) % (4294967296 : Int)) 79764919 = ((stp x).toNat : Int) := by
  rw [top_test] at h
  have e : (79764919 : Int) = ((79764919#32).toNat : Int) := by decide
  rw [shl1, e, xor32]; simp [stp, h]
theorem step_no (x : BitVec 32) (h : (bits .and .u32 (x.toNat : Int) 2147483648 != 0) = false) : (x.toNat : Int) * (2 : Int) % (4294967296 : Int) = ((stp x).toNat : Int) := by
  rw [top_test] at h
  rw [shl1]; simp [stp, h]

/-- Half a byte by the table. -/
def half (x n : BitVec 32) : BitVec 32 := (x <<< 4) ^^^ tab ((x >>> 28) ^^^ n).toNat
def feedT (x : BitVec 32) (c : UInt8) : BitVec 32 := half (half x (BitVec.ofNat 32 (c.toNat / 16))) (BitVec.ofNat 32 (c.toNat % 16))
def addT (x : BitVec 32) (l : List UInt8) : BitVec 32 := ~~~ (l.foldl feedT (~~~ x))

theorem not32 (x : BitVec 32) : bits .xor .u32 IntKind.u32.max (x.toNat : Int) = ((~~~ x).toNat : Int) := by
  have e : IntKind.u32.max = (((BitVec.allOnes 32).toNat : Nat) : Int) := by decide
  rw [e, xor32, BitVec.allOnes_xor]

def hf (x a b : BitVec 32) : Nat → BitVec 32
  | 0 => x
  | 1 => half x a
  | _ => half (half x a) b

theorem shr28 (x : BitVec 32) : (x.toNat : Int) / (268435456 : Int) = ((x >>> 28).toNat : Int) := by
  have h : (x >>> 28).toNat = x.toNat / 268435456 := by rw [BitVec.toNat_ushiftRight, Nat.shiftRight_eq_div_pow]
  rw [h]; omega
theorem idx32 (x a : BitVec 32) : bits .xor .u32 ((x.toNat : Int) / (268435456 : Int)) (a.toNat : Int) = (((x >>> 28) ^^^ a).toNat : Int) := by
  rw [shr28, xor32]
theorem idx_lt (x a : BitVec 32) (h : a.toNat < 16) : ((x >>> 28) ^^^ a).toNat < 16 := by
  rw [BitVec.toNat_xor]
  have h1 : (x >>> 28).toNat < 2 ^ 4 := by
    rw [BitVec.toNat_ushiftRight, Nat.shiftRight_eq_div_pow]
    have := x.isLt
    omega
  exact Nat.xor_lt_two_pow h1 h

def tt (i : Nat) : Int := ((tab i).toNat : Int)
theorem half_close (X a : BitVec 32) (v : Nat) (h : ((X >>> 28) ^^^ a).toNat = v) : bits .xor .u32 ((X.toNat : Int) * (16 : Int) % (4294967296 : Int)) (tt v) = ((half X a).toNat : Int) := by
  rw [shl4, tt, xor32, half, h]
theorem take_snoc (s : ByteArray) (k : Nat) (h : k < s.size) : s.data.toList.take (k + 1) = s.data.toList.take k ++ [s[k]] := by
  rw [List.take_succ_eq_append_getElem (by simpa using h)]; rfl
theorem fold_snoc {β : Type} (f : β → UInt8 → β) (b : β) (s : ByteArray) (k : Nat) (h : k < s.size) : (s.data.toList.take (k + 1)).foldl f b = f ((s.data.toList.take k).foldl f b) s[k] := by
  rw [take_snoc s k h, List.foldl_append]; rfl
theorem fold_all {β : Type} (f : β → UInt8 → β) (b : β) (s : ByteArray) : (s.data.toList.take s.size).foldl f b = s.data.toList.foldl f b := by
  rw [List.take_of_length_le (by simp)]

/-- A byte bit by bit. -/
def feedB (x : BitVec 32) (c : UInt8) : BitVec 32 := stps 8 (x ^^^ (BitVec.ofNat 32 c.toNat <<< 24))
def addB (x : BitVec 32) (l : List UInt8) : BitVec 32 := ~~~ (l.foldl feedB (~~~ x))
theorem sub32 (x : BitVec 32) : (4294967295 : Int) - (x.toNat : Int) = ((~~~ x).toNat : Int) := by
  rw [BitVec.toNat_not]; have := x.isLt; omega

theorem sub32n (x : BitVec 32) : (4294967295 - x.toNat : Nat) = (~~~ x).toNat := by
  rw [BitVec.toNat_not]
theorem shl24 (n : Nat) (h : n < 2 ^ 8) : (n : Int) * (16777216 : Int) = ((BitVec.ofNat 32 n <<< 24).toNat : Int) := by
  have e : (BitVec.ofNat 32 n <<< 24).toNat = n * 16777216 := by
    rw [BitVec.toNat_shiftLeft, Nat.shiftLeft_eq, BitVec.toNat_ofNat]; omega
  rw [e]; omega

theorem ret_u32 {a b : Int} (h : a = b) : Ending.returned (.int .u32 a) = .returned (.int .u32 b) := by rw [h]
theorem msb_quo (x : BitVec 32) : ((x.toNat : Int) / (2147483648 : Int) == 1) = x.msb := by
  rw [BitVec.msb_eq_decide, Bool.eq_iff_iff, beq_iff_eq, decide_eq_true_iff]
  have := x.isLt
  constructor <;> intro h <;> omega
theorem step_yes' (x : BitVec 32) (h : ((x.toNat : Int) / (2147483648 : Int) == 1) = true) : bits .xor .u32 ((x.toNat : Int) * (2 : Int) % (4294967296 : Int)) 79764919 = ((stp x).toNat : Int) :=
  step_yes x (by rw [top_test, ← msb_quo]; exact h)
theorem step_no' (x : BitVec 32) (h : ((x.toNat : Int) / (2147483648 : Int) == 1) = false) : (x.toNat : Int) * (2 : Int) % (4294967296 : Int) = ((stp x).toNat : Int) :=
  step_no x (by rw [top_test, ← msb_quo]; exact h)

end Crc
end Go.Proofs.Ytahdeifoakjccaa
