/-
  The walks over sum.Figures and sum.Is, and over the reference's Figures. Over every input; no condition.
-/
import Derived.Test.YtahdeifoakjccaaSumSum
import Derived.Test.YtahdeifoakjccaaBuilder
import Derived.Test.YtahdeifoakjccaaShelf
namespace Go.Proofs.Ytahdeifoakjccaa
open Go.RowKit
namespace Crc

def hexd : List UInt8 := [48, 49, 50, 51, 52, 53, 54, 55, 56, 57, 97, 98, 99, 100, 101, 102]
/-- The i-th figure, counted from the last. -/
def fig (x : BitVec 32) (i : Nat) : UInt8 := hexd.getD (x.toNat / 16 ^ i % 16) 0
/-- The first k figures. -/
def figs (x : BitVec 32) : Nat → List UInt8
  | 0 => []
  | k + 1 => figs x k ++ [fig x (7 - k)]
theorem figs_length (x : BitVec 32) (k : Nat) : (figs x k).length = k := by
  induction k with
  | zero => rfl
  | succ k ih => simp [figs, ih]

theorem wraps_u32' (n : Int) (h₀ : 0 ≤ n) (h₁ : n < 2 ^ 32) : IntKind.u32.wrap n = n := by rw [IntKind.wrap_u32]; omega
theorem mask15 (x : BitVec 32) (i : Nat) (C : Nat) (hC : C = 16 ^ i) : bits .and .u32 ((x.toNat : Int) / (C : Int)) 15 = ((x.toNat / 16 ^ i % 16 : Nat) : Int) := by
  have hx := x.isLt
  have h1 : x.toNat / C ≤ x.toNat := Nat.div_le_self _ _
  have h2 := bits_mask .u32 32 (by decide) wraps_u32' 4 (by decide) ((x.toNat / C : Nat) : Int) (Int.natCast_nonneg _) (by omega)
  have e : (2 : Int) ^ 4 - 1 = 15 := by decide
  rw [e] at h2
  rw [← Int.natCast_ediv, h2, hC]
  omega
theorem hex_at (v : Nat) (h : v < (⟨#[48, 49, 50, 51, 52, 53, 54, 55, 56, 57, 97, 98, 99, 100, 101, 102]⟩ : ByteArray).size) : (⟨#[48, 49, 50, 51, 52, 53, 54, 55, 56, 57, 97, 98, 99, 100, 101, 102]⟩ : ByteArray)[v] = hexd.getD v 0 := by
  have hv : ∀ j : Fin 16, (⟨#[48, 49, 50, 51, 52, 53, 54, 55, 56, 57, 97, 98, 99, 100, 101, 102]⟩ : ByteArray)[j.val]? = some (hexd.getD j.val 0) := by decide
  have h2 : (⟨#[48, 49, 50, 51, 52, 53, 54, 55, 56, 57, 97, 98, 99, 100, 101, 102]⟩ : ByteArray)[v]? = some (hexd.getD v 0) := hv ⟨v, h⟩
  have h3 : (⟨#[48, 49, 50, 51, 52, 53, 54, 55, 56, 57, 97, 98, 99, 100, 101, 102]⟩ : ByteArray)[v]? = some (⟨#[48, 49, 50, 51, 52, 53, 54, 55, 56, 57, 97, 98, 99, 100, 101, 102]⟩ : ByteArray)[v] := getElem?_pos (⟨#[48, 49, 50, 51, 52, 53, 54, 55, 56, 57, 97, 98, 99, 100, 101, 102]⟩ : ByteArray) v h
  exact Option.some.inj (h3.symm.trans h2)
theorem figs_cells (x : BitVec 32) (k v : Nat) (hv : x.toNat / 16 ^ (7 - k) % 16 = v) (c : Int) (hc : c = ((hexd.getD v 0).toNat : Int)) : Lib.byteCells (figs x k) ++ [.int .u8 c] = Lib.byteCells (figs x (k + 1)) := by
  subst hv; subst hc
  simp [figs, fig, Lib.byteCells]
theorem Figures_any (x : BitVec 32) (w : World) :
    Calls Try.prog 16 #[.int .u32 (x.toNat : Int)] w fun e w' => e = .returned (.string ⟨(figs x 8).toArray⟩) ∧ Below w.heap.size w w' := by
  have hx := x.isLt
  go_enter Try.func16, Try.ntmps16
  go_wp2
  go_loopw [4] (fun i wr => ∃ k : Nat, k ≤ 8 ∧ i = .int .i64 (7 - (k : Int)) ∧ Bld.IsB w.heap.size w.heap.size (Lib.byteCells (figs x k)) wr ∧ Below w.heap.size w wr) (fun i _ => (intOf i + 1).toNat)
  case atStart => exact ⟨0, by omega, rfl, Lib.fresh_isBuilder _ _ _, (Below.refl _ _).alloc (Nat.le_refl _) _⟩
  case round =>
    obtain ⟨k, hk, rfl, hB, hb⟩ := hrel
    have hlen := figs_length x k
    by_cases hlt : k < 8
    · have hcase : k = 0 ∨ k = 1 ∨ k = 2 ∨ k = 3 ∨ k = 4 ∨ k = 5 ∨ k = 6 ∨ k = 7 := by omega
      rcases hcase with rfl | rfl | rfl | rfl | rfl | rfl | rfl | rfl
      · have hm : bits .and .u32 ((x.toNat : Int) / 268435456) 15 = ((x.toNat / 16 ^ 7 % 16 : Nat) : Int) := mask15 x 7 268435456 rfl
        have hmlt : x.toNat / 16 ^ 7 % 16 < 16 := Nat.mod_lt _ (by omega)
        generalize hv : x.toNat / 16 ^ 7 % 16 = v at *
        have HV := Lib.hid hv
        clear hv
        go_wp2_with (go_at_call 30; refine (Bld.writeByte _ _ _ _ _ hB (by rw [Lib.byteCells_length, hlen]; omega) hb.size).mono ?_; rintro e w' ⟨rfl, hB', hb', _⟩)
        go_roundw
        case rel => exact ⟨0 + 1, by omega, by go_num, by rw [hex_at] at hB'; rw [← figs_cells x 0 v HV.out _ rfl]; exact hB', hb.trans hb'⟩
        case measure => simp [intOf]
      · have hm : bits .and .u32 ((x.toNat : Int) / 16777216) 15 = ((x.toNat / 16 ^ 6 % 16 : Nat) : Int) := mask15 x 6 16777216 rfl
        have hmlt : x.toNat / 16 ^ 6 % 16 < 16 := Nat.mod_lt _ (by omega)
        generalize hv : x.toNat / 16 ^ 6 % 16 = v at *
        have HV := Lib.hid hv
        clear hv
        go_wp2_with (go_at_call 30; refine (Bld.writeByte _ _ _ _ _ hB (by rw [Lib.byteCells_length, hlen]; omega) hb.size).mono ?_; rintro e w' ⟨rfl, hB', hb', _⟩)
        go_roundw
        case rel => exact ⟨1 + 1, by omega, by go_num, by rw [hex_at] at hB'; rw [← figs_cells x 1 v HV.out _ rfl]; exact hB', hb.trans hb'⟩
        case measure => simp [intOf]
      · have hm : bits .and .u32 ((x.toNat : Int) / 1048576) 15 = ((x.toNat / 16 ^ 5 % 16 : Nat) : Int) := mask15 x 5 1048576 rfl
        have hmlt : x.toNat / 16 ^ 5 % 16 < 16 := Nat.mod_lt _ (by omega)
        generalize hv : x.toNat / 16 ^ 5 % 16 = v at *
        have HV := Lib.hid hv
        clear hv
        go_wp2_with (go_at_call 30; refine (Bld.writeByte _ _ _ _ _ hB (by rw [Lib.byteCells_length, hlen]; omega) hb.size).mono ?_; rintro e w' ⟨rfl, hB', hb', _⟩)
        go_roundw
        case rel => exact ⟨2 + 1, by omega, by go_num, by rw [hex_at] at hB'; rw [← figs_cells x 2 v HV.out _ rfl]; exact hB', hb.trans hb'⟩
        case measure => simp [intOf]
      · have hm : bits .and .u32 ((x.toNat : Int) / 65536) 15 = ((x.toNat / 16 ^ 4 % 16 : Nat) : Int) := mask15 x 4 65536 rfl
        have hmlt : x.toNat / 16 ^ 4 % 16 < 16 := Nat.mod_lt _ (by omega)
        generalize hv : x.toNat / 16 ^ 4 % 16 = v at *
        have HV := Lib.hid hv
        clear hv
        go_wp2_with (go_at_call 30; refine (Bld.writeByte _ _ _ _ _ hB (by rw [Lib.byteCells_length, hlen]; omega) hb.size).mono ?_; rintro e w' ⟨rfl, hB', hb', _⟩)
        go_roundw
        case rel => exact ⟨3 + 1, by omega, by go_num, by rw [hex_at] at hB'; rw [← figs_cells x 3 v HV.out _ rfl]; exact hB', hb.trans hb'⟩
        case measure => simp [intOf]
      · have hm : bits .and .u32 ((x.toNat : Int) / 4096) 15 = ((x.toNat / 16 ^ 3 % 16 : Nat) : Int) := mask15 x 3 4096 rfl
        have hmlt : x.toNat / 16 ^ 3 % 16 < 16 := Nat.mod_lt _ (by omega)
        generalize hv : x.toNat / 16 ^ 3 % 16 = v at *
        have HV := Lib.hid hv
        clear hv
        go_wp2_with (go_at_call 30; refine (Bld.writeByte _ _ _ _ _ hB (by rw [Lib.byteCells_length, hlen]; omega) hb.size).mono ?_; rintro e w' ⟨rfl, hB', hb', _⟩)
        go_roundw
        case rel => exact ⟨4 + 1, by omega, by go_num, by rw [hex_at] at hB'; rw [← figs_cells x 4 v HV.out _ rfl]; exact hB', hb.trans hb'⟩
        case measure => simp [intOf]
      · have hm : bits .and .u32 ((x.toNat : Int) / 256) 15 = ((x.toNat / 16 ^ 2 % 16 : Nat) : Int) := mask15 x 2 256 rfl
        have hmlt : x.toNat / 16 ^ 2 % 16 < 16 := Nat.mod_lt _ (by omega)
        generalize hv : x.toNat / 16 ^ 2 % 16 = v at *
        have HV := Lib.hid hv
        clear hv
        go_wp2_with (go_at_call 30; refine (Bld.writeByte _ _ _ _ _ hB (by rw [Lib.byteCells_length, hlen]; omega) hb.size).mono ?_; rintro e w' ⟨rfl, hB', hb', _⟩)
        go_roundw
        case rel => exact ⟨5 + 1, by omega, by go_num, by rw [hex_at] at hB'; rw [← figs_cells x 5 v HV.out _ rfl]; exact hB', hb.trans hb'⟩
        case measure => simp [intOf]
      · have hm : bits .and .u32 ((x.toNat : Int) / 16) 15 = ((x.toNat / 16 ^ 1 % 16 : Nat) : Int) := mask15 x 1 16 rfl
        have hmlt : x.toNat / 16 ^ 1 % 16 < 16 := Nat.mod_lt _ (by omega)
        generalize hv : x.toNat / 16 ^ 1 % 16 = v at *
        have HV := Lib.hid hv
        clear hv
        go_wp2_with (go_at_call 30; refine (Bld.writeByte _ _ _ _ _ hB (by rw [Lib.byteCells_length, hlen]; omega) hb.size).mono ?_; rintro e w' ⟨rfl, hB', hb', _⟩)
        go_roundw
        case rel => exact ⟨6 + 1, by omega, by go_num, by rw [hex_at] at hB'; rw [← figs_cells x 6 v HV.out _ rfl]; exact hB', hb.trans hb'⟩
        case measure => simp [intOf]
      · have hm : bits .and .u32 (x.toNat : Int) 15 = ((x.toNat / 16 ^ 0 % 16 : Nat) : Int) := by have := mask15 x 0 1 rfl; simpa using this
        have hmlt : x.toNat / 16 ^ 0 % 16 < 16 := Nat.mod_lt _ (by omega)
        generalize hv : x.toNat / 16 ^ 0 % 16 = v at *
        have HV := Lib.hid hv
        clear hv
        go_wp2_with (go_at_call 30; refine (Bld.writeByte _ _ _ _ _ hB (by rw [Lib.byteCells_length, hlen]; omega) hb.size).mono ?_; rintro e w' ⟨rfl, hB', hb', _⟩)
        go_roundw
        case rel => exact ⟨7 + 1, by omega, by go_num, by rw [hex_at] at hB'; rw [← figs_cells x 7 v HV.out _ rfl]; exact hB', hb.trans hb'⟩
        case measure => simp [intOf]
    · obtain rfl : k = 8 := by omega
      go_wp2_with (go_at_call 31; refine (Try.Builder_String_any _ _ _ _ hB hb.size).mono ?_; rintro e w' ⟨rfl, hb'⟩)
      go_ret
      exact ⟨rfl, hb.trans hb'⟩

/-- The last k figures. -/
def lasts (x : BitVec 32) : Nat → List UInt8
  | 0 => []
  | k + 1 => fig x k :: lasts x k
theorem ret_str {a b : ByteArray} (h : a = b) : Ending.returned (.string a) = .returned (.string b) := by rw [h]
theorem hex_cons (v : Nat) (h : v < 16) (l : List UInt8) : (⟨#[48, 49, 50, 51, 52, 53, 54, 55, 56, 57, 97, 98, 99, 100, 101, 102]⟩ : ByteArray).extract v (v + 1) ++ (⟨l.toArray⟩ : ByteArray) = ⟨(hexd.getD v 0 :: l).toArray⟩ := by
  have h1 : ∀ j : Fin 16, (⟨#[48, 49, 50, 51, 52, 53, 54, 55, 56, 57, 97, 98, 99, 100, 101, 102]⟩ : ByteArray).extract j.val (j.val + 1) = ⟨#[hexd.getD j.val 0]⟩ := by decide
  have h2 := h1 ⟨v, h⟩
  simp only at h2
  rw [h2]
  apply ByteArray.ext
  simp
theorem lasts_length (x : BitVec 32) (k : Nat) : (lasts x k).length ≤ k := by
  induction k with
  | zero => simp [lasts]
  | succ k ih => simp [lasts]; exact ih
theorem lasts_all (x : BitVec 32) : lasts x 8 = figs x 8 := by simp [lasts, figs]

theorem RefFigures_any (x : BitVec 32) (w : World) :
    Calls Try.prog 17 #[.int .u32 (x.toNat : Int)] w fun e w' => e = .returned (.string ⟨(figs x 8).toArray⟩) ∧ w = w' := by
  have hx := x.isLt
  go_enter Try.func17, Try.ntmps17
  go_wp2
  go_loop [0, 3, 4] (fun n o i => ∃ k : Nat, k ≤ 8 ∧ i = .int .i64 k ∧ n = .int .u32 ((x.toNat / 16 ^ k : Nat) : Int) ∧ o = .string ⟨(lasts x k).toArray⟩) (fun _ _ i => 8 - (intOf i).toNat)
  case atStart => exact ⟨0, by omega, rfl, by simp, rfl⟩
  case round =>
    obtain ⟨k, hk, rfl, rfl, rfl⟩ := hrel
    by_cases hlt : k < 8
    · have hle : x.toNat / 16 ^ k ≤ x.toNat := Nat.div_le_self _ _
      have hd : Hid (x.toNat / 16 ^ (k + 1) = x.toNat / 16 ^ k / 16) := Lib.hid (by rw [Nat.pow_succ, Nat.div_div_eq_div_mul])
      have hll := lasts_length x k
      have hf : Hid (lasts x (k + 1) = hexd.getD (x.toNat / 16 ^ k % 16) 0 :: lasts x k) := rfl
      generalize x.toNat / 16 ^ k = n at *
      go_wp2
      go_round
      case rel => exact ⟨k + 1, by omega, by go_num, by rw [hd.out, Int.natCast_ediv]; rfl, by rw [hf.out, ← hex_cons _ (Nat.mod_lt _ (by omega))]⟩
      case measure => simp [intOf]; omega
    · obtain rfl : k = 8 := by omega
      go_wp2
      go_ret
      exact ⟨ret_str (by rw [← lasts_all]), rfl⟩

theorem Is_any (f : ByteArray) (v : Value) (ss : List ByteArray) (w : World) (hv : Strs w v ss) (hl : ss.length ≤ 9223372036854775807) (hs : ∀ s ∈ ss, s.size ≤ maxLen) :
    Calls Try.prog 15 #[.string f, v] w fun e w' => e = .returned (.bool (f.toList == figs (sumT ss) 8)) ∧ Below w.heap.size w w' := by
  have h1 := sum_sum v ss w hv hl hs
  have H1 := Lib.hid h1
  have H2 := Lib.hid (Figures_any (sumT ss))
  clear h1 hv hs
  go_enter Try.func15, Try.ntmps15
  go_wp2_with fail
  refine H1.out.mono ?_
  rintro e w1 ⟨rfl, hb1⟩
  go_wp2_with fail
  refine (H2.out _).mono ?_
  rintro e w2 ⟨rfl, hb2⟩
  go_wp2
  go_ret
  exact ⟨rfl, hb1.trans (hb2.mono hb1.size)⟩

end Crc
end Go.Proofs.Ytahdeifoakjccaa
