/-
  The walk of the law SumFigures. Over every input; no condition but the model's own bounds.
-/
import Derived.Test.YtahdeifoakjccaaSumTake
import Derived.Test.YtahdeifoakjccaaSumSumsW
namespace Go.Proofs.Ytahdeifoakjccaa
open Go.RowKit
namespace Crc

theorem dig_hex (v : Nat) (h : v < 16) : dig (hexd.getD v 0) = (v : Int) := by
  have h1 : ∀ j : Fin 16, dig (hexd.getD j.val 0) = (j.val : Int) := by decide +kernel
  exact h1 ⟨v, h⟩
theorem hex_dig (c : UInt8) (h : 0 ≤ dig c) : c = hexd.getD (dig c).toNat 0 := by
  have h1 : ∀ j : Fin 256, 0 ≤ dig (UInt8.ofNat j.val) → UInt8.ofNat j.val = hexd.getD (dig (UInt8.ofNat j.val)).toNat 0 := by decide +kernel
  have := h1 ⟨c.toNat, c.toNat_lt⟩
  simp only [UInt8.ofNat_toNat] at this
  exact this h
theorem tk_hex (a v : Nat) (h : v < 16) (l : List UInt8) : tk a (hexd.getD v 0 :: l) = tk (a * 16 + v) l := by
  rw [tk, dig_hex v h, if_neg (by omega)]; simp
theorem take_figs (x : BitVec 32) : takeS ⟨(figs x 8).toArray⟩ = some x.toNat := by
  have hs : (⟨(figs x 8).toArray⟩ : ByteArray).size = 8 := by
    show (figs x 8).toArray.size = 8
    rw [List.size_toArray, figs_length]
  rw [takeS, if_pos hs]
  show tk 0 (figs x 8) = some x.toNat
  have hx := x.isLt
  have e : figs x 8 = [fig x 7, fig x 6, fig x 5, fig x 4, fig x 3, fig x 2, fig x 1, fig x 0] := by simp [figs]
  rw [e]
  unfold fig
  rw [tk_hex _ _ (Nat.mod_lt _ (by omega)), tk_hex _ _ (Nat.mod_lt _ (by omega)), tk_hex _ _ (Nat.mod_lt _ (by omega)), tk_hex _ _ (Nat.mod_lt _ (by omega)), tk_hex _ _ (Nat.mod_lt _ (by omega)), tk_hex _ _ (Nat.mod_lt _ (by omega)), tk_hex _ _ (Nat.mod_lt _ (by omega)), tk_hex _ _ (Nat.mod_lt _ (by omega))]
  rw [tk]
  congr 1
  simp only [Nat.reducePow]
  omega
theorem figs_inj (x y : BitVec 32) : (figs x 8 == figs y 8) = ((x.toNat : Int) == (y.toNat : Int)) := by
  rw [Bool.eq_iff_iff, beq_iff_eq, beq_iff_eq]
  constructor
  · intro h
    have h1 := take_figs x
    rw [h, take_figs y] at h1
    have := Option.some.inj h1
    omega
  · intro h
    have : x = y := BitVec.eq_of_toNat_eq (by omega)
    rw [this]
theorem tk_cons {a n : Nat} {c : UInt8} {l : List UInt8} (h : tk a (c :: l) = some n) : ∃ v, v < 16 ∧ c = hexd.getD v 0 ∧ tk (a * 16 + v) l = some n := by
  rw [tk] at h
  split at h
  · cases h
  · have hd := dig_lt c
    exact ⟨(dig c).toNat, by omega, hex_dig c (by omega), h⟩
theorem figs_take (s : ByteArray) (n : Nat) (h : takeS s = some n) : n < 2 ^ 32 ∧ figs (BitVec.ofNat 32 n) 8 = s.data.toList := by
  rw [takeS] at h
  split at h
  · rename_i h8
    have hl : s.data.toList.length = 8 := by simpa using h8
    match hh : s.data.toList, hl with
    | [c7, c6, c5, c4, c3, c2, c1, c0], _ =>
      rw [hh] at h
      obtain ⟨v7, w7, r7, g7⟩ := tk_cons h
      obtain ⟨v6, w6, r6, g6⟩ := tk_cons g7
      obtain ⟨v5, w5, r5, g5⟩ := tk_cons g6
      obtain ⟨v4, w4, r4, g4⟩ := tk_cons g5
      obtain ⟨v3, w3, r3, g3⟩ := tk_cons g4
      obtain ⟨v2, w2, r2, g2⟩ := tk_cons g3
      obtain ⟨v1, w1, r1, g1⟩ := tk_cons g2
      obtain ⟨v0, w0, r0, g0⟩ := tk_cons g1
      subst r7 r6 r5 r4 r3 r2 r1 r0
      rw [tk] at g0
      have hn := Option.some.inj g0
      have hlt : n < 2 ^ 32 := by omega
      refine ⟨hlt, ?_⟩
      have e : figs (BitVec.ofNat 32 n) 8 = [fig (BitVec.ofNat 32 n) 7, fig (BitVec.ofNat 32 n) 6, fig (BitVec.ofNat 32 n) 5, fig (BitVec.ofNat 32 n) 4, fig (BitVec.ofNat 32 n) 3, fig (BitVec.ofNat 32 n) 2, fig (BitVec.ofNat 32 n) 1, fig (BitVec.ofNat 32 n) 0] := by simp [figs]
      have et : (BitVec.ofNat 32 n).toNat = n := by rw [BitVec.toNat_ofNat]; exact Nat.mod_eq_of_lt hlt
      have f7 : n / 16 ^ 7 % 16 = v7 := by simp only [Nat.reducePow]; omega
      have f6 : n / 16 ^ 6 % 16 = v6 := by simp only [Nat.reducePow]; omega
      have f5 : n / 16 ^ 5 % 16 = v5 := by simp only [Nat.reducePow]; omega
      have f4 : n / 16 ^ 4 % 16 = v4 := by simp only [Nat.reducePow]; omega
      have f3 : n / 16 ^ 3 % 16 = v3 := by simp only [Nat.reducePow]; omega
      have f2 : n / 16 ^ 2 % 16 = v2 := by simp only [Nat.reducePow]; omega
      have f1 : n / 16 ^ 1 % 16 = v1 := by simp only [Nat.reducePow]; omega
      have f0 : n / 16 ^ 0 % 16 = v0 := by simp only [Nat.reducePow]; omega
      rw [e]
      unfold fig
      rw [et, f7, f6, f5, f4, f3, f2, f1, f0]
  · cases h

theorem Figures_nat (m : Nat) (hm : m < 2 ^ 32) (w : World) :
    Calls Try.prog 16 #[.int .u32 (m : Int)] w fun e w' => e = .returned (.string ⟨(figs (BitVec.ofNat 32 m) 8).toArray⟩) ∧ Below w.heap.size w w' := by
  have e : (m : Int) = ((BitVec.ofNat 32 m).toNat : Int) := by rw [BitVec.toNat_ofNat, Nat.mod_eq_of_lt hm]
  rw [e]
  exact Figures_any _ w

theorem SumFigures_walk (a : Int) (ha : (Lit.int .u32 a).wf = true) (b : Int) (hb : (Lit.int .u32 b).wf = true) (s : ByteArray) (hs : s.size ≤ maxLen) {w : World} :
    Calls Try.prog 9 #[.int .u32 a, .int .u32 b, .string s] w fun e w' => e = .returned (.bool true) ∧ Below w.heap.size w w' := by
  obtain ⟨x, rfl⟩ := u32_bv ha
  obtain ⟨y, rfl⟩ := u32_bv hb
  have HA := Lib.hid alive_any
  have HS := Lib.hid hs
  have HX := Lib.hid (take_figs x)
  have HI := Lib.hid (figs_inj x y)
  have S8 : Hid ((⟨(figs x 8).toArray⟩ : ByteArray).size ≤ maxLen) := Lib.hid (by
    show (figs x 8).toArray.size ≤ maxLen
    rw [List.size_toArray, figs_length]; unfold maxLen; omega)
  clear ha hb hs
  go_enter Try.func9, Try.ntmps9
  go_wp2_with fail
  refine (HA.out _).mono ?_
  rintro e w1 ⟨rfl, hb1⟩
  go_wp2_with fail
  refine (Figures_any x _).mono ?_
  rintro e w2 ⟨rfl, hb2⟩
  go_wp2_with fail
  refine (Figures_any y _).mono ?_
  rintro e w3 ⟨rfl, hb3⟩
  have k2 : Below w.heap.size w w2 := hb1.trans (hb2.mono hb1.size)
  have k3 : Below w.heap.size w w3 := k2.trans (hb3.mono k2.size)
  clear hb1 hb2 hb3 k2
  go_wp2_with fail
  refine (Take_any s _ HS.out).mono ?_
  rintro e w' ⟨rfl, rfl⟩
  go_wp2_with fail
  refine (RefTake_any s _ HS.out).mono ?_
  rintro e w' ⟨rfl, n, rfl⟩
  go_wp2_with fail
  refine (Take_any _ _ S8.out).mono ?_
  rintro e w' ⟨rfl, rfl⟩
  rw [HX.out]
  go_wp2_with fail
  refine (RefFigures_any x _).mono ?_
  rintro e w' ⟨rfl, rfl⟩
  have hi := HI.out
  have HF := Lib.hid (figs_take s)
  generalize takeS s = o at *
  cases o with
  | none =>
    go_wp2
    go_ret
    exact ⟨rfl, below_drewN k3 _⟩
  | some m =>
    obtain ⟨hm, hf⟩ := HF.out m rfl
    have HG := Lib.hid hf
    clear hf
    simp only [Option.getD_some, Option.isSome_some]
    go_wp2_with fail
    refine (Figures_nat m hm _).mono ?_
    rintro e w4 ⟨rfl, hb4⟩
    rw [HG.out]
    go_wp2
    go_ret
    have k4 := below_drewN k3 n
    exact ⟨rfl, k4.trans (hb4.mono k4.size)⟩
end Crc
end Go.Proofs.Ytahdeifoakjccaa
