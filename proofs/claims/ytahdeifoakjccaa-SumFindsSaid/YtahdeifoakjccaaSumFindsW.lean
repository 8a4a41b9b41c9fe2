/-
  The walk of the law SumFinds. Over every input; no condition but the model's own bounds.
-/
import Derived.Test.YtahdeifoakjccaaSumFiguresW
import Derived.Test.YtahdeifoakjccaaSumPartsW
import Derived.Lib.ConvBytes
import Derived.Deep.RegionHeld3
namespace Go.Proofs.Ytahdeifoakjccaa
open Go.RowKit
namespace Crc

/-! ### The plain law -/
theorem stp_zero (x : BitVec 32) (h : stp x = 0#32) : x = 0#32 := by
  unfold stp at h
  cases hm : x.msb with
  | false =>
    rw [hm] at h
    simp only [Bool.false_eq_true, if_false, BitVec.xor_zero] at h
    rw [BitVec.msb_eq_decide, decide_eq_false_iff_not] at hm
    have h1 := congrArg BitVec.toNat h
    rw [BitVec.toNat_shiftLeft, Nat.shiftLeft_eq] at h1
    apply BitVec.eq_of_toNat_eq
    simp only [BitVec.toNat_ofNat] at h1 ⊢
    have := x.isLt
    omega
  | true =>
    rw [hm] at h
    exfalso
    have h1 := congrArg (fun b : BitVec 32 => b.getLsbD 0) h
    simp at h1
theorem stps_zero (n : Nat) (x : BitVec 32) (h : stps n x = 0#32) : x = 0#32 := by
  induction n with
  | zero => exact h
  | succ n ih => exact ih (stp_zero _ h)
theorem stps_nil (n : Nat) : stps n 0#32 = 0#32 := by
  induction n with
  | zero => rfl
  | succ n ih => rw [stps, ih]; decide
def bt (c : UInt8) : BitVec 32 := BitVec.ofNat 32 c.toNat
theorem feedB_xor (x y : BitVec 32) (c d : UInt8) : feedB x c ^^^ feedB y d = stps 8 ((x ^^^ y) ^^^ ((bt c ^^^ bt d) <<< 24)) := by
  unfold feedB bt
  rw [← stps_xor, BitVec.shiftLeft_xor_distrib]
  generalize BitVec.ofNat 32 c.toNat <<< 24 = p
  generalize BitVec.ofNat 32 d.toNat <<< 24 = q
  have h : x ^^^ p ^^^ (y ^^^ q) = x ^^^ y ^^^ (p ^^^ q) := by ac_rfl
  rw [h]
theorem fold_same (l : List UInt8) : ∀ x y : BitVec 32, l.foldl feedB x ^^^ l.foldl feedB y = stps (8 * l.length) (x ^^^ y) := by
  induction l with
  | nil => intro x y; rfl
  | cons c l ih =>
    intro x y
    rw [List.foldl_cons, List.foldl_cons, ih, feedB_xor, BitVec.xor_self]
    simp only [BitVec.zero_shiftLeft, BitVec.xor_zero]
    rw [← stps_add, List.length_cons, Nat.mul_succ]
theorem xor_zero_iff {x y : BitVec 32} (h : x ^^^ y = 0#32) : x = y := by
  have : x ^^^ (x ^^^ y) = x := by rw [h, BitVec.xor_zero]
  rw [← BitVec.xor_assoc, BitVec.xor_self, BitVec.zero_xor] at this
  exact this.symm
theorem stps8 (k : Nat) (c : BitVec 32) (hk : k ≤ 16) (hc : c.toNat < 256) : stps 8 (c <<< k) = c <<< (k + 8) := by
  rw [stps_low 8 _ _ (by omega), ← BitVec.shiftLeft_add]
  rw [BitVec.toNat_shiftLeft, Nat.shiftLeft_eq]
  have h1 : c.toNat * 2 ^ k < 2 ^ (32 - 8) := by
    have h2 : 2 ^ k ≤ 2 ^ 16 := Nat.pow_le_pow_right (by omega) hk
    have h3 : c.toNat * 2 ^ k ≤ 255 * 2 ^ 16 := Nat.mul_le_mul (by omega) h2
    omega
  exact Nat.lt_of_le_of_lt (Nat.mod_le _ _) h1
theorem stps8' (j k : Nat) (c : BitVec 32) (hj : j = k + 8) (hk : k ≤ 16) (hc : c.toNat < 256) : stps 8 (c <<< k) = c <<< j := by
  rw [hj]; exact stps8 k c hk hc
/-- Four bytes side by side, some of them unlike: how unlike the registers are. -/
theorem four (x : BitVec 32) (c0 c1 c2 c3 d0 d1 d2 d3 : UInt8) (b0 b1 b2 b3 : BitVec 32) (h0 : bt c0 ^^^ bt d0 = b0) (h1 : bt c1 ^^^ bt d1 = b1) (h2 : bt c2 ^^^ bt d2 = b2) (h3 : bt c3 ^^^ bt d3 = b3)
    (k1 : b1.toNat < 256) (k2 : b2.toNat < 256) (k3 : b3.toNat < 256) :
    [c0, c1, c2, c3].foldl feedB x ^^^ [d0, d1, d2, d3].foldl feedB x = stps 32 (b0 <<< 24 ^^^ b1 <<< 16 ^^^ b2 <<< 8 ^^^ b3 <<< 0) := by
  simp only [List.foldl_cons, List.foldl_nil]
  rw [feedB_xor, feedB_xor, feedB_xor, feedB_xor, h0, h1, h2, h3, BitVec.xor_self, BitVec.zero_xor]
  have e : ∀ y : BitVec 32, stps 32 y = stps 8 (stps 8 (stps 8 (stps 8 y))) := fun y => by
    rw [← stps_add, ← stps_add, ← stps_add]
  have r1 : stps 8 (b0 <<< 24 ^^^ b1 <<< 16 ^^^ b2 <<< 8 ^^^ b3 <<< 0) = stps 8 (b0 <<< 24) ^^^ b1 <<< 24 ^^^ b2 <<< 16 ^^^ b3 <<< 8 := by
    rw [stps_xor 8 (b0 <<< 24 ^^^ b1 <<< 16 ^^^ b2 <<< 8), stps_xor 8 (b0 <<< 24 ^^^ b1 <<< 16), stps_xor 8 (b0 <<< 24), stps8' 24 16 b1 rfl (by omega) k1, stps8' 16 8 b2 rfl (by omega) k2, stps8' 8 0 b3 rfl (by omega) k3]
  rw [e, r1]
  generalize stps 8 (b0 <<< 24) ^^^ b1 <<< 24 = y
  have r2 : stps 8 (y ^^^ b2 <<< 16 ^^^ b3 <<< 8) = stps 8 y ^^^ b2 <<< 24 ^^^ b3 <<< 16 := by
    rw [stps_xor 8 (y ^^^ b2 <<< 16), stps_xor 8 y, stps8' 24 16 b2 rfl (by omega) k2, stps8' 16 8 b3 rfl (by omega) k3]
  rw [r2]
  generalize stps 8 y ^^^ b2 <<< 24 = z
  have r3 : stps 8 (z ^^^ b3 <<< 16) = stps 8 z ^^^ b3 <<< 24 := by
    rw [stps_xor 8 z, stps8' 24 16 b3 rfl (by omega) k3]
  rw [r3]
theorem bt_xor (c d : UInt8) : bt c ^^^ bt (c ^^^ d) = bt d := by
  unfold bt
  apply BitVec.eq_of_toNat_eq
  have h1 := c.toNat_lt
  have h2 := d.toNat_lt
  have h3 : (c ^^^ d).toNat = c.toNat ^^^ d.toNat := by simp
  have h4 : c.toNat ^^^ d.toNat < 2 ^ 8 := Nat.xor_lt_two_pow h1 h2
  rw [BitVec.toNat_xor, BitVec.toNat_ofNat, BitVec.toNat_ofNat, BitVec.toNat_ofNat, h3, Nat.mod_eq_of_lt (by omega), Nat.mod_eq_of_lt (by omega), Nat.mod_eq_of_lt (by omega)]
  rw [← Nat.xor_assoc, Nat.xor_self, Nat.zero_xor]
/-- The bytes of by, the last first. -/
def part (by' : Nat) (i : Nat) : UInt8 := UInt8.ofNat (by' / 256 ^ i)
theorem high (b : BitVec 32) (k : b.toNat < 256) (t : Nat) (h : 8 ≤ t) : b.getLsbD t = false := by
  show b.toNat.testBit t = false
  exact Nat.testBit_lt_two_pow (Nat.lt_of_lt_of_le k (by have := Nat.pow_le_pow_right (n := 2) (by decide) h; omega))
theorem four_zero (b0 b1 b2 b3 : BitVec 32) (k0 : b0.toNat < 256) (k1 : b1.toNat < 256) (k2 : b2.toNat < 256) (k3 : b3.toNat < 256)
    (h : b0 <<< 24 ^^^ b1 <<< 16 ^^^ b2 <<< 8 ^^^ b3 <<< 0 = 0#32) : b0 = 0#32 ∧ b1 = 0#32 ∧ b2 = 0#32 ∧ b3 = 0#32 := by
  have bit : ∀ j, (b0 <<< 24 ^^^ b1 <<< 16 ^^^ b2 <<< 8 ^^^ b3 <<< 0).getLsbD j = false := fun j => by rw [h]; simp
  simp only [BitVec.getLsbD_xor, BitVec.getLsbD_shiftLeft] at bit
  have a0 := high b0 k0
  have a1 := high b1 k1
  have a2 := high b2 k2
  have a3 := high b3 k3
  refine ⟨?_, ?_, ?_, ?_⟩ <;> (apply BitVec.eq_of_getLsbD_eq; intro t ht; by_cases h8 : t < 8)
  · have := bit (t + 24)
    rw [a1 (t + 24 - 16) (by omega), a2 (t + 24 - 8) (by omega), a3 (t + 24 - 0) (by omega)] at this
    have e1 : t + 24 < 32 := by omega
    simpa [e1] using this
  · rw [a0 t (by omega)]; simp
  · have := bit (t + 16)
    rw [a2 (t + 16 - 8) (by omega), a3 (t + 16 - 0) (by omega)] at this
    have e1 : t + 16 < 32 := by omega
    have e2 : t + 16 < 24 := by omega
    simpa [e1, e2] using this
  · rw [a1 t (by omega)]; simp
  · have := bit (t + 8)
    rw [a3 (t + 8 - 0) (by omega)] at this
    have e1 : t + 8 < 32 := by omega
    have e2 : t + 8 < 24 := by omega
    have e3 : t + 8 < 16 := by omega
    simpa [e1, e2, e3] using this
  · rw [a2 t (by omega)]; simp
  · have := bit t
    have e1 : t < 32 := by omega
    have e2 : t < 24 := by omega
    have e3 : t < 16 := by omega
    simpa [e1, e2, e3, h8] using this
  · rw [a3 t (by omega)]; simp
theorem bt_lt (c : UInt8) : (bt c).toNat < 256 := by
  unfold bt; rw [BitVec.toNat_ofNat]; have := c.toNat_lt; omega
theorem bt_zero (c : UInt8) (h : bt c = 0#32) : c.toNat = 0 := by
  unfold bt at h
  have h1 := congrArg BitVec.toNat h
  rw [BitVec.toNat_ofNat, BitVec.toNat_ofNat] at h1
  have := c.toNat_lt
  omega
/-- A text with four bytes side by side changed by the bytes of n. -/
theorem finds (pre post : List UInt8) (c0 c1 c2 c3 : UInt8) (n : Nat) (hn : n < 2 ^ 32) (h0 : n ≠ 0) :
    addB 0#32 (pre ++ [c0 ^^^ part n 0, c1 ^^^ part n 1, c2 ^^^ part n 2, c3 ^^^ part n 3] ++ post) ≠ addB 0#32 (pre ++ [c0, c1, c2, c3] ++ post) := by
  intro h
  apply h0
  unfold addB at h
  have h2 : ∀ a b : BitVec 32, ~~~ a = ~~~ b → a = b := fun a b hab => by rw [← BitVec.not_not (b := a), hab, BitVec.not_not]
  have h3 := h2 _ _ h
  rw [List.foldl_append, List.foldl_append, List.foldl_append, List.foldl_append] at h3
  generalize pre.foldl feedB (~~~ 0#32) = x at h3
  have h4 := fold_same post ([c0 ^^^ part n 0, c1 ^^^ part n 1, c2 ^^^ part n 2, c3 ^^^ part n 3].foldl feedB x) ([c0, c1, c2, c3].foldl feedB x)
  rw [h3, BitVec.xor_self] at h4
  have h5 := stps_zero _ _ h4.symm
  have hb : ∀ c d : UInt8, bt (c ^^^ d) ^^^ bt c = bt d := fun c d => by rw [BitVec.xor_comm]; exact bt_xor c d
  rw [four x _ _ _ _ _ _ _ _ _ _ _ _ (hb c0 _) (hb c1 _) (hb c2 _) (hb c3 _) (bt_lt _) (bt_lt _) (bt_lt _)] at h5
  obtain ⟨z0, z1, z2, z3⟩ := four_zero _ _ _ _ (bt_lt _) (bt_lt _) (bt_lt _) (bt_lt _) (stps_zero _ _ h5)
  have y0 := bt_zero _ z0
  have y1 := bt_zero _ z1
  have y2 := bt_zero _ z2
  have y3 := bt_zero _ z3
  unfold part at y0 y1 y2 y3
  simp only [UInt8.toNat_ofNat', Nat.reducePow] at y0 y1 y2 y3
  omega
theorem k_of (x : Int) (m : Nat) (h : 4 ≤ m) (h2 : m ≤ 5000) : ∃ k : Nat, wrap64 ((IntKind.u64.wrap x).tmod ((m : Int) - 3)) = (k : Int) ∧ k + 4 ≤ m := by
  have h0 : 0 ≤ IntKind.u64.wrap x := by rw [IntKind.wrap_u64]; omega
  rw [Int.tmod_eq_emod_of_nonneg h0]
  generalize IntKind.u64.wrap x = y at *
  have a := Int.emod_nonneg y (show (m : Int) - 3 ≠ 0 by omega)
  have b := Int.emod_lt_of_pos y (show 0 < (m : Int) - 3 by omega)
  refine ⟨(y % ((m : Int) - 3)).toNat, ?_, by omega⟩
  unfold wrap64
  omega
/-- The text with its first j bytes changed. -/
def spoil (l : List UInt8) (k n : Nat) : Nat → List UInt8
  | 0 => l
  | j + 1 => (spoil l k n j).set (k + j) ((spoil l k n j).getD (k + j) 0 ^^^ part n j)
theorem spoil_length (l : List UInt8) (k n j : Nat) : (spoil l k n j).length = l.length := by
  induction j with
  | zero => rfl
  | succ j ih => simp [spoil, ih]
theorem xor_byte (c : UInt8) (n C j : Nat) (hC : C = 256 ^ j) (_hn : n < 2 ^ 32) : bits .xor .u8 (c.toNat : Int) ((n : Int) / (C : Int) % 256) = ((c ^^^ part n j).toNat : Int) := by
  have h1 := c.toNat_lt
  have e : ((n : Int) / (C : Int) % 256) = ((n / C % 256 : Nat) : Int) := by omega
  rw [e, u8_xor_nat c.toNat (n / C % 256) h1 (Nat.mod_lt _ (by omega))]
  have h3 : (c ^^^ part n j).toNat = c.toNat ^^^ (part n j).toNat := by simp
  rw [h3]; unfold part
  rw [UInt8.toNat_ofNat', hC]

theorem spoil_cells {wr : World} {B : Nat} {l : List UInt8} {k n j : Nat} (hc : ∀ m, m < l.length → wr.cell? ⟨B, m, none⟩ = some (.int .u8 ((spoil l k n j).getD m 0).toNat)) (h : k + j < l.length) :
    ∀ m, m < l.length → (wr.setCell ⟨B, k + j, none⟩ (.int .u8 ((((spoil l k n j).getD (k + j) 0).toNat ^^^ (part n j).toNat : Nat) : Int))).cell? ⟨B, m, none⟩ = some (.int .u8 ((spoil l k n (j + 1)).getD m 0).toNat) := by
  intro m hm
  have hl := spoil_length l k n j
  by_cases e : k + j = m
  · subst e
    rw [World.cell?_setCell_same _ _ _ (hc _ h), spoil]
    simp [List.getD, hl, h]
  · rw [World.cell?_setCell_other _ _ _ _ (fun h => e (by injection h)), hc m hm, spoil]
    simp [List.getD, List.getElem?_set, e]
theorem spoil_free {wr : World} {B sz : Nat} {p : Nat} {v : Value} (hf : ∀ m, m < sz → wr.frozen? ⟨B, m, none⟩ = false) : ∀ m, m < sz → (wr.setCell ⟨B, p, none⟩ v).frozen? ⟨B, m, none⟩ = false := by
  intro m hm
  have := hf m hm
  simpa using this

def Step (w w' : World) : Prop := Below w.heap.size w w'
theorem Step.mk {w w' : World} (h : Below w.heap.size w w') : Step w w' := h
theorem Strs.step {w w' : World} {v : Value} {ss : List ByteArray} (hs : Step w w') (h : Strs w v ss) : Strs w' v ss := h.below hs
theorem Strs.alloc {w : World} {v : Value} {ss : List ByteArray} (h : Strs w v ss) (o : Obj) : Strs (w.alloc o) v ss := h.below ((Below.refl _ _).alloc (Nat.le_refl _) _)
theorem Strs.drew {w : World} {v : Value} {ss : List ByteArray} (h : Strs w v ss) : Strs w.drew v ss := h
theorem strs_one2 (w : World) (o : Obj) (a : ByteArray) (t : TypeId) : Strs ((w.alloc o).alloc (.cells #[.string a] t)) (.slice (some ⟨w.heap.size + 1, 0, none⟩) 1 1) [a] := by
  have h := strs_one (w.alloc o) a t
  have e : (w.alloc o).heap.size = w.heap.size + 1 := by simp
  rw [e] at h; exact h
theorem strs_one_d (w : World) (a : ByteArray) (t : TypeId) : Strs (w.alloc (.cells #[.string a] t)).drew (.slice (some ⟨w.heap.size, 0, none⟩) 1 1) [a] := strs_one w a t
theorem below_drew1 (w : World) : Below w.heap.size w w.drew := (Below.refl _ _).drew
theorem keep_alloc {w w' : World} (h : Below w.heap.size w w') (o : Obj) : Below w.heap.size w (w'.alloc o) := h.alloc h.size o
theorem keep_call {w w1 w2 : World} (h : Below w.heap.size w w1) (h2 : Below w1.heap.size w1 w2) : Below w.heap.size w w2 := h.trans (h2.mono h.size)

theorem spoil_four (pre post : List UInt8) (c0 c1 c2 c3 : UInt8) (n : Nat) : spoil (pre ++ [c0, c1, c2, c3] ++ post) pre.length n 4 = pre ++ [c0 ^^^ part n 0, c1 ^^^ part n 1, c2 ^^^ part n 2, c3 ^^^ part n 3] ++ post := by
  simp [spoil, List.getD]
theorem spoil_finds (s : ByteArray) (k n : Nat) (hk : k + 4 ≤ s.size) (hn : n < 2 ^ 32) (h0 : n ≠ 0) : sumT [⟨(spoil s.data.toList k n 4).toArray⟩] ≠ sumT [s] := by
  have hl : s.data.toList.length = s.size := by simp
  have e : ∃ pre c0 c1 c2 c3 post, s.data.toList = pre ++ [c0, c1, c2, c3] ++ post ∧ pre.length = k := by
    have h1 : s.data.toList.drop k ≠ [] := by intro h; have := congrArg List.length h; simp at this; omega
    match hd : s.data.toList.drop k with
    | c0 :: c1 :: c2 :: c3 :: post =>
      refine ⟨s.data.toList.take k, c0, c1, c2, c3, post, ?_, by rw [List.length_take]; omega⟩
      rw [List.append_assoc]
      have := List.take_append_drop k s.data.toList
      rw [hd] at this
      exact this.symm
    | [] => exact absurd hd h1
    | [_] => have := congrArg List.length hd; simp at this; omega
    | [_, _] => have := congrArg List.length hd; simp at this; omega
    | [_, _, _] => have := congrArg List.length hd; simp at this; omega
  obtain ⟨pre, c0, c1, c2, c3, post, he, hp⟩ := e
  subst hp
  have e1 : ∀ t : ByteArray, sumT [t] = addB 0#32 t.data.toList := fun t => by simp only [sumT, List.foldl_cons, List.foldl_nil]; rw [addT_is]
  rw [e1, e1, he, spoil_four]
  exact finds pre post c0 c1 c2 c3 n hn h0

theorem bytes_free (w : World) (e : TypeId) (s : ByteArray) (j : Nat) (hj : j < s.size) : (Lib.bytesWorld w e s).frozen? ⟨w.heap.size, j, none⟩ = false := by
  have hsz : s.size ≤ (Lib.bytesCells w e s).size := by simp [Lib.bytesCells]
  simp only [World.frozen?, Lib.bytesWorld_at_new]
  simp
  omega
theorem bytes_below (w : World) (e : TypeId) (s : ByteArray) : Below w.heap.size w (Lib.bytesWorld w e s) :=
  ⟨rfl, rfl, rfl, by rw [Lib.bytesWorld_size]; omega, fun k hk => Lib.bytesWorld_at_old w e s k hk⟩

/-! ### The walk -/
set_option maxHeartbeats 4000000 in
theorem SumFinds_walk (s : ByteArray) (hs : s.size ≤ maxLen) (at' : Int) (hat : (Lit.int .i64 at').wf = true) (n' : Int) (hn : (Lit.int .u32 n').wf = true) {w : World} :
    Calls Try.prog 5 #[.string s, .int .i64 at', .int .u32 n'] w fun e w' => e = .returned (.bool true) ∧ Below w.heap.size w w' := by
  have hN : 0 ≤ n' ∧ n' ≤ 4294967295 := by simpa [Lit.wf, IntKind.min, IntKind.max, IntKind.signed, IntKind.bits] using hn
  have HA := Lib.hid alive_any
  unfold maxLen at hs
  by_cases h1 : s.size < 4
  · go_enter Try.func5, Try.ntmps5
    go_wp2_with fail
    refine (HA.out _).mono ?_
    rintro e w1 ⟨rfl, hb1⟩
    go_wp2
    go_ret
    exact ⟨rfl, hb1⟩
  by_cases h2 : 5000 < s.size
  · go_enter Try.func5, Try.ntmps5
    go_wp2_with fail
    refine (HA.out _).mono ?_
    rintro e w1 ⟨rfl, hb1⟩
    go_wp2
    go_ret
    exact ⟨rfl, hb1⟩
  by_cases h3 : n' = 0
  · subst h3
    go_enter Try.func5, Try.ntmps5
    go_wp2_with fail
    refine (HA.out _).mono ?_
    rintro e w1 ⟨rfl, hb1⟩
    go_wp2
    go_ret
    exact ⟨rfl, hb1⟩
  have h1' : 4 ≤ s.size := by omega
  have h3' : ((n' : Int) == 0) = false := by rw [beq_eq_false_iff_ne]; exact h3
  have h1b : decide ((s.size : Int) < 4) = false := by simp; omega
  have h2b : decide ((5000 : Int) < (s.size : Int)) = false := by simp; omega
  clear h1 h3
  go_enter Try.func5, Try.ntmps5
  go_wp2_with fail
  refine (HA.out _).mono ?_
  rintro e w1 ⟨rfl, hb1⟩
  obtain ⟨k, hk1, hk2⟩ := k_of at' s.size h1' (by omega)
  obtain ⟨n, rfl⟩ := Int.eq_ofNat_of_zero_le hN.1
  have hn32 : n < 2 ^ 32 := by omega
  have hsz : w1.heap.size < (Lib.bytesWorld w1 5 s).heap.size := by rw [Lib.bytesWorld_size]; omega
  have kc := fun w => Lib.run_convert_string_bytes (P := Try.prog) w 9 33 5 s Try.underlying9 Try.underlying33 Try.underlying5
  have HK1 := Lib.hid hk1
  clear hk1
  go_wp2
  clear kc
  rw [HK1.out]
  have hcells : ∀ j, j < s.size → (Lib.bytesWorld w1 5 s).cell? ⟨w1.heap.size, j, none⟩ = some (.int .u8 (s.data.toList.getD j 0).toNat) := fun j hj => Lib.bytesWorld_cell w1 5 s j hj
  have hfree : ∀ j, j < s.size → (Lib.bytesWorld w1 5 s).frozen? ⟨w1.heap.size, j, none⟩ = false := by
    intro j hj
    exact bytes_free w1 5 s j hj
  have hbw : Below w.heap.size w (Lib.bytesWorld w1 5 s) := hb1.trans ((bytes_below w1 5 s).mono hb1.size)
  have hB : w.heap.size ≤ w1.heap.size := hb1.size
  have HC := Lib.hid hcells
  have HF := Lib.hid hfree
  clear hcells hfree
  generalize grownCap w1 s.size 0 5 = cap at *
  generalize Lib.bytesWorld w1 5 s = W2 at *
  clear hb1
  generalize w1.heap.size = B at *
  go_loopw [34] (fun i wr => ∃ j : Nat, j ≤ 4 ∧ i = .int .i64 j ∧ Below w.heap.size w wr ∧ Hid (∀ m, m < s.size → wr.cell? ⟨B, m, none⟩ = some (.int .u8 ((spoil s.data.toList k n j).getD m 0).toNat)) ∧ Hid (∀ m, m < s.size → wr.frozen? ⟨B, m, none⟩ = false)) (fun i _ => 4 - (intOf i).toNat)
  case atStart => exact ⟨0, by omega, rfl, hbw, HC, HF⟩
  case round =>
    obtain ⟨j, hj, rfl, hb, HC2, HF2⟩ := hrel
    by_cases hlt : j < 4
    · have hcase : j = 0 ∨ j = 1 ∨ j = 2 ∨ j = 3 := by omega
      rcases hcase with rfl | rfl | rfl | rfl
      · have hc := HC2.out (k + 0) (by omega)
        have hf := HF2.out (k + 0) (by omega)
        have HN := Lib.hid (spoil_cells (j := 0) (n := n) (k := k) (l := s.data.toList) (B := B) (wr := wr) (fun m hm => HC2.out m (by simpa using hm)) (by simp; omega))
        generalize (spoil s.data.toList k n 0).getD (k + 0) 0 = c at *
        have hx : bits .xor .u8 (c.toNat : Int) ((n : Int) % 256) = ((c ^^^ part n 0).toNat : Int) := by have := xor_byte c n 1 0 rfl hn32; simpa using this
        simp only [Nat.add_zero] at hc hf
        go_wp2
        go_roundw
        case rel => exact ⟨1, by omega, rfl, hb.setCell (by simpa using hB) _, Lib.hid (fun m hm => HN.out m (by simpa using hm)), Lib.hid (spoil_free HF2.out)⟩
        case measure => simp [intOf]
      · have hc := HC2.out (k + 1) (by omega)
        have hf := HF2.out (k + 1) (by omega)
        have HN := Lib.hid (spoil_cells (j := 1) (n := n) (k := k) (l := s.data.toList) (B := B) (wr := wr) (fun m hm => HC2.out m (by simpa using hm)) (by simp; omega))
        generalize (spoil s.data.toList k n 1).getD (k + 1) 0 = c at *
        have hx : bits .xor .u8 (c.toNat : Int) ((n : Int) / 256 % 256) = ((c ^^^ part n 1).toNat : Int) := xor_byte c n 256 1 rfl hn32
        go_wp2
        go_roundw
        case rel => exact ⟨2, by omega, rfl, hb.setCell (by simpa using hB) _, Lib.hid (fun m hm => HN.out m (by simpa using hm)), Lib.hid (spoil_free HF2.out)⟩
        case measure => simp [intOf]
      · have hc := HC2.out (k + 2) (by omega)
        have hf := HF2.out (k + 2) (by omega)
        have HN := Lib.hid (spoil_cells (j := 2) (n := n) (k := k) (l := s.data.toList) (B := B) (wr := wr) (fun m hm => HC2.out m (by simpa using hm)) (by simp; omega))
        generalize (spoil s.data.toList k n 2).getD (k + 2) 0 = c at *
        have hx : bits .xor .u8 (c.toNat : Int) ((n : Int) / 65536 % 256) = ((c ^^^ part n 2).toNat : Int) := xor_byte c n 65536 2 rfl hn32
        go_wp2
        go_roundw
        case rel => exact ⟨3, by omega, rfl, hb.setCell (by simpa using hB) _, Lib.hid (fun m hm => HN.out m (by simpa using hm)), Lib.hid (spoil_free HF2.out)⟩
        case measure => simp [intOf]
      · have hc := HC2.out (k + 3) (by omega)
        have hf := HF2.out (k + 3) (by omega)
        have HN := Lib.hid (spoil_cells (j := 3) (n := n) (k := k) (l := s.data.toList) (B := B) (wr := wr) (fun m hm => HC2.out m (by simpa using hm)) (by simp; omega))
        generalize (spoil s.data.toList k n 3).getD (k + 3) 0 = c at *
        have hx : bits .xor .u8 (c.toNat : Int) ((n : Int) / 16777216) = ((c ^^^ part n 3).toNat : Int) := by
          have h9 := xor_byte c n 16777216 3 rfl hn32
          have e9 : (n : Int) / ((16777216 : Nat) : Int) % 256 = (n : Int) / 16777216 := by omega
          rw [e9] at h9; exact h9
        go_wp2
        go_roundw
        case rel => exact ⟨4, by omega, rfl, hb.setCell (by simpa using hB) _, Lib.hid (fun m hm => HN.out m (by simpa using hm)), Lib.hid (spoil_free HF2.out)⟩
        case measure => simp [intOf]
    · obtain rfl : j = 4 := by omega
      clear hlt hj HF2
      have hl4 : (spoil s.data.toList k n 4).length = s.size := by rw [spoil_length]; simp
      have hn0 : n ≠ 0 := by
        rintro rfl
        simp at h3'
      have hne0 := spoil_finds s k n hk2 hn32 hn0
      generalize spoil s.data.toList k n 4 = l4 at *
      have hconv : ∀ w', Below wr.heap.size wr w' → (convert 33 9 (.slice (some ⟨B, 0, none⟩) s.size cap)).run Try.prog w' = .ok (.string ⟨l4.toArray⟩) w' := by
        intro w' hw'
        rw [← hl4]
        refine run_convert_bytes_back w' 33 9 5 ⟨B, 0, none⟩ cap l4 Try.underlying33 Try.underlying5 Try.underlying9 ?_
        intro j hj
        have h9 := cell_later hw' (HC2.out j (by omega))
        rw [Go.WideShapes.add_plain, Nat.zero_add, h9]
        simp [List.getD, hj]
      have HX : Hid ((⟨l4.toArray⟩ : ByteArray).size ≤ maxLen) := Lib.hid (by
        show l4.toArray.size ≤ maxLen
        rw [List.size_toArray, hl4]; unfold maxLen; exact hs)
      have HS : Hid (s.size ≤ maxLen) := Lib.hid hs
      have hne : (((sumT [⟨l4.toArray⟩]).toNat : Int) != ((sumT [s]).toNat : Int)) = true := by
        rw [bne_iff_ne]
        intro h
        exact hne0 (BitVec.eq_of_toNat_eq (by omega))
      have hfg : (figs (sumT [s]) 8 == figs (sumT [⟨l4.toArray⟩]) 8) = false := by
        rw [figs_inj, beq_eq_false_iff_ne]
        intro h
        exact hne0 (BitVec.eq_of_toNat_eq (by omega))
      clear hne0 hn0
      go_wp2_with fail
      go_region_held3 (fun w' => Below wr.heap.size wr w') (first | assumption | exact below_drew1 _ | exact keep_alloc (by assumption) _ | exact keep_call (by assumption) (by assumption)) (first | (go_at_call 12; refine (sum_sum _ [⟨l4.toArray⟩] _ ?_ (by simp) (one_sized HX.out)).mono ?_; (with_reducible (repeat (first | exact strs_one _ _ _ | exact strs_one2 _ _ _ _ | refine Strs.drew ?_ | refine Strs.step (by assumption) ?_ | refine Strs.alloc ?_ _))); rintro e w' ⟨rfl, hbb⟩; have hstep := Step.mk hbb) | (go_at_call 12; refine (sum_sum _ [s] _ ?_ (by simp) (one_sized HS.out)).mono ?_; (with_reducible (repeat (first | exact strs_one _ _ _ | exact strs_one2 _ _ _ _ | refine Strs.drew ?_ | refine Strs.step (by assumption) ?_ | refine Strs.alloc ?_ _))); rintro e w' ⟨rfl, hbb⟩; have hstep := Step.mk hbb) | (go_at_call 16; refine (Figures_any _ _).mono ?_; rintro e w' ⟨rfl, hbb⟩; have hstep := Step.mk hbb) | (go_at_call 15; refine (Is_any _ _ [⟨l4.toArray⟩] _ ?_ (by simp) (one_sized HX.out)).mono ?_; (with_reducible (repeat (first | exact strs_one _ _ _ | exact strs_one2 _ _ _ _ | refine Strs.drew ?_ | refine Strs.step (by assumption) ?_ | refine Strs.alloc ?_ _))); rintro e w' ⟨rfl, hbb⟩; have hstep := Step.mk hbb))
      all_goals (go_wp2; go_ret; refine ⟨rfl, hb.trans (Below.mono (B := wr.heap.size) ?_ hb.size)⟩; assumption)
end Crc
end Go.Proofs.Ytahdeifoakjccaa
