/-
  The walks over sum.Take and its reference. Over every input; no condition but the model's own bounds.
-/
import Derived.Test.YtahdeifoakjccaaSumFig
namespace Go.Proofs.Ytahdeifoakjccaa
open Go.RowKit
namespace Crc

def dig (c : UInt8) : Int := Lib.indexByte hexd c
def tk (acc : Nat) : List UInt8 → Option Nat
  | [] => some acc
  | c :: l => if dig c < 0 then none else tk (acc * 16 + (dig c).toNat) l
def takeS (s : ByteArray) : Option Nat := if s.size = 8 then tk 0 s.data.toList else none
def hex16 : ByteArray := ⟨#[48, 49, 50, 51, 52, 53, 54, 55, 56, 57, 97, 98, 99, 100, 101, 102]⟩
theorem dig_lt (c : UInt8) : -1 ≤ dig c ∧ dig c < 16 := by
  have h : ∀ j : Fin 256, -1 ≤ dig (UInt8.ofNat j.val) ∧ dig (UInt8.ofNat j.val) < 16 := by decide +kernel
  have := h ⟨c.toNat, c.toNat_lt⟩
  simpa using this
theorem or_low (a n : Nat) (ha : a < 268435456) (hn : n < 16) : bits .or .u32 ((a : Int) * 16) (n : Int) = ((a * 16 + n : Nat) : Int) := by
  have h1 : ((a : Int) * 16) = ((a * 16 : Nat) : Int) := by omega
  rw [h1, u32_or_nat (a * 16) n (by omega) (by omega)]
  rw [nat_join 4 (a * 16) n (by omega) (by omega)]
theorem drop_cons (s : ByteArray) (k : Nat) (h : k < s.size) : s.data.toList.drop k = s[k] :: s.data.toList.drop (k + 1) := by
  rw [List.drop_eq_getElem_cons (by simpa using h)]; rfl

theorem Take_any (s : ByteArray) (w : World) (_hs : s.size ≤ maxLen) :
    Calls Try.prog 27 #[.string s] w fun e w' => e = .returned (.tuple #[.int .u32 (((takeS s).getD 0 : Nat) : Int), .bool (takeS s).isSome]) ∧ w = w' := by
  by_cases h8 : s.size = 8
  · have HT : Hid (takeS s = tk 0 s.data.toList) := Lib.hid (by rw [takeS, if_pos h8])
    have h81 : s.size ≤ 8 := by omega
    have h82 : 8 ≤ s.size := by omega
    have h83 : ((s.size : Int) != 8) = false := by rw [bne_eq_false_iff_eq]; omega
    clear h8
    go_enter Try.func27, Try.ntmps27
    go_wp2
    go_loopw [4, 10] (fun n i wr => ∃ (k a : Nat), wr = w ∧ k ≤ 8 ∧ i = .int .i64 k ∧ n = .int .u32 (a : Int) ∧ a < 16 ^ k ∧ Hid (takeS s = tk a (s.data.toList.drop k))) (fun _ i _ => 8 - (intOf i).toNat)
    case atStart => exact ⟨0, 0, rfl, by omega, rfl, rfl, by decide, HT⟩
    case round =>
      obtain ⟨k, a, rfl, hk, rfl, rfl, ha, HT2⟩ := hrel
      by_cases hlt : k < 8
      · have ha7 : a < 268435456 := Nat.lt_of_lt_of_le ha (by have := Nat.pow_le_pow_right (n := 16) (by decide) (show k ≤ 7 by omega); omega)
        have hks : k < s.size := by omega
        have HD := Lib.hid (drop_cons s k hks)
        have hdl := dig_lt s[k]
        have he : Lib.indexByte [48, 49, 50, 51, 52, 53, 54, 55, 56, 57, 97, 98, 99, 100, 101, 102] (s[k].toNat : Int).toNat.toUInt8 = dig s[k] := by
          have e1 : (s[k].toNat : Int).toNat.toUInt8 = s[k] := by simp
          rw [e1]; rfl
        have HE := Lib.hid he
        clear he
        have HK := Lib.hid (show tk a (s[k] :: s.data.toList.drop (k + 1)) = if dig s[k] < 0 then none else tk (a * 16 + (dig s[k]).toNat) (s.data.toList.drop (k + 1)) from rfl)
        go_wp2_with fail
        refine (Try.strings_IndexByte _ _ _).mono ?_
        rintro e w' ⟨rfl, hw⟩
        obtain rfl := hw.symm
        rw [HE.out]
        by_cases hneg : dig s[k] < 0
        · have HN : Hid (takeS s = none) := Lib.hid (by rw [HT2.out, HD.out, HK.out, if_pos hneg])
          clear HE HK
          generalize dig s[k] = d at *
          go_wp2
          go_ret2
          exact ⟨by rw [HN.out]; rfl, rfl⟩
        · have HN : Hid (takeS s = tk (a * 16 + (dig s[k]).toNat) (s.data.toList.drop (k + 1))) := Lib.hid (by rw [HT2.out, HD.out, HK.out, if_neg hneg])
          clear HE HK
          generalize dig s[k] = d at *
          obtain ⟨m, rfl⟩ := Int.eq_ofNat_of_zero_le (show 0 ≤ d by omega)
          have hor := or_low a m ha7 (by omega)
          have ha8 : a * 16 + m < 16 ^ (k + 1) := by rw [Nat.pow_succ]; omega
          go_wp2
          go_roundw
          case rel => exact ⟨k + 1, a * 16 + m, trivial, by omega, by go_num, rfl, ha8, HN⟩
          case measure => simp [intOf]; omega
      · obtain rfl : k = 8 := by omega
        have HN : Hid (takeS s = some a) := Lib.hid (by rw [HT2.out, List.drop_eq_nil_of_le (by simp; omega)]; rfl)
        go_wp2
        go_ret2
        exact ⟨by rw [HN.out]; rfl, rfl⟩
  · have HT : takeS s = none := by rw [takeS, if_neg h8]
    rw [HT]
    have hn : ¬ ((s.size : Int) = 8) := by omega
    go_enter Try.func27, Try.ntmps27
    go_wp2
    go_ret2
    exact ⟨rfl, rfl⟩

/-- Where a figure stands among the first j ones; 16: nowhere. -/
def fnd (c : UInt8) : Nat → Nat
  | 0 => 16
  | j + 1 => if hexd.getD j 0 = c then j else fnd c j
theorem fnd_dig (c : UInt8) : fnd c 16 = if dig c < 0 then 16 else (dig c).toNat := by
  have h : ∀ j : Fin 256, fnd (UInt8.ofNat j.val) 16 = if dig (UInt8.ofNat j.val) < 0 then 16 else (dig (UInt8.ofNat j.val)).toNat := by decide +kernel
  have := h ⟨c.toNat, c.toNat_lt⟩
  simpa using this
theorem fnd_le (c : UInt8) (j : Nat) (h : j ≤ 16) : fnd c j ≤ 16 := by
  induction j with
  | zero => simp [fnd]
  | succ j ih =>
    rw [fnd]; split
    · omega
    · exact ih (by omega)

theorem fnd_yes (c : UInt8) (j : Nat) (h : j < ({ data := #[48, 49, 50, 51, 52, 53, 54, 55, 56, 57, 97, 98, 99, 100, 101, 102] } : ByteArray).size) (ht : ((({ data := #[48, 49, 50, 51, 52, 53, 54, 55, 56, 57, 97, 98, 99, 100, 101, 102] } : ByteArray)[j].toNat : Int) == (c.toNat : Int)) = true) : fnd c (j + 1) = j := by
  rw [hex_at, beq_iff_eq] at ht
  have e : hexd.getD j 0 = c := UInt8.toNat_inj.1 (by omega)
  rw [fnd, if_pos e]
theorem fnd_no (c : UInt8) (j : Nat) (h : j < ({ data := #[48, 49, 50, 51, 52, 53, 54, 55, 56, 57, 97, 98, 99, 100, 101, 102] } : ByteArray).size) (ht : ((({ data := #[48, 49, 50, 51, 52, 53, 54, 55, 56, 57, 97, 98, 99, 100, 101, 102] } : ByteArray)[j].toNat : Int) == (c.toNat : Int)) = false) : fnd c (j + 1) = fnd c j := by
  rw [hex_at, beq_eq_false_iff_ne] at ht
  have e : ¬ hexd.getD j 0 = c := fun e => ht (by rw [e])
  rw [fnd, if_neg e]

theorem RefTake_any (s : ByteArray) (w : World) (_hs : s.size ≤ maxLen) :
    Calls Try.prog 28 #[.string s] w fun e w' => e = .returned (.tuple #[.int .u32 (((takeS s).getD 0 : Nat) : Int), .bool (takeS s).isSome]) ∧ ∃ n, w' = w.drewN n := by
  by_cases h8 : s.size = 8
  · have HT : Hid (takeS s = tk 0 s.data.toList) := Lib.hid (by rw [takeS, if_pos h8])
    have h81 : s.size ≤ 8 := by omega
    have h82 : 8 ≤ s.size := by omega
    have h83 : ((s.size : Int) != 8) = false := by rw [bne_eq_false_iff_eq]; omega
    clear h8
    go_enter Try.func28, Try.ntmps28
    go_wp2
    go_loopw [4, 5] (fun n i wr => ∃ (k a m : Nat), wr = w.drewN m ∧ k ≤ 8 ∧ i = .int .i64 k ∧ n = .int .u32 (a : Int) ∧ a < 16 ^ k ∧ Hid (takeS s = tk a (s.data.toList.drop k))) (fun _ i _ => 8 - (intOf i).toNat)
    case atStart => exact ⟨0, 0, 0, rfl, by omega, rfl, rfl, by decide, HT⟩
    case round =>
      obtain ⟨k, a, m, rfl, hk, rfl, rfl, ha, HT2⟩ := hrel
      by_cases hlt : k < 8
      · have ha7 : a < 268435456 := Nat.lt_of_lt_of_le ha (by have := Nat.pow_le_pow_right (n := 16) (by decide) (show k ≤ 7 by omega); omega)
        have hks : k < s.size := by omega
        have HD := Lib.hid (drop_cons s k hks)
        have hdl := dig_lt s[k]
        have HK := Lib.hid (show tk a (s[k] :: s.data.toList.drop (k + 1)) = if dig s[k] < 0 then none else tk (a * 16 + (dig s[k]).toNat) (s.data.toList.drop (k + 1)) from rfl)
        go_wp2
        go_loopw [6, 7] (fun n i wr => ∃ (j m : Nat), wr = w.drewN m ∧ j ≤ 16 ∧ i = .int .i64 j ∧ n = .int .u32 (fnd s[k] j : Int)) (fun _ i _ => 16 - (intOf i).toNat)
        case atStart => exact ⟨0, m, rfl, by omega, rfl, rfl⟩
        case round =>
          obtain ⟨j, m2, rfl, hj, rfl, rfl⟩ := hrel
          by_cases hjl : j < 16
          · have hi1 : (j : Int) < 16 := by omega
            have hi2 : (k : Int) < (s.size : Int) := by omega
            go_wp2
            go_quiet (fail)
            go_wp2
            · go_roundw
              case rel => exact ⟨j + 1, m2 + nq, rfl, by omega, by go_num, by rw [fnd_yes _ _ _ ‹_›]⟩
              case measure => simp [intOf]; omega
            · go_roundw
              case rel => exact ⟨j + 1, m2 + nq, rfl, by omega, by go_num, by rw [fnd_no _ _ _ ‹_›]⟩
              case measure => simp [intOf]; omega
          · obtain rfl : j = 16 := by omega
            by_cases hneg : dig s[k] < 0
            · have HN : Hid (takeS s = none) := Lib.hid (by rw [HT2.out, HD.out, HK.out, if_pos hneg])
              have e16 : fnd s[k] 16 = 16 := by rw [fnd_dig, if_pos hneg]
              rw [e16]
              clear e16
              go_wp2
              go_ret2
              exact ⟨by rw [HN.out]; rfl, m2, rfl⟩
            · have HN : Hid (takeS s = tk (a * 16 + (dig s[k]).toNat) (s.data.toList.drop (k + 1))) := Lib.hid (by rw [HT2.out, HD.out, HK.out, if_neg hneg])
              have e16 : fnd s[k] 16 = (dig s[k]).toNat := by rw [fnd_dig, if_neg hneg]
              rw [e16]
              clear e16 HK
              have hd16 : (dig s[k]).toNat < 16 := by omega
              generalize (dig s[k]).toNat = d at *
              clear hdl hneg
              have ha8 : a * 16 + d < 16 ^ (k + 1) := by rw [Nat.pow_succ]; omega
              go_wp2
              go_roundw
              case rel => exact ⟨k + 1, a * 16 + d, m2, rfl, by omega, by go_num, by go_num, ha8, HN⟩
              case measure => simp [intOf]; omega
      · obtain rfl : k = 8 := by omega
        have HN : Hid (takeS s = some a) := Lib.hid (by rw [HT2.out, List.drop_eq_nil_of_le (by simp; omega)]; rfl)
        go_wp2
        go_ret2
        exact ⟨by rw [HN.out]; rfl, m, rfl⟩
  · have HT : takeS s = none := by rw [takeS, if_neg h8]
    rw [HT]
    have hn : ¬ ((s.size : Int) = 8) := by omega
    go_enter Try.func28, Try.ntmps28
    go_wp2
    go_ret2
    exact ⟨rfl, 0, rfl⟩

end Crc
end Go.Proofs.Ytahdeifoakjccaa
