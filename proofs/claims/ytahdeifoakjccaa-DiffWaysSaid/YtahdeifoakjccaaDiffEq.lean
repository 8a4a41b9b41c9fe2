/-
  The walks over the equality of rows: slices.Equal, diff.same, the reference's row. No condition.
-/
import Derived.Test.YtahdeifoakjccaaRows
import Derived.Test.YtahdeifoakjccaaRead
import Derived.WalkKit
import Derived.LoopTactic
import Derived.Lib.Hide
import Derived.Deep.QuietTactic
import Derived.BigQuiet
import Derived.WalkSmall
import Derived.WalkSpells
import Derived.WalkLawsBesides
import Derived.Laws.StructEq
namespace Go.Proofs.Ytahdeifoakjccaa
open Go.RowKit
namespace Dif
open Rdl

abbrev field : Rd (ByteArray × ByteArray) := pair str str
abbrev fields : Rd (List (ByteArray × ByteArray)) := sl field (by decide)
abbrev rows : Rd (List (List (ByteArray × ByteArray))) := sl fields (by decide)

theorem intAt {ok : Nat → Prop} {w : World} {v : Value} {xs : List Int} (h : Sl int ok w v xs) :
    ∃ a cap, v = .slice a xs.length cap ∧ xs.length ≤ 9223372036854775807 ∧ ∀ i (h : i < xs.length), ∃ b off, a = some ⟨b, off, none⟩ ∧ w.cell? ⟨b, off + i, none⟩ = some (.int .i64 xs[i]) ∧ -9223372036854775808 ≤ xs[i] ∧ xs[i] ≤ 9223372036854775807 := by
  obtain ⟨a, cap, hv, h1, h2, hc⟩ := h
  refine ⟨a, cap, hv, by unfold maxLen at h2; omega, fun i hi => ?_⟩
  obtain ⟨b, off, cs, ha, _, ⟨hcs, hb1, hb2⟩, hcell⟩ := hc i hi
  subst hcs
  have e0 := hcell 0 (by decide)
  refine ⟨b, off, ha, ?_, hb1, hb2⟩
  simpa [int] using e0
/-- What a field of a slice gives. -/
theorem fieldAt {ok : Nat → Prop} {w : World} {v : Value} {xs : List (ByteArray × ByteArray)} (h : Sl field ok w v xs) :
    ∃ a cap, v = .slice a xs.length cap ∧ xs.length ≤ 9223372036854775807 ∧ ∀ i (h : i < xs.length), ∃ b off, a = some ⟨b, off, none⟩ ∧ w.cell? ⟨b, off + i * 2, none⟩ = some (.string xs[i].1) ∧ w.cell? ⟨b, off + i * 2 + 1, none⟩ = some (.string xs[i].2) ∧ xs[i].1.size ≤ maxLen ∧ xs[i].2.size ≤ maxLen := by
  obtain ⟨a, cap, hv, h1, h2, hc⟩ := h
  refine ⟨a, cap, hv, by unfold maxLen at h2; omega, fun i hi => ?_⟩
  obtain ⟨b, off, cs, ha, _, ⟨c, d, hcs, ⟨hc1, hs1⟩, ⟨hd1, hs2⟩⟩, hcell⟩ := hc i hi
  subst hc1; subst hd1; subst hcs
  have e0 := hcell 0 (by decide)
  have e1 := hcell 1 (by decide)
  refine ⟨b, off, ha, ?_, ?_, hs1, hs2⟩
  · simpa [pair, str] using e0
  · simpa [pair, str, Nat.add_assoc] using e1

theorem stood : Try.prog.stoodInHeld 74 = false := by kernel_rfl
theorem guardless : Try.prog.eqGuardType Try.prog.depth 74 = false := by kernel_rfl
/-- Two fields held against each other. -/
def same2 (x y : ByteArray × ByteArray) : Bool := x.1.toList == y.1.toList && x.2.toList == y.2.toList
theorem same2_iff (x y : ByteArray × ByteArray) : same2 x y = decide (x = y) := by
  obtain ⟨a, b⟩ := x
  obtain ⟨c, d⟩ := y
  rw [Bool.eq_iff_iff]
  simp [same2, ByteArray.toList_eq]
  constructor
  · rintro ⟨h1, h2⟩; exact ⟨ByteArray.ext h1, ByteArray.ext h2⟩
  · rintro ⟨rfl, rfl⟩; exact ⟨rfl, rfl⟩
theorem neqField (x y : ByteArray × ByteArray) (w : World) : (binOp .neq 74 (.agg #[.string x.1, .string x.2]) (.agg #[.string y.1, .string y.2])).run Try.prog w = .ok (.bool (!(same2 x y))) w := by
  have q1 := stood
  go_simp
  simp only [same2]
  by_cases h1 : x.1.toList = y.1.toList <;> by_cases h2 : x.2.toList = y.2.toList <;> simp [h1, h2]
theorem equal_any (va vb : Value) (xs ys : List (ByteArray × ByteArray)) (w : World) (ha : Sl field all w va xs) (hb : Sl field all w vb ys) :
    Calls Try.prog 46 #[va, vb] w fun e w' => e = .returned (.bool (decide (xs = ys))) ∧ ∃ n, w' = w.drewN n := by
  obtain ⟨a, cap, rfl, hla, hca⟩ := fieldAt ha
  obtain ⟨b, cap2, rfl, hlb, hcb⟩ := fieldAt hb
  have HA := Lib.hid hca
  have HB := Lib.hid hcb
  clear hca hcb ha hb
  by_cases hl : xs.length = ys.length
  · have hl1 : ((xs.length : Int) != (ys.length : Int)) = false := by rw [bne_eq_false_iff_eq]; omega
    have hle : xs.length ≤ ys.length := by omega
    have HL := Lib.hid hl
    clear hl
    have q1 := neqField
    have q2 := guardless
    go_enter Try.func46, Try.ntmps46
    go_wp2
    go_loopw [13] (fun i wr => ∃ (k n : Nat), wr = w.drewN n ∧ k ≤ xs.length ∧ i = .int .i64 k ∧ Hid (xs.take k = ys.take k)) (fun i _ => xs.length - (intOf i).toNat)
    case atStart => exact ⟨0, 0, rfl, by omega, rfl, Lib.hid rfl⟩
    case round =>
      obtain ⟨k, n, rfl, hk, rfl, hT⟩ := hrel
      by_cases hlt : k < xs.length
      · obtain ⟨b1, off1, rfl, c1, c2, _, _⟩ := HA.out k hlt
        obtain ⟨b2, off2, rfl, d1, d2, _, _⟩ := HB.out k (by omega)
        have hi1 : (k : Int) < (xs.length : Int) := by omega
        have hi2 : (k : Int) < (ys.length : Int) := by omega
        go_wp2
        go_quiet (fail)
        go_wp2
        · have hne : ¬ xs[k] = ys[k] := by
            have h9 : (!same2 xs[k] ys[k]) = true := by assumption
            rw [same2_iff] at h9; simpa using h9
          go_ret
          exact ⟨ret_bool (by rw [decide_eq_false (ne_at k hlt (by omega) hne)]), n + nq, by rw [World.drewN_drewN]⟩
        · have heq : xs[k] = ys[k] := by
            have h9 : (!same2 xs[k] ys[k]) = false := by assumption
            rw [same2_iff] at h9; simpa using h9
          go_roundw
          case rel => exact ⟨k + 1, n + nq, rfl, by omega, by go_num, Lib.hid (take_step k hlt (by omega) heq hT.out)⟩
          case measure => simp [intOf]; omega
      · obtain rfl : k = xs.length := by omega
        go_wp2
        go_ret
        exact ⟨ret_bool (by rw [decide_eq_true (take_full HL.out hT.out)]), n, rfl⟩
  · have hl1 : ((xs.length : Int) != (ys.length : Int)) = true := by rw [bne_iff_ne]; omega
    have hne : xs ≠ ys := fun h => hl (by rw [h])
    have HN := Lib.hid hne
    clear hl hne
    go_enter Try.func46, Try.ntmps46
    go_wp2
    go_ret
    exact ⟨ret_bool (by rw [decide_eq_false HN.out]), 0, rfl⟩


theorem row_any (va vb : Value) (xs ys : List (ByteArray × ByteArray)) (w : World) (ha : Sl field all w va xs) (hb : Sl field all w vb ys) :
    Calls Try.prog 37 #[va, vb] w fun e w' => e = .returned (.bool (decide (xs = ys))) ∧ ∃ n, w' = w.drewN n := by
  obtain ⟨a, cap, rfl, hla, hca⟩ := fieldAt ha
  obtain ⟨b, cap2, rfl, hlb, hcb⟩ := fieldAt hb
  have HA := Lib.hid hca
  have HB := Lib.hid hcb
  clear hca hcb ha hb
  by_cases hl : xs.length = ys.length
  · have hl1 : ((xs.length : Int) != (ys.length : Int)) = false := by rw [bne_eq_false_iff_eq]; omega
    have hle : xs.length ≤ ys.length := by omega
    have HL := Lib.hid hl
    clear hl
    have q1 := neqField
    have q2 := guardless
    go_enter Try.func37, Try.ntmps37
    go_wp2
    go_loopw [5] (fun i wr => ∃ (k n : Nat), wr = w.drewN n ∧ k ≤ xs.length ∧ i = .int .i64 k ∧ Hid (xs.take k = ys.take k)) (fun i _ => xs.length - (intOf i).toNat)
    case atStart => exact ⟨0, 0, rfl, by omega, rfl, Lib.hid rfl⟩
    case round =>
      obtain ⟨k, n, rfl, hk, rfl, hT⟩ := hrel
      by_cases hlt : k < xs.length
      · obtain ⟨b1, off1, rfl, c1, c2, _, _⟩ := HA.out k hlt
        obtain ⟨b2, off2, rfl, d1, d2, _, _⟩ := HB.out k (by omega)
        have hi1 : (k : Int) < (xs.length : Int) := by omega
        have hi2 : (k : Int) < (ys.length : Int) := by omega
        go_wp2
        go_quiet (fail)
        go_wp2
        · have hne : ¬ xs[k] = ys[k] := by
            have h9 : (!same2 xs[k] ys[k]) = true := by assumption
            rw [same2_iff] at h9; simpa using h9
          go_ret
          exact ⟨ret_bool (by rw [decide_eq_false (ne_at k hlt (by omega) hne)]), n + nq, by rw [World.drewN_drewN]⟩
        · have heq : xs[k] = ys[k] := by
            have h9 : (!same2 xs[k] ys[k]) = false := by assumption
            rw [same2_iff] at h9; simpa using h9
          go_roundw
          case rel => exact ⟨k + 1, n + nq, rfl, by omega, by go_num, Lib.hid (take_step k hlt (by omega) heq hT.out)⟩
          case measure => simp [intOf]; omega
      · obtain rfl : k = xs.length := by omega
        go_wp2
        go_ret
        exact ⟨ret_bool (by rw [decide_eq_true (take_full HL.out hT.out)]), n, rfl⟩
  · have hl1 : ((xs.length : Int) != (ys.length : Int)) = true := by rw [bne_iff_ne]; omega
    have hne : xs ≠ ys := fun h => hl (by rw [h])
    have HN := Lib.hid hne
    clear hl hne
    go_enter Try.func37, Try.ntmps37
    go_wp2
    go_ret
    exact ⟨ret_bool (by rw [decide_eq_false HN.out]), 0, rfl⟩


theorem ints_any (va vb : Value) (xs ys : List Int) (w : World) (ha : Sl int all w va xs) (hb : Sl int all w vb ys) :
    Calls Try.prog 22 #[va, vb] w fun e w' => e = .returned (.bool (decide (xs = ys))) ∧ ∃ n, w' = w.drewN n := by
  obtain ⟨a, cap, rfl, hla, hca⟩ := intAt ha
  obtain ⟨b, cap2, rfl, hlb, hcb⟩ := intAt hb
  have HA := Lib.hid hca
  have HB := Lib.hid hcb
  clear hca hcb ha hb
  by_cases hl : xs.length = ys.length
  · have hl1 : ((xs.length : Int) != (ys.length : Int)) = false := by rw [bne_eq_false_iff_eq]; omega
    have hle : xs.length ≤ ys.length := by omega
    have HL := Lib.hid hl
    clear hl
    go_enter Try.func22, Try.ntmps22
    go_wp2
    go_loopw [13] (fun i wr => ∃ (k n : Nat), wr = w.drewN n ∧ k ≤ xs.length ∧ i = .int .i64 k ∧ Hid (xs.take k = ys.take k)) (fun i _ => xs.length - (intOf i).toNat)
    case atStart => exact ⟨0, 0, rfl, by omega, rfl, Lib.hid rfl⟩
    case round =>
      obtain ⟨k, n, rfl, hk, rfl, hT⟩ := hrel
      by_cases hlt : k < xs.length
      · obtain ⟨b1, off1, rfl, c1, _, _⟩ := HA.out k hlt
        obtain ⟨b2, off2, rfl, d1, _, _⟩ := HB.out k (by omega)
        have hi1 : (k : Int) < (xs.length : Int) := by omega
        have hi2 : (k : Int) < (ys.length : Int) := by omega
        go_wp2
        go_quiet (fail)
        go_wp2
        · have hne : ¬ xs[k] = ys[k] := by
            have h9 : (xs[k] != ys[k]) = true := by assumption
            simpa using h9
          go_ret
          exact ⟨ret_bool (by rw [decide_eq_false (ne_at k hlt (by omega) hne)]), n + nq, by rw [World.drewN_drewN]⟩
        · have heq : xs[k] = ys[k] := by
            have h9 : (xs[k] != ys[k]) = false := by assumption
            simpa using h9
          go_roundw
          case rel => exact ⟨k + 1, n + nq, rfl, by omega, by go_num, Lib.hid (take_step k hlt (by omega) heq hT.out)⟩
          case measure => simp [intOf]; omega
      · obtain rfl : k = xs.length := by omega
        go_wp2
        go_ret
        exact ⟨ret_bool (by rw [decide_eq_true (take_full HL.out hT.out)]), n, rfl⟩
  · have hl1 : ((xs.length : Int) != (ys.length : Int)) = true := by rw [bne_iff_ne]; omega
    have hne : xs ≠ ys := fun h => hl (by rw [h])
    have HN := Lib.hid hne
    clear hl hne
    go_enter Try.func22, Try.ntmps22
    go_wp2
    go_ret
    exact ⟨ret_bool (by rw [decide_eq_false HN.out]), 0, rfl⟩


theorem same_any (va vb : Value) (xs ys : List (ByteArray × ByteArray)) (w : World) (ha : Sl field all w va xs) (hb : Sl field all w vb ys) :
    Calls Try.prog 39 #[va, vb] w fun e w' => e = .returned (.bool (decide (xs = ys))) ∧ ∃ n, w' = w.drewN n := by
  have H := Lib.hid (equal_any va vb xs ys w ha hb)
  clear ha hb
  go_enter Try.func39, Try.ntmps39
  go_wp2_with fail
  refine H.out.mono ?_
  rintro e w' ⟨rfl, n, rfl⟩
  go_wp2
  go_ret
  exact ⟨rfl, n, rfl⟩
end Dif
end Go.Proofs.Ytahdeifoakjccaa
