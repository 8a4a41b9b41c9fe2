/-
  The walk over stanzakeepnum.Much. No condition.
-/
import Derived.Test.YtahdeifoakjccaaDiffSame
namespace Go.Proofs.Ytahdeifoakjccaa
open Go.RowKit
namespace Dif
open Rdl

def wt (x : ByteArray × ByteArray) : Nat := min x.1.size 10000 + min x.2.size 10000
def muchGo : Nat → Nat → Row → Bool
  | _, _, [] => false
  | i, n, x :: r => if 60 < i ∨ 6000 < n + wt x then true else muchGo (i + 1) (n + wt x) r
/-- More than is looked at. -/
def muchB (xs : Row) : Bool := muchGo 0 0 xs

theorem Much_any (v : Value) (xs : Row) (w : World) (hv : Sl field all w v xs) :
    Calls Try.prog 33 #[v] w fun e w' => e = .returned (.bool (muchB xs)) ∧ Below w.heap.size w w' := by
  obtain ⟨a, cap, rfl, hla, hca⟩ := fieldAt hv
  have HA := Lib.hid hca
  clear hca hv
  go_enter Try.func33, Try.ntmps33
  go_wp2
  go_loopw [3, 8] (fun n i wr => ∃ (k m : Nat), k ≤ xs.length ∧ k ≤ 61 ∧ m ≤ 6000 ∧ i = .int .i64 k ∧ n = .int .i64 m ∧ Hid (muchB xs = muchGo k m (xs.drop k)) ∧ Below w.heap.size w wr) (fun _ i _ => xs.length - (intOf i).toNat)
  case atStart => exact ⟨0, 0, by omega, by omega, by omega, rfl, rfl, Lib.hid rfl, Below.refl _ _⟩
  case round =>
    obtain ⟨k, m, hk, hk6, hm, rfl, rfl, hT, hb⟩ := hrel
    by_cases hlt : k < xs.length
    · obtain ⟨b1, off1, rfl, c1, c2, s1, s2⟩ := HA.out k hlt
      have d1 := cell_later hb c1
      have d2 := cell_later hb c2
      have HS : Hid (muchB xs = if 60 < k ∨ 6000 < m + wt xs[k] then true else muchGo (k + 1) (m + wt xs[k]) (xs.drop (k + 1))) := Lib.hid (by
        rw [hT.out, List.drop_eq_getElem_cons hlt]; rfl)
      have HW : Hid (wt xs[k] = min xs[k].1.size 10000 + min xs[k].2.size 10000) := Lib.hid rfl
      clear c1 c2 hT
      unfold maxLen at s1 s2
      generalize xs[k] = x at *
      have m1 : (if (10000 : Int) < (x.1.size : Int) then (10000 : Int) else (x.1.size : Int)) = ((min x.1.size 10000 : Nat) : Int) := by split <;> omega
      have m2 : (if (10000 : Int) < (x.2.size : Int) then (10000 : Int) else (x.2.size : Int)) = ((min x.2.size 10000 : Nat) : Int) := by split <;> omega
      have l1 : min x.1.size 10000 ≤ 10000 := by omega
      have l2 : min x.2.size 10000 ≤ 10000 := by omega
      generalize min x.1.size 10000 = q1 at *
      generalize min x.2.size 10000 = q2 at *
      have hb2 : Below w.heap.size w (wr.alloc (Obj.cells #[Value.string x.1, Value.string x.2] 74)) := hb.alloc hb.size _
      by_cases hbig : 60 < k ∨ 6000 < m + wt x
      · have HR : Hid (muchB xs = true) := Lib.hid (by rw [HS.out, if_pos hbig])
        have hbig2 : 60 < k ∨ (k ≤ 60 ∧ 6000 < m + (q1 + q2)) := by rw [HW.out] at hbig; omega
        clear hbig
        rcases hbig2 with hk60 | ⟨hk60, hm60⟩
        · go_wp2
          go_ret
          exact ⟨ret_bool HR.out.symm, hb2⟩
        · go_wp2
          go_ret
          exact ⟨ret_bool HR.out.symm, hb2⟩
      · have HR : Hid (muchB xs = muchGo (k + 1) (m + wt x) (xs.drop (k + 1))) := Lib.hid (by rw [HS.out, if_neg hbig])
        have hbig2 : k ≤ 60 ∧ m + (q1 + q2) ≤ 6000 := by rw [← HW.out]; omega
        obtain ⟨hb3, hb4⟩ := hbig2
        clear hbig
        go_wp2
        go_roundw
        case rel => exact ⟨k + 1, m + (q1 + q2), by omega, by omega, by omega, by go_num, by go_num, Lib.hid (by rw [HR.out, HW.out]), hb2⟩
        case measure => simp [intOf]; omega
    · obtain rfl : k = xs.length := by omega
      go_wp2
      go_ret
      exact ⟨ret_bool (by rw [hT.out, List.drop_length]; rfl), hb⟩
end Dif
end Go.Proofs.Ytahdeifoakjccaa
