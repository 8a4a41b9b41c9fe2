/-
  The walk over (*table).least. No condition but that the table's entries are no more than 1000.
-/
import Derived.Test.YtahdeifoakjccaaDiffSame
namespace Go.Proofs.Ytahdeifoakjccaa
open Go.RowKit
namespace Dif
open Rdl

/-- The value is n rows of m numbers each, by Z. -/
def Tab (w : World) (cv : Value) (n m : Nat) (Z : Nat → Nat → Nat) : Prop :=
  ∃ a cap, cv = .slice a n cap ∧ n ≤ cap ∧ cap ≤ maxLen ∧ ∀ r, r < n → ∃ b off g gc, a = some ⟨b, off, none⟩ ∧ w.cell? ⟨b, off + r, none⟩ = some (.slice (some ⟨g, 0, none⟩) m gc) ∧ ∀ c, c < m → w.cell? ⟨g, c, none⟩ = some (.int .i64 (Z r c : Int))
/-- The table's block. -/
def TabAt (w : World) (T : Nat) (va vb cv : Value) : Prop := w.heap[T]? = some (.cells #[va, vb, cv] 63 (0, 0))
theorem TabAt.cell {w : World} {T : Nat} {va vb cv : Value} (h : TabAt w T va vb cv) : w.cell? ⟨T, 0, none⟩ = some va ∧ w.cell? ⟨T, 1, none⟩ = some vb ∧ w.cell? ⟨T, 2, none⟩ = some cv := by
  unfold TabAt at h
  refine ⟨?_, ?_, ?_⟩ <;> simp [World.cell?, h]

def eqAt (xs ys : List Row) (i j : Nat) : Bool := decide (xs.getD i [] = ys.getD j [])
/-- What an entry is, of those ahead of it. -/
def leastS (q : Nat → Nat → Bool) (Z : Nat → Nat → Nat) : Nat → Nat → Nat
  | 0, j => j
  | i + 1, 0 => i + 1
  | i + 1, j + 1 => if q i j then Z i j else 1 + min (min (Z i j) (Z i (j + 1))) (Z (i + 1) j)

theorem ret_i64 {a b : Int} (h : a = b) : Ending.returned (.int .i64 a) = .returned (.int .i64 b) := by rw [h]
theorem least_any (T i j n m : Nat) (va vb cv : Value) (xs ys : List Row) (Z : Nat → Nat → Nat) (w : World) (hT : TabAt w T va vb cv) (ha : Sl fields all w va xs) (hb : Sl fields all w vb ys)
    (hM : Tab w cv n m Z) (hi : i ≤ xs.length) (hj : j ≤ ys.length) (hin : i < n) (hjm : j < m) (hm : m ≤ 1000) (hn : n ≤ 1000) (hZ : ∀ r c, r < n → c < m → Z r c ≤ 2000) :
    Calls Try.prog 43 #[.pointer (some ⟨T, 0, none⟩), .int .i64 (i : Int), .int .i64 (j : Int)] w fun e w' => e = .returned (.int .i64 (leastS (eqAt xs ys) Z i j : Int)) ∧ ∃ k, w' = w.drewN k := by
  obtain ⟨ca, cb, cc⟩ := hT.cell
  cases i with
  | zero =>
    clear ca cb cc hT ha hb hM hZ
    go_enter Try.func43, Try.ntmps43
    go_wp2
    go_ret
    exact ⟨rfl, 0, rfl⟩
  | succ i =>
    cases j with
    | zero =>
      clear ca cb cc hT ha hb hM hZ
      have h1 : ((((i + 1 : Nat) : Int)) == 0) = false := by rw [beq_eq_false_iff_ne]; omega
      go_enter Try.func43, Try.ntmps43
      go_wp2
      go_ret
      exact ⟨rfl, 0, rfl⟩
    | succ j =>
      obtain ⟨a1, cap1, rfl, hl1, hc1⟩ := rowAt ha
      obtain ⟨a2, cap2, rfl, hl2, hc2⟩ := rowAt hb
      obtain ⟨a3, cap3, rfl, hl3, hcap3, hc3⟩ := hM
      obtain ⟨b1, off1, r1, rfl, c1, s1⟩ := hc1 i (by omega)
      obtain ⟨b2, off2, r2, rfl, c2, s2⟩ := hc2 j (by omega)
      obtain ⟨b3, off3, g3, gc3, rfl, c3, s3⟩ := hc3 i (by omega)
      obtain ⟨b4, off4, g4, gc4, h4, c4, s4⟩ := hc3 (i + 1) (by omega)
      simp only [Option.some.injEq, Addr.mk.injEq, and_true] at h4
      obtain ⟨rfl, rfl⟩ := h4
      have H := Lib.hid (fun n => same_any r1 r2 _ _ (w.drewN n) (s1.drewN (by decide) n) (s2.drewN (by decide) n))
      have e1 := s3 j (by omega)
      have e2 := s3 (j + 1) (by omega)
      have e3 := s4 j (by omega)
      have z1 := hZ i j (by omega) (by omega)
      have z2 := hZ i (j + 1) (by omega) (by omega)
      have z3 := hZ (i + 1) j (by omega) (by omega)
      have HE : Hid (eqAt xs ys i j = decide (xs[i] = ys[j])) := Lib.hid (by simp [eqAt, List.getD, show i < xs.length by omega, show j < ys.length by omega])
      clear hT ha hb hc1 hc2 hc3 s1 s2 s3 s4 hZ
      have k1 : (i : Int) < (xs.length : Int) := by omega
      have k2 : (j : Int) < (ys.length : Int) := by omega
      have k3 : (i : Int) < (n : Int) := by omega
      have k4 : (j : Int) < (m : Int) := by omega
      have k5 : (i : Int) + 1 < (n : Int) := by omega
      have k6 : (j : Int) + 1 < (m : Int) := by omega
      by_cases hq : xs[i] = ys[j]
      · have HQ := Lib.hid (decide_eq_true hq)
        clear hq
        go_enter Try.func43, Try.ntmps43
        go_wp2
        go_quiet ((go_at_call 39; first | exact Calls.quiet_of (H.out _) | exact quiet_add (H.out _)))
        rw [HQ.out]
        go_wp2
        go_ret
        exact ⟨ret_i64 (by rw [leastS, HE.out, HQ.out]; simp), _, rfl⟩
      · have HQ := Lib.hid (decide_eq_false hq)
        clear hq
        go_enter Try.func43, Try.ntmps43
        go_wp2
        go_quiet ((go_at_call 39; first | exact Calls.quiet_of (H.out _) | exact quiet_add (H.out _)))
        rw [HQ.out]
        go_wp2
        go_quiet (fail)
        go_wp2
        all_goals
          go_ret
          refine ⟨ret_i64 ?_, _, rfl⟩
          rw [leastS, HE.out, HQ.out]
          simp only [Bool.false_eq_true, if_false]
          generalize Z i j = p1 at *
          generalize Z i (j + 1) = p2 at *
          generalize Z (i + 1) j = p3 at *
          clear e1 e2 e3 H HE HQ
          first | omega | (split at * <;> omega) | (split <;> omega)
end Dif
end Go.Proofs.Ytahdeifoakjccaa
