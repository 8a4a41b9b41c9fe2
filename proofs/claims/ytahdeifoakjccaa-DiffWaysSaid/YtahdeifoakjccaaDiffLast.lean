/-
  The walk over (*table).last. No condition but that the table's entries are no more than 2000.
-/
import Derived.Test.YtahdeifoakjccaaDiffLeast
namespace Go.Proofs.Ytahdeifoakjccaa
open Go.RowKit
namespace Dif
open Rdl

/-- The last step of the way that counts. -/
def lastS (q : Nat → Nat → Bool) (Z : Nat → Nat → Nat) : Nat → Nat → Nat
  | 0, _ => 4
  | i + 1, 0 => if Z i 0 + 1 = Z (i + 1) 0 then 3 else 4
  | i + 1, j + 1 => if q i j = true ∧ Z i j = Z (i + 1) (j + 1) then 1 else if Z i j + 1 = Z (i + 1) (j + 1) then 2 else if Z i (j + 1) + 1 = Z (i + 1) (j + 1) then 3 else 4

set_option maxHeartbeats 2000000 in
theorem last_any (T i j n m : Nat) (va vb cv : Value) (xs ys : List Row) (Z : Nat → Nat → Nat) (w : World) (hT : TabAt w T va vb cv) (ha : Sl fields all w va xs) (hb : Sl fields all w vb ys)
    (hM : Tab w cv n m Z) (hi : i ≤ xs.length) (hj : j ≤ ys.length) (hin : i < n) (hjm : j < m) (hm : m ≤ 1000) (hn : n ≤ 1000) (hZ : ∀ r c, r < n → c < m → Z r c ≤ 2000) :
    Calls Try.prog 44 #[.pointer (some ⟨T, 0, none⟩), .int .i64 (i : Int), .int .i64 (j : Int)] w fun e w' => e = .returned (.int .i64 (lastS (eqAt xs ys) Z i j : Int)) ∧ ∃ k, w' = w.drewN k := by
  obtain ⟨ca, cb, cc⟩ := hT.cell
  obtain ⟨a1, cap1, rfl, hl1, hc1⟩ := rowAt ha
  obtain ⟨a2, cap2, rfl, hl2, hc2⟩ := rowAt hb
  obtain ⟨a3, cap3, rfl, hl3, hcap3, hc3⟩ := hM
  have k7 : (i : Int) < (n : Int) := by omega
  have k8 : (j : Int) < (m : Int) := by omega
  cases i with
  | zero =>
    obtain ⟨b4, off4, g4, gc4, rfl, c4, s4⟩ := hc3 0 (by omega)
    have e4 := s4 j (by omega)
    have z4 := hZ 0 j (by omega) (by omega)
    generalize Z 0 j = h at *
    simp only [Nat.add_zero] at c4
    clear ca cb hT ha hb hc3 hc1 hc2 s4 hZ
    go_enter Try.func44, Try.ntmps44
    go_wp2
    go_quiet (fail)
    go_wp2
    go_ret
    exact ⟨rfl, _, rfl⟩
  | succ i =>
    obtain ⟨b3, off3, g3, gc3, rfl, c3, s3⟩ := hc3 i (by omega)
    obtain ⟨b4, off4, g4, gc4, h4, c4, s4⟩ := hc3 (i + 1) (by omega)
    simp only [Option.some.injEq, Addr.mk.injEq, and_true] at h4
    obtain ⟨rfl, rfl⟩ := h4
    have k3 : (i : Int) < (n : Int) := by omega
    have k5 : (i : Int) + 1 < (n : Int) := by omega
    have g1 : decide ((0 : Int) < (i : Int) + 1) = true := by simp
    cases j with
    | zero =>
      have e4 := s4 0 (by omega)
      have e3 := s3 0 (by omega)
      have z4 := hZ (i + 1) 0 (by omega) (by omega)
      have z3 := hZ i 0 (by omega) (by omega)
      have HL : Hid (lastS (eqAt xs ys) Z (i + 1) 0 = if Z i 0 + 1 = Z (i + 1) 0 then 3 else 4) := Lib.hid rfl
      generalize Z (i + 1) 0 = h at *
      generalize Z i 0 = u at *
      clear ca cb hT ha hb hc3 hc1 hc2 s4 s3 hZ
      by_cases hu : u + 1 = h
      · have HR := Lib.hid (HL.out.trans (if_pos hu))
        subst hu
        go_enter Try.func44, Try.ntmps44
        go_wp2
        go_quiet (fail)
        go_wp2
        go_ret
        exact ⟨ret_i64 (by rw [HR.out]; rfl), _, rfl⟩
      · have HR := Lib.hid (HL.out.trans (if_neg hu))
        have hu2 : ((u : Int) == (h : Int) - 1) = false := by rw [beq_eq_false_iff_ne]; omega
        clear hu
        go_enter Try.func44, Try.ntmps44
        go_wp2
        go_quiet (fail)
        go_wp2
        go_ret
        exact ⟨ret_i64 (by rw [HR.out]; rfl), _, rfl⟩
    | succ j =>
      obtain ⟨b1, off1, r1, rfl, c1, s1⟩ := hc1 i (by omega)
      obtain ⟨b2, off2, r2, rfl, c2, s2⟩ := hc2 j (by omega)
      have H0 := fun n => same_any r1 r2 _ _ (w.drewN n) (s1.drewN (by decide) n) (s2.drewN (by decide) n)
      have k1 : (i : Int) < (xs.length : Int) := by omega
      have k2 : (j : Int) < (ys.length : Int) := by omega
      have k4 : (j : Int) < (m : Int) := by omega
      have k6 : (j : Int) + 1 < (m : Int) := by omega
      have g2 : decide ((0 : Int) < (j : Int) + 1) = true := by simp
      have e1 := s3 j (by omega)
      have e2 := s3 (j + 1) (by omega)
      have e4 := s4 (j + 1) (by omega)
      have z1 := hZ i j (by omega) (by omega)
      have z2 := hZ i (j + 1) (by omega) (by omega)
      have z4 := hZ (i + 1) (j + 1) (by omega) (by omega)
      have HE : Hid (eqAt xs ys i j = decide (xs[i] = ys[j])) := Lib.hid (by simp [eqAt, List.getD, show i < xs.length by omega, show j < ys.length by omega])
      have HL : Hid (lastS (eqAt xs ys) Z (i + 1) (j + 1) = if eqAt xs ys i j = true ∧ Z i j = Z (i + 1) (j + 1) then 1 else if Z i j + 1 = Z (i + 1) (j + 1) then 2 else if Z i (j + 1) + 1 = Z (i + 1) (j + 1) then 3 else 4) := Lib.hid rfl
      generalize Z (i + 1) (j + 1) = h at *
      generalize Z i (j + 1) = u at *
      generalize Z i j = p at *
      clear hT ha hb hc1 hc2 hc3 s1 s2 s3 s4 hZ
      by_cases hq : xs[i] = ys[j] ∧ p = h
      · obtain ⟨hq, rfl⟩ := hq
        have HR := Lib.hid (HL.out.trans (if_pos ⟨by rw [HE.out]; exact decide_eq_true hq, rfl⟩))
        rw [decide_eq_true hq] at H0
        have H := Lib.hid H0
        clear hq H0
        go_enter Try.func44, Try.ntmps44
        go_wp2
        go_quiet ((go_at_call 39; first | exact Calls.quiet_of (H.out _) | exact quiet_add (H.out _)))
        go_wp2
        go_ret
        exact ⟨ret_i64 (by rw [HR.out]; rfl), _, rfl⟩
      · have hnq : ¬ (eqAt xs ys i j = true ∧ p = h) := fun hh => hq ⟨by have h1 := hh.1; rw [HE.out] at h1; exact of_decide_eq_true h1, hh.2⟩
        have HL := Lib.hid (HL.out.trans (if_neg hnq))
        have hf : Hid (xs[i] = ys[j] → ((p : Int) == (h : Int)) = false) := Lib.hid (fun hx => by rw [beq_eq_false_iff_ne]; intro he; exact hq ⟨hx, by omega⟩)
        clear hnq hq
        by_cases h2 : p + 1 = h
        · have HR := Lib.hid (HL.out.trans (if_pos h2))
          subst h2
          by_cases hx : xs[i] = ys[j]
          · rw [decide_eq_true hx] at H0
            have H := Lib.hid H0
            have hf := hf.out hx
            clear hx H0
            go_enter Try.func44, Try.ntmps44
            go_wp2
            go_quiet ((go_at_call 39; first | exact Calls.quiet_of (H.out _) | exact quiet_add (H.out _)))
            go_wp2
            go_ret
            exact ⟨ret_i64 (by rw [HR.out]; rfl), _, rfl⟩
          · rw [decide_eq_false hx] at H0
            have H := Lib.hid H0
            clear hx H0 hf
            go_enter Try.func44, Try.ntmps44
            go_wp2
            go_quiet ((go_at_call 39; first | exact Calls.quiet_of (H.out _) | exact quiet_add (H.out _)))
            go_wp2
            go_ret
            exact ⟨ret_i64 (by rw [HR.out]; rfl), _, rfl⟩
        · have HL := Lib.hid (HL.out.trans (if_neg h2))
          have h2 : ((p : Int) == (h : Int) - 1) = false := by rw [beq_eq_false_iff_ne]; omega
          by_cases h3 : u + 1 = h
          · have HR := Lib.hid (HL.out.trans (if_pos h3))
            subst h3
            by_cases hx : xs[i] = ys[j]
            · rw [decide_eq_true hx] at H0
              have H := Lib.hid H0
              have hf := hf.out hx
              clear hx H0
              go_enter Try.func44, Try.ntmps44
              go_wp2
              go_quiet ((go_at_call 39; first | exact Calls.quiet_of (H.out _) | exact quiet_add (H.out _)))
              go_wp2
              go_ret
              exact ⟨ret_i64 (by rw [HR.out]; rfl), _, rfl⟩
            · rw [decide_eq_false hx] at H0
              have H := Lib.hid H0
              clear hx H0 hf
              go_enter Try.func44, Try.ntmps44
              go_wp2
              go_quiet ((go_at_call 39; first | exact Calls.quiet_of (H.out _) | exact quiet_add (H.out _)))
              go_wp2
              go_ret
              exact ⟨ret_i64 (by rw [HR.out]; rfl), _, rfl⟩
          · have HR := Lib.hid (HL.out.trans (if_neg h3))
            have h3 : ((u : Int) == (h : Int) - 1) = false := by rw [beq_eq_false_iff_ne]; omega
            by_cases hx : xs[i] = ys[j]
            · rw [decide_eq_true hx] at H0
              have H := Lib.hid H0
              have hf := hf.out hx
              clear hx H0
              go_enter Try.func44, Try.ntmps44
              go_wp2
              go_quiet ((go_at_call 39; first | exact Calls.quiet_of (H.out _) | exact quiet_add (H.out _)))
              go_wp2
              go_ret
              exact ⟨ret_i64 (by rw [HR.out]; rfl), _, rfl⟩
            · rw [decide_eq_false hx] at H0
              have H := Lib.hid H0
              clear hx H0 hf
              go_enter Try.func44, Try.ntmps44
              go_wp2
              go_quiet ((go_at_call 39; first | exact Calls.quiet_of (H.out _) | exact quiet_add (H.out _)))
              go_wp2
              go_ret
              exact ⟨ret_i64 (by rw [HR.out]; rfl), _, rfl⟩
end Dif
end Go.Proofs.Ytahdeifoakjccaa
