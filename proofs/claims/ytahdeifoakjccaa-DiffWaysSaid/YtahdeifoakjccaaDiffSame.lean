/-
  The walks over slices.EqualFunc at rows, diff.Same, the reference's Same, and what is too much to look at. No condition.
-/
import Derived.Test.YtahdeifoakjccaaDiffEq
namespace Go.Proofs.Ytahdeifoakjccaa
open Go.RowKit
namespace Dif
open Rdl

abbrev Row := List (ByteArray × ByteArray)

/-- What a row of rows gives. -/
theorem rowAt {ok : Nat → Prop} {w : World} {v : Value} {xs : List Row} (h : Sl fields ok w v xs) :
    ∃ a cap, v = .slice a xs.length cap ∧ xs.length ≤ 9223372036854775807 ∧ ∀ i (h : i < xs.length), ∃ b off r, a = some ⟨b, off, none⟩ ∧ w.cell? ⟨b, off + i, none⟩ = some r ∧ Sl field ok w r xs[i] := by
  obtain ⟨a, cap, hv, h1, h2, hc⟩ := h
  refine ⟨a, cap, hv, by unfold maxLen at h2; omega, fun i hi => ?_⟩
  obtain ⟨b, off, cs, ha, _, ⟨r, hcs, hr⟩, hcell⟩ := hc i hi
  subst hcs
  have e0 := hcell 0 (by decide)
  refine ⟨b, off, r, ha, ?_, hr⟩
  simpa [fields, sl] using e0

theorem equalFunc_any (va vb : Value) (xs ys : List Row) (w : World) (ha : Sl fields all w va xs) (hb : Sl fields all w vb ys) :
    Calls Try.prog 38 #[va, vb, .func (.func 39) #[] #[]] w fun e w' => e = .returned (.bool (decide (xs = ys))) ∧ ∃ n, w' = w.drewN n := by
  obtain ⟨a, cap, rfl, hla, hca⟩ := rowAt ha
  obtain ⟨b, cap2, rfl, hlb, hcb⟩ := rowAt hb
  have HA := Lib.hid hca
  have HB := Lib.hid hcb
  clear hca hcb ha hb
  by_cases hl : xs.length = ys.length
  · have hl1 : ((xs.length : Int) != (ys.length : Int)) = false := by rw [bne_eq_false_iff_eq]; omega
    have hle : xs.length ≤ ys.length := by omega
    have HL := Lib.hid hl
    clear hl
    go_enter Try.func38, Try.ntmps38
    go_wp2
    go_loopw [17] (fun i wr => ∃ (k n : Nat), wr = w.drewN n ∧ k ≤ xs.length ∧ i = .int .i64 k ∧ Hid (xs.take k = ys.take k)) (fun i _ => xs.length - (intOf i).toNat)
    case atStart => exact ⟨0, 0, rfl, by omega, rfl, Lib.hid rfl⟩
    case round =>
      obtain ⟨k, n, rfl, hk, rfl, hT⟩ := hrel
      by_cases hlt : k < xs.length
      · obtain ⟨b1, off1, r1, rfl, c1, s1⟩ := HA.out k hlt
        obtain ⟨b2, off2, r2, rfl, d1, s2⟩ := HB.out k (by omega)
        have H := Lib.hid (same_any r1 r2 _ _ (w.drewN n) (s1.drewN (by decide) n) (s2.drewN (by decide) n))
        clear s1 s2
        by_cases heq : xs[k] = ys[k]
        · have HE := Lib.hid (decide_eq_true heq)
          have HS := Lib.hid (take_step k hlt (by omega) heq hT.out)
          clear heq
          go_wp2_with (go_at_call 39; refine H.out.mono ?_; rintro e w' ⟨rfl, n2, rfl⟩; rw [HE.out])
          go_roundw
          case rel => exact ⟨k + 1, n + n2, by first | rfl | rw [World.drewN_drewN], by omega, by go_num, HS⟩
          case measure => simp [intOf]; omega
        · have HE := Lib.hid (decide_eq_false heq)
          have HN := Lib.hid (ne_at k hlt (by omega) heq)
          clear heq
          go_wp2_with (go_at_call 39; refine H.out.mono ?_; rintro e w' ⟨rfl, n2, rfl⟩; rw [HE.out])
          go_ret
          exact ⟨ret_bool (by rw [decide_eq_false HN.out]), n + n2, by first | rfl | rw [World.drewN_drewN]⟩
      · obtain rfl : k = xs.length := by omega
        go_wp2
        go_ret
        exact ⟨ret_bool (by rw [decide_eq_true (take_full HL.out hT.out)]), n, rfl⟩
  · have hl1 : ((xs.length : Int) != (ys.length : Int)) = true := by rw [bne_iff_ne]; omega
    have hne : xs ≠ ys := fun h => hl (by rw [h])
    have HN := Lib.hid hne
    clear hl hne
    go_enter Try.func38, Try.ntmps38
    go_wp2
    go_ret
    exact ⟨ret_bool (by rw [decide_eq_false HN.out]), 0, rfl⟩

theorem Same_any (va vb : Value) (xs ys : List Row) (w : World) (ha : Sl fields all w va xs) (hb : Sl fields all w vb ys) :
    Calls Try.prog 25 #[va, vb] w fun e w' => e = .returned (.bool (decide (xs = ys))) ∧ ∃ n, w' = w.drewN n := by
  have H := Lib.hid (equalFunc_any va vb xs ys w ha hb)
  clear ha hb
  go_enter Try.func25, Try.ntmps25
  go_wp2_with fail
  refine H.out.mono ?_
  rintro e w' ⟨rfl, n, rfl⟩
  go_wp2
  go_ret
  exact ⟨rfl, n, rfl⟩

theorem quiet_add {P : Program} {f : FuncId} {args : Array Value} {w : World} {a n : Nat} {v : Value}
    (h : Calls P f args (w.drewN (a + n)) fun e w' => e = .returned v ∧ ∃ m, w' = (w.drewN (a + n)).drewN m) :
    Calls P f args (w.drewN (a + n)) fun e w'' => e = .returned v ∧ ∃ m, w'' = w.drewN (a + m) :=
  h.mono fun _ _ ⟨he, m, hm⟩ => ⟨he, n + m, by rw [hm, World.drewN_drewN, Nat.add_assoc]⟩

theorem refSame_any (va vb : Value) (xs ys : List Row) (w : World) (ha : Sl fields all w va xs) (hb : Sl fields all w vb ys) :
    Calls Try.prog 26 #[va, vb] w fun e w' => e = .returned (.bool (decide (xs = ys))) ∧ ∃ n, w' = w.drewN n := by
  obtain ⟨a, cap, rfl, hla, hca⟩ := rowAt ha
  obtain ⟨b, cap2, rfl, hlb, hcb⟩ := rowAt hb
  have HA := Lib.hid hca
  have HB := Lib.hid hcb
  clear hca hcb ha hb
  by_cases hl : xs.length = ys.length
  · have hl1 : ((xs.length : Int) != (ys.length : Int)) = false := by rw [bne_eq_false_iff_eq]; omega
    have hle : xs.length ≤ ys.length := by omega
    have HL := Lib.hid hl
    clear hl
    go_enter Try.func26, Try.ntmps26
    go_wp2
    go_loopw [5] (fun i wr => ∃ (k n : Nat), wr = w.drewN n ∧ k ≤ xs.length ∧ i = .int .i64 k ∧ Hid (xs.take k = ys.take k)) (fun i _ => xs.length - (intOf i).toNat)
    case atStart => exact ⟨0, 0, rfl, by omega, rfl, Lib.hid rfl⟩
    case round =>
      obtain ⟨k, n, rfl, hk, rfl, hT⟩ := hrel
      by_cases hlt : k < xs.length
      · obtain ⟨b1, off1, r1, rfl, c1, s1⟩ := HA.out k hlt
        obtain ⟨b2, off2, r2, rfl, d1, s2⟩ := HB.out k (by omega)
        have H := Lib.hid (fun n => row_any r1 r2 _ _ (w.drewN n) (s1.drewN (by decide) n) (s2.drewN (by decide) n))
        clear s1 s2
        have hi1 : (k : Int) < (xs.length : Int) := by omega
        have hi2 : (k : Int) < (ys.length : Int) := by omega
        by_cases heq : xs[k] = ys[k]
        · have HE := Lib.hid (decide_eq_true heq)
          have HS := Lib.hid (take_step k hlt (by omega) heq hT.out)
          clear heq
          go_wp2
          go_quiet ((go_at_call 37; first | exact Calls.quiet_of (H.out _) | exact quiet_add (H.out _)))
          rw [HE.out]
          go_wp2
          go_roundw
          case rel => exact ⟨k + 1, n + nq, by first | rfl | rw [World.drewN_drewN], by omega, by go_num, HS⟩
          case measure => simp [intOf]; omega
        · have HE := Lib.hid (decide_eq_false heq)
          have HN := Lib.hid (ne_at k hlt (by omega) heq)
          clear heq
          go_wp2
          go_quiet ((go_at_call 37; first | exact Calls.quiet_of (H.out _) | exact quiet_add (H.out _)))
          rw [HE.out]
          go_wp2
          go_ret
          exact ⟨ret_bool (by rw [decide_eq_false HN.out]), n + nq, by first | rfl | rw [World.drewN_drewN]⟩
      · obtain rfl : k = xs.length := by omega
        go_wp2
        go_ret
        exact ⟨ret_bool (by rw [decide_eq_true (take_full HL.out hT.out)]), n, rfl⟩
  · have hl1 : ((xs.length : Int) != (ys.length : Int)) = true := by rw [bne_iff_ne]; omega
    have hne : xs ≠ ys := fun h => hl (by rw [h])
    have HN := Lib.hid hne
    clear hl hne
    go_enter Try.func26, Try.ntmps26
    go_wp2
    go_ret
    exact ⟨ret_bool (by rw [decide_eq_false HN.out]), 0, rfl⟩
end Dif
end Go.Proofs.Ytahdeifoakjccaa
