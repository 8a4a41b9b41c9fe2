/-
  The walk of the law DiffMeasures. No condition.
-/
import Derived.Test.YtahdeifoakjccaaDiffPlain
import Derived.Test.YtahdeifoakjccaaDiffAlive
namespace Go.Proofs.Ytahdeifoakjccaa
open Go.RowKit
namespace Dif
open Rdl

theorem muchAll_len {ls : List (List Row)} (h : muchAll ls = false) : ∀ l ∈ ls, l.length ≤ 14 := by
  intro l hl
  have := List.any_eq_false.1 h l hl
  simp [muchL] at this
  omega
theorem DiffMeasures_walk {va vb vc : Value} (xs : List Row) {w : World} (ha : Sl fields all w va xs) (ys : List Row) (hb : Sl fields all w vb ys) (zs : List Row) (hc : Sl fields all w vc zs) :
    Calls Try.prog 8 #[va, vb, vc] w fun e w' => e = .returned (.bool true) ∧ Below w.heap.size w w' := by
  have HA := Lib.hid (alive_any w)
  have KA := Lib.hid ha
  have KB := Lib.hid hb
  have KC := Lib.hid hc
  obtain ⟨a1, cap1, rfl, hl1, -⟩ := rowAt ha
  obtain ⟨a2, cap2, rfl, hl2, -⟩ := rowAt hb
  obtain ⟨a3, cap3, rfl, hl3, -⟩ := rowAt hc
  clear ha hb hc
  go_enter Try.func8, Try.ntmps8
  go_wp2_with fail
  refine HA.out.mono ?_
  rintro e w1 ⟨rfl, hb1⟩
  have hal : Below w1.heap.size w1 (w1.alloc (.cells #[.slice a1 xs.length cap1, .slice a2 ys.length cap2, .slice a3 zs.length cap3] 36)) := (Below.refl _ _).alloc (Nat.le_refl _) _
  have hb2 := hb1.trans (hal.mono hb1.size)
  have hM := sl_new (R := rows) (w := w1) (t := 36) #[.slice a1 xs.length cap1, .slice a2 ys.length cap2, .slice a3 zs.length cap3] [xs, ys, zs] rfl rfl (by show 3 ≤ maxLen; decide) (fun i hi => by
    match i, hi with
    | 0, _ => exact ⟨_, rfl, _, rfl, KA.out.below (by decide) hb2⟩
    | 1, _ => exact ⟨_, rfl, _, rfl, KB.out.below (by decide) hb2⟩
    | 2, _ => exact ⟨_, rfl, _, rfl, KC.out.below (by decide) hb2⟩)
  have HM := Lib.hid (much_any _ _ _ hM)
  clear hM
  go_wp2_with fail
  refine HM.out.mono ?_
  rintro e w3 ⟨rfl, hb3⟩
  have hb3 := hb2.trans (hb3.mono hb2.size)
  cases hm : muchAll [xs, ys, zs] with
  | true =>
    go_wp2
    go_ret
    exact ⟨rfl, hb3⟩
  | false =>
    have hx := muchAll_len hm xs (by simp)
    have hy := muchAll_len hm ys (by simp)
    have hz := muchAll_len hm zs (by simp)
    clear hm hb2 hal hb1 HM HA
    have HD := Lib.hid (fun (w' : World) (h : Below w.heap.size w w') => Distance_any _ _ xs ys w' (KA.out.below (by decide) h) (KB.out.below (by decide) h) (by omega) (by omega))
    have HD2 := Lib.hid (fun (w' : World) (h : Below w.heap.size w w') => Distance_any _ _ ys xs w' (KB.out.below (by decide) h) (KA.out.below (by decide) h) (by omega) (by omega))
    have HD3 := Lib.hid (fun (w' : World) (h : Below w.heap.size w w') => Distance_any _ _ xs zs w' (KA.out.below (by decide) h) (KC.out.below (by decide) h) (by omega) (by omega))
    have HD4 := Lib.hid (fun (w' : World) (h : Below w.heap.size w w') => Distance_any _ _ zs ys w' (KC.out.below (by decide) h) (KB.out.below (by decide) h) (by omega) (by omega))
    have HS := Lib.hid (fun (w' : World) (h : Below w.heap.size w w') => Same_any _ _ xs ys w' (KA.out.below (by decide) h) (KB.out.below (by decide) h))
    have HW := Lib.hid (fun (w' : World) (h : Below w.heap.size w w') => Way_any _ _ xs ys w' (KA.out.below (by decide) h) (KB.out.below (by decide) h) (by omega) (by omega))
    have p1 := dist_zero xs ys
    have p2 := dist_symm xs ys
    have p3 := dist_third xs ys zs
    have p4 := dist_max xs ys
    have p5 := dist_min xs ys
    have p6 := wayOf_len xs ys
    have p7 := dist_max xs zs
    have p8 := dist_max zs ys
    change Hid (∀ (w' : World) (h : Below w.heap.size w w'), Calls _ _ _ _ fun e w'' => e = .returned (.int .i64 (dist xs ys : Int)) ∧ _) at HD
    change Hid (∀ (w' : World) (h : Below w.heap.size w w'), Calls _ _ _ _ fun e w'' => e = .returned (.int .i64 (dist ys xs : Int)) ∧ _) at HD2
    change Hid (∀ (w' : World) (h : Below w.heap.size w w'), Calls _ _ _ _ fun e w'' => e = .returned (.int .i64 (dist xs zs : Int)) ∧ _) at HD3
    change Hid (∀ (w' : World) (h : Below w.heap.size w w'), Calls _ _ _ _ fun e w'' => e = .returned (.int .i64 (dist zs ys : Int)) ∧ _) at HD4
    generalize dist xs ys = d at *
    generalize dist ys xs = d2 at *
    generalize dist xs zs = d3 at *
    generalize dist zs ys = d4 at *
    subst p2
    have hd0 : ((d : Int) == 0) = decide (xs = ys) := by
      rw [Bool.eq_iff_iff, beq_iff_eq, decide_eq_true_iff, ← p1]; omega
    have hw : IntKind.i64.wrap ((d3 : Int) + (d4 : Int)) = (d3 : Int) + (d4 : Int) := IntWalk.i64_in _ (by omega)
    have hd1 : decide ((d : Int) ≤ (d3 : Int) + (d4 : Int)) = true := decide_eq_true (by omega)
    go_wp2_with fail
    refine (HD.out w3 hb3).mono ?_
    rintro e w4 ⟨rfl, hb4⟩
    have hb4 := hb3.trans (hb4.mono hb3.size)
    go_wp2_with fail
    refine (HS.out w4 hb4).mono ?_
    rintro e w5 ⟨rfl, n5, rfl⟩
    have hb5 := below_drewN hb4 n5
    go_wp2_with fail
    refine (HD2.out _ hb5).mono ?_
    rintro e w6 ⟨rfl, hb6⟩
    have hb6 := hb5.trans (hb6.mono hb5.size)
    go_wp2_with fail
    refine (HD3.out _ hb6).mono ?_
    rintro e w7 ⟨rfl, hb7⟩
    have hb7 := hb6.trans (hb7.mono hb6.size)
    go_wp2_with fail
    refine (HD4.out _ hb7).mono ?_
    rintro e w8 ⟨rfl, hb8⟩
    have hb8 := hb7.trans (hb8.mono hb7.size)
    go_wp2_with fail
    refine (HW.out _ hb8).mono ?_
    rintro e w9 ⟨v, rfl, hs, hb9⟩
    have hb9 := hb8.trans (hb9.mono hb8.size)
    obtain ⟨a, cap, hv, -⟩ := hs
    change v = .slice a (wayOf xs ys).length cap at hv
    generalize wayOf xs ys = ws at *
    subst hv
    go_wp2
    go_ret
    exact ⟨ret_bool (decide_eq_true (by omega)), hb9⟩
end Dif
end Go.Proofs.Ytahdeifoakjccaa
