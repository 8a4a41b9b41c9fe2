/-
  The walk of the law DiffWays. No condition.
-/
import Derived.Test.YtahdeifoakjccaaDiffRefWay
import Derived.Test.YtahdeifoakjccaaDiffAlive
namespace Go.Proofs.Ytahdeifoakjccaa
open Go.RowKit
namespace Dif
open Rdl

theorem muchAll_len2 {ls : List (List Row)} (h : muchAll ls = false) : ∀ l ∈ ls, l.length ≤ 14 := by
  intro l hl
  have := List.any_eq_false.1 h l hl
  simp [muchL] at this
  omega
theorem DiffWays_walk {va vb : Value} (xs : List Row) {w : World} (ha : Sl fields all w va xs) (ys : List Row) (hb : Sl fields all w vb ys) :
    Calls Try.prog 7 #[va, vb] w fun e w' => e = .returned (.bool true) ∧ Below w.heap.size w w' := by
  have HA := Lib.hid (alive_any w)
  have KA := Lib.hid ha
  have KB := Lib.hid hb
  obtain ⟨a1, cap1, rfl, hl1, -⟩ := rowAt ha
  obtain ⟨a2, cap2, rfl, hl2, -⟩ := rowAt hb
  clear ha hb
  go_enter Try.func7, Try.ntmps7
  go_wp2_with fail
  refine HA.out.mono ?_
  rintro e w1 ⟨rfl, hb1⟩
  have hal : Below w1.heap.size w1 (w1.alloc (.cells #[.slice a1 xs.length cap1, .slice a2 ys.length cap2] 36)) := (Below.refl _ _).alloc (Nat.le_refl _) _
  have hb2 := hb1.trans (hal.mono hb1.size)
  have hM := sl_new (R := rows) (w := w1) (t := 36) #[.slice a1 xs.length cap1, .slice a2 ys.length cap2] [xs, ys] rfl rfl (by show 2 ≤ maxLen; decide) (fun i hi => by
    match i, hi with
    | 0, _ => exact ⟨_, rfl, _, rfl, KA.out.below (by decide) hb2⟩
    | 1, _ => exact ⟨_, rfl, _, rfl, KB.out.below (by decide) hb2⟩)
  have HM := Lib.hid (much_any _ _ _ hM)
  clear hM
  go_wp2_with fail
  refine HM.out.mono ?_
  rintro e w3 ⟨rfl, hb3⟩
  have hb3 := hb2.trans (hb3.mono hb2.size)
  cases hm : muchAll [xs, ys] with
  | true =>
    go_wp2
    go_ret
    exact ⟨rfl, hb3⟩
  | false =>
    have hx := muchAll_len2 hm xs (by simp)
    have hy := muchAll_len2 hm ys (by simp)
    clear hm hb2 hal hb1 HM HA
    have HD := Lib.hid (fun (w' : World) (h : Below w.heap.size w w') => Distance_any _ _ xs ys w' (KA.out.below (by decide) h) (KB.out.below (by decide) h) (by omega) (by omega))
    have HD2 := Lib.hid (fun (w' : World) (h : Below w.heap.size w w') => refDistance_any _ _ xs ys w' (KA.out.below (by decide) h) (KB.out.below (by decide) h) (by omega) (by omega))
    have HS := Lib.hid (fun (w' : World) (h : Below w.heap.size w w') => Same_any _ _ xs ys w' (KA.out.below (by decide) h) (KB.out.below (by decide) h))
    have HS2 := Lib.hid (fun (w' : World) (h : Below w.heap.size w w') => refSame_any _ _ xs ys w' (KA.out.below (by decide) h) (KB.out.below (by decide) h))
    have HW := Lib.hid (fun (w' : World) (h : Below w.heap.size w w') => Way_any _ _ xs ys w' (KA.out.below (by decide) h) (KB.out.below (by decide) h) (by omega) (by omega))
    have HW2 := Lib.hid (fun (w' : World) (h : Below w.heap.size w w') => refWay_any _ _ xs ys w' (KA.out.below (by decide) h) (KB.out.below (by decide) h) (by omega) (by omega))
    generalize ((wayU (eqAt xs ys) (cst (eqAt xs ys)) (xs.length + ys.length) xs.length ys.length).map Int.ofNat).reverse = zs at *
    generalize cst (eqAt xs ys) xs.length ys.length = d at *
    go_wp2_with fail
    refine (HD.out w3 hb3).mono ?_
    rintro e w4 ⟨rfl, hb4⟩
    have hb4 := hb3.trans (hb4.mono hb3.size)
    go_wp2_with fail
    refine (HD2.out w4 hb4).mono ?_
    rintro e w5 ⟨rfl, hb5⟩
    have hb5 := hb4.trans (hb5.mono hb4.size)
    go_wp2_with fail
    refine (HW.out w5 hb5).mono ?_
    rintro e w6 ⟨v1, rfl, hs1, hb6⟩
    have hb6' := hb5.trans (hb6.mono hb5.size)
    obtain ⟨o1, n1, p1, hv1⟩ : ∃ a n c, v1 = Value.slice a n c := by
      obtain ⟨a, c, h, _⟩ := hs1
      exact ⟨a, _, c, h⟩
    subst hv1
    have K1 := Lib.hid hs1
    clear hs1
    go_wp2_with fail
    refine (HW2.out w6 hb6').mono ?_
    rintro e w7 ⟨v2, rfl, hs2, hb7⟩
    have hb7' := hb6'.trans (hb7.mono hb6'.size)
    obtain ⟨o2, n2, p2, hv2⟩ : ∃ a n c, v2 = Value.slice a n c := by
      obtain ⟨a, c, h, _⟩ := hs2
      exact ⟨a, _, c, h⟩
    subst hv2
    have HI := ints_any _ _ _ _ w7 (K1.out.below (by decide) hb7) hs2
    rw [decide_eq_true rfl] at HI
    have HI := Lib.hid HI
    clear hs2
    go_wp2_with fail
    refine HI.out.mono ?_
    rintro e w8 ⟨rfl, n8, rfl⟩
    have hb8 := below_drewN hb7' n8
    go_wp2_with fail
    refine (HS.out _ hb8).mono ?_
    rintro e w9 ⟨rfl, n9, rfl⟩
    go_wp2_with fail
    refine (HS2.out (w7.drewN (n8 + n9)) (below_drewN hb7' _)).mono ?_
    rintro e w10 ⟨rfl, n10, rfl⟩
    go_wp2
    go_ret
    exact ⟨rfl, below_drewN hb7' _⟩
end Dif
end Go.Proofs.Ytahdeifoakjccaa
