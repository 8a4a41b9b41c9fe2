/-
  The opening of rows, and the walks over the law's own example. No condition.
-/
import Derived.Test.YtahdeifoakjccaaDiffWay
import Derived.Test.YtahdeifoakjccaaDiffMuch
namespace Go.Proofs.Ytahdeifoakjccaa
open Go.RowKit
namespace Dif
open Rdl

theorem opens_field : Opens Try.prog 74 field :=
  opens_two Try.underlying74 (by kernel_rfl) rfl rfl (opens_str Try.underlying9 (by kernel_rfl)) (opens_str Try.underlying9 (by kernel_rfl))
theorem opens_fields : Opens Try.prog 57 fields := opens_sl (by decide) Try.underlying57 (by kernel_rfl) opens_field
theorem opens_rows : Opens Try.prog 36 rows := opens_sl (by decide) Try.underlying36 (by kernel_rfl) opens_fields
theorem open_rows {H : Type} {enc : TypeId × Value → H} {W : World} {base : Nat} {v : Value} {d : DataW H} {p : List MemPlace} (hv : Value.okWide Try.prog W .any base 36 v)
    (h : DataW.Trod enc Try.prog W 0 (fun _ => true) true 36 v d p) : ∃ xs : List Row, Sl fields all W v xs := by
  obtain ⟨a0, len, cap, rfl⟩ := Go.WideShapes.okWide_slice Try.underlying36 hv
  obtain ⟨fuel, hf⟩ := h
  obtain ⟨xs, v, hc, hs⟩ := opens_rows.2 enc W _ _ _ _ _ _ hf
  simp only [Value.cells, List.cons.injEq, and_true] at hc
  subst hc
  exact ⟨xs, hs⟩

/-- A new array of one-cell elements. -/
theorem sl_new {α : Type} {R : Rd α} {w : World} {t : TypeId} (vs : Array Value) (xs : List α) (hn : R.n = 1) (hl : vs.size = xs.length) (hm : xs.length ≤ maxLen)
    (h : ∀ i (h : i < xs.length), ∃ u, vs[i]? = some u ∧ R.rd all (w.alloc (.cells vs t)) [u] xs[i]) : Sl R all (w.alloc (.cells vs t)) (.slice (some ⟨w.heap.size, 0, none⟩) xs.length xs.length) xs := by
  refine ⟨_, xs.length, rfl, Nat.le_refl _, hm, fun i hi => ?_⟩
  obtain ⟨u, hu, hr⟩ := h i hi
  refine ⟨w.heap.size, 0, [u], rfl, trivial, hr, fun j hj => ?_⟩
  have hj0 : j = 0 := by omega
  subst hj0
  rw [World.cell?_alloc_at _ _ _ _ rfl]
  simp [hn, hu]
theorem one_any (s : ByteArray) (hs : s.size ≤ maxLen) (w : World) :
    Calls Try.prog 32 #[.string s] w fun e w' => ∃ b, e = .returned (.slice (some ⟨b, 0, none⟩) 1 1) ∧ Sl field all w' (.slice (some ⟨b, 0, none⟩) 1 1) [(⟨#[65]⟩, s)] ∧ Below w.heap.size w w' := by
  go_enter Try.func32, Try.ntmps32
  go_wp2
  go_ret
  refine ⟨_, rfl, ⟨_, 1, rfl, Nat.le_refl _, by unfold maxLen; omega, fun i hi => ?_⟩, (Below.refl _ _).alloc (Nat.le_refl _) _⟩
  obtain rfl : i = 0 := by simpa using hi
  refine ⟨_, 0, [.string ⟨#[65]⟩, .string s], rfl, trivial, ⟨[.string ⟨#[65]⟩], [.string s], rfl, ⟨rfl, by show 1 ≤ maxLen; decide⟩, ⟨rfl, hs⟩⟩, fun j hj => ?_⟩
  rw [World.cell?_alloc_at _ _ _ _ rfl]
  match j, hj with
  | 0, _ => rfl
  | 1, _ => rfl
def by1 (c : UInt8) : ByteArray := ⟨#[c]⟩
def rowOf (c : UInt8) : Row := [(⟨#[65]⟩, ⟨#[c]⟩)]
abbrev aliveA : List Row := [rowOf 97, rowOf 98, rowOf 99]
abbrev aliveB : List Row := [rowOf 97, rowOf 120, rowOf 99, rowOf 100]
theorem alive_cst : cst (eqAt aliveA aliveB) aliveA.length aliveB.length = 2 := by decide +kernel
theorem alive_way : ((wayU (eqAt aliveA aliveB) (cst (eqAt aliveA aliveB)) (aliveA.length + aliveB.length) aliveA.length aliveB.length).map Int.ofNat).reverse = [1, 2, 1, 4] := by decide +kernel
theorem alive_any (w : World) : Calls Try.prog 18 #[] w fun e w' => e = .returned (.bool true) ∧ Below w.heap.size w w' := by
  have H := Lib.hid (fun (c : UInt8) (w : World) => one_any ⟨#[c]⟩ (by show 1 ≤ maxLen; decide) w)
  go_enter Try.func18, Try.ntmps18
  go_wp2_with fail
  refine (H.out _ _).mono ?_
  rintro e w1 ⟨b1, rfl, s1, hb1⟩
  go_wp2_with fail
  refine (H.out _ _).mono ?_
  rintro e w2 ⟨b2, rfl, s2, hb2⟩
  go_wp2_with fail
  refine (H.out _ _).mono ?_
  rintro e w3 ⟨b3, rfl, s3, hb3⟩
  have hA := sl_new (R := fields) (w := w3) (t := 57) #[.slice (some ⟨b1, 0, none⟩) 1 1, .slice (some ⟨b2, 0, none⟩) 1 1, .slice (some ⟨b3, 0, none⟩) 1 1] aliveA rfl rfl (by decide) (fun i hi => by
    have hal : Below w3.heap.size w3 (w3.alloc (.cells #[.slice (some ⟨b1, 0, none⟩) 1 1, .slice (some ⟨b2, 0, none⟩) 1 1, .slice (some ⟨b3, 0, none⟩) 1 1] 57)) := (Below.refl _ _).alloc (Nat.le_refl _) _
    match i, hi with
    | 0, _ => exact ⟨_, rfl, _, rfl, ((s1.below (by decide) hb2).below (by decide) hb3).below (by decide) hal⟩
    | 1, _ => exact ⟨_, rfl, _, rfl, (s2.below (by decide) hb3).below (by decide) hal⟩
    | 2, _ => exact ⟨_, rfl, _, rfl, s3.below (by decide) hal⟩)
  have hbA := ((hb1.trans (hb2.mono hb1.size)).trans (hb3.mono (Nat.le_trans hb1.size hb2.size))).alloc (Nat.le_trans hb1.size (Nat.le_trans hb2.size hb3.size)) (.cells #[.slice (some ⟨b1, 0, none⟩) 1 1, .slice (some ⟨b2, 0, none⟩) 1 1, .slice (some ⟨b3, 0, none⟩) 1 1] 57)
  clear s1 s2 s3 hb1 hb2 hb3
  have KA := Lib.hid hA
  clear hA
  go_wp2_with fail
  refine (H.out _ _).mono ?_
  rintro e w4 ⟨b4, rfl, s4, hb4⟩
  go_wp2_with fail
  refine (H.out _ _).mono ?_
  rintro e w5 ⟨b5, rfl, s5, hb5⟩
  go_wp2_with fail
  refine (H.out _ _).mono ?_
  rintro e w6 ⟨b6, rfl, s6, hb6⟩
  go_wp2_with fail
  refine (H.out _ _).mono ?_
  rintro e w7 ⟨b7, rfl, s7, hb7⟩
  have hB := sl_new (R := fields) (w := w7) (t := 57) #[.slice (some ⟨b4, 0, none⟩) 1 1, .slice (some ⟨b5, 0, none⟩) 1 1, .slice (some ⟨b6, 0, none⟩) 1 1, .slice (some ⟨b7, 0, none⟩) 1 1] aliveB rfl rfl (by decide) (fun i hi => by
    have hal : Below w7.heap.size w7 (w7.alloc (.cells #[.slice (some ⟨b4, 0, none⟩) 1 1, .slice (some ⟨b5, 0, none⟩) 1 1, .slice (some ⟨b6, 0, none⟩) 1 1, .slice (some ⟨b7, 0, none⟩) 1 1] 57)) := (Below.refl _ _).alloc (Nat.le_refl _) _
    match i, hi with
    | 0, _ => exact ⟨_, rfl, _, rfl, (((s4.below (by decide) hb5).below (by decide) hb6).below (by decide) hb7).below (by decide) hal⟩
    | 1, _ => exact ⟨_, rfl, _, rfl, ((s5.below (by decide) hb6).below (by decide) hb7).below (by decide) hal⟩
    | 2, _ => exact ⟨_, rfl, _, rfl, (s6.below (by decide) hb7).below (by decide) hal⟩
    | 3, _ => exact ⟨_, rfl, _, rfl, s7.below (by decide) hal⟩)
  have hb47 := (((hb4.trans (hb5.mono hb4.size)).trans (hb6.mono (Nat.le_trans hb4.size hb5.size))).trans (hb7.mono (Nat.le_trans hb4.size (Nat.le_trans hb5.size hb6.size)))).alloc (Nat.le_trans hb4.size (Nat.le_trans hb5.size (Nat.le_trans hb6.size hb7.size))) (.cells #[.slice (some ⟨b4, 0, none⟩) 1 1, .slice (some ⟨b5, 0, none⟩) 1 1, .slice (some ⟨b6, 0, none⟩) 1 1, .slice (some ⟨b7, 0, none⟩) 1 1] 57)
  have hA := KA.out.below (by decide) hb47
  have hb9 := hbA.trans (hb47.mono hbA.size)
  clear s4 s5 s6 s7 hb4 hb5 hb6 hb7 KA hbA hb47
  have HD := Lib.hid (Distance_any _ _ _ _ _ hA hB (by decide) (by decide))
  rw [alive_cst] at HD
  have HW := Lib.hid (fun w' (hb : Below _ _ w') => Way_any _ _ _ _ w' (hA.below (by decide) hb) (hB.below (by decide) hb) (by decide) (by decide))
  rw [alive_way] at HW
  clear hA hB
  go_wp2_with fail
  generalize w7.alloc (.cells #[.slice (some ⟨b4, 0, none⟩) 1 1, .slice (some ⟨b5, 0, none⟩) 1 1, .slice (some ⟨b6, 0, none⟩) 1 1, .slice (some ⟨b7, 0, none⟩) 1 1] 57) = w9 at *
  refine HD.out.mono ?_
  rintro e w10 ⟨rfl, hb10⟩
  have HW := Lib.hid (HW.out w10 hb10)
  go_wp2_with fail
  refine HW.out.mono ?_
  rintro e w11 ⟨v, rfl, hs, hb11⟩
  obtain ⟨a, cap, rfl, h1, h2, hcc⟩ := id hs
  have hal : Below w11.heap.size w11 (w11.alloc (.cells #[.int .i64 1, .int .i64 2, .int .i64 1, .int .i64 4] 3)) := (Below.refl _ _).alloc (Nat.le_refl _) _
  have hC := sl_new (R := int) (w := w11) (t := 3) #[.int .i64 1, .int .i64 2, .int .i64 1, .int .i64 4] [1, 2, 1, 4] rfl rfl (by decide) (fun i hi => by
    match i, hi with
    | 0, _ => exact ⟨_, rfl, rfl, by simp, by simp⟩
    | 1, _ => exact ⟨_, rfl, rfl, by simp, by simp⟩
    | 2, _ => exact ⟨_, rfl, rfl, by simp, by simp⟩
    | 3, _ => exact ⟨_, rfl, rfl, by simp, by simp⟩)
  have HI := Lib.hid (ints_any _ _ _ _ _ (hs.below (by decide) hal) hC)
  clear hs hcc hC
  go_wp2_with fail
  refine HI.out.mono ?_
  rintro e w12 ⟨rfl, n, rfl⟩
  go_wp2
  go_ret
  exact ⟨rfl, below_drewN (((hb9.trans (hb10.mono hb9.size)).trans (hb11.mono (Nat.le_trans hb9.size hb10.size))).trans (hal.mono (Nat.le_trans hb9.size (Nat.le_trans hb10.size hb11.size)))) n⟩
end Dif
end Go.Proofs.Ytahdeifoakjccaa
