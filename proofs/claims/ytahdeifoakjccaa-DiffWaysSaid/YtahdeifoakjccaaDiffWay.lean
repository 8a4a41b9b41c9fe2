/-
  The walk over (*table).way and Way. At most 900 rows each.
-/
import Derived.Test.YtahdeifoakjccaaDiffTabled
import Derived.Test.YtahdeifoakjccaaDiffLast
import Derived.Test.YtahdeifoakjccaaShelf
import Derived.Deep.Upon
namespace Go.Proofs.Ytahdeifoakjccaa
open Go.RowKit
namespace Dif
open Rdl

/-- The steps of the way that counts, from behind. -/
def wayU (q : Nat → Nat → Bool) (Z : Nat → Nat → Nat) : Nat → Nat → Nat → List Nat
  | 0, _, _ => []
  | f + 1, i, j => if i = 0 ∧ j = 0 then [] else lastS q Z i j :: wayU q Z f (if lastS q Z i j = 4 then i else i - 1) (if lastS q Z i j = 3 then j else j - 1)
theorem wayU_zero (q : Nat → Nat → Bool) (Z : Nat → Nat → Nat) : ∀ f, wayU q Z f 0 0 = []
  | 0 => rfl
  | f + 1 => by rw [wayU]; simp
theorem lastS_range (q : Nat → Nat → Bool) (Z : Nat → Nat → Nat) (hZ : ∀ i, Z (i + 1) 0 = Z i 0 + 1) (i j : Nat) (h : 0 < i ∨ 0 < j) :
    (lastS q Z i j = 4 ∧ 0 < j) ∨ (lastS q Z i j = 3 ∧ 0 < i) ∨ ((lastS q Z i j = 1 ∨ lastS q Z i j = 2) ∧ 0 < i ∧ 0 < j) := by
  cases i with
  | zero =>
    left
    rw [lastS]
    exact ⟨rfl, by omega⟩
  | succ i =>
    cases j with
    | zero =>
      right; left
      rw [lastS, if_pos (hZ i).symm]
      exact ⟨rfl, by omega⟩
    | succ j =>
      rw [lastS]
      split
      · right; right; exact ⟨Or.inl rfl, by omega, by omega⟩
      · split
        · right; right; exact ⟨Or.inr rfl, by omega, by omega⟩
        · split
          · right; left; exact ⟨rfl, by omega⟩
          · left; exact ⟨rfl, by omega⟩
theorem tabAt_below {w w' : World} {T : Nat} {va vb cv : Value} (h : TabAt w T va vb cv) (hb : Below w.heap.size w w') : TabAt w' T va vb cv := by
  have hlt := tab_lt h
  unfold TabAt at *
  rw [hb.block _ hlt]
  exact h
theorem tab_below {w w' : World} {cv : Value} {n m : Nat} {Z : Nat → Nat → Nat} (hm : 0 < m) (h : Tab w cv n m Z) (hb : Below w.heap.size w w') : Tab w' cv n m Z := by
  obtain ⟨a, cap, hv, h1, h2, hc⟩ := h
  refine ⟨a, cap, hv, h1, h2, fun r hr => ?_⟩
  obtain ⟨b, off, g, gc, ha, hcell, hz⟩ := hc r hr
  refine ⟨b, off, g, gc, ha, cell_later hb hcell, fun c hcm => cell_later hb (hz c hcm)⟩

theorem below_setCells {B g : Nat} {w0 : World} (hg : B ≤ g) : ∀ (vs : List Value) (o : Nat) (w : World), Below B w0 w → Below B w0 (w.setCells g o vs)
  | [], _, _, h => h
  | v :: r, o, w, h => by
    rw [World.setCells]
    exact below_setCells hg r (o + 1) _ (h.setCell hg v)
theorem own_cells {w : World} {B g cap : Nat} {xs : List Int} (h : Own int all w B 3 (.slice (some ⟨g, 0, none⟩) xs.length cap) xs) : ∀ j, j < xs.length → w.cell? ⟨g, 0 + j, none⟩ = some (.int .i64 (xs.getD j 0)) := by
  intro j hj
  obtain ⟨css, hl, hr, hown⟩ := h
  obtain ⟨e, hb⟩ := hr j hj
  rw [Nat.zero_add, hown.cellAt j (by show j < xs.length * 1; omega)]
  have := flatten_at (n := 1) css j 0 (Own.lens hl hr) (by omega) (by omega)
  rw [Nat.mul_one, Nat.add_zero] at this
  rw [this, e]
  simp [List.getD, hj]
/-- The slice of the call's own, its numbers the other way round. -/
theorem own_rev {w : World} {B g q cap : Nat} {xs : List Int} (h : Own int all w B 3 (.slice (some ⟨g, 0, none⟩) xs.length cap) xs) :
    Sl int all ((w.drewN q).setCells g 0 ((xs.take xs.length).reverse.map (Value.int .i64))) (.slice (some ⟨g, 0, none⟩) xs.length cap) xs.reverse ∧ Below B w ((w.drewN q).setCells g 0 ((xs.take xs.length).reverse.map (Value.int .i64))) := by
  have hbase := h.base g rfl
  obtain ⟨css, hl, hr, hown⟩ := h
  have hlens := Own.lens hl hr
  have hcell : ∀ j (hj : j < xs.length), w.cell? ⟨g, 0 + j, none⟩ = some (.int .i64 xs[j]) ∧ (-9223372036854775808 ≤ xs[j] ∧ xs[j] ≤ 9223372036854775807) := by
    intro j hj
    have h1 := hr j hj
    obtain ⟨e, hb⟩ := h1
    refine ⟨?_, hb⟩
    rw [Nat.zero_add, hown.cellAt j (by show j < xs.length * 1; omega)]
    have := flatten_at (n := 1) css j 0 hlens (by omega) (by omega)
    rw [Nat.mul_one, Nat.add_zero] at this
    rw [this, e]
    rfl
  rw [List.take_length]
  have hlen2 : (xs.reverse.map (Value.int .i64)).length = xs.length := by simp
  refine ⟨⟨some ⟨g, 0, none⟩, cap, by simp, ?_, ?_, fun i hi => ?_⟩, ?_⟩
  · rcases hown.2 with ⟨h0, _⟩ | ⟨g', cap', cur, h1, _, _, hnc, _⟩
    · cases h0
    · simp only [Value.slice.injEq, Option.some.injEq, Addr.mk.injEq, and_true, true_and] at h1
      obtain ⟨_, rfl⟩ := h1
      simpa using hnc
  · rcases hown.2 with ⟨h0, _⟩ | ⟨g', cap', cur, h1, _, _, _, hcm, _⟩
    · cases h0
    · simp only [Value.slice.injEq, Option.some.injEq, Addr.mk.injEq, and_true, true_and] at h1
      obtain ⟨_, rfl⟩ := h1
      exact hcm
  · have hi' : i < xs.length := by simpa using hi
    refine ⟨g, 0, [.int .i64 xs.reverse[i]], rfl, trivial, ⟨rfl, ?_⟩, fun j hj => ?_⟩
    · rw [List.getElem_reverse]
      exact (hcell _ (by omega)).2
    · have hj0 : j = 0 := by change j < 1 at hj; omega
      subst hj0
      have := World.cell?_setCells_in g (xs.reverse.map (Value.int .i64)) 0 (w.drewN q) (fun j hj => by
        rw [hlen2] at hj
        rw [World.cell?_drewN, (hcell j hj).1]; rfl) i (by simpa using hi')
      show World.cell? _ ⟨g, 0 + (i * 1 + 0), none⟩ = _
      rw [Nat.mul_one, Nat.add_zero, this]
      simp
  · exact below_setCells hbase _ _ _ (below_drewN (Below.refl _ _) q)
set_option maxHeartbeats 1000000 in
theorem way_any (T n m : Nat) (va vb cv : Value) (xs ys : List Row) (Z : Nat → Nat → Nat) (w : World) (hT : TabAt w T va vb cv) (ha : Sl fields all w va xs) (hb : Sl fields all w vb ys)
    (hM : Tab w cv n m Z) (hin : xs.length < n) (hjm : ys.length < m) (hm : m ≤ 1000) (hn : n ≤ 1000) (hZ : ∀ r c, r < n → c < m → Z r c ≤ 2000) (hZ0 : ∀ i, Z (i + 1) 0 = Z i 0 + 1) :
    Calls Try.prog 36 #[.pointer (some ⟨T, 0, none⟩)] w fun e w' => ∃ v, e = .returned v ∧ Sl int all w' v (((wayU (eqAt xs ys) Z (xs.length + ys.length) xs.length ys.length).map Int.ofNat).reverse) ∧ Below w.heap.size w w' := by
  have HL := Lib.hid (fun (w' : World) (hbw : Below w.heap.size w w') (i j : Nat) (hi : i ≤ xs.length) (hj : j ≤ ys.length) => last_any T i j n m va vb cv xs ys Z w' (tabAt_below hT hbw) (ha.below (by decide) hbw) (hb.below (by decide) hbw) (tab_below (by omega) hM hbw) hi hj (by omega) (by omega) hm hn hZ)
  have HR := Lib.hid (lastS_range (eqAt xs ys) Z hZ0)
  obtain ⟨c0, c1, c2⟩ := hT.cell
  obtain ⟨a1, cap1, rfl, hl1, hc1⟩ := rowAt ha
  obtain ⟨a2, cap2, rfl, hl2, hc2⟩ := rowAt hb
  clear hc1 hc2 ha hb hT hM hZ hZ0
  go_enter Try.func36, Try.ntmps36
  go_wp2
  go_quiet (fail)
  go_wp2
  go_loopw [3, 4, 5] (fun v si sj wr => ∃ (i j f : Nat) (out : List Nat), i ≤ xs.length ∧ j ≤ ys.length ∧ i + j ≤ f ∧ si = .int .i64 i ∧ sj = .int .i64 j ∧ Own int all wr w.heap.size 3 v (out.map Int.ofNat) ∧ Below w.heap.size w wr ∧ out.length + (i + j) ≤ 2000 ∧ out ++ wayU (eqAt xs ys) Z f i j = wayU (eqAt xs ys) Z (xs.length + ys.length) xs.length ys.length) (fun _ si sj _ => (intOf si).toNat + (intOf sj).toNat)
  case atStart => exact ⟨xs.length, ys.length, xs.length + ys.length, [], Nat.le_refl _, Nat.le_refl _, Nat.le_refl _, rfl, rfl, Own.nil, below_drewN (Below.refl _ _) _, by simp; omega, rfl⟩
  case round =>
    obtain ⟨i, j, f, out, hi, hj, hf, rfl, rfl, hown, hbr, hlen, hout⟩ := hrel
    by_cases hz : i = 0 ∧ j = 0
    · obtain ⟨rfl, rfl⟩ := hz
      rw [wayU_zero, List.append_nil] at hout
      have hzl : (out.map Int.ofNat).length ≤ 2000 := by simp; omega
      have HOUT := Lib.hid (congrArg (List.map Int.ofNat) hout.symm)
      clear hout hlen
      generalize out.map Int.ofNat = zs at *
      have hown2 := hown
      obtain ⟨css, hl, hr, hrow⟩ := hown2
      rcases hrow.2 with ⟨rfl, h0⟩ | ⟨g, cap, cur, rfl, hbg, hg, hnc, hcm, hcs, htake⟩
      · obtain rfl : zs = [] := by simpa using h0
        have hrv := Lib.hid (Try.slices_Reverse_int_empty none 0 wr)
        clear hrow hr hown
        go_wp2_with fail
        refine hrv.out.mono ?_
        rintro e w1 ⟨rfl, rfl⟩
        go_wp2
        go_ret
        refine ⟨_, rfl, ?_, hbr⟩
        rw [HOUT.out]
        exact Sl.nil
      · have hrv := Lib.hid (Try.slices_Reverse_int_cells g 0 zs.length cap zs wr (Nat.le_refl _) (by omega) (own_cells hown) (fun j _ => by rw [Nat.zero_add]; exact hrow.frozenAt j))
        have hfin := Lib.hid (fun q => own_rev (q := q) hown)
        clear hrow hr hown hg htake hcs
        go_wp2_with fail
        refine hrv.out.mono ?_
        rintro e w1 ⟨rfl, q, rfl⟩
        have h9 := hfin.out q
        go_wp2
        go_ret
        simp only [List.take_length, List.map_reverse] at h9
        refine ⟨_, rfl, ?_, hbr.trans h9.2⟩
        rw [HOUT.out]
        exact h9.1
    · have hc := Lib.hid (HL.out wr hbr i j hi hj)
      have hr := HR.out i j (by omega)
      obtain ⟨f, rfl⟩ : ∃ g, f = g + 1 := ⟨f - 1, by omega⟩
      rw [wayU, if_neg hz] at hout
      generalize lastS (eqAt xs ys) Z i j = s at *
      have HO := Lib.hid hout
      clear hout
      have hw1 : IntKind.i64.wrap ((i : Int) - 1) = (i : Int) - 1 := IntWalk.i64_in _ (by omega)
      have hw2 : IntKind.i64.wrap ((j : Int) - 1) = (j : Int) - 1 := IntWalk.i64_in _ (by omega)
      have hb : -9223372036854775808 ≤ (s : Int) ∧ (s : Int) ≤ 9223372036854775807 := by omega
      have hsp : decide (0 < i) = true ∨ (decide (0 < i) = false ∧ decide (0 < j) = true) := by
        simp; omega
      have hcases : (((s : Int) != 4) = false ∧ ((s : Int) != 3) = true ∧ s = 4 ∧ 0 < j) ∨ (((s : Int) != 4) = true ∧ ((s : Int) != 3) = false ∧ s = 3 ∧ 0 < i) ∨ (((s : Int) != 4) = true ∧ ((s : Int) != 3) = true ∧ (s = 1 ∨ s = 2) ∧ 0 < i ∧ 0 < j) := by
        rcases hr with ⟨rfl, h⟩ | ⟨rfl, h⟩ | ⟨h, h'⟩
        · exact Or.inl ⟨rfl, rfl, rfl, h⟩
        · exact Or.inr (Or.inl ⟨rfl, rfl, rfl, h⟩)
        · refine Or.inr (Or.inr ⟨?_, ?_, h, h'⟩) <;> (rcases h with rfl | rfl <;> rfl)
      have HCS := Lib.hid hcases
      clear hr hcases hz
      rcases hsp with hd | ⟨hd, hd2⟩
      all_goals
        go_wp2_with fail
        refine hc.out.mono ?_
        rintro e w1 ⟨rfl, nd, rfl⟩
        have hown := hown.drewN nd
        have hbr := below_drewN hbr nd
        go_wp2_with (at_builtin; refine wpList_push (P := Try.prog) int _ rfl _ _ 40 rfl w.heap.size 3 (.int .i64 0) 8 Try.underlying40 infoInt rfl (by decide) all _ _ rfl hown _ (s : Int) ⟨rfl, hb⟩ 1 rfl (by simp [Value.oneCell']) (by simp; omega) (by simp [maxLen]; omega) hbr.size ?_)
        intro v' w' hown' hgrow
        have hb2 := hbr.grown hgrow hbr.size (fun b hb => (hown.base b hb))
        rcases HCS.out with ⟨h4, h3, rfl, hp⟩ | ⟨h4, h3, rfl, hp⟩ | ⟨h4, h3, h12, hp, hp'⟩
        · go_wp2
          go_roundw
          case rel =>
            refine ⟨i, j - 1, f, out ++ [4], hi, by omega, by omega, rfl, by congr 1; omega, by simpa using hown', hb2, by simp; omega, ?_⟩
            have h9 := HO.out
            rw [if_pos rfl, if_neg (by decide)] at h9
            rw [List.append_assoc, List.singleton_append]
            exact h9
          case measure => simp [intOf]; omega
        · go_wp2
          go_roundw
          case rel =>
            refine ⟨i - 1, j, f, out ++ [3], by omega, hj, by omega, by congr 1; omega, rfl, by simpa using hown', hb2, by simp; omega, ?_⟩
            have h9 := HO.out
            rw [if_pos rfl, if_neg (by decide)] at h9
            rw [List.append_assoc, List.singleton_append]
            exact h9
          case measure => simp [intOf]; omega
        · go_wp2
          go_roundw
          case rel =>
            refine ⟨i - 1, j - 1, f, out ++ [s], by omega, by omega, by omega, by congr 1; omega, by congr 1; omega, by simpa using hown', hb2, by simp; omega, ?_⟩
            have h9 := HO.out
            rw [if_neg (by omega), if_neg (by omega)] at h9
            rw [List.append_assoc, List.singleton_append]
            exact h9
          case measure => simp [intOf]; omega
theorem cst_zero (q : Nat → Nat → Bool) : ∀ i, cst q i 0 = i
  | 0 => rfl
  | i + 1 => rfl
set_option maxHeartbeats 1000000 in
theorem Way_any (va vb : Value) (xs ys : List Row) (w : World) (ha : Sl fields all w va xs) (hb : Sl fields all w vb ys) (hx : xs.length ≤ 900) (hy : ys.length ≤ 900) :
    Calls Try.prog 23 #[va, vb] w fun e w' => ∃ v, e = .returned v ∧ Sl int all w' v (((wayU (eqAt xs ys) (cst (eqAt xs ys)) (xs.length + ys.length) xs.length ys.length).map Int.ofNat).reverse) ∧ Below w.heap.size w w' := by
  have H := Lib.hid (tabled_any va vb xs ys w ha hb hx hy)
  have HW := Lib.hid (fun w1 T cv (hb1 : Below w.heap.size w w1) (hT : TabAt w1 T va vb cv) (hM : Tab w1 cv (xs.length + 1) (ys.length + 1) (cst (eqAt xs ys))) =>
    way_any T (xs.length + 1) (ys.length + 1) va vb cv xs ys (cst (eqAt xs ys)) w1 hT (ha.below (by decide) hb1) (hb.below (by decide) hb1) hM (by omega) (by omega) (by omega) (by omega)
      (fun r c hr hc => by have := cst_le (eqAt xs ys) r c; omega) (fun i => by rw [cst_zero, cst_zero]))
  clear ha hb
  go_enter Try.func23, Try.ntmps23
  go_wp2_with fail
  refine H.out.mono ?_
  rintro e w1 ⟨T, cv, rfl, hT, hM, hb1⟩
  have HW1 := Lib.hid (HW.out w1 T cv hb1 hT hM)
  clear hT hM
  go_wp2_with fail
  refine HW1.out.mono ?_
  rintro e w2 ⟨v, rfl, hs, hb2⟩
  obtain ⟨a, n, cap, hv⟩ : ∃ a n cap, v = .slice a n cap := by
    obtain ⟨a, cap, h, _⟩ := hs
    exact ⟨a, _, cap, h⟩
  subst hv
  go_wp2
  go_ret
  exact ⟨_, rfl, hs, hb1.trans (hb2.mono hb1.size)⟩
end Dif
end Go.Proofs.Ytahdeifoakjccaa
