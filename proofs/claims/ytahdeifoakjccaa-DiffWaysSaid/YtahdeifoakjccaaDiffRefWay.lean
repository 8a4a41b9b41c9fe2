/-
  The walks over the reference's Distance and Way. At most 900 rows each.
-/
import Derived.Test.YtahdeifoakjccaaDiffCostsW
namespace Go.Proofs.Ytahdeifoakjccaa
open Go.RowKit
namespace Dif
open Rdl

theorem refDistance_any (va vb : Value) (xs ys : List Row) (w : World) (ha : Sl fields all w va xs) (hb : Sl fields all w vb ys) (hx : xs.length ≤ 900) (hy : ys.length ≤ 900) :
    Calls Try.prog 21 #[va, vb] w fun e w' => e = .returned (.int .i64 (cst (eqAt xs ys) xs.length ys.length : Int)) ∧ Below w.heap.size w w' := by
  have H := Lib.hid (costs_any va vb xs ys w ha hb hx hy)
  obtain ⟨a1, cap1, rfl, hl1, hc1⟩ := rowAt ha
  obtain ⟨a2, cap2, rfl, hl2, hc2⟩ := rowAt hb
  clear ha hb hc1 hc2
  go_enter Try.func21, Try.ntmps21
  go_wp2_with fail
  refine H.out.mono ?_
  rintro e w1 ⟨cv, rfl, hM, hb1⟩
  obtain ⟨a3, cap3, rfl, hl3, hcap3, hc3⟩ := hM
  obtain ⟨b3, off3, g3, gc3, rfl, c3, s3⟩ := hc3 xs.length (by omega)
  have e1 := s3 ys.length (by omega)
  have k1 : (xs.length : Int) < (xs.length : Int) + 1 := by omega
  have k2 : (ys.length : Int) < (ys.length : Int) + 1 := by omega
  clear hc3 s3
  go_wp2
  go_ret
  exact ⟨rfl, hb1⟩

/-- 'append([]int{y}, out...)'. -/
theorem wpList_cons {P : Program} (w0 : World) {ops : Array Oper} {rest : List Oper} {o : Oper} {a : Act} {Q : Exit → Act → World → Prop} (hgd : o.guard = none) (s x : Operand) (t : TypeId)
    (ho : o.op = .call { callee := .builtin .append, args := #[s, x], argTypes := #[t, t] })
    (base : Nat) (e : TypeId) (ht : P.underlying t = some (.slice e)) (hinfo : (P.info? e).map (fun i => (i.zero, i.size, i.bytes)) = some (some (.int .i64 0), 1, 8))
    (v : Value) (xs : List Int) (hx : a.eval x = v) (hown : Own int all w0 base e v xs)
    (y : Int) (hy : -9223372036854775808 ≤ y ∧ y ≤ 9223372036854775807) (hs : a.eval s = .slice (some ⟨w0.heap.size, 0, none⟩) 1 1)
    (hbytes : xs.length ≤ 100000) (hbase : base ≤ w0.heap.size)
    (h : ∀ v' w', Own int all w' base e v' (y :: xs) → Below w0.heap.size w0 w' → wpList P ops Q rest (a.put o.dst v') w') :
    wpList P ops Q (o :: rest) a (w0.alloc (.cells #[.int .i64 y] e)) := by
  obtain ⟨i, hi, hz0, hz1, hz2⟩ := info_parts hinfo
  have hown1 := hown
  obtain ⟨css, hl, hr, hrow⟩ := hown
  have hone : (w0.alloc (.cells #[.int .i64 y] e)).ownsRow base e 1 (.slice (some ⟨w0.heap.size, 0, none⟩) 1 1) 1 [.int .i64 y] :=
    ⟨rfl, Or.inr ⟨w0.heap.size, 1, #[.int .i64 y], rfl, hbase, heap_alloc_new w0 _, Nat.le_refl _, by unfold maxLen; omega, rfl, rfl⟩⟩
  have hb1 : Below w0.heap.size w0 (w0.alloc (.cells #[.int .i64 y] e)) := (Below.refl _ _).alloc (Nat.le_refl _) _
  have fin : ∀ v' w', w'.ownsRow base e 1 v' (1 + xs.length) ([.int .i64 y] ++ css.flatten) → (w0.alloc (.cells #[.int .i64 y] e)).grownBy w' (some w0.heap.size) → wpList P ops Q rest (a.put o.dst v') w' := by
    intro v' w' h2 h3
    refine h v' w' ⟨[.int .i64 y] :: css, by simp [hl], fun i hi => ?_, ?_⟩ (hb1.grown h3 (by simp) (fun k hk => by cases hk; exact Nat.le_refl _))
    · cases i with
      | zero => exact ⟨rfl, hy⟩
      | succ i => exact hr i (by simpa using hi)
    · rw [List.length_cons, Nat.add_comm]
      exact h2
  rcases hrow.2 with ⟨rfl, h0⟩ | ⟨g, cap, cur, rfl, hbg, hg, hnc, hcm, hcs, htake⟩
  · obtain rfl : xs = [] := List.length_eq_zero_iff.1 h0
    have hcs0 : css = [] := List.length_eq_zero_iff.1 hl
    subst hcs0
    refine wpList_append_fits_any (w0.alloc (.cells #[.int .i64 y] e)) hgd s x t ho base e i 1 ht hi hz1 w0.heap.size 1 1 [.int .i64 y] hs hone none 0 0 [] hx rfl (fun _ => ⟨rfl, rfl⟩) (fun ad h => by cases h) (by simp) (by omega) ?_
    intro w' h2 h3
    exact fin _ w' h2 h3
  · by_cases h0 : xs.length = 0
    · obtain rfl : xs = [] := List.length_eq_zero_iff.1 h0
      have hcs0 : css = [] := List.length_eq_zero_iff.1 hl
      subst hcs0
      refine wpList_append_fits_any (w0.alloc (.cells #[.int .i64 y] e)) hgd s x t ho base e i 1 ht hi hz1 w0.heap.size 1 1 [.int .i64 y] hs hone (some ⟨g, 0, none⟩) 0 cap [] hx rfl (fun h => by cases h) (fun ad h j u hj => by simp at hj) (by simp) (by omega) ?_
      intro w' h2 h3
      exact fin _ w' h2 h3
    · have hcl : css.flatten.length = xs.length * 1 := hrow.1
      refine wpList_app (w0.alloc (.cells #[.int .i64 y] e)) hgd s x t ho base e i (.int .i64 0) 1 8 ht hi hz0 hz1 hz2 rfl (by decide) _ 1 [.int .i64 y] hs hone ⟨g, 0, none⟩ xs.length cap css.flatten hx hcl ?_ ?_ (by omega) (by unfold maxLen; omega) (by omega) (by simp; omega) ?_
      · intro j u hj
        exact (hrow.alloc _).cells rfl j u hj
      · intro u hu
        obtain ⟨c, hc, huc⟩ := List.mem_flatten.1 hu
        obtain ⟨i, hi, rfl⟩ := List.mem_iff_getElem.1 hc
        have h9 := (hr i (by omega)).1
        have e9 : css.getD i [] = css[i] := by simp [List.getD, hi]
        rw [e9] at h9
        rw [h9] at huc
        simp only [List.mem_singleton] at huc
        subst huc
        rfl
      · intro v' w' h2 h3 h4
        exact fin v' w' h2 h3
theorem own_shape {w : World} {B : Nat} {v : Value} {xs : List Int} (h : Own int all w B 3 v xs) : ∃ a n c, v = .slice a n c := by
  obtain ⟨css, hl, hr, hrow⟩ := h
  rcases hrow.2 with ⟨rfl, h0⟩ | ⟨g, cap, cur, rfl, _⟩
  · exact ⟨_, _, _, rfl⟩
  · exact ⟨_, _, _, rfl⟩
theorem way_next (q : Nat → Nat → Bool) (Z : Nat → Nat → Nat) (f i j s : Nat) (out W : List Nat) (h0 : 0 < i + j) (hl : lastS q Z i j = s) (h : (wayU q Z (f + 1) i j).reverse ++ out = W) :
    (wayU q Z f (if s = 4 then i else i - 1) (if s = 3 then j else j - 1)).reverse ++ (s :: out) = W := by
  rw [wayU, if_neg (by omega), hl, List.reverse_cons, List.append_assoc] at h
  exact h
set_option maxRecDepth 1000000 in
set_option maxHeartbeats 8000000 in
theorem refWay_any (va vb : Value) (xs ys : List Row) (w : World) (ha : Sl fields all w va xs) (hb : Sl fields all w vb ys) (hx : xs.length ≤ 900) (hy : ys.length ≤ 900) :
    Calls Try.prog 24 #[va, vb] w fun e w' => ∃ v, e = .returned v ∧ Sl int all w' v (((wayU (eqAt xs ys) (cst (eqAt xs ys)) (xs.length + ys.length) xs.length ys.length).map Int.ofNat).reverse) ∧ Below w.heap.size w w' := by
  have H := Lib.hid (costs_any va vb xs ys w ha hb hx hy)
  have HA := Lib.hid ha
  have HB := Lib.hid hb
  obtain ⟨a1, cap1, rfl, hl1, hra⟩ := rowAt ha
  obtain ⟨a2, cap2, rfl, hl2, hrb⟩ := rowAt hb
  have HRA := Lib.hid hra
  have HRB := Lib.hid hrb
  clear ha hb hra hrb
  have HZL := Lib.hid (cst_le (eqAt xs ys))
  have HZ0 := Lib.hid (cst_zero (eqAt xs ys))
  have HE : Hid (∀ i j (hi : i < xs.length) (hj : j < ys.length), eqAt xs ys i j = decide (xs[i] = ys[j])) := Lib.hid (fun i j hi hj => by simp [eqAt, List.getD, hi, hj])
  generalize cst (eqAt xs ys) = Z at *
  generalize eqAt xs ys = q at *
  go_enter Try.func24, Try.ntmps24
  go_wp2_with fail
  refine H.out.mono ?_
  rintro e w1 ⟨cv, rfl, hM, hb1⟩
  obtain ⟨a3, cap3, rfl, hl3, hcap3, hc3⟩ := hM
  have HC3 := Lib.hid hc3
  clear hc3
  go_wp2
  go_loopw [6, 7, 8] (fun v si sj wr => ∃ (i j f : Nat) (out : List Nat), i ≤ xs.length ∧ j ≤ ys.length ∧ i + j ≤ f ∧ si = .int .i64 i ∧ sj = .int .i64 j ∧ Own int all wr w1.heap.size 3 v (out.map Int.ofNat) ∧ Below w1.heap.size w1 wr ∧ out.length + (i + j) ≤ 2000 ∧ (wayU q Z f i j).reverse ++ out = (wayU q Z (xs.length + ys.length) xs.length ys.length).reverse) (fun _ si sj _ => (intOf si).toNat + (intOf sj).toNat)
  case atStart => exact ⟨xs.length, ys.length, xs.length + ys.length, [], Nat.le_refl _, Nat.le_refl _, Nat.le_refl _, rfl, rfl, Own.nil, Below.refl _ _, by simp; omega, by simp⟩
  case round =>
    obtain ⟨i, j, f, out, hi, hj, hf, rfl, rfl, hown, hbr, hlen, hout⟩ := hrel
    obtain ⟨ao, no, co, rfl⟩ := own_shape hown
    have HO := Lib.hid hout
    clear hout
    cases i with
    | zero =>
      cases j with
      | zero =>
        have HS := Lib.hid (hown.sl (ok' := all) (fun _ _ _ => trivial) (fun _ _ _ => trivial))
        clear hown
        go_wp2
        go_ret
        refine ⟨_, rfl, ?_, hb1.trans (hbr.mono hb1.size)⟩
        have h9 := HO.out
        rw [wayU_zero, List.reverse_nil, List.nil_append] at h9
        have e9 : (List.map Int.ofNat (wayU q Z (xs.length + ys.length) xs.length ys.length)).reverse = out.map Int.ofNat := by rw [h9, List.map_reverse]
        show Sl int all _ _ (List.map Int.ofNat (wayU q Z (xs.length + ys.length) xs.length ys.length)).reverse
        rw [e9]
        exact HS.out
      | succ j =>
        obtain ⟨f, rfl⟩ : ∃ g, f = g + 1 := ⟨f - 1, by omega⟩
        go_wp2
        go_quiet (fail)
        go_wp2
        go_quiet (fail)
        go_wp2
        go_quiet (fail)
        all_goals
          go_wp2_with (at_builtin; refine wpList_cons (P := Try.prog) _ rfl _ _ 40 rfl w1.heap.size 3 Try.underlying40 infoInt _ _ rfl (hown.drewN _) _ (by constructor <;> omega) rfl (by simp; omega) hbr.size ?_)
        all_goals
          intro v' w2 hown2 hb2
          have hb3 := (below_drewN hbr _).trans (hb2.mono hbr.size)
          go_wp2
          go_roundw
          case rel =>
            first
            | exact ⟨0, j, f, 4 :: out, by omega, by omega, by omega, rfl, rfl, hown2, hb3, by simp; omega, way_next _ _ _ _ _ 4 _ _ (by omega) (rfl) HO.out⟩
          case measure => simp [intOf] <;> omega
    | succ i =>
      obtain ⟨f, rfl⟩ : ∃ g, f = g + 1 := ⟨f - 1, by omega⟩
      obtain ⟨b3, off3, g3, gc3, rfl, c3, s3⟩ := HC3.out i (by omega)
      obtain ⟨b4, off4, g4, gc4, h4, c4, s4⟩ := HC3.out (i + 1) (by omega)
      simp only [Option.some.injEq, Addr.mk.injEq, and_true] at h4
      obtain ⟨rfl, rfl⟩ := h4
      have c3 := cell_later hbr c3
      have c4 := cell_later hbr c4
      have g1 : decide ((0 : Int) < (i : Int) + 1) = true := by simp
      have k1 : (i : Int) < (xs.length : Int) + 1 := by omega
      have k2 : (i : Int) + 1 < (xs.length : Int) + 1 := by omega
      cases j with
      | zero =>
        have e3 := cell_later hbr (s3 0 (by omega))
        have e4 := cell_later hbr (s4 0 (by omega))
        rw [HZ0.out] at e3 e4
        have HL : Hid (lastS q Z (i + 1) 0 = 3) := Lib.hid (by rw [lastS, HZ0.out, HZ0.out, if_pos rfl])
        have k3 : (0 : Int) < (ys.length : Int) + 1 := by omega
        clear s3 s4
        go_wp2
        go_quiet (fail)
        go_wp2
        go_quiet (fail)
        go_wp2
        go_quiet (fail)
        all_goals
          go_wp2_with (at_builtin; refine wpList_cons (P := Try.prog) _ rfl _ _ 40 rfl w1.heap.size 3 Try.underlying40 infoInt _ _ rfl (hown.drewN _) _ (by constructor <;> omega) rfl (by simp; omega) hbr.size ?_)
        all_goals
          intro v' w2 hown2 hb2
          have hb3 := (below_drewN hbr _).trans (hb2.mono hbr.size)
          go_wp2
          go_roundw
          case rel =>
            first
            | exact ⟨i, 0, f, 3 :: out, by omega, by omega, by omega, rfl, rfl, hown2, hb3, by simp; omega, way_next _ _ _ _ _ 3 _ _ (by omega) (HL.out) HO.out⟩
          case measure => simp [intOf] <;> omega
      | succ j =>
        obtain ⟨b1, off1, r1, rfl, d3, s1⟩ := HRA.out i (by omega)
        obtain ⟨b2, off2, r2, rfl, d4, s2⟩ := HRB.out j (by omega)
        have hbw := hb1.trans (hbr.mono hb1.size)
        have d3 := cell_later hbw d3
        have d4 := cell_later hbw d4
        have H0 := fun n => row_any r1 r2 _ _ (wr.drewN n) ((s1.below (by decide) hbw).drewN (by decide) n) ((s2.below (by decide) hbw).drewN (by decide) n)
        have e1 := cell_later hbr (s3 j (by omega))
        have e2 := cell_later hbr (s3 (j + 1) (by omega))
        have e4 := cell_later hbr (s4 (j + 1) (by omega))
        have z1 := HZL.out i j
        have z2 := HZL.out i (j + 1)
        have z4 := HZL.out (i + 1) (j + 1)
        have g2 : decide ((0 : Int) < (j : Int) + 1) = true := by simp
        have k3 : (j : Int) < (ys.length : Int) + 1 := by omega
        have k4 : (j : Int) + 1 < (ys.length : Int) + 1 := by omega
        have k5 : (i : Int) < (xs.length : Int) := by omega
        have k6 : (j : Int) < (ys.length : Int) := by omega
        have HEE := Lib.hid (HE.out i j (by omega) (by omega))
        have HL : Hid (lastS q Z (i + 1) (j + 1) = if q i j = true ∧ Z i j = Z (i + 1) (j + 1) then 1 else if Z i j + 1 = Z (i + 1) (j + 1) then 2 else if Z i (j + 1) + 1 = Z (i + 1) (j + 1) then 3 else 4) := Lib.hid rfl
        generalize Z (i + 1) (j + 1) = h at *
        generalize Z i (j + 1) = u at *
        generalize Z i j = p at *
        have hw1 : IntKind.i64.wrap ((u : Int) + 1) = (u : Int) + 1 := IntWalk.i64_in _ (by omega)
        have hw2 : IntKind.i64.wrap ((p : Int) + 1) = (p : Int) + 1 := IntWalk.i64_in _ (by omega)
        clear s1 s2 s3 s4
        by_cases hxy : xs[i] = ys[j]
        · have HL : Hid (lastS q Z (i + 1) (j + 1) = if p = h then 1 else if p + 1 = h then 2 else if u + 1 = h then 3 else 4) := Lib.hid (by rw [HL.out, HEE.out]; simp [hxy])
          simp only [decide_eq_true hxy] at H0
          have H := Lib.hid H0
          clear hxy H0
          all_goals go_wp2
          all_goals go_quiet (fail)
          all_goals go_wp2
          all_goals go_quiet (fail)
          all_goals go_wp2
          all_goals go_quiet ((go_at_call 37; first | exact Calls.quiet_of (H.out _) | exact quiet_add (H.out _)))
          all_goals
            go_wp2_with (at_builtin; refine wpList_cons (P := Try.prog) _ rfl _ _ 40 rfl w1.heap.size 3 Try.underlying40 infoInt _ _ rfl (hown.drewN _) _ (by constructor <;> omega) rfl (by simp; omega) hbr.size ?_)
          all_goals
            intro v' w2 hown2 hb2
            have hb3 := (below_drewN hbr _).trans (hb2.mono hbr.size)
            go_wp2
            go_roundw
            case rel =>
              first
              | exact ⟨i, j, f, 1 :: out, by omega, by omega, by omega, rfl, rfl, hown2, hb3, by simp; omega, way_next _ _ _ _ _ 1 _ _ (by omega) (by rw [HL.out]; (try simp only [beq_iff_eq, beq_eq_false_iff_ne, ne_eq] at *); (repeat' split) <;> omega) HO.out⟩
              | exact ⟨i, j, f, 2 :: out, by omega, by omega, by omega, rfl, rfl, hown2, hb3, by simp; omega, way_next _ _ _ _ _ 2 _ _ (by omega) (by rw [HL.out]; (try simp only [beq_iff_eq, beq_eq_false_iff_ne, ne_eq] at *); (repeat' split) <;> omega) HO.out⟩
              | exact ⟨i, j + 1, f, 3 :: out, by omega, by omega, by omega, rfl, rfl, hown2, hb3, by simp; omega, way_next _ _ _ _ _ 3 _ _ (by omega) (by rw [HL.out]; (try simp only [beq_iff_eq, beq_eq_false_iff_ne, ne_eq] at *); (repeat' split) <;> omega) HO.out⟩
              | exact ⟨i + 1, j, f, 4 :: out, by omega, by omega, by omega, rfl, rfl, hown2, hb3, by simp; omega, way_next _ _ _ _ _ 4 _ _ (by omega) (by rw [HL.out]; (try simp only [beq_iff_eq, beq_eq_false_iff_ne, ne_eq] at *); (repeat' split) <;> omega) HO.out⟩
            case measure => simp [intOf] <;> omega
        · have HL : Hid (lastS q Z (i + 1) (j + 1) = if p + 1 = h then 2 else if u + 1 = h then 3 else 4) := Lib.hid (by rw [HL.out, HEE.out]; simp [hxy])
          simp only [decide_eq_false hxy] at H0
          have H := Lib.hid H0
          clear hxy H0
          all_goals go_wp2
          all_goals go_quiet (fail)
          all_goals go_wp2
          all_goals go_quiet (fail)
          all_goals go_wp2
          all_goals go_quiet ((go_at_call 37; first | exact Calls.quiet_of (H.out _) | exact quiet_add (H.out _)))
          all_goals
            go_wp2_with (at_builtin; refine wpList_cons (P := Try.prog) _ rfl _ _ 40 rfl w1.heap.size 3 Try.underlying40 infoInt _ _ rfl (hown.drewN _) _ (by constructor <;> omega) rfl (by simp; omega) hbr.size ?_)
          all_goals
            intro v' w2 hown2 hb2
            have hb3 := (below_drewN hbr _).trans (hb2.mono hbr.size)
            go_wp2
            go_roundw
            case rel =>
              first
              | exact ⟨i, j, f, 2 :: out, by omega, by omega, by omega, rfl, rfl, hown2, hb3, by simp; omega, way_next _ _ _ _ _ 2 _ _ (by omega) (by rw [HL.out]; (try simp only [beq_iff_eq, beq_eq_false_iff_ne, ne_eq] at *); (repeat' split) <;> omega) HO.out⟩
              | exact ⟨i, j + 1, f, 3 :: out, by omega, by omega, by omega, rfl, rfl, hown2, hb3, by simp; omega, way_next _ _ _ _ _ 3 _ _ (by omega) (by rw [HL.out]; (try simp only [beq_iff_eq, beq_eq_false_iff_ne, ne_eq] at *); (repeat' split) <;> omega) HO.out⟩
              | exact ⟨i + 1, j, f, 4 :: out, by omega, by omega, by omega, rfl, rfl, hown2, hb3, by simp; omega, way_next _ _ _ _ _ 4 _ _ (by omega) (by rw [HL.out]; (try simp only [beq_iff_eq, beq_eq_false_iff_ne, ne_eq] at *); (repeat' split) <;> omega) HO.out⟩
            case measure => simp [intOf] <;> omega
end Dif
end Go.Proofs.Ytahdeifoakjccaa
