/-
  The walk over the reference's costs. At most 900 rows each.
-/
import Derived.Test.YtahdeifoakjccaaDiffCosts
namespace Go.Proofs.Ytahdeifoakjccaa
open Go.RowKit
namespace Dif
open Rdl

theorem cst_step (q : Nat → Nat → Bool) (i j : Nat) : cst q (i + 1) (j + 1) = if q i j then cst q i j else 1 + min (min (cst q i j) (cst q i (j + 1))) (cst q (i + 1) j) := rfl
theorem cst_near (q : Nat → Nat → Bool) : ∀ i j, (cst q (i + 1) j ≤ cst q i j + 1 ∧ cst q i j ≤ cst q (i + 1) j + 1) ∧ (cst q i (j + 1) ≤ cst q i j + 1 ∧ cst q i j ≤ cst q i (j + 1) + 1) := by
  intro i
  induction i with
  | zero =>
    intro j
    refine ⟨?_, by show (j + 1 ≤ j + 1 ∧ j ≤ j + 1 + 1); omega⟩
    induction j with
    | zero => show (1 ≤ 0 + 1 ∧ 0 ≤ 1 + 1); omega
    | succ j ih =>
      rw [cst_step]
      have h0 : cst q 0 j = j := rfl
      have h1 : cst q 0 (j + 1) = j + 1 := rfl
      rw [h0] at ih
      rw [h0, h1]
      split <;> omega
  | succ i ihx =>
    intro j
    induction j with
    | zero =>
      refine ⟨by rw [cst_zero, cst_zero]; omega, ?_⟩
      rw [cst_step]
      have := (ihx 0).2
      rw [cst_zero] at this
      rw [cst_zero, cst_zero]
      split <;> omega
    | succ j ihy =>
      have h1 := ihy.1
      have h2 := ihy.2
      have h3 := (ihx (j + 1)).1
      have h4 := (ihx (j + 1)).2
      refine ⟨?_, ?_⟩
      · rw [cst_step q (i + 1) j]
        split <;> omega
      · rw [cst_step q i (j + 1)]
        split <;> omega
/-- 'append(out, x)' of one element, with word on where the new one lies. -/
theorem wpList_push3 {P : Program} (w0 : World) {ops : Array Oper} {rest : List Oper} {o : Oper} {a : Act} {Q : Exit → Act → World → Prop} (hgd : o.guard = none) (s x : Operand) (t : TypeId)
    (ho : o.op = .call { callee := .builtin .append, args := #[s, x], argTypes := #[t, t] })
    (base : Nat) (e : TypeId) (ht : P.underlying t = some (.slice e)) (hinfo : (P.info? e).map (fun i => (i.zero, i.size, i.bytes)) = some (some (.int .i64 0), 1, 8))
    (v : Value) (xs : List Int) (hs : a.eval s = v) (hown : Own int all w0 base e v xs)
    (y : Int) (hy : -9223372036854775808 ≤ y ∧ y ≤ 9223372036854775807) (c : Nat) (hx : a.eval x = .slice (some ⟨w0.heap.size, 0, none⟩) 1 c)
    (hbytes : xs.length ≤ 100000) (hbase : base ≤ w0.heap.size)
    (h : ∀ v' w', Own int all w' base e v' (xs ++ [y]) → w0.grownBy w' v.ownBlock → (v'.ownBlock = v.ownBlock ∨ ∃ g, v'.ownBlock = some g ∧ w0.heap.size ≤ g) → wpList P ops Q rest (a.put o.dst v') w') :
    wpList P ops Q (o :: rest) a (w0.alloc (.cells #[.int .i64 y] e)) := by
  obtain ⟨i, hi, hz0, hz1, hz2⟩ := info_parts hinfo
  obtain ⟨css, hl, hr, hrow⟩ := hown
  refine wpList_app (w0.alloc (.cells #[.int .i64 y] e)) hgd s x t ho base e i (.int .i64 0) 1 8 ht hi hz0 hz1 hz2 rfl (by decide) v xs.length css.flatten hs (hrow.alloc _) ⟨w0.heap.size, 0, none⟩ 1 c [.int .i64 y] hx rfl ?_ (by simp [Value.oneCell']) (by omega) (by unfold maxLen; omega) (by omega) (by simp; omega) ?_
  · intro j u hj
    rw [Go.WideShapes.add_plain, Nat.zero_add, World.cell?_alloc_at _ _ _ _ rfl]
    simpa using hj
  · intro v' w' h2 h3 h4
    have hg : w0.grownBy w' v.ownBlock := ⟨h3.os, h3.tape, h3.output, Nat.le_trans (by simp) h3.size, fun k hk hne => (h3.block k (by simp; omega) hne).trans (Lib.alloc_old' w0 _ k hk)⟩
    refine h v' w' ⟨css ++ [[.int .i64 y]], by simp [hl], ?_, by
      have e2 : (css ++ [[Value.int .i64 y]]).flatten = css.flatten ++ [.int .i64 y] := by simp
      rw [e2, List.length_append]
      exact h2⟩ hg ?_
    · intro i hi
      by_cases hlt : i < xs.length
      · rw [List.getElem_append_left hlt]
        have e1 : (css ++ [[Value.int .i64 y]]).getD i [] = css.getD i [] := by simp [List.getD, List.getElem?_append_left (show i < css.length by omega)]
        rw [e1]; exact hr i hlt
      · have hi2 : i = xs.length := by simp at hi; omega
        subst hi2
        have e1 : (css ++ [[Value.int .i64 y]]).getD xs.length [] = [.int .i64 y] := by simp [List.getD, ← hl]
        rw [e1]
        exact ⟨by simp, by simpa using hy⟩
    · rcases h4 with h4 | ⟨g, h5, h6⟩
      · exact Or.inl h4
      · exact Or.inr ⟨g, h5, by simp at h6; omega⟩
theorem news0 (w : World) (x : Value) (t : TypeId) : ∀ j u, [x][j]? = some u → ((w.alloc (.cells #[x] t))).cell? ((⟨w.heap.size, 0, none⟩ : Addr).add j) = some u := by
  intro j u hj
  rw [Go.WideShapes.add_plain, Nat.zero_add, World.cell?_alloc_at _ _ _ _ (by simp)]
  simpa using hj

set_option maxRecDepth 1000000 in
set_option maxHeartbeats 4000000 in
theorem costs_any (va vb : Value) (xs ys : List Row) (w : World) (ha : Sl fields all w va xs) (hb : Sl fields all w vb ys) (hx : xs.length ≤ 900) (hy : ys.length ≤ 900) :
    Calls Try.prog 35 #[va, vb] w fun e w' => ∃ cv, e = .returned cv ∧ Tab w' cv (xs.length + 1) (ys.length + 1) (cst (eqAt xs ys)) ∧ Below w.heap.size w w' := by
  have HA := Lib.hid ha
  have HB := Lib.hid hb
  obtain ⟨a1, cap1, rfl, hl1, hra⟩ := rowAt ha
  obtain ⟨a2, cap2, rfl, hl2, hrb⟩ := rowAt hb
  have HRA := Lib.hid hra
  have HRB := Lib.hid hrb
  clear ha hb hra hrb
  have HZ := Lib.hid (cst_near (eqAt xs ys))
  have HZL := Lib.hid (cst_le (eqAt xs ys))
  have HZS := Lib.hid (cst_step (eqAt xs ys))
  have HZ0 := Lib.hid (cst_zero (eqAt xs ys))
  have HZ1 : Hid (∀ j, cst (eqAt xs ys) 0 j = j) := Lib.hid (fun _ => rfl)
  have HE : Hid (∀ i j (hi : i < xs.length) (hj : j < ys.length), eqAt xs ys i j = decide (xs[i] = ys[j])) := Lib.hid (fun i j hi hj => by simp [eqAt, List.getD, hi, hj])
  generalize cst (eqAt xs ys) = Z at *
  generalize eqAt xs ys = q at *
  go_enter Try.func35, Try.ntmps35
  go_wp2
  go_loopw [5, 6] (fun cv i wr => ∃ (k : Nat) (rs : List Value), k ≤ xs.length + 1 ∧ i = .int .i64 k ∧ RO w wr w.heap.size cv rs k (ys.length + 1) Z) (fun _ i _ => xs.length + 1 - (intOf i).toNat)
  case atStart => exact ⟨0, [], by omega, rfl, World.ownsRow_nil _ _ _ _, rfl, fun r hr => absurd hr (by omega), Below.refl _ _⟩
  case round =>
    obtain ⟨k, rs, hk, rfl, hro⟩ := hrel
    obtain ⟨i0, hi0, hz0, hz1, hz2⟩ := info_parts infoInts
    by_cases hlt : k ≤ xs.length
    · cases k with
      | zero =>
        have hd : True := trivial
        have HRO := Lib.hid hro
        have hbs := hro.below.size
        have hrl : rs.length ≤ 901 := by have := hro.len; omega
        clear hro
        go_wp2_with (at_builtin; refine wpList_app (P := Try.prog) _ rfl _ _ 61 rfl w.heap.size 40 i0 _ 1 24 Try.underlying61 hi0 hz0 hz1 hz2 rfl (by decide) _ rs.length rs rfl (HRO.out.own.alloc _) ⟨wr.heap.size, 0, none⟩ 1 1 [.slice none 0 0] rfl rfl (news0 _ _ _) (by simp [Value.oneCell']) (by omega) (by unfold maxLen; omega) (by omega) (by simp; omega) ?_)
        intro cv' w1 hown1 hg1 hnew
        have hrt := HRO.out.push hown1 hbs hg1
        clear hg1 hown1 hrl hnew
        generalize rs ++ [Value.slice none 0 0] = rs1 at *
        obtain ⟨gc, cap, hcv, hgB, -, -⟩ := hrt.cell
        simp only [Nat.zero_add] at hcv
        subst hcv
        go_wp2
        go_loopw [7] (fun sj wi => ∃ (j : Nat) (rs2 : List Value), j ≤ ys.length + 1 ∧ sj = .int .i64 j ∧ RT w wi w.heap.size (.slice (some ⟨gc, 0, none⟩) (1) cap) rs2 (0) (ys.length + 1) j Z) (fun sj _ => ys.length + 1 - (intOf sj).toNat)
        case atStart => exact ⟨0, rs1, by omega, rfl, hrt⟩
        case round =>
          clear hrt
          obtain ⟨j, rs2, hj, rfl, hrt⟩ := hrel
          by_cases hjl : j ≤ ys.length
          · have hdj : decide ((j : Int) ≤ (ys.length : Int)) = true := decide_eq_true (by omega)
            obtain ⟨gc', cap', hcv', -, hcell, hfr⟩ := hrt.cell
            simp only [Value.slice.injEq, Option.some.injEq, Addr.mk.injEq, and_true, true_and] at hcv'
            obtain ⟨rfl, rfl⟩ := hcv'
            have HRT := Lib.hid hrt
            have HC := Lib.hid hcell
            have HF := Lib.hid hfr
            clear hrt hcell hfr
            have hbb := HRT.out.below.size
            have hgl := (HRT.out.own.lt gc rfl).2
            obtain ⟨cu, hcu⟩ : ∃ cu, rs2.getD (0) dv = cu := ⟨_, rfl⟩
            have HCU := Lib.hid hcu
            have hcurr := HRT.out.cur
            have c2 := HC.out (0) (by omega)
            rw [hcu] at hcurr c2
            have hgne : some gc ≠ cu.ownBlock := by
              have := own_apart hcurr HRT.out.own (by decide)
              rcases this with h1 | h1
              · rw [h1]; simp
              · exact fun e => h1 e.symm
            have HCUR := Lib.hid hcurr
            have f2 := HF.out (0)
            have HG1 := Lib.hid (fun (n : Nat) (w2 : World) (hg2 : (wr.drewN n).grownBy w2 cu.ownBlock) => (World.cell?_of_block (w := wr) (a := ⟨gc, 0, none⟩) (hg2.block gc hgl hgne)).trans c2)
            have HG2 := Lib.hid (fun (n : Nat) (w2 : World) (hg2 : (wr.drewN n).grownBy w2 cu.ownBlock) => (World.frozen?_of_block (w := wr) (a := ⟨gc, 0, none⟩) (hg2.block gc hgl hgne)).trans f2)
            clear f2 hgne hcu hgl
            cases j with
            | zero =>
              clear hcurr
              have HFIN := Lib.hid (HZ1.out 0)
              all_goals
                go_wp2_with (at_builtin; refine wpList_push3 (P := Try.prog) _ rfl _ _ 40 rfl w.heap.size 3 Try.underlying40 infoInt _ _ rfl (HCUR.out) _ (by constructor <;> omega) 1 rfl (by rw [rowL_len]; omega) hbb ?_)
              all_goals
                intro v' w2 hown2 hg2 hv2
                obtain ⟨g9, n9, cap9, rfl⟩ : ∃ g n c, v' = Value.slice (some ⟨g, 0, none⟩) n c := by
                  obtain ⟨g, c, h, _⟩ := own_int_cell hown2 (by simp)
                  exact ⟨g, _, c, h⟩
                have hs1 := HG1.out 0 w2 hg2
                have hs2 := HG2.out 0 w2 hg2
                go_wp2
                go_roundw
                case rel => exact ⟨0 + 1, _, by omega, by go_num, HRT.out.push rfl hown2 (by rw [HFIN.out]; rfl) hbb (by rw [HCU.out]; exact hg2) (by rw [HCU.out]; exact hv2)⟩
                case measure => simp [intOf] <;> omega
            | succ j =>
              obtain ⟨g2, cap2', rfl, hc2⟩ := own_int_cell hcurr (by rw [rowL_len]; omega)
              have e2 := hc2 j (by rw [rowL_len]; omega)
              simp only [rowL, List.getElem_map, List.getElem_range] at e2
              rw [rowL_len] at *
              clear hc2 hcurr
              have g2 : decide ((0 : Int) < (j : Int) + 1) = true := by simp
              have k3 : (j : Int) < (j : Int) + 1 := by omega
              rw [HZ1.out] at e2
              have HFIN := Lib.hid (HZ1.out (j + 1))
              have hs0 : IntKind.i64.wrap ((j : Int) + 1) = (j : Int) + 1 := IntWalk.i64_in _ (by omega)
              all_goals
                go_wp2_with (at_builtin; refine wpList_push3 (P := Try.prog) _ rfl _ _ 40 rfl w.heap.size 3 Try.underlying40 infoInt _ _ rfl (HCUR.out) _ (by constructor <;> omega) 1 rfl (by rw [rowL_len]; omega) hbb ?_)
              all_goals
                intro v' w2 hown2 hg2 hv2
                obtain ⟨g9, n9, cap9, rfl⟩ : ∃ g n c, v' = Value.slice (some ⟨g, 0, none⟩) n c := by
                  obtain ⟨g, c, h, _⟩ := own_int_cell hown2 (by simp)
                  exact ⟨g, _, c, h⟩
                have hs1 := HG1.out 0 w2 hg2
                have hs2 := HG2.out 0 w2 hg2
                go_wp2
                go_roundw
                case rel => exact ⟨j + 1 + 1, _, by omega, by go_num, HRT.out.push rfl hown2 (by rw [HFIN.out]; omega) hbb (by rw [HCU.out]; exact hg2) (by rw [HCU.out]; exact hv2)⟩
                case measure => simp [intOf] <;> omega
          · have hdj : decide ((j : Int) ≤ (ys.length : Int)) = false := decide_eq_false (by omega)
            have HRT := Lib.hid hrt
            clear hrt
            go_wp2
            go_roundw
            case rel => exact ⟨0 + 1, rs2, by omega, by go_num, by
              have e : j = ys.length + 1 := by omega
              subst e
              exact HRT.out.full⟩
            case measure => simp [intOf] <;> omega
      | succ i =>
        have hd : decide ((i : Int) + 1 ≤ (xs.length : Int)) = true := decide_eq_true (by omega)
        have HRO := Lib.hid hro
        have hbs := hro.below.size
        have hrl : rs.length ≤ 901 := by have := hro.len; omega
        clear hro
        go_wp2_with (at_builtin; refine wpList_app (P := Try.prog) _ rfl _ _ 61 rfl w.heap.size 40 i0 _ 1 24 Try.underlying61 hi0 hz0 hz1 hz2 rfl (by decide) _ rs.length rs rfl (HRO.out.own.alloc _) ⟨wr.heap.size, 0, none⟩ 1 1 [.slice none 0 0] rfl rfl (news0 _ _ _) (by simp [Value.oneCell']) (by omega) (by unfold maxLen; omega) (by omega) (by simp; omega) ?_)
        intro cv' w1 hown1 hg1 hnew
        have hrt := HRO.out.push hown1 hbs hg1
        clear hg1 hown1 hrl hnew
        generalize rs ++ [Value.slice none 0 0] = rs1 at *
        obtain ⟨gc, cap, hcv, hgB, -, -⟩ := hrt.cell
        subst hcv
        go_wp2
        go_loopw [7] (fun sj wi => ∃ (j : Nat) (rs2 : List Value), j ≤ ys.length + 1 ∧ sj = .int .i64 j ∧ RT w wi w.heap.size (.slice (some ⟨gc, 0, none⟩) (i + 1 + 1) cap) rs2 (i + 1) (ys.length + 1) j Z) (fun sj _ => ys.length + 1 - (intOf sj).toNat)
        case atStart => exact ⟨0, rs1, by omega, rfl, hrt⟩
        case round =>
          clear hrt
          obtain ⟨j, rs2, hj, rfl, hrt⟩ := hrel
          by_cases hjl : j ≤ ys.length
          · have hdj : decide ((j : Int) ≤ (ys.length : Int)) = true := decide_eq_true (by omega)
            obtain ⟨gc', cap', hcv', -, hcell, hfr⟩ := hrt.cell
            simp only [Value.slice.injEq, Option.some.injEq, Addr.mk.injEq, and_true, true_and] at hcv'
            obtain ⟨rfl, rfl⟩ := hcv'
            have HRT := Lib.hid hrt
            have HC := Lib.hid hcell
            have HF := Lib.hid hfr
            clear hrt hcell hfr
            have hbb := HRT.out.below.size
            have hgl := (HRT.out.own.lt gc rfl).2
            obtain ⟨cu, hcu⟩ : ∃ cu, rs2.getD (i + 1) dv = cu := ⟨_, rfl⟩
            have HCU := Lib.hid hcu
            have hcurr := HRT.out.cur
            have c2 := HC.out (i + 1) (by omega)
            rw [hcu] at hcurr c2
            have hgne : some gc ≠ cu.ownBlock := by
              have := own_apart hcurr HRT.out.own (by decide)
              rcases this with h1 | h1
              · rw [h1]; simp
              · exact fun e => h1 e.symm
            have HCUR := Lib.hid hcurr
            have f2 := HF.out (i + 1)
            have HG1 := Lib.hid (fun (n : Nat) (w2 : World) (hg2 : (wr.drewN n).grownBy w2 cu.ownBlock) => (World.cell?_of_block (w := wr) (a := ⟨gc, i + 1, none⟩) (hg2.block gc hgl hgne)).trans c2)
            have HG2 := Lib.hid (fun (n : Nat) (w2 : World) (hg2 : (wr.drewN n).grownBy w2 cu.ownBlock) => (World.frozen?_of_block (w := wr) (a := ⟨gc, i + 1, none⟩) (hg2.block gc hgl hgne)).trans f2)
            clear f2 hgne hcu hgl
            cases j with
            | zero =>
              clear hcurr
              have c1 := HC.out i (by omega)
              obtain ⟨g1, cap1', hv1, hc1⟩ := own_int_cell (HRT.out.done i (by omega)) (by rw [rowL_len]; omega)
              rw [hv1, rowL_len] at c1
              have g1' : decide ((0 : Int) < (i : Int) + 1) = true := by simp
              have k1 : (i : Int) < (i : Int) + 1 + 1 := by omega
              have k2 : (i : Int) + 1 < (i : Int) + 1 + 1 := by omega
              have e1 := hc1 0 (by rw [rowL_len]; omega)
              simp only [rowL, List.getElem_map, List.getElem_range, HZ0.out] at e1
              clear hc1 hv1
              have k4 : (0 : Int) < (ys.length : Int) + 1 := by omega
              have hs0 : IntKind.i64.wrap ((i : Int) + 1) = (i : Int) + 1 := IntWalk.i64_in _ (by omega)
              have HFIN := Lib.hid (HZ0.out (i + 1))
              all_goals
                go_wp2_with (at_builtin; refine wpList_push3 (P := Try.prog) _ rfl _ _ 40 rfl w.heap.size 3 Try.underlying40 infoInt _ _ rfl (HCUR.out) _ (by constructor <;> omega) 1 rfl (by rw [rowL_len]; omega) hbb ?_)
              all_goals
                intro v' w2 hown2 hg2 hv2
                obtain ⟨g9, n9, cap9, rfl⟩ : ∃ g n c, v' = Value.slice (some ⟨g, 0, none⟩) n c := by
                  obtain ⟨g, c, h, _⟩ := own_int_cell hown2 (by simp)
                  exact ⟨g, _, c, h⟩
                have hs1 := HG1.out 0 w2 hg2
                have hs2 := HG2.out 0 w2 hg2
                go_wp2
                go_roundw
                case rel => exact ⟨0 + 1, _, by omega, by go_num, HRT.out.push rfl hown2 (by rw [HFIN.out]; omega) hbb (by rw [HCU.out]; exact hg2) (by rw [HCU.out]; exact hv2)⟩
                case measure => simp [intOf] <;> omega
            | succ j =>
              obtain ⟨g2, cap2', rfl, hc2⟩ := own_int_cell hcurr (by rw [rowL_len]; omega)
              have e2 := hc2 j (by rw [rowL_len]; omega)
              simp only [rowL, List.getElem_map, List.getElem_range] at e2
              rw [rowL_len] at *
              clear hc2 hcurr
              have g2 : decide ((0 : Int) < (j : Int) + 1) = true := by simp
              have k3 : (j : Int) < (j : Int) + 1 := by omega
              have c1 := HC.out i (by omega)
              obtain ⟨g1, cap1', hv1, hc1⟩ := own_int_cell (HRT.out.done i (by omega)) (by rw [rowL_len]; omega)
              rw [hv1, rowL_len] at c1
              have g1' : decide ((0 : Int) < (i : Int) + 1) = true := by simp
              have k1 : (i : Int) < (i : Int) + 1 + 1 := by omega
              have k2 : (i : Int) + 1 < (i : Int) + 1 + 1 := by omega
              have e1 := hc1 (j + 1) (by rw [rowL_len]; omega)
              have e3 := hc1 j (by rw [rowL_len]; omega)
              simp only [rowL, List.getElem_map, List.getElem_range] at e1 e3
              clear hc1 hv1
              obtain ⟨b1, off1, r1, rfl, c3, s1⟩ := HRA.out i (by omega)
              obtain ⟨b2, off2, r2, rfl, c4, s2⟩ := HRB.out j (by omega)
              have c3 := cell_later HRT.out.below c3
              have c4 := cell_later HRT.out.below c4
              have H0 := fun n => row_any r1 r2 _ _ (wr.drewN n) ((s1.below (by decide) HRT.out.below).drewN (by decide) n) ((s2.below (by decide) HRT.out.below).drewN (by decide) n)
              have k4 : (j : Int) + 1 < (ys.length : Int) + 1 := by omega
              have k5 : (j : Int) < (ys.length : Int) + 1 := by omega
              have k6 : (i : Int) < (xs.length : Int) := by omega
              have k7 : (j : Int) < (ys.length : Int) := by omega
              have hn := HZ.out i j
              have z1 := HZL.out i j
              have z2 := HZL.out i (j + 1)
              have z3 := HZL.out (i + 1) j
              have hs0 : IntKind.i64.wrap ((i : Int) + 1 + ((j : Int) + 1)) = (i : Int) + 1 + ((j : Int) + 1) := IntWalk.i64_in _ (by omega)
              have hs1 : IntKind.i64.wrap ((Z i j : Int) + 1) = (Z i j : Int) + 1 := IntWalk.i64_in _ (by omega)
              have hs2 : IntKind.i64.wrap ((Z i (j + 1) : Int) + 1) = (Z i (j + 1) : Int) + 1 := IntWalk.i64_in _ (by omega)
              have hs3 : IntKind.i64.wrap ((Z (i + 1) j : Int) + 1) = (Z (i + 1) j : Int) + 1 := IntWalk.i64_in _ (by omega)
              have hst := HZS.out i j
              rw [HE.out i j (by omega) (by omega)] at hst
              clear s1 s2
              by_cases hxy : xs[i] = ys[j]
              · rw [if_pos (decide_eq_true hxy)] at hst
                simp only [decide_eq_true hxy] at H0
                have H := Lib.hid H0
                have HN := Lib.hid (And.intro hst hn)
                clear hxy H0 hst hn
                go_wp2
                all_goals
                  go_quiet ((go_at_call 37; first | exact Calls.quiet_of (H.out _) | exact quiet_add (H.out _)))
                all_goals
                  go_wp2_with (at_builtin; refine wpList_push3 (P := Try.prog) _ rfl _ _ 40 rfl w.heap.size 3 Try.underlying40 infoInt _ _ rfl (HCUR.out.drewN nq) _ (by constructor <;> omega) 1 rfl (by rw [rowL_len]; omega) hbb ?_)
                all_goals
                  intro v' w2 hown2 hg2 hv2
                  obtain ⟨g9, n9, cap9, rfl⟩ : ∃ g n c, v' = Value.slice (some ⟨g, 0, none⟩) n c := by
                    obtain ⟨g, c, h, _⟩ := own_int_cell hown2 (by simp)
                    exact ⟨g, _, c, h⟩
                  have hs1 := HG1.out nq w2 hg2
                  have hs2 := HG2.out nq w2 hg2
                  go_wp2
                  go_roundw
                  case rel => exact ⟨j + 1 + 1, _, by omega, by go_num, (HRT.out.drewN nq).push rfl hown2 (by have h9 := HN.out; omega) hbb (by rw [HCU.out]; exact hg2) (by rw [HCU.out]; exact hv2)⟩
                  case measure => simp [intOf] <;> omega
              · rw [if_neg (by simp [hxy])] at hst
                simp only [decide_eq_false hxy] at H0
                have H := Lib.hid H0
                have HN := Lib.hid (And.intro hst hn)
                clear hxy H0 hst hn
                go_wp2
                all_goals
                  go_quiet ((go_at_call 37; first | exact Calls.quiet_of (H.out _) | exact quiet_add (H.out _)))
                all_goals
                  go_wp2_with (at_builtin; refine wpList_push3 (P := Try.prog) _ rfl _ _ 40 rfl w.heap.size 3 Try.underlying40 infoInt _ _ rfl (HCUR.out.drewN nq) _ (by constructor <;> omega) 1 rfl (by rw [rowL_len]; omega) hbb ?_)
                all_goals
                  intro v' w2 hown2 hg2 hv2
                  obtain ⟨g9, n9, cap9, rfl⟩ : ∃ g n c, v' = Value.slice (some ⟨g, 0, none⟩) n c := by
                    obtain ⟨g, c, h, _⟩ := own_int_cell hown2 (by simp)
                    exact ⟨g, _, c, h⟩
                  have hs1 := HG1.out nq w2 hg2
                  have hs2 := HG2.out nq w2 hg2
                  go_wp2
                  go_roundw
                  case rel => exact ⟨j + 1 + 1, _, by omega, by go_num, (HRT.out.drewN nq).push rfl hown2 (by have h9 := HN.out; omega) hbb (by rw [HCU.out]; exact hg2) (by rw [HCU.out]; exact hv2)⟩
                  case measure => simp [intOf] <;> omega
          · have hdj : decide ((j : Int) ≤ (ys.length : Int)) = false := decide_eq_false (by omega)
            have HRT := Lib.hid hrt
            clear hrt
            go_wp2
            go_roundw
            case rel => exact ⟨i + 1 + 1, rs2, by omega, by go_num, by
              have e : j = ys.length + 1 := by omega
              subst e
              exact HRT.out.full⟩
            case measure => simp [intOf] <;> omega
    · have hd : decide ((k : Int) ≤ (xs.length : Int)) = false := decide_eq_false (by omega)
      have HRO := Lib.hid hro
      clear hro
      go_wp2
      go_ret
      obtain rfl : k = xs.length + 1 := by omega
      exact ⟨_, rfl, HRO.out.tab (by omega), HRO.out.below⟩
end Dif
end Go.Proofs.Ytahdeifoakjccaa
