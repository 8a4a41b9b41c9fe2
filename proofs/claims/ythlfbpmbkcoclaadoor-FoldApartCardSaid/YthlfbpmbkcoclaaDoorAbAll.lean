/-
  Every operation, and a list of them: what they come to abstractly, they come to. Over any program; no condition.
-/
import Derived.Test.YthlfbpmbkcoclaaDoorAbApp
namespace Go.Proofs.YthlfbpmbkcoclaaDoor
open Go.RowKit
namespace Ab
section
variable {P : Program} {te : List (TypeId × TyI)} {cx : Cx} {tm : Tm} {ob : Obs} {nx : Nat} {ρ : Nat → Option Value} {a : Act} {w : World} {ops : Array Oper} {rest : List Oper} {o : Oper} {Q : Exit → Act → World → Prop}

theorem vrK_sound {v : Vr} {K : A → Prop} (h : vrK v K) : v.obl ∧ (v.fact → K v.val) := by
  cases v
  · exact ⟨trivial, fun _ => h⟩
  · exact ⟨h.1, fun _ => h.2⟩
  · exact ⟨trivial, h⟩
  · exact h.elim
theorem opv_wp (hte : TEok P te) {K : Tm → Prop} (h : vrK (opv te ob (look tm) o.op) fun v => put cx.N o.dst v tm K) (hs : StOk cx tm ob nx ρ a w) {next : Act → World → Prop}
    (hn : ∀ tm a w, K tm → StOk cx tm ob nx ρ a w → next a w) : o.wp P a w next Q := by
  obtain ⟨h1, h2⟩ := vrK_sound h
  obtain ⟨hy, hf⟩ := opv_sound hte h1 (fun x _ => hs.look x) hs.obs
  exact wp_yld hs hy (h2 hf) hn

theorem aEff_sound (hte : TEok P te) {K : Tm → Obs → Nat → Prop} (h : aEff te cx.N cx.nx0 o tm ob nx K) (hs : StOk cx tm ob nx ρ a w) {next : Act → World → Prop}
    (hn : ∀ tm ob nx ρ a w, K tm ob nx → StOk cx tm ob nx ρ a w → next a w) : o.wp P a w next Q := by
  obtain ⟨dst, op, ty, pos, after, guard⟩ := o
  unfold aEff at h
  simp only at h
  split at h
  · rename_i t
    split at h
    · rename_i i hi
      have hok := find_ok hte hi
      have hz : repL (okOf cx ρ ob) ρ w (litL i.zero) i.zeroV.cells.toList := by
        rw [hok.zeroCells, litL_eq]
        exact repL_lits _
      obtain ⟨ρ', w', h1, h2, h3⟩ := box_sound hok hs hz
      obtain ⟨tm', h4, h5⟩ := h2.put h h3
      refine wp_value (v := .pointer (some ⟨w.heap.size, 0, none⟩)) (w' := w') ?_ (hn _ _ _ _ _ _ h4 h5)
      unfold execOp
      have h6 : (Instr.alloc t true (.tuple #[])).run P w = .ok (.pointer (some ⟨w.heap.size, 0, none⟩)) w' := by
        unfold Instr.alloc
        simp only [Sem.run_bind, hok.zeroValue, Result.andThen_ok]
        simpa using h1
      simp only [Sem.run_bind, h6, Result.andThen_ok, Sem.run_pure]
    · exact h.elim
  · rename_i t x
    split at h
    · rename_i i cs hi hcs
      have hok := find_ok hte hi
      split at h
      · rename_i hsz hsure
        have hv := cells_of hs hcs hsure
        obtain ⟨ρ', w', h1, h2, h3⟩ := box_sound hok hs hv
        obtain ⟨tm', h4, h5⟩ := h2.put h h3
        refine wp_value (v := .pointer (some ⟨w.heap.size, 0, none⟩)) (w' := w') ?_ (hn _ _ _ _ _ _ h4 h5)
        unfold execOp
        have h6 : (Instr.box t (a.eval x)).run P w = .ok (.pointer (some ⟨w.heap.size, 0, none⟩)) w' := h1
        simp only [Sem.run_bind, h6, Result.andThen_ok, Sem.run_pure]
      · exact h.elim
    · exact h.elim
  · rename_i t d x
    split at h
    · rename_i i id off hi hd
      have hok := find_ok hte hi
      have hdr := hs.look d
      rw [hd] at hdr
      obtain ⟨b, hρ, hde⟩ := hdr
      split at h
      · rename_i T cs ns hg hns
        split at h
        · rename_i hsz hle hsure
          have hsz := Nat.eq_of_beq_eq_true hsz
          have hle := Nat.le_of_ble_eq_true hle
          simp only [lenC_eq] at hsz hle
          have hv := cells_of hs hns hsure
          obtain ⟨w', h1, h2⟩ := store_own hok hs hρ hg hv hsure hsz hle
          obtain ⟨tm', h4, h5⟩ := h2.put h (u := undef) trivial
          unfold Oper.wp execOp
          simp only [Sem.run_bind, hde, h1, Result.andThen_ok, Sem.run_pure]
          exact hn _ _ _ _ _ _ h4 h5
        · exact h.elim
      · exact h.elim
    · rename_i i id k n hi hd
      have hok := find_ok hte hi
      have hdr := hs.look d
      rw [hd] at hdr
      obtain ⟨b, m, cap, hρ, hde⟩ := hdr
      obtain ⟨tm1, ob1, hf, hs1⟩ := frz_sound h hs
      clear h
      revert hf
      intro h
      split at h
      · rename_i β E R xs ns hg hns
        split at h
        · rename_i y hsz hnn hsure hy
          have hsz := Nat.eq_of_beq_eq_true hsz
          have hnn := Nat.eq_of_beq_eq_true hnn
          simp only [lenC_eq] at hsz
          subst hnn
          have hv := cells_of hs1 hns hsure
          obtain ⟨w', h1, h2⟩ := store_vel hok hs1 hρ hg hv hsure hsz hy h.1
          obtain ⟨tm', h4, h5⟩ := h2.put h.2 (u := undef) trivial
          unfold Oper.wp execOp
          simp only [Sem.run_bind, hde, h1, Result.andThen_ok, Sem.run_pure]
          exact hn _ _ _ _ _ _ h4 h5
        · exact h.elim
      · exact h.elim
    · exact h.elim
  · rename_i t n ps
    obtain ⟨tm1, ob1, h, hs1⟩ := frz_sound h hs
    split at h
    · rename_i β R xs e he
      have hr := lks_rep (ok := okOf cx ρ ob1) (ρ := ρ) (w := w) (lk := look tm1) (ev := a.eval) (ps := ps.toList) (fun p _ => hs1.look p.2)
      obtain ⟨_, _, hlim, css, h1, h2, h3⟩ := vElems_sound hte he hr
      obtain ⟨ρ', h4, h5⟩ := new_vec (E := e) (R := R) (xs := xs) hs1 (below_alloc w _) (fun b hb => by cases hb; exact ⟨Nat.le_refl _, by simp⟩) ⟨_, _, _, rfl⟩
        (fun ok' hk => vecOk_new h1 h2 hk (small_max R.n_pos hlim) (heap_new w _))
      obtain ⟨tm', h6, h7⟩ := h4.put h h5
      refine wp_value (w' := w.alloc (.cells css.flatten.toArray e)) ?_ (hn _ _ _ _ _ _ h6 h7)
      unfold execOp
      have e1 : (ps.map fun (i, x) => (i, a.eval x)) = (ps.toList.map fun p => (p.1, a.eval p.2)).toArray := by
        apply Array.toList_inj.1
        simp
      simp only [e1, Sem.run_bind, h3, Result.andThen_ok, Sem.run_pure]
    · exact h.elim
  · exact h.elim

theorem aop_sound (hte : TEok P te) {K : Tm → Obs → Nat → Prop} (h : aop P te cx.N cx.nx0 o tm ob nx K) (hs : StOk cx tm ob nx ρ a w) {next : Act → World → Prop}
    (hn : ∀ tm ob nx ρ a w, K tm ob nx → StOk cx tm ob nx ρ a w → next a w) : o.wp P a w next Q := by
  unfold aop at h
  split at h
  · rename_i args ts hop
    split at h
    · rename_i s x t t' hargs hts
      split at h
      · rename_i hb
        exact aApp_sound hte h hs (fun v w' hrun hnx => wp_value (run_append_op hop hargs hts hb hrun) hnx) hn
      · exact aAppS_sound hte h hs (fun v w' hrun hnx => wp_value (run_appendS_op hop hargs hts hrun) hnx) hn
    · exact h.elim
  · rename_i f args ts hop
    rcases h with h | h
    · obtain ⟨tm1, ob1, h, hs1⟩ := frz_sound h hs
      unfold callK at h
      split at h
      · rename_i g caps ht
        obtain ⟨hcl, r, hc, hk⟩ := h
        refine call_sound hs1 hop (fun x _ => hs1.look x) ht hcl hc (fun u w' hs' hr => ?_)
        obtain ⟨tm', h1, h2⟩ := hs'.put hk hr
        exact hn _ _ _ _ _ _ h1 h2
      · exact h.elim
    · obtain ⟨F, h⟩ := h
      obtain ⟨tm1, ob1, h, hs1⟩ := frz_sound h hs
      split at h
      · rename_i g caps ht
        obtain ⟨L, as, obc, r, obc', m', hc, he, hl, hd, hk⟩ := h
        obtain ⟨cs, hf, hcs⟩ := tgt_rep ht (hs1.look f)
        unfold Oper.wp
        rw [run_static hop hf hc.1]
        have hargs := appA_rep (mapL_rep (w := w) (lk := look tm1) (xs := args.toList) (fun x _ => hs1.look x)) hcs
        rw [← he] at hargs
        refine (lend_sound hs1 hc hargs hl hd).mono ?_
        rintro e w' ⟨u, ρ', rfl, hs2, hr⟩
        obtain ⟨tm', h1, h2⟩ := hs2.put hk hr
        exact hn _ _ _ _ _ _ h1 h2
      · exact h.elim
  · exact aEff_sound hte h hs hn
  · exact aEff_sound hte h hs hn
  · exact aEff_sound hte h hs hn
  · exact aEff_sound hte h hs hn
  · exact opv_wp hte h hs (fun tm a w hk hs => hn _ _ _ _ _ _ hk hs)

theorem wereL_sound : ∀ {xs : List Operand}, wereL tm xs → ∀ x ∈ xs, (look tm x).were
  | [], _, _, hx => by cases hx
  | y :: xs, h, x, hx => by
    unfold wereL at h
    split at h
    · rename_i e
      rcases List.mem_cons.1 hx with hx | hx
      · subst hx; rw [e]; exact h.1
      · exact wereL_sound h.2 x hx
    · rename_i hne
      rcases List.mem_cons.1 hx with hx | hx
      · subst hx
        cases e : look tm x with
        | cond b c => exact absurd e (hne b c)
        | _ => trivial
      · exact wereL_sound h x hx

/-- An operation under a guard. -/
theorem aopG_sound (hte : TEok P te) {q : Bool} {K : Tm → Prop} (h : aopG P te cx.N o q tm ob K) (hs : StOk cx tm ob nx ρ a w) {next : Act → World → Prop}
    (hn : ∀ tm a w, K tm → StOk cx tm ob nx ρ a w → next a w) : (q = true → o.wp P a w next Q) ∧ (q = false → next (a.put o.dst undef) w) := by
  have skip : ∀ {v : A}, put cx.N o.dst (.cond q v) tm K → q = false → next (a.put o.dst undef) w := by
    intro v hp hq
    obtain ⟨tm', h1, h2⟩ := hs.put hp (u := undef) ⟨fun e => by (rw [hq] at e; cases e), fun _ => rfl⟩
    exact hn _ _ _ h1 h2
  unfold aopG at h
  split at h
  · rename_i f args ts hop
    split at h
    · rename_i g caps ht
      obtain ⟨hcl, r, hc, hp⟩ := h
      refine ⟨fun hq => ?_, skip hp⟩
      obtain ⟨hw, hc⟩ := hc hq
      refine call_sound (lk := bareLk tm) hs hop (fun x hx => A.bare_rep (wereL_sound hw x hx) (hs.look x)) ht hcl hc (fun u w' hs' hr => ?_)
      obtain ⟨tm', h1, h2⟩ := hs'.put hp (u := u) ⟨fun _ => hr, fun e => by rw [hq] at e; cases e⟩
      exact hn _ _ _ h1 h2
    · exact h.elim
  · rename_i c x y hop
    have yes : ∀ {v : Vr}, v = vPick (bareLk tm c) (look tm x) (look tm y) → v.obl → wereL tm [c] → q = true → put cx.N o.dst (.cond q v.val) tm K → o.wp P a w next Q := by
      intro v hv ho hw hq hp
      subst hv
      have hpk := vPick_sound (P := P) ho (A.bare_rep (wereL_sound hw c (by simp)) (hs.look c)) (hs.look x) (hs.look y)
      obtain ⟨⟨u, w', h1, h2, h3⟩, _⟩ := Yld.of (o := o) (ev := a.eval) (by
        unfold execOp
        simp only [hop, bind_assoc]
        congr 1
        funext p
        cases p <;> rfl) hpk
      exact wp_yld (v := .cond q (vPick (bareLk tm c) (look tm x) (look tm y)).val) hs ⟨u, w', h1, h2, fun _ => h3, fun e => by rw [hq] at e; cases e⟩ hp hn
    split at h
    · rename_i v e
      exact ⟨fun hq => yes (v := .ok v) e.symm trivial (h.1 hq) hq h.2, skip h.2⟩
    · rename_i p v e
      exact ⟨fun hq => yes (v := .need p v) e.symm (h.1 hq).2 (h.1 hq).1 hq h.2, skip h.2⟩
    · exact h.elim
  · have yes : ∀ {v : Vr}, v = opv te ob (bareLk tm) o.op → v.obl → wereL tm o.op.operands.toList → q = true → put cx.N o.dst (.cond q v.val) tm K → o.wp P a w next Q := by
      intro v hv ho hw hq hp
      subst hv
      obtain ⟨⟨u, w', h1, h2, h3⟩, _⟩ := opv_sound hte ho (fun x hx => A.bare_rep (wereL_sound hw x hx) (hs.look x)) hs.obs
      exact wp_yld (v := .cond q (opv te ob (bareLk tm) o.op).val) hs ⟨u, w', h1, h2, fun _ => h3, fun e => by rw [hq] at e; cases e⟩ hp hn
    split at h
    · rename_i v e
      exact ⟨fun hq => yes (v := .ok v) e.symm trivial (h.1 hq) hq h.2, skip h.2⟩
    · rename_i p v e
      exact ⟨fun hq => yes (v := .need p v) e.symm (h.1 hq).2 (h.1 hq).1 hq h.2, skip h.2⟩
    · rename_i p v e
      exact ⟨fun hq => yes (v := .know p v) e.symm trivial (h.1 hq) hq h.2, skip h.2⟩
    · exact h.elim

theorem dstAt_eq : ∀ {l : List Oper} {j d : Nat}, dstAt l j = some d → ∃ o, l[j]? = some o ∧ o.dst = some d
  | [], _, _, h => by cases h
  | o :: _, 0, _, h => ⟨o, rfl, h⟩
  | _ :: r, n + 1, _, h => by
    obtain ⟨o, h1, h2⟩ := dstAt_eq (l := r) h
    exact ⟨o, by simpa using h1, h2⟩
theorem wanted_at (hs : StOk cx tm ob nx ρ a w) {j d : Nat} {want b : Bool} (hg : o.guard = some (j, want)) (hd : dstAt ops.toList j = some d) (hlt : Nat.ble (d + 1) cx.N = true) (hb : get tm d = .one (.lit (.bool b))) :
    Region.wanted o (yielded ops a.tmps) = gq want b := by
  obtain ⟨og, h1, h2⟩ := dstAt_eq hd
  have h1' : ops[j]? = some og := by simpa using h1
  have hr := hs.tms d
  rw [hb] at hr
  have hr : a.tmps.getD d undef = .bool b := hr
  have hlt' : d < a.tmps.size := by rw [hs.size]; exact Nat.lt_of_succ_le (Nat.le_of_ble_eq_true hlt)
  have hv : a.tmps[d]? = some (.bool b) := by
    rw [← hr, Array.getD_eq_getD_getElem?, Array.getElem?_eq_getElem hlt']
    rfl
  have hy : yielded ops a.tmps j = some b := by
    unfold yielded
    rw [h1']
    simp only [Option.bind_some, h2, hv]
  unfold Region.wanted
  rw [hg]
  simp only [hy]
  cases want <;> cases b <;> rfl

theorem wanted_at' (hs : StOk cx tm ob nx ρ a w) {j d : Nat} {want b p : Bool} (hg : o.guard = some (j, want)) (hd : dstAt ops.toList j = some d) (hlt : Nat.ble (d + 1) cx.N = true) (hb : get tm d = .cond p (.one (.lit (.bool b)))) :
    Region.wanted o (yielded ops a.tmps) = (p && gq want b) := by
  obtain ⟨og, h1, h2⟩ := dstAt_eq hd
  have h1' : ops[j]? = some og := by simpa using h1
  have hr := hs.tms d
  rw [hb] at hr
  have hlt' : d < a.tmps.size := by rw [hs.size]; exact Nat.lt_of_succ_le (Nat.le_of_ble_eq_true hlt)
  have hv : a.tmps[d]? = some (a.tmps.getD d undef) := by
    rw [Array.getD_eq_getD_getElem?, Array.getElem?_eq_getElem hlt']
    rfl
  unfold Region.wanted yielded
  rw [hg]
  simp only [h1', Option.bind_some, h2, hv]
  cases p with
  | true =>
    rw [show a.tmps.getD d undef = .bool b from hr.1 rfl]
    cases want <;> cases b <;> rfl
  | false =>
    rw [hr.2 rfl]
    rfl

theorem awp_sound (hte : TEok P te) (ops : Array Oper) : ∀ (l : List Oper) {tm : Tm} {ob : Obs} {nx : Nat} {K : Tm → Obs → Nat → Prop}, awp P te cx.N cx.nx0 ops.toList l tm ob nx K →
    ∀ {ρ : Nat → Option Value} {a : Act} {w : World}, StOk cx tm ob nx ρ a w → ∀ {Q : Exit → Act → World → Prop}, (∀ tm ob nx ρ a w, K tm ob nx → StOk cx tm ob nx ρ a w → Q .normal a w) → wpList P ops Q l a w
  | [], _, _, _, _, h, _, _, _, hs, _, hQ => hQ _ _ _ _ _ _ h hs
  | o :: l, tm, ob, nx, K, h, ρ, a, w, hs, Q, hQ => by
    unfold awp at h
    split at h
    · rename_i hg
      exact wpList_of hg (aop_sound hte h hs (fun tm ob nx ρ a w hk hs => awp_sound hte ops l hk hs hQ))
    · rename_i j want hg
      split at h
      · rename_i d hd
        split at h
        · rename_i b hlt hb
          have hw := wanted_at hs hg hd hlt hb
          obtain ⟨h1, h2⟩ := aopG_sound (Q := Q) (next := wpList P ops Q l) hte h hs (fun tm a w hk hs => awp_sound hte ops l hk hs hQ)
          unfold wpList
          rw [hw]
          split
          · rename_i e; exact .inl (h1 e)
          · rename_i e; exact h2 (by simpa using e)
        · rename_i p b hlt hb
          have hw := wanted_at' hs hg hd hlt hb
          obtain ⟨h1, h2⟩ := aopG_sound (Q := Q) (next := wpList P ops Q l) hte h hs (fun tm a w hk hs => awp_sound hte ops l hk hs hQ)
          unfold wpList
          rw [hw]
          split
          · rename_i e; exact .inl (h1 e)
          · rename_i e; exact h2 (by simpa using e)
        · exact h.elim
      · exact h.elim
end
end Ab
end Go.Proofs.YthlfbpmbkcoclaaDoor
