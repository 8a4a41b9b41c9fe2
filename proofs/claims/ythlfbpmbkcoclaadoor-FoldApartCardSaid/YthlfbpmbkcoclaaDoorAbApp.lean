/-
  append, abstractly; then every operation, and a list of them. Over any program; no condition.
-/
import Derived.Test.YthlfbpmbkcoclaaDoorAbSound
import Derived.Lib.AppendStr
namespace Go.Proofs.YthlfbpmbkcoclaaDoor
open Go.RowKit
namespace Ab
section
variable {P : Program} {te : List (TypeId × TyI)} {cx : Cx} {tm : Tm} {ob : Obs} {nx : Nat} {ρ : Nat → Option Value} {a : Act} {w : World} {ops : Array Oper} {rest : List Oper} {o : Oper} {Q : Exit → Act → World → Prop}

theorem slOk_src {α : Type} {S : Rd α} {ok : Nat → Prop} {u : Value} {ys : List α} (h : SlOk S.n (fun cs x => S.is ok w cs x) ok w u ys) :
    ∃ a cap, ∃ css : List (List Value), u = .slice a ys.length cap ∧ ys.length ≤ maxLen ∧ css.length = ys.length ∧ (∀ i (h : i < ys.length), S.is ok w (css.getD i []) ys[i]) ∧ (0 < ys.length → ∃ ad, a = some ad ∧ ∀ j v, css.flatten[j]? = some v → w.cell? (ad.add j) = some v) := by
  obtain ⟨a, cap, hv, h1, h2, hc⟩ := h
  have key : ∀ i (h : i < ys.length), ∃ cs, S.is ok w cs ys[i] ∧ ∃ b off, a = some ⟨b, off, none⟩ ∧ CellsAt w b (off + i * S.n) S.n cs := by
    intro i hi
    obtain ⟨b, off, cs, ha, _, _, hcell, hr⟩ := hc i hi
    exact ⟨cs, hr, b, off, ha, hcell⟩
  let f : Nat → List Value := fun i => if h : i < ys.length then Classical.choose (key i h) else []
  have hf : ∀ i (h : i < ys.length), S.is ok w (f i) ys[i] ∧ ∃ b off, a = some ⟨b, off, none⟩ ∧ CellsAt w b (off + i * S.n) S.n (f i) := by
    intro i hi
    have := Classical.choose_spec (key i hi)
    simp only [f, dif_pos hi]
    exact this
  have hget : ∀ i, i < ys.length → ((List.range ys.length).map f).getD i [] = f i := by
    intro i hi
    simp [List.getD, hi]
  refine ⟨a, cap, (List.range ys.length).map f, hv, Nat.le_trans h1 h2, by simp, fun i hi => by rw [hget i hi]; exact (hf i hi).1, fun hpos => ?_⟩
  obtain ⟨_, b, off, ha, _⟩ := hf 0 hpos
  refine ⟨⟨b, off, none⟩, ha, fun j v hj => ?_⟩
  have hlens : ∀ c ∈ (List.range ys.length).map f, c.length = S.n := by
    intro c hc
    obtain ⟨i, hi, rfl⟩ := List.mem_map.1 hc
    exact S.len (hf i (by simpa using hi)).1
  have hjl : j < ys.length * S.n := by
    have := (List.getElem?_eq_some_iff.1 hj).1
    rw [flatten_len _ hlens] at this
    simpa using this
  have hn := S.n_pos
  have hi : j / S.n < ys.length := Nat.div_lt_of_lt_mul (by rw [Nat.mul_comm]; exact hjl)
  have hr : j % S.n < S.n := Nat.mod_lt _ hn
  have hjr : j / S.n * S.n + j % S.n = j := by rw [Nat.mul_comm]; exact Nat.div_add_mod j S.n
  have hfa := flatten_at ((List.range ys.length).map f) (j / S.n) (j % S.n) hlens (by simpa using hi) hr
  rw [hjr, hj, hget _ hi] at hfa
  obtain ⟨_, b', off', ha', hcell⟩ := hf (j / S.n) hi
  rw [ha] at ha'
  cases ha'
  rw [Go.WideShapes.add_plain, hfa, ← hcell.2 _ hr]
  congr 2
  omega

theorem srcOf_sound (hs : StOk cx tm ob nx ρ a w) {x : A} {u : Value} {α : Type} {S : Rd α} {ys : List α} (h : srcOf ob x = some ⟨α, S, ys⟩) (hx : x.rep (okOf cx ρ ob) ρ w u) :
    ∃ a cap, ∃ css : List (List Value), u = .slice a ys.length cap ∧ ys.length ≤ maxLen ∧ css.length = ys.length ∧ (∀ i (h : i < ys.length), S.is (okOf cx ρ ob) w (css.getD i []) ys[i]) ∧ (0 < ys.length → ∃ ad, a = some ad ∧ ∀ j v, css.flatten[j]? = some v → w.cell? (ad.add j) = some v) := by
  unfold srcOf at h
  split at h
  · cases h; exact slOk_src hx
  · cases h; exact slOk_src hx.1
  · split at h
    · rename_i hg
      cases h
      obtain ⟨v, hv, css, h1, h2, h3⟩ : ∃ v, ρ _ = some v ∧ VecOk (okOf cx ρ ob) w v _ _ _ := hs.obs _ (mem_getO hg)
      have hxv : ρ _ = some u := hx.1
      rw [hv] at hxv
      obtain rfl := Option.some.inj hxv
      rcases h3.2 with ⟨rfl, h0⟩ | ⟨g, cap, cur, rfl, _, hgh, hnc, hcm, _⟩
      · refine ⟨none, 0, css, by rw [h0], by rw [h0]; exact Nat.zero_le _, h1, h2, fun hp => by omega⟩
      · exact ⟨_, cap, css, rfl, Nat.le_trans hnc hcm, h1, h2, fun _ => ⟨_, rfl, fun j v hj => h3.cells rfl j v hj⟩⟩
    · cases h
  · cases h

theorem css_ones {α : Type} {S : Rd α} {ok : Nat → Prop} {ys : List α} {css : List (List Value)} (h1 : css.length = ys.length) (h2 : ∀ i (h : i < ys.length), S.is ok w (css.getD i []) ys[i]) : ∀ v ∈ css.flatten, v.oneCell' = true := by
  intro v hv
  obtain ⟨c, hc, hvc⟩ := List.mem_flatten.1 hv
  obtain ⟨j, hj, rfl⟩ := List.mem_iff_getElem.1 hc
  have := S.ones (h2 j (by omega)) v
  simp only [List.getD, List.getElem?_eq_getElem hj, Option.getD_some] at this
  exact this hvc
theorem getD_append {css dss : List (List Value)} (i : Nat) : (css ++ dss).getD i [] = if i < css.length then css.getD i [] else dss.getD (i - css.length) [] := by
  simp only [List.getD, List.getElem?_append]
  split <;> rfl

theorem isNil_rep {x : A} {u : Value} {ok : Nat → Prop} (h : isNil x = true) (hx : x.rep ok ρ w u) : u = .slice none 0 0 := by
  unfold isNil at h
  split at h
  · exact hx
  · cases h

theorem run_append_op {s x : Operand} {t t' : TypeId} {args : Array Operand} {ts : Array TypeId} (hop : o.op = .call { callee := .builtin .append, args := args, argTypes := ts }) (ha : args.toList = [s, x]) (ht : ts.toList = [t, t']) (hb : Nat.beq t t' = true) {v : Value} {w' : World}
    (h : (Builtin.append_ #[t, t] o.type #[a.eval s, a.eval x]).run P w = .ok v w') : (execOp a.eval o).run P w = .ok (.value v) w' := by
  have e1 : args = #[s, x] := by apply Array.toList_inj.1; rw [ha]
  have e2 : ts = #[t, t'] := by apply Array.toList_inj.1; rw [ht]
  have e3 := Nat.eq_of_beq_eq_true hb
  subst e1 e2 e3
  unfold execOp
  simp only [hop, resolve, invoke, builtin, Sem.run_bind, Sem.run_pure, Result.andThen_ok, List.map_toArray, List.map_cons, List.map_nil, h]

theorem wp_value {v : Value} {w' : World} {next : Act → World → Prop} (h : (execOp a.eval o).run P w = .ok (.value v) w') (hn : next (a.put o.dst v) w') : o.wp P a w next Q := by
  unfold Oper.wp
  rw [h]
  exact hn

theorem aApp_sound (hte : TEok P te) {s x : Operand} {t : TypeId} {K : Tm → Obs → Nat → Prop} (h : aApp te cx.N o.dst s x t tm ob nx K) (hs : StOk cx tm ob nx ρ a w)
    {next : Act → World → Prop} (hrun : ∀ v w', (Builtin.append_ #[t, t] o.type #[a.eval s, a.eval x]).run P w = .ok v w' → next (a.put o.dst v) w' → o.wp P a w next Q)
    (hn : ∀ tm ob nx ρ a w, K tm ob nx → StOk cx tm ob nx ρ a w → next a w) : o.wp P a w next Q := by
  unfold aApp at h
  split at h
  · rename_i ti hti
    have hk := (find_ok hte hti).kind
    split at h
    · rename_i e hek
      rw [hek] at hk
      have hu : P.underlying t = some (.slice e) := hk
      split at h
      · rename_i ei hei
        have hei := find_ok hte hei
        split at h
        · exact h.elim
        · rename_i hb1
          have hb1 := Nat.le_of_ble_eq_true hb1
          split at h
          · rename_i hnil
            have es := isNil_rep hnil (hs.look s)
            split at h
            · rename_i β R hrd
              have hRn := hei.rdn _ _ hrd
              have hpos : 0 < ei.size := by rw [← hRn]; exact R.n_pos
              have made0 : ∀ {w' : World}, w' = w → put cx.N o.dst (.one (.vec nx)) tm (fun tm => K tm ((nx, .vec e R []) :: ob) (nx + 1)) → next (a.put o.dst (.slice none 0 0)) w' := by
                intro w' hw hp
                subst hw
                obtain ⟨ρ', h1, h2⟩ := new_vec (E := e) (R := R) (xs := []) (v := .slice none 0 0) hs (Below.refl _ _) (fun b hb => by cases hb) ⟨_, _, _, rfl⟩ (fun ok' _ => ⟨[], rfl, fun i hi => absurd hi (by simp), World.ownsRow_nil _ _ _ _⟩)
                obtain ⟨tm', h3, h4⟩ := h1.put hp h2
                exact hn _ _ _ _ _ _ h3 h4
              split at h
              · rename_i hxn
                have ex := isNil_rep hxn (hs.look x)
                refine hrun (.slice none 0 0) w ?_ (made0 rfl h)
                rw [es, ex]
                exact run_app0 hu hei _ _ _ _ _ (Nat.le_refl _)
              · split at h
                · rename_i γ S ys hsrc
                  split at h
                  · rename_i hh _
                    obtain ⟨hby, hp⟩ := h
                    obtain ⟨ad, cap, css, hux, hmx, h1, h2, h3⟩ := srcOf_sound hs hsrc (hs.look x)
                    cases hh.down
                    rw [Rd.move_rfl] at hp
                    by_cases hy : ys.length = 0
                    · have hy0 : ys = [] := List.length_eq_zero_iff.1 hy
                      subst hy0
                      refine hrun (.slice none 0 0) w ?_ (made0 rfl hp)
                      rw [es, hux]
                      exact run_app0 hu hei _ _ _ _ _ (Nat.le_refl _)
                    · obtain ⟨ad', rfl, hcells⟩ := h3 (by omega)
                      have hfs := flatten_len css (css_lens h1 h2)
                      obtain ⟨v', w', r1, r2, r3, r4, r5⟩ := run_app (P := P) (ty := o.type) hu hei hpos (World.ownsRow_nil w 0 e ei.size) (ad := ad') (m := ys.length) (c := cap) (news := css.flatten) (by rw [hfs, h1, hRn]) hcells (css_ones h1 h2) (by omega) (by omega) (by rw [Nat.zero_add]; exact hby)
                      rw [Nat.zero_add, List.nil_append] at r2
                      have hbw : Below w.heap.size w w' := ⟨r3.os, r3.tape, r3.output, r3.size, fun k hk => r3.block k hk (by simp [blk])⟩
                      obtain ⟨ρ', h4, h5⟩ := new_vec (E := e) (R := R) (xs := ys) (v := v') hs hbw (fun b hb => by rcases r4 b hb with h | h; cases h; exact h) r5 (fun ok' hk' => ⟨css, h1, fun i hi => R.kept hk' (h2 i hi), by rw [hRn]; exact r2⟩)
                      obtain ⟨tm', h6, h7⟩ := h4.put hp h5
                      exact hrun v' w' (by rw [es, hux]; exact r1) (hn _ _ _ _ _ _ h6 h7)
                  · exact h.elim
                · exact h.elim
            · exact h.elim
          · split at h
            · rename_i id hsv
              have hsr := hs.look s
              rw [hsv] at hsr
              split at h
              · rename_i β E R xs hg
                split at h
                · rename_i hE hRn
                  have hE := Nat.eq_of_beq_eq_true hE
                  have hRn := Nat.eq_of_beq_eq_true hRn
                  subst hE
                  have hpos : 0 < ei.size := by rw [← hRn]; exact R.n_pos
                  obtain ⟨v, hv, css, h1, h2, h3⟩ : ∃ v, ρ id = some v ∧ VecOk (okOf cx ρ ob) w v E R xs := hs.obs _ (mem_getO hg)
                  have hse : ρ id = some (a.eval s) := hsr.1
                  rw [hv] at hse
                  have hse := Option.some.inj hse
                  obtain ⟨sa, sn, sc, hsl⟩ := hsr.2
                  have hsn : sn = xs.length ∧ sn ≤ sc := by
                    rcases h3.2 with ⟨h0, h00⟩ | ⟨g, cap, cur, h0, _, _, hnc, _⟩
                    · rw [← hse, h0] at hsl; cases hsl; exact ⟨h00.symm, Nat.le_refl _⟩
                    · rw [← hse, h0] at hsl; cases hsl; exact ⟨rfl, hnc⟩
                  split at h
                  · rename_i hxn
                    have ex := isNil_rep hxn (hs.look x)
                    obtain ⟨tm', h4, h5⟩ := hs.put h hsr
                    refine hrun (a.eval s) w ?_ (hn _ _ _ _ _ _ h4 h5)
                    rw [ex, hsl]
                    exact run_app0 hu hei _ _ _ _ _ hsn.2
                  · split at h
                    · rename_i γ S ys hsrc
                      split at h
                      · rename_i hh _
                        obtain ⟨hby, hp⟩ := h
                        obtain ⟨ad, cap, dss, hux, hmx, g1, g2, g3⟩ := srcOf_sound hs hsrc (hs.look x)
                        cases hh.down
                        rw [Rd.move_rfl] at hp
                        by_cases hy : ys.length = 0
                        · have hy0 : ys = [] := List.length_eq_zero_iff.1 hy
                          subst hy0
                          have hsame := hs.swap (o' := .vec E R (xs ++ [])) hg (w' := w) (v' := v) ⟨rfl, rfl, rfl, Nat.le_refl _, fun _ _ _ => rfl⟩ (fun b hb => .inl (by rw [hv]; exact hb)) (by
                            refine ⟨v, upd_same, css, by simpa using h1, ?_, by simpa using h3⟩
                            intro i hi
                            have hi' : i < xs.length := by simpa using hi
                            have hkp := okOf_swap (o' := .vec E R (xs ++ [])) hs hg (w' := w) (v' := v) ⟨rfl, rfl, rfl, Nat.le_refl _, fun _ _ _ => rfl⟩ (fun b hb => .inl (by rw [hv]; exact hb))
                            simpa using R.kept hkp (h2 i hi'))
                          obtain ⟨tm', h4, h5⟩ := hsame.put hp (u := v) ⟨upd_same, by rw [hse]; exact hsr.2⟩
                          refine hrun v w ?_ (hn _ _ _ _ _ _ h4 h5)
                          rw [hux, hse, hsl]
                          exact run_app0 hu hei _ _ _ _ _ hsn.2
                        · obtain ⟨ad', rfl, hcells⟩ := g3 (by omega)
                          have hfs := flatten_len dss (css_lens g1 g2)
                          have hbig : xs.length + ys.length ≤ maxLen := by
                            have hle : (xs.length + ys.length) * 1 ≤ (xs.length + ys.length) * ei.bytes := Nat.mul_le_mul_left _ hb1
                            unfold maxLen
                            omega
                          rw [hRn] at h3
                          obtain ⟨v', w', r1, r2, r3, r4, r5⟩ := run_app (P := P) (ty := o.type) hu hei hpos h3 (ad := ad') (m := ys.length) (c := cap) (news := dss.flatten) (by rw [hfs, g1, hRn]) hcells (css_ones g1 g2) (by omega) hbig hby
                          have hgr : Grew w w' (blk (ρ id)) := by rw [hv]; exact r3
                          have hbl : ∀ b, blk (some v') = some b → blk (ρ id) = some b ∨ (w.heap.size ≤ b ∧ b < w'.heap.size) := by rw [hv]; exact r4
                          have hkp := okOf_swap (o' := .vec E R (xs ++ ys)) hs hg hgr (fun b hb => (hbl b hb).imp (fun h => h) (·.1))
                          have hsw := hs.swap (o' := .vec E R (xs ++ ys)) hg hgr hbl (by
                            refine ⟨v', upd_same, css ++ dss, by simp [h1, g1], ?_, by rw [hRn, List.length_append, List.flatten_append]; exact r2⟩
                            intro i hi
                            rw [getD_append]
                            by_cases hi' : i < xs.length
                            · rw [if_pos (by omega), List.getElem_append_left hi']
                              exact R.kept hkp (h2 i hi')
                            · rw [if_neg (by omega), List.getElem_append_right (by omega), h1]
                              exact R.kept hkp (g2 (i - xs.length) (by simp at hi; omega)))
                          obtain ⟨tm', h4, h5⟩ := hsw.put hp (u := v') ⟨upd_same, r5⟩
                          exact hrun v' w' (by rw [hux, ← hse]; exact r1) (hn _ _ _ _ _ _ h4 h5)
                      · exact h.elim
                    · exact h.elim
                · exact h.elim
              · exact h.elim
            · exact h.elim
      · exact h.elim
    · exact h.elim
  · exact h.elim

theorem run_appendS_op {s x : Operand} {t t' : TypeId} {args : Array Operand} {ts : Array TypeId} (hop : o.op = .call { callee := .builtin .append, args := args, argTypes := ts }) (ha : args.toList = [s, x]) (ht : ts.toList = [t, t']) {v : Value} {w' : World}
    (h : (Builtin.append_ #[t, t'] o.type #[a.eval s, a.eval x]).run P w = .ok v w') : (execOp a.eval o).run P w = .ok (.value v) w' := by
  have e1 : args = #[s, x] := by apply Array.toList_inj.1; rw [ha]
  have e2 : ts = #[t, t'] := by apply Array.toList_inj.1; rw [ht]
  subst e1 e2
  unfold execOp
  simp only [hop, resolve, invoke, builtin, Sem.run_bind, Sem.run_pure, Result.andThen_ok, List.map_toArray, List.map_cons, List.map_nil, h]

theorem run_appS {t u ty e : TypeId} {f : TypeInfo} (ht : P.underlying t = some (.slice e)) (hu : P.underlying u = some .string) (hf : P.info? e = some f) (hfs : f.size = 1) (hfb : f.bytes = 1) (hfz : f.zero = some (.int .u8 0))
    {v : Value} {n : Nat} {xs : List Value} (hown : w.ownsRow 0 e 1 v n xs) {s : ByteArray} (h63 : n + s.size ≤ maxLen) (hby : n + s.size ≤ 140737488355328) :
    ∃ v' w', (Builtin.append_ #[t, u] ty #[v, .string s]).run P w = .ok v' w' ∧ w'.ownsRow 0 e 1 v' (n + s.size) (xs ++ Lib.strCells s) ∧ Grew w w' (blk (some v)) ∧ (∀ b, blk (some v') = some b → blk (some v) = some b ∨ (w.heap.size ≤ b ∧ b < w'.heap.size)) ∧ ∃ a n c, v' = .slice a n c := by
  have hsmall : n + s.size ≤ 9223372036854775807 := by simp only [maxLen] at h63; omega
  have sl : ∀ {v' : Value} {w' : World} {ys : List Value} {k : Nat} {B : Nat}, w'.ownsRow B e 1 v' k ys → ∃ a n c, v' = .slice a n c := by
    intro v' w' ys k B ho
    rcases ho.2 with ⟨h0, _⟩ | ⟨g, cap, cur, r1, _⟩
    · exact ⟨_, _, _, h0⟩
    · exact ⟨_, _, _, r1⟩
  rcases hown.2 with ⟨rfl, rfl⟩ | ⟨g, cap, cur, rfl, hbg, hg, hnc, hcm, hcs, htake⟩
  · have hx : xs = [] := List.eq_nil_of_length_eq_zero (by rw [hown.1])
    subst hx
    obtain ⟨v', w', r1, r2, r3, _⟩ := Lib.run_append_own_string (P := P) w w.heap.size t u ty e f ht hu hf hfz hfs hfb (.slice none 0 0) 0 [] (World.ownsRow_nil _ _ _ _) s h63 hby (Nat.le_refl _)
    refine ⟨v', w', r1, ⟨r2.1, ?_⟩, ⟨r3.os, r3.tape, r3.output, r3.size, fun k hk _ => r3.block k hk (by simp [Value.ownBlock])⟩, ?_, sl r2⟩
    · rcases r2.2 with h0 | ⟨g, cap, cur, q1, _, q3⟩
      · exact .inl h0
      · exact .inr ⟨g, cap, cur, q1, Nat.zero_le _, q3⟩
    · intro b hb
      rcases r2.2 with ⟨h0, _⟩ | ⟨g, cap, cur, q1, q2, q3, _⟩
      · rw [h0] at hb; cases hb
      · rw [q1] at hb
        cases hb
        exact .inr ⟨q2, (Array.getElem?_eq_some_iff.1 q3).1⟩
  · obtain ⟨v', w', r1, r2, r3, _⟩ := Lib.run_append_own_string (P := P) w 0 t u ty e f ht hu hf hfz hfs hfb _ n xs hown s h63 hby (Nat.zero_le _)
    refine ⟨v', w', r1, r2, ⟨r3.os, r3.tape, r3.output, r3.size, r3.block⟩, ?_, sl r2⟩
    intro b hb
    by_cases hroom : n + s.size ≤ cap
    · have hcs' : cur.size = cap := by simpa using hcs
      have hr := Lib.run_append_room_string (P := P) w t u ty e f ht hu hf hfs g n cap cur hg s hroom (by omega)
      rw [r1] at hr
      injection hr with e1 _
      rw [e1] at hb
      exact .inl hb
    · have hxl : xs.length = n := by simpa using hown.1
      have holds : ∀ j u, xs[j]? = some u → w.cell? ((⟨g, 0, none⟩ : Addr).add j) = some u := hown.cells (g := g) rfl
      have hr := Lib.run_append_grow_string (P := P) w t u ty e f (.int .u8 0) ht hu hf hfz ⟨g, 0, none⟩ n cap xs (by rw [hfs]; simpa using hxl) holds s (by omega) (by omega) (by rw [hfb]; exact growslice_fits (by omega) (by omega))
      rw [r1] at hr
      injection hr with e1 e2
      rw [e1] at hb
      cases hb
      refine .inr ⟨Nat.le_refl _, ?_⟩
      rw [e2]
      simp
theorem flat_ints (s : ByteArray) : (((intsOf s).map fun n => [Value.int .u8 n]).flatten) = Lib.strCells s := by
  unfold intsOf Lib.strCells
  induction s.data.toList with
  | nil => rfl
  | cons b r ih => simp only [List.map_cons, List.flatten_cons, ih]; rfl
theorem intsOf_length (s : ByteArray) : (intsOf s).length = s.size := by
  unfold intsOf
  rw [List.length_map, Array.length_toList]
  rfl

theorem aAppS_sound (hte : TEok P te) {s x : Operand} {t t' : TypeId} {K : Tm → Obs → Nat → Prop} (h : aAppS te cx.N o.dst s x t t' tm ob nx K) (hs : StOk cx tm ob nx ρ a w)
    {next : Act → World → Prop} (hrun : ∀ v w', (Builtin.append_ #[t, t'] o.type #[a.eval s, a.eval x]).run P w = .ok v w' → next (a.put o.dst v) w' → o.wp P a w next Q)
    (hn : ∀ tm ob nx ρ a w, K tm ob nx → StOk cx tm ob nx ρ a w → next a w) : o.wp P a w next Q := by
  unfold aAppS at h
  split at h
  · rename_i ti ui hti hui
    have hk := (find_ok hte hti).kind
    have hk2 := (find_ok hte hui).kind
    split at h
    · rename_i e hek hek2
      rw [hek] at hk
      rw [hek2] at hk2
      have hu : P.underlying t = some (.slice e) := hk
      have hu2 : P.underlying t' = some .string := hk2
      split at h
      · rename_i ei hei
        have hei := find_ok hte hei
        split at h
        · rename_i hik hib hiz
          obtain ⟨f, hf, hfs, hfb, hfz⟩ := hei.info
          have hag : ei.k.agg = false := by rw [hik]; rfl
          rw [hei.size1 hag] at hfs
          rw [hib] at hfb
          have hzv : ei.zeroV = .int .u8 0 := by unfold TyI.zeroV; rw [hag, hiz]; rfl
          rw [hzv] at hfz
          split at h
          · rename_i id b hsv hxv
            have hsr := hs.look s
            rw [hsv] at hsr
            have hxr := hs.look x
            rw [hxv] at hxr
            have hxe : a.eval x = .string b := hxr
            split at h
            · rename_i β E R xs hg
              split at h
              · rename_i hh hE _
                have hE := Nat.eq_of_beq_eq_true hE
                subst hE
                obtain ⟨hby, hp⟩ := h
                cases hh.down
                rw [Rd.move_rfl] at hp
                obtain ⟨v, hv, css, h1, h2, h3⟩ : ∃ v, ρ id = some v ∧ VecOk (okOf cx ρ ob) w v E (.int .u8) xs := hs.obs _ (mem_getO hg)
                have hse : ρ id = some (a.eval s) := hsr.1
                rw [hv] at hse
                have hse := Option.some.inj hse
                have hbig : xs.length + b.size ≤ maxLen := by unfold maxLen; omega
                have h3' : w.ownsRow 0 E 1 v xs.length css.flatten := h3
                obtain ⟨v', w', r1, r2, r3, r4, r5⟩ := run_appS (P := P) (ty := o.type) hu hu2 hf hfs hfb hfz h3' hbig hby
                have hgr : Grew w w' (blk (ρ id)) := by rw [hv]; exact r3
                have hbl : ∀ b, blk (some v') = some b → blk (ρ id) = some b ∨ (w.heap.size ≤ b ∧ b < w'.heap.size) := by rw [hv]; exact r4
                have hkp := okOf_swap (o' := .vec E (.int .u8) (xs ++ intsOf b)) hs hg hgr (fun b hb => (hbl b hb).imp (fun h => h) (·.1))
                have hsw := hs.swap (o' := .vec E (.int .u8) (xs ++ intsOf b)) hg hgr hbl (by
                  refine ⟨v', upd_same, css ++ (intsOf b).map (fun n => [Value.int .u8 n]), by simp [h1], ?_, ?_⟩
                  · intro i hi
                    rw [getD_append]
                    by_cases hi' : i < xs.length
                    · rw [if_pos (by omega), List.getElem_append_left hi']
                      exact Rd.kept (.int .u8) hkp (h2 i hi')
                    · rw [if_neg (by omega), List.getElem_append_right (by omega), h1]
                      have hj : i - xs.length < (intsOf b).length := by simp at hi; omega
                      simp only [List.getD, List.getElem?_map, List.getElem?_eq_getElem hj, Option.map_some, Option.getD_some]
                      rfl
                  · rw [List.length_append, List.flatten_append, flat_ints, intsOf_length]
                    exact r2)
                obtain ⟨tm', h4, h5⟩ := hsw.put hp (u := v') ⟨upd_same, r5⟩
                exact hrun v' w' (by rw [hxe, ← hse]; exact r1) (hn _ _ _ _ _ _ h4 h5)
              · exact h.elim
            · exact h.elim
          · exact h.elim
        · exact h.elim
      · exact h.elim
    · exact h.elim
  · exact h.elim
end
end Ab
end Go.Proofs.YthlfbpmbkcoclaaDoor
