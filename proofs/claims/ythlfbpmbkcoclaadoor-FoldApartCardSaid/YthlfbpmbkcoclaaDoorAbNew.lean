/-
  New blocks, blocks written, slices grown: the states behind them. Over any program; no condition.
-/
import Derived.Test.YthlfbpmbkcoclaaDoorAbEff
namespace Go.Proofs.YthlfbpmbkcoclaaDoor
open Go.RowKit
namespace Ab

def upd (ρ : Nat → Option Value) (id : Nat) (v : Value) : Nat → Option Value := fun i => if i = id then some v else ρ i
theorem upd_same {ρ : Nat → Option Value} {id : Nat} {v : Value} : upd ρ id v id = some v := if_pos rfl
theorem upd_ne {ρ : Nat → Option Value} {id i : Nat} {v : Value} (h : i ≠ id) : upd ρ id v i = ρ i := if_neg h

section
variable {P : Program} {te : List (TypeId × TyI)} {cx : Cx} {tm : Tm} {ob : Obs} {nx : Nat} {ρ ρ' : Nat → Option Value} {a : Act} {w w' : World} {ok ok' : Nat → Prop}

theorem nd_fresh (h : StOk cx tm ob nx ρ a w) : ∀ p ∈ ob, p.1 ≠ nx := fun p hp e => by have := h.fresh p hp; omega
theorem upd_names (h : StOk cx tm ob nx ρ a w) (v : Value) : Names ρ (upd ρ nx v) := by
  intro i u hi
  by_cases e : i = nx
  · subst e
    rw [h.names i (Nat.le_refl _)] at hi
    cases hi
  · rw [upd_ne e]; exact hi

theorem okOf_new (h : StOk cx tm ob nx ρ a w) {v : Value} {o : Ob} (hb : ∀ b, blk (some v) = some b → w.heap.size ≤ b) (hbw : Below w.heap.size w w') :
    Keeps (okOf cx ρ ob) (okOf cx (upd ρ nx v) ((nx, o) :: ob)) w w' := by
  intro b ho hlt
  refine ⟨⟨ho.1, fun p hp e => ?_⟩, hbw.block b hlt⟩
  rcases List.mem_cons.1 hp with hp | hp
  · subst hp
    rw [upd_same] at e
    have := hb b e
    omega
  · rw [upd_ne (nd_fresh h p hp)] at e
    exact ho.2 p hp e

/-- A new block of the call's own. -/
theorem StOk.new (h : StOk cx tm ob nx ρ a w) {v : Value} {o : Ob} (hbw : Below w.heap.size w w') (hb : ∀ b, blk (some v) = some b → w.heap.size ≤ b ∧ b < w'.heap.size)
    (ho : o.is (okOf cx (upd ρ nx v) ((nx, o) :: ob)) (upd ρ nx v) w' nx) : StOk cx tm ((nx, o) :: ob) (nx + 1) (upd ρ nx v) a w' := by
  have hk := okOf_new (o := o) h (fun b e => (hb b e).1) hbw
  have hn := upd_names h v
  refine ⟨h.size, h.defers, fun i => A.kept hk (A.names hn (h.tms i)), ?_, ?_, ?_, ?_, Nat.le_succ_of_le h.nx0, ?_, ?_, h.keep.below hbw, h.disj, fun i hi p e => by rw [upd_ne (Nat.ne_of_lt (Nat.lt_of_lt_of_le hi h.nx0))]; exact h.pin i hi p e, h.glob⟩
  · intro p hp
    rcases List.mem_cons.1 hp with hp | hp
    · subst hp; exact ho
    · have h1 := h.obs p hp
      have hs : (∀ i v', i ≠ nx → ρ i = some v' → upd ρ nx v i = some v') := fun i v' hi e => by rw [upd_ne hi]; exact e
      have hold : ∀ b, blk (ρ p.1) = some b → w'.heap[b]? = w.heap[b]? := fun b hb => hbw.block b (h.low p hp b hb).1
      cases hpo : p.2 with
      | box T cs =>
        rw [hpo] at h1
        obtain ⟨b, vs, h2, h3, h4⟩ := h1
        exact ⟨b, vs, hn _ _ h2, by rw [hold b (by rw [h2]; rfl)]; exact h3, (h4.names hn).kept hk⟩
      | vec E R xs =>
        rw [hpo] at h1
        have := Ob.kept (o := .vec E R xs) hk hold h1
        obtain ⟨u, hu, hv⟩ := this
        exact ⟨u, hn _ _ hu, hv⟩
  · simp only [List.map_cons, List.nodup_cons]
    refine ⟨fun hm => ?_, h.nd⟩
    obtain ⟨p, hp, e⟩ := List.mem_map.1 hm
    exact nd_fresh h p hp e
  · intro p hp
    rcases List.mem_cons.1 hp with hp | hp
    · subst hp; exact Nat.lt_succ_self _
    · exact Nat.lt_succ_of_lt (h.fresh p hp)
  · intro i hi
    rw [upd_ne (by omega)]
    exact h.names i (by omega)
  · intro p hp q hq hne b e1 e2
    rcases List.mem_cons.1 hp with hp | hp
    · subst hp
      rcases List.mem_cons.1 hq with hq | hq
      · subst hq; exact hne rfl
      · rw [upd_same] at e1
        rw [upd_ne (nd_fresh h q hq)] at e2
        have := (hb b e1).1
        have := (h.low q hq b e2).1
        omega
    · rw [upd_ne (nd_fresh h p hp)] at e1
      rcases List.mem_cons.1 hq with hq | hq
      · subst hq
        rw [upd_same] at e2
        have := (hb b e2).1
        have := (h.low p hp b e1).1
        omega
      · rw [upd_ne (nd_fresh h q hq)] at e2
        exact h.sep p hp q hq hne b e1 e2
  · intro p hp b e
    rcases List.mem_cons.1 hp with hp | hp
    · subst hp
      rw [upd_same] at e
      exact ⟨(hb b e).2, .inl (Nat.le_trans h.keep.size (hb b e).1)⟩
    · rw [upd_ne (nd_fresh h p hp)] at e
      exact ⟨Nat.lt_of_lt_of_le (h.low p hp b e).1 hbw.size, (h.low p hp b e).2⟩

/-- Nothing turns but block id's memory. -/
structure Grew (w w' : World) (row : Option Nat) : Prop where
  os : w'.os = w.os
  tape : w'.tape = w.tape
  output : w'.output = w.output
  size : w.heap.size ≤ w'.heap.size
  block : ∀ k, k < w.heap.size → some k ≠ row → w'.heap[k]? = w.heap[k]?

theorem okOf_swap (h : StOk cx tm ob nx ρ a w) {id : Nat} {o o' : Ob} (hg : getO ob id = some o) {v' : Value} (hgr : Grew w w' (blk (ρ id))) (hb : ∀ b, blk (some v') = some b → blk (ρ id) = some b ∨ w.heap.size ≤ b) :
    Keeps (okOf cx ρ ob) (okOf cx (upd ρ id v') (setO id o' ob)) w w' := by
  intro b ho hlt
  have hne : blk (ρ id) ≠ some b := ho.2 _ (mem_getO hg)
  refine ⟨⟨ho.1, fun p hp e => ?_⟩, hgr.block b hlt (fun e => hne e.symm)⟩
  rcases mem_setO h.nd hp with ⟨hp, _⟩ | ⟨hp, hpn⟩
  · rw [hp, upd_same] at e
    rcases hb b e with h1 | h1
    · exact hne h1
    · omega
  · rw [upd_ne hpn] at e
    exact ho.2 p hp e

theorem okOf_setO {id : Nat} {o : Ob} : okOf cx ρ (setO id o ob) = okOf cx ρ ob := by
  funext b
  unfold okOf
  congr 1
  apply propext
  have hk := setO_keys (id := id) (o := o) (ob := ob)
  constructor
  · intro h p hp
    have : p.1 ∈ (setO id o ob).map (·.1) := by rw [hk]; exact List.mem_map.2 ⟨p, hp, rfl⟩
    obtain ⟨q, hq, e⟩ := List.mem_map.1 this
    rw [← e]; exact h q hq
  · intro h p hp
    have : p.1 ∈ ob.map (·.1) := by rw [← hk]; exact List.mem_map.2 ⟨p, hp, rfl⟩
    obtain ⟨q, hq, e⟩ := List.mem_map.1 this
    rw [← e]; exact h q hq

/-- Block id, written or grown: all that stood for its slice is let go. -/
theorem StOk.swap (h : StOk cx tm ob nx ρ a w) {id : Nat} {α : Type} {E : TypeId} {R : Rd α} {xs : List α} {o' : Ob} (hg : getO ob id = some (.vec E R xs)) {v' : Value} (hgr : Grew w w' (blk (ρ id))) (hb : ∀ b, blk (some v') = some b → blk (ρ id) = some b ∨ (w.heap.size ≤ b ∧ b < w'.heap.size))
    (ho : o'.is (okOf cx (upd ρ id v') (setO id o' ob)) (upd ρ id v') w' id) : StOk cx (subTm id .any tm) (setO id o' (subOb id .any ob)) nx (upd ρ id v') a w' := by
  have hmem := mem_getO hg
  have hk := okOf_swap (o' := o') h hg hgr (fun b e => (hb b e).imp (fun h => h) (·.1))
  have hkeys : (subOb id .any ob).map (·.1) = ob.map (·.1) := subOb_keys
  have hok : okOf cx (upd ρ id v') (setO id o' (subOb id .any ob)) = okOf cx (upd ρ id v') (setO id o' ob) := by
    rw [okOf_setO, okOf_setO]
    funext b
    unfold okOf
    congr 1
    apply propext
    constructor
    · intro h1 p hp
      have : p.1 ∈ (subOb id .any ob).map (·.1) := by rw [hkeys]; exact List.mem_map.2 ⟨p, hp, rfl⟩
      obtain ⟨q, hq, e⟩ := List.mem_map.1 this
      rw [← e]; exact h1 q hq
    · intro h1 p hp
      have : p.1 ∈ ob.map (·.1) := by rw [← hkeys]; exact List.mem_map.2 ⟨p, hp, rfl⟩
      obtain ⟨q, hq, e⟩ := List.mem_map.1 this
      rw [← e]; exact h1 q hq
  have hs : Sub id .any (okOf cx ρ ob) (okOf cx (upd ρ id v') (setO id o' ob)) ρ (upd ρ id v') w w' := ⟨fun _ _ => trivial, fun i u hi e => by rw [upd_ne hi]; exact e, hk⟩
  have hnd : ((subOb id .any ob).map (·.1)).Nodup := by rw [hkeys]; exact h.nd
  have mem : ∀ p ∈ setO id o' (subOb id .any ob), (p.1 = id ∧ p.2 = o') ∨ ∃ q ∈ ob, q.1 ≠ id ∧ p = (q.1, q.2.sub id .any) := by
    intro p hp
    rcases mem_setO hnd hp with h1 | ⟨h1, h2⟩
    · exact .inl h1
    · obtain ⟨q, hq, rfl⟩ := mem_subOb h1
      exact .inr ⟨q, hq, h2, rfl⟩
  refine ⟨h.size, h.defers, fun i => by rw [get_sub, hok]; exact A.sub_rep hs (h.tms i), ?_, by rw [setO_keys]; exact hnd, ?_, ?_, h.nx0, ?_, ?_, ?_, h.disj, fun i hi p e => ?pin, h.glob⟩
  case pin =>
    by_cases hii : i = id
    · exfalso
      subst hii
      have h1 := (h.pin i hi p e).trans e
      obtain ⟨v, hv, css, _, _, h3⟩ := h.obs _ hmem
      have h1 : some v = some (.pointer p) := hv.symm.trans h1
      rcases h3.2 with ⟨h4, _⟩ | ⟨g, cap, cur, h4, _⟩ <;> (rw [h4] at h1; cases h1)
    · rw [upd_ne hii]; exact h.pin i hi p e
  · intro p hp
    rw [hok]
    rcases mem p hp with ⟨h1, h2⟩ | ⟨q, hq, h2, rfl⟩
    · rw [h1, h2]; exact ho
    · refine Ob.sub_is hs h2 (fun b hb' => ?_) (h.obs q hq)
      exact hgr.block b (h.low q hq b hb').1 (fun e => h.sep q hq _ hmem h2 b hb' e.symm)
  · intro p hp
    rcases mem p hp with ⟨h1, _⟩ | ⟨q, hq, _, rfl⟩
    · rw [h1]; exact h.fresh _ hmem
    · exact h.fresh q hq
  · intro i hi
    have : i ≠ id := fun e => by have := h.fresh _ hmem; simp only at this; omega
    rw [upd_ne this]
    exact h.names i hi
  · intro p hp q hq hne b e1 e2
    rcases mem p hp with ⟨h1, _⟩ | ⟨p', hp', hpn, rfl⟩
    · rw [h1, upd_same] at e1
      rcases mem q hq with ⟨h2, _⟩ | ⟨q', hq', hqn, rfl⟩
      · exact hne (h1.trans h2.symm)
      · rw [upd_ne hqn] at e2
        rcases hb b e1 with h3 | h3
        · exact h.sep q' hq' _ hmem hqn b e2 h3
        · have := (h.low q' hq' b e2).1; omega
    · rw [upd_ne hpn] at e1
      rcases mem q hq with ⟨h2, _⟩ | ⟨q', hq', hqn, rfl⟩
      · rw [h2, upd_same] at e2
        rcases hb b e2 with h3 | h3
        · exact h.sep p' hp' _ hmem hpn b e1 h3
        · have := (h.low p' hp' b e1).1; omega
      · rw [upd_ne hqn] at e2
        exact h.sep p' hp' q' hq' hne b e1 e2
  · intro p hp b e
    rcases mem p hp with ⟨h1, _⟩ | ⟨q, hq, hqn, rfl⟩
    · rw [h1, upd_same] at e
      rcases hb b e with h3 | h3
      · have := h.low _ hmem b h3
        exact ⟨Nat.lt_of_lt_of_le this.1 hgr.size, by rw [h1]; exact this.2⟩
      · exact ⟨h3.2, .inl (Nat.le_trans h.keep.size h3.1)⟩
    · rw [upd_ne hqn] at e
      exact ⟨Nat.lt_of_lt_of_le (h.low q hq b e).1 hgr.size, (h.low q hq b e).2⟩
  · refine ⟨hgr.os.trans h.keep.os, hgr.tape.trans h.keep.tape, hgr.output.trans h.keep.output, Nat.le_trans h.keep.size hgr.size, fun b hlt ho => ?_⟩
    rw [hgr.block b (Nat.lt_of_lt_of_le hlt h.keep.size), h.keep.block b hlt ho]
    intro e
    rcases (h.low _ hmem b e.symm).2 with h1 | h1
    · omega
    · exact ho ⟨_, h1⟩

/-- Block id, written, where its address stays. -/
theorem StOk.write (h : StOk cx tm ob nx ρ a w) {id : Nat} {o o' : Ob} (hg : getO ob id = some o) (hgr : Grew w w' (blk (ρ id))) (hsz : w'.heap.size = w.heap.size)
    (ho : o'.is (okOf cx ρ ob) ρ w' id) : StOk cx tm (setO id o' ob) nx ρ a w' := by
  have hmem := mem_getO hg
  have hk : Keeps (okOf cx ρ ob) (okOf cx ρ ob) w w' := fun b hb hlt => ⟨hb, hgr.block b hlt (fun e => hb.2 _ hmem e.symm)⟩
  refine ⟨h.size, h.defers, fun i => by rw [okOf_setO]; exact A.kept hk (h.tms i), ?_, by rw [setO_keys]; exact h.nd, ?_, h.names, h.nx0, ?_, ?_, ?_, h.disj, h.pin, h.glob⟩
  · intro p hp
    rw [okOf_setO]
    rcases mem_setO h.nd hp with ⟨h1, h2⟩ | ⟨h1, h2⟩
    · rw [h1, h2]; exact ho
    · exact Ob.kept hk (fun b hb => hgr.block b (h.low p h1 b hb).1 (fun e => h.sep p h1 _ hmem h2 b hb e.symm)) (h.obs p h1)
  · intro p hp
    rcases mem_setO h.nd hp with ⟨h1, _⟩ | ⟨h1, _⟩
    · rw [h1]; exact h.fresh _ hmem
    · exact h.fresh p h1
  · intro p hp q hq hne b e1 e2
    have hin : ∀ r ∈ setO id o' ob, ∃ r' ∈ ob, r'.1 = r.1 := by
      intro r hr
      have : r.1 ∈ ob.map (·.1) := by rw [← setO_keys (id := id) (o := o')]; exact List.mem_map.2 ⟨r, hr, rfl⟩
      obtain ⟨r', h1, h2⟩ := List.mem_map.1 this
      exact ⟨r', h1, h2⟩
    obtain ⟨p', hp', ep⟩ := hin p hp
    obtain ⟨q', hq', eq⟩ := hin q hq
    rw [← ep] at e1 hne
    rw [← eq] at e2 hne
    exact h.sep p' hp' q' hq' hne b e1 e2
  · intro p hp b e
    rcases mem_setO h.nd hp with ⟨h1, _⟩ | ⟨h1, _⟩
    · rw [h1] at e
      have := h.low _ hmem b e
      rw [h1, hsz]
      exact this
    · rw [hsz]; exact h.low p h1 b e
  · refine ⟨hgr.os.trans h.keep.os, hgr.tape.trans h.keep.tape, hgr.output.trans h.keep.output, by rw [hsz]; exact h.keep.size, fun b hlt ho => ?_⟩
    rw [hgr.block b (Nat.lt_of_lt_of_le hlt h.keep.size), h.keep.block b hlt ho]
    intro e
    rcases (h.low _ hmem b e.symm).2 with h1 | h1
    · omega
    · exact ho ⟨_, h1⟩
end
end Ab
end Go.Proofs.YthlfbpmbkcoclaaDoor
