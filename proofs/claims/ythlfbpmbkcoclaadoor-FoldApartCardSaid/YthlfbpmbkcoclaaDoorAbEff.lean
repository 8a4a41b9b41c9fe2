/-
  What a call does to its own blocks, abstractly: a new block, one let go, one written, one grown. Over any program; no condition.
-/
import Derived.Test.YthlfbpmbkcoclaaDoorAbSt
import Derived.Laws.CopyRow
namespace Go.Proofs.YthlfbpmbkcoclaaDoor
open Go.RowKit
namespace Ab

/-- What stands for block id is replaced. -/
def C.sub (id : Nat) (d : C) : C → C
  | .vec i => match Nat.beq i id with
    | true => d
    | false => .vec i
  | .vel i k n => match Nat.beq i id with
    | true => .any
    | false => .vel i k n
  | .own i o => match Nat.beq i id with
    | true => match o with
      | 0 => d
      | _ + 1 => .any
    | false => .own i o
  | .ifc t c => .ifc t (C.sub id d c)
  | .clo f c => .clo f (C.sub id d c)
  | .ref c => .ref (C.sub id d c)
  | .nself u i => match Nat.beq i id with
    | true => .any
    | false => .nself u i
  | .any => .any
  | .lit v => .lit v
  | .sl R xs => .sl R xs
  | .full R xs => .full R xs
  | .addr R x => .addr R x
def subL (id : Nat) (d : C) : List C → List C
  | [] => []
  | c :: r => C.sub id d c :: subL id d r
def subT (id : Nat) (d : C) : List (Bool × List C) → List (Bool × List C)
  | [] => []
  | p :: r => (p.1, subL id d p.2) :: subT id d r
def A.sub (id : Nat) (d : C) : A → A
  | .one c => .one (C.sub id d c)
  | .agg cs => .agg (subL id d cs)
  | .tup cs => .tup (subT id d cs)
  | .cond b a => .cond b (a.sub id d)
def subTm (id : Nat) (d : C) : Tm → Tm
  | [] => []
  | p :: r => (p.1, p.2.sub id d) :: subTm id d r
def Ob.sub (id : Nat) (d : C) : Ob → Ob
  | .box T cs => .box T (subL id d cs)
  | .vec E R xs => .vec E R xs
def subOb (id : Nat) (d : C) : Obs → Obs
  | [] => []
  | p :: r => (p.1, p.2.sub id d) :: subOb id d r
def eraseO (id : Nat) : Obs → Obs
  | [] => []
  | p :: r => match Nat.beq p.1 id with
    | true => eraseO id r
    | false => p :: eraseO id r
def setO (id : Nat) (o : Ob) : Obs → Obs
  | [] => []
  | p :: r => match Nat.beq p.1 id with
    | true => (p.1, o) :: r
    | false => p :: setO id o r

section
variable {P : Program} {te : List (TypeId × TyI)} {cx : Cx} {tm : Tm} {ob : Obs} {nx : Nat} {ρ ρ' : Nat → Option Value} {a : Act} {w w' : World} {ok ok' : Nat → Prop}

theorem get_sub (id : Nat) (d : C) : ∀ (tm : Tm) (i : Nat), get (subTm id d tm) i = (get tm i).sub id d
  | [], _ => rfl
  | p :: r, i => by
    simp only [subTm, get]
    split
    · rfl
    · exact get_sub id d r i

/-- Where what stands for block id holds anew, and all else is kept. -/
structure Sub (id : Nat) (d : C) (ok ok' : Nat → Prop) (ρ ρ' : Nat → Option Value) (w w' : World) : Prop where
  at_ : ∀ v, ρ id = some v → d.rep ok' ρ' w' v
  names : ∀ i v, i ≠ id → ρ i = some v → ρ' i = some v
  keeps : Keeps ok ok' w w'
theorem C.sub_rep {id : Nat} {d : C} (h : Sub id d ok ok' ρ ρ' w w') : ∀ {c : C} {v : Value}, c.rep ok ρ w v → (C.sub id d c).rep ok' ρ' w' v
  | .any, _, _ => trivial
  | .lit _, _, hr => hr
  | .sl R xs, v, hr => C.kept (c := .sl R xs) (ρ := ρ') h.keeps hr
  | .full R xs, v, hr => C.kept (c := .full R xs) (ρ := ρ') h.keeps hr
  | .addr R x, v, hr => C.kept (c := .addr R x) (ρ := ρ') h.keeps hr
  | .own i o, v, hr => by
    unfold C.sub
    obtain ⟨b, h1, h2⟩ := hr
    split
    · rename_i e
      have e := Nat.eq_of_beq_eq_true e
      subst e
      split
      · rw [h2]; exact h.at_ _ h1
      · trivial
    · rename_i e
      exact ⟨b, h.names _ _ (fun e' => by subst e'; simp at e) h1, h2⟩
  | .vec i, v, hr => by
    unfold C.sub
    split
    · rename_i e
      have e := Nat.eq_of_beq_eq_true e
      subst e
      exact h.at_ _ hr.1
    · rename_i e
      exact ⟨h.names _ _ (fun e' => by subst e'; simp at e) hr.1, hr.2⟩
  | .vel i k n, v, hr => by
    unfold C.sub
    split
    · trivial
    · rename_i e
      obtain ⟨b, m, cap, h1, h2⟩ := hr
      exact ⟨b, m, cap, h.names _ _ (fun e' => by subst e'; simp at e) h1, h2⟩
  | .ifc t c, v, hr => by obtain ⟨u, hv, hr⟩ := hr; exact ⟨u, hv, C.sub_rep h hr⟩
  | .clo f c, v, hr => by obtain ⟨u, hv, hr⟩ := hr; exact ⟨u, hv, C.sub_rep h hr⟩
  | .ref c, v, hr => by
    obtain ⟨b, off, u, hv, hb, hlt, hc, hr⟩ := hr
    have hkb := h.keeps b hb hlt
    exact ⟨b, off, u, hv, hkb.1, lt_of_heap hkb.2 hlt, hc.of_block hkb.2, C.sub_rep h hr⟩
  | .nself u i, v, hr => by
    unfold C.sub
    split
    · trivial
    · rename_i e
      exact ⟨fun e2 => by obtain ⟨b, h1, h2⟩ := hr.1 e2; exact ⟨b, h.names _ _ (fun e' => by subst e'; simp at e) h1, h2⟩, hr.2⟩
theorem subL_rep {id : Nat} {d : C} (h : Sub id d ok ok' ρ ρ' w w') : ∀ {cs : List C} {vs : List Value}, repL ok ρ w cs vs → repL ok' ρ' w' (subL id d cs) vs
  | [], _, hr => hr
  | _ :: _, _, hr => by
    obtain ⟨v, r, e, h1, h2⟩ := hr
    exact ⟨v, r, e, C.sub_rep h h1, subL_rep h h2⟩
theorem subV_rep {id : Nat} {d : C} (h : Sub id d ok ok' ρ ρ' w w') : ∀ {g : Bool} {cs : List C} {v : Value}, repV ok ρ w g cs v → repV ok' ρ' w' g (subL id d cs) v
  | true, _, _, hr => by obtain ⟨vs, e, hr⟩ := hr; exact ⟨vs, e, subL_rep h hr⟩
  | false, _, _, hr => subL_rep h hr
theorem subT_rep {id : Nat} {d : C} (h : Sub id d ok ok' ρ ρ' w w') : ∀ {cs : List (Bool × List C)} {vs : List Value}, repT ok ρ w cs vs → repT ok' ρ' w' (subT id d cs) vs
  | [], _, hr => hr
  | _ :: _, _, hr => by
    obtain ⟨v, r, e, h1, h2⟩ := hr
    exact ⟨v, r, e, subV_rep h h1, subT_rep h h2⟩
theorem A.sub_rep {id : Nat} {d : C} (h : Sub id d ok ok' ρ ρ' w w') : ∀ {a : A} {v : Value}, a.rep ok ρ w v → (a.sub id d).rep ok' ρ' w' v
  | .one _, _, hr => C.sub_rep h hr
  | .agg _, _, hr => subV_rep (g := true) h hr
  | .tup _, _, hr => by obtain ⟨vs, e, hr⟩ := hr; exact ⟨vs, e, subT_rep h hr⟩
  | .cond _ _, _, hr => ⟨fun hb => A.sub_rep h (hr.1 hb), hr.2⟩
/-- A block other than id, whose memory has not turned. -/
theorem Ob.sub_is {id : Nat} {d : C} (h : Sub id d ok ok' ρ ρ' w w') {i : Nat} (hi : i ≠ id) {o : Ob} (hb : ∀ b, blk (ρ i) = some b → w'.heap[b]? = w.heap[b]?) (ho : o.is ok ρ w i) : (o.sub id d).is ok' ρ' w' i := by
  cases o with
  | box T cs =>
    obtain ⟨b, vs, h1, h2, h3⟩ := ho
    exact ⟨b, vs, h.names _ _ hi h1, by rw [hb b (by rw [h1]; rfl)]; exact h2, subL_rep h h3⟩
  | vec E R xs =>
    obtain ⟨v, hv, css, h1, h2, h3⟩ := ho
    refine ⟨v, h.names _ _ hi hv, css, h1, fun i hi => R.kept h.keeps (h2 i hi), h3.1, ?_⟩
    rcases h3.2 with h4 | ⟨g, cap, cur, h4, h5, h6, h7⟩
    · exact .inl h4
    · exact .inr ⟨g, cap, cur, h4, h5, by rw [hb g (by rw [hv, h4]; rfl)]; exact h6, h7⟩

theorem mem_getO : ∀ {ob : Obs} {id : Nat} {o : Ob}, getO ob id = some o → (id, o) ∈ ob
  | [], _, _, h => by cases h
  | p :: r, id, o, h => by
    unfold getO at h
    split at h
    · rename_i e
      have e := Nat.eq_of_beq_eq_true e
      cases h
      subst e
      simp
    · exact List.mem_cons_of_mem _ (mem_getO h)
theorem mem_eraseO {id : Nat} : ∀ {ob : Obs} {p : Nat × Ob}, p ∈ eraseO id ob ↔ p ∈ ob ∧ p.1 ≠ id
  | [], p => by simp [eraseO]
  | q :: r, p => by
    unfold eraseO
    split
    · rename_i e
      have e := Nat.eq_of_beq_eq_true e
      rw [mem_eraseO (ob := r)]
      constructor
      · rintro ⟨h1, h2⟩; exact ⟨by simp [h1], h2⟩
      · rintro ⟨h1, h2⟩
        rcases List.mem_cons.1 h1 with h1 | h1
        · subst h1; exact absurd e h2
        · exact ⟨h1, h2⟩
    · rename_i e
      rw [List.mem_cons, mem_eraseO (ob := r), List.mem_cons]
      constructor
      · rintro (h1 | ⟨h1, h2⟩)
        · subst h1; exact ⟨.inl rfl, fun e' => by subst e'; simp at e⟩
        · exact ⟨.inr h1, h2⟩
      · rintro ⟨h1 | h1, h2⟩
        · exact .inl h1
        · exact .inr ⟨h1, h2⟩
theorem eraseO_sub {id : Nat} : ∀ {ob : Obs}, List.Sublist ((eraseO id ob).map (·.1)) (ob.map (·.1))
  | [] => List.Sublist.refl _
  | q :: r => by
    unfold eraseO
    split
    · exact List.Sublist.cons _ eraseO_sub
    · exact List.Sublist.cons_cons _ eraseO_sub
theorem mem_subOb {id : Nat} {d : C} : ∀ {ob : Obs} {p : Nat × Ob}, p ∈ subOb id d ob → ∃ q ∈ ob, p = (q.1, q.2.sub id d)
  | [], _, h => by cases h
  | q :: r, p, h => by
    rcases List.mem_cons.1 h with h | h
    · exact ⟨q, by simp, h⟩
    · obtain ⟨q', h1, h2⟩ := mem_subOb (ob := r) h
      exact ⟨q', by simp [h1], h2⟩
theorem subOb_keys {id : Nat} {d : C} : ∀ {ob : Obs}, (subOb id d ob).map (·.1) = ob.map (·.1)
  | [] => rfl
  | q :: r => by simp [subOb, subOb_keys (ob := r)]
theorem setO_keys {id : Nat} {o : Ob} : ∀ {ob : Obs}, (setO id o ob).map (·.1) = ob.map (·.1)
  | [] => rfl
  | q :: r => by
    unfold setO
    split
    · rfl
    · simp [setO_keys (ob := r)]
theorem mem_setO {id : Nat} {o : Ob} : ∀ {ob : Obs} {p : Nat × Ob}, (ob.map (·.1)).Nodup → p ∈ setO id o ob → (p.1 = id ∧ p.2 = o) ∨ (p ∈ ob ∧ p.1 ≠ id)
  | [], _, _, h => by cases h
  | q :: r, p, hn, h => by
    simp only [List.map_cons, List.nodup_cons] at hn
    unfold setO at h
    split at h
    · rename_i e
      have e := Nat.eq_of_beq_eq_true e
      rcases List.mem_cons.1 h with h | h
      · subst h; exact .inl ⟨e, rfl⟩
      · refine .inr ⟨by simp [h], fun e' => hn.1 ?_⟩
        rw [e, ← e']
        exact List.mem_map.2 ⟨p, h, rfl⟩
    · rename_i e
      rcases List.mem_cons.1 h with h | h
      · subst h; exact .inr ⟨by simp, fun e' => by subst e'; simp at e⟩
      · rcases mem_setO hn.2 h with h | h
        · exact .inl h
        · exact .inr ⟨by simp [h.1], h.2⟩

/-- A block is let go: it may be leaned on from here on. -/
theorem StOk.erase (h : StOk cx tm ob nx ρ a w) (id : Nat) : StOk cx tm (eraseO id ob) nx ρ a w := by
  have hk : Keeps (okOf cx ρ ob) (okOf cx ρ (eraseO id ob)) w w := fun b ho _ => ⟨⟨ho.1, fun p hp => ho.2 p (mem_eraseO.1 hp).1⟩, rfl⟩
  exact ⟨h.size, h.defers, fun i => A.kept hk (h.tms i), fun p hp => Ob.kept hk (fun _ _ => rfl) (h.obs p (mem_eraseO.1 hp).1), h.nd.sublist eraseO_sub, fun p hp => h.fresh p (mem_eraseO.1 hp).1, h.names, h.nx0,
    fun p hp q hq => h.sep p (mem_eraseO.1 hp).1 q (mem_eraseO.1 hq).1, fun p hp => h.low p (mem_eraseO.1 hp).1, h.keep, h.disj, h.pin, h.glob⟩

/-- What stands for a block that is no longer the call's own is said otherwise. -/
theorem StOk.say (h : StOk cx tm ob nx ρ a w) {id : Nat} {d : C} (hid : ∀ p ∈ ob, p.1 ≠ id) (hd : ∀ v, ρ id = some v → d.rep (okOf cx ρ ob) ρ w v) : StOk cx (subTm id d tm) (subOb id d ob) nx ρ a w := by
  have hok : okOf cx ρ (subOb id d ob) = okOf cx ρ ob := by
    funext b
    unfold okOf
    congr 1
    apply propext
    constructor
    · intro h1 p hp
      have : (p.1, p.2.sub id d) ∈ subOb id d ob := by
        clear h1 hid h hd
        induction ob with
        | nil => cases hp
        | cons q r ih =>
          rcases List.mem_cons.1 hp with hp | hp
          · subst hp; simp [subOb]
          · simp only [subOb, List.mem_cons]; exact .inr (ih hp)
      exact h1 (p.1, p.2.sub id d) this
    · intro h1 p hp
      obtain ⟨q, hq, rfl⟩ := mem_subOb hp
      exact h1 q hq
  have hs : Sub id d (okOf cx ρ ob) (okOf cx ρ (subOb id d ob)) ρ ρ w w := ⟨fun v hv => by rw [hok]; exact hd v hv, fun _ _ _ h => h, fun b ho _ => ⟨by rw [hok]; exact ho, rfl⟩⟩
  refine ⟨h.size, h.defers, fun i => by rw [get_sub]; exact A.sub_rep hs (h.tms i), ?_, by rw [subOb_keys]; exact h.nd, ?_, h.names, h.nx0, ?_, ?_, h.keep, h.disj, h.pin, h.glob⟩
  · intro p hp
    obtain ⟨q, hq, rfl⟩ := mem_subOb hp
    exact Ob.sub_is hs (hid q hq) (fun _ _ => rfl) (h.obs q hq)
  · intro p hp
    obtain ⟨q, hq, rfl⟩ := mem_subOb hp
    exact h.fresh q hq
  · intro p hp q hq
    obtain ⟨p', hp', rfl⟩ := mem_subOb hp
    obtain ⟨q', hq', rfl⟩ := mem_subOb hq
    exact h.sep p' hp' q' hq'
  · intro p hp
    obtain ⟨q, hq, rfl⟩ := mem_subOb hp
    exact h.low q hq

theorem vec_sl {α : Type} {E : TypeId} {R : Rd α} {xs : List α} {v : Value} (hv : VecOk ok w v E R xs) (hok : ∀ b, ok b → ok' b) (hb : ∀ b, blk (some v) = some b → ok' b) : SlOk R.n (fun cs x => R.is ok' w cs x) ok' w v xs := by
  obtain ⟨css, h1, h2, h3⟩ := hv
  rcases h3.2 with ⟨rfl, h0⟩ | ⟨g, cap, cur, rfl, _, hg, hnc, hcm, hcs, htake⟩
  · have : xs = [] := List.length_eq_zero_iff.1 h0
    subst this
    exact slOk_nil
  · have hlt : g < w.heap.size := (Array.getElem?_eq_some_iff.1 hg).1
    have hk : Keeps ok ok' w w := fun b ho _ => ⟨hok b ho, rfl⟩
    refine ⟨some ⟨g, 0, none⟩, cap, rfl, hnc, hcm, fun i hi => ⟨g, 0, css.getD i [], rfl, hb g rfl, hlt, ⟨R.len (h2 i hi), fun j hj => ?_⟩, R.kept hk (h2 i hi)⟩⟩
    have hfl : ∀ c ∈ css, c.length = R.n := by
      intro c hc
      obtain ⟨j, hj, rfl⟩ := List.mem_iff_getElem.1 hc
      have := R.len (h2 j (by omega))
      simpa [List.getD, hj] using this
    have hlt2 : i * R.n + j < xs.length * R.n := by
      have : (i + 1) * R.n ≤ xs.length * R.n := Nat.mul_le_mul_right _ (by omega)
      rw [Nat.add_mul] at this; omega
    have e2 : w.cell? ⟨g, i * R.n + j, none⟩ = css.flatten[i * R.n + j]? := h3.cellAt _ hlt2
    rw [Nat.zero_add, e2]
    exact flatten_at css i j hfl (by omega) hj

/-- A slice of the call's own becomes one that may be leaned on. -/
theorem StOk.freeze (h : StOk cx tm ob nx ρ a w) {id : Nat} {α : Type} {E : TypeId} {R : Rd α} {xs : List α} (hg : getO ob id = some (.vec E R xs)) (hid : cx.nx0 ≤ id) :
    StOk cx (subTm id (.sl R xs) tm) (subOb id (.sl R xs) (eraseO id ob)) nx ρ a w := by
  refine (h.erase id).say (fun p hp => (mem_eraseO.1 hp).2) fun v hv => ?_
  obtain ⟨v', hv', hvec⟩ : ∃ v, ρ id = some v ∧ VecOk (okOf cx ρ ob) w v E R xs := h.obs _ (mem_getO hg)
  rw [hv] at hv'
  obtain rfl := Option.some.inj hv'
  refine vec_sl hvec (fun b ho => ⟨ho.1, fun p hp => ho.2 p (mem_eraseO.1 hp).1⟩) fun b hb => ⟨?_, fun p hp e => ?_⟩
  · rcases (h.low _ (mem_getO hg) b (by rw [hv]; exact hb)).2 with h1 | ⟨h1, _⟩
    · exact .inr h1
    · exact absurd h1 (by simp only; omega)
  · obtain ⟨hp1, hp2⟩ := mem_eraseO.1 hp
    exact h.sep p hp1 _ (mem_getO hg) hp2 b e (by rw [hv]; exact hb)

/-- What stands for a block that may be leaned on. -/
def oneC : List C → Option C
  | [c] => some (.ref c)
  | _ => none
def boxC (te : List (TypeId × TyI)) (T : TypeId) (cs : List C) : Option C :=
  match find te T with
  | some i => match i.rd with
    | some ⟨_, R⟩ => match ofL R cs with
      | some (x, []) => some (.addr R x)
      | _ => oneC cs
    | none => oneC cs
  | none => oneC cs
theorem oneC_rep {ok' : Nat → Prop} {cs : List C} {d : C} (h : oneC cs = some d) {b : Nat} {T : TypeId} {vs : List Value} (hb : ok' b) (hlt : b < w.heap.size) (hh : w.heap[b]? = some (.cells (vs.toArray : Array Value) T (0, 0))) (hr : repL ok' ρ w cs vs) :
    d.rep ok' ρ w (.pointer (some ⟨b, 0, none⟩)) := by
  unfold oneC at h
  split at h
  · cases h
    obtain ⟨v, r, rfl, h1, h2⟩ := hr
    rw [show r = [] from h2] at hh
    refine ⟨b, 0, v, rfl, hb, hlt, ⟨rfl, fun j hj => ?_⟩, h1⟩
    simp only [World.cell?, hh, Option.isSome_none, Bool.false_eq_true, if_false, List.getElem?_toArray, Nat.zero_add]
  · cases h
theorem boxC_rep {ok' : Nat → Prop} {T : TypeId} {cs : List C} {d : C} (h : boxC te T cs = some d) {b : Nat} {vs : List Value} (hb : ok' b) (hlt : b < w.heap.size) (hh : w.heap[b]? = some (.cells (vs.toArray : Array Value) T (0, 0))) (hr : repL ok' ρ w cs vs) :
    d.rep ok' ρ w (.pointer (some ⟨b, 0, none⟩)) := by
  unfold boxC at h
  split at h
  · split at h
    · rename_i R _
      split at h
      · rename_i x hx
        cases h
        obtain ⟨us, r, e1, hus, hr'⟩ := ofL_rep R hx hr
        have hr0 : r = [] := hr'
        rw [hr0, List.append_nil] at e1
        subst e1
        refine ⟨b, 0, vs, rfl, hb, hlt, ⟨R.len hus, fun j _ => ?_⟩, hus⟩
        simp only [World.cell?, hh, Option.isSome_none, Bool.false_eq_true, if_false, List.getElem?_toArray, Nat.zero_add]
      · exact oneC_rep h hb hlt hh hr
    · exact oneC_rep h hb hlt hh hr
  · exact oneC_rep h hb hlt hh hr

/-- A variable of the call's own becomes one that may be leaned on. -/
theorem StOk.freezeBox (h : StOk cx tm ob nx ρ a w) {id : Nat} {T : TypeId} {cs : List C} {d : C} (hg : getO ob id = some (.box T cs)) (hid : cx.nx0 ≤ id) (hd : boxC te T cs = some d) :
    StOk cx (subTm id d tm) (subOb id d (eraseO id ob)) nx ρ a w := by
  refine (h.erase id).say (fun p hp => (mem_eraseO.1 hp).2) fun v hv => ?_
  obtain ⟨b, vs, hv', hh, hr⟩ := h.obs _ (mem_getO hg)
  rw [hv] at hv'
  obtain rfl := Option.some.inj hv'
  have hk : Keeps (okOf cx ρ ob) (okOf cx ρ (eraseO id ob)) w w := fun b ho _ => ⟨⟨ho.1, fun p hp => ho.2 p (mem_eraseO.1 hp).1⟩, rfl⟩
  refine boxC_rep hd (b := b) ⟨?_, fun p hp e => ?_⟩ (Array.getElem?_eq_some_iff.1 hh).1 hh (hr.kept hk)
  · rcases (h.low _ (mem_getO hg) b (by rw [hv]; rfl)).2 with h1 | ⟨h1, _⟩
    · exact .inr h1
    · exact absurd h1 (by simp only; omega)
  · obtain ⟨hp1, hp2⟩ := mem_eraseO.1 hp
    exact h.sep p hp1 _ (mem_getO hg) hp2 b e (by rw [hv]; rfl)
end
end Ab
end Go.Proofs.YthlfbpmbkcoclaaDoor
