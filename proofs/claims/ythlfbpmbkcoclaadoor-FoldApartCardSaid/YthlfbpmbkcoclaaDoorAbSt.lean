/-
  Abstract states: what each slot holds and which blocks the call owns; when a state stands for a run's; and how that is kept. Over any program; no condition.
-/
import Derived.Test.YthlfbpmbkcoclaaDoorAbOp
namespace Go.Proofs.YthlfbpmbkcoclaaDoor
open Go.RowKit
namespace Ab

abbrev Tm := List (Nat × A)
abbrev Obs := List (Nat × Ob)

def get : Tm → Nat → A
  | [], _ => .one .any
  | p :: r, i => match Nat.beq p.1 i with
    | true => p.2
    | false => get r i
def look (tm : Tm) : Operand → A
  | .tmp t => get tm t
  | .const v => .one (.lit v)
  | .global g => .one (.lit (.pointer (some ⟨g, 0, none⟩)))
  | .func f => .one (.lit (.func (.func f) #[] #[]))
def put (N : Nat) (d : Option Nat) (v : A) (tm : Tm) (K : Tm → Prop) : Prop :=
  match d with
  | none => K tm
  | some d => match Nat.ble (d + 1) N with
    | true => K ((d, v) :: tm)
    | false => False

/-- What a call is under way in: the blocks that its arguments lean on, those that were lent to it, the world in which it began, its slots, how many blocks were lent to it by name. -/
structure Cx where
  ok0 : Nat → Prop
  nm : Nat → Option Value
  w0 : World
  N : Nat
  nx0 : Nat

def blk : Option Value → Option Nat
  | some (.pointer (some a)) => some a.block
  | some (.slice (some a) _ _) => some a.block
  | _ => none
def okOf (cx : Cx) (ρ : Nat → Option Value) (ob : Obs) : Nat → Prop := fun b => (cx.ok0 b ∨ cx.w0.heap.size ≤ b) ∧ ∀ p ∈ ob, blk (ρ p.1) ≠ some b

/-- The library's one variable that calls lean on (bytealg.MaxLen). -/
def GlobCell (w : World) : Prop := ∃ m, w.cell? ⟨0, 0, none⟩ = some (.int .i64 m)
def GlobAt (ok : Nat → Prop) (w : World) : Prop := ok 0 ∧ 0 < w.heap.size ∧ GlobCell w

/-- Nothing that was there when the call began has turned, but for what was lent to it. -/
structure Keep (cx : Cx) (w : World) : Prop where
  os : w.os = cx.w0.os
  tape : w.tape = cx.w0.tape
  output : w.output = cx.w0.output
  size : cx.w0.heap.size ≤ w.heap.size
  block : ∀ b, b < cx.w0.heap.size → ¬ (∃ i, i < cx.nx0 ∧ blk (cx.nm i) = some b) → w.heap[b]? = cx.w0.heap[b]?
theorem Keep.below {cx : Cx} {w w' : World} (h : Keep cx w) (hb : Below w.heap.size w w') : Keep cx w' :=
  ⟨hb.os.trans h.os, hb.tape.trans h.tape, hb.output.trans h.output, Nat.le_trans h.size hb.size, fun b hlt ho => (hb.block b (Nat.lt_of_lt_of_le hlt h.size)).trans (h.block b hlt ho)⟩

structure StOk (cx : Cx) (tm : Tm) (ob : Obs) (nx : Nat) (ρ : Nat → Option Value) (a : Act) (w : World) : Prop where
  size : a.tmps.size = cx.N
  defers : a.defers = []
  tms : ∀ i, (get tm i).rep (okOf cx ρ ob) ρ w (a.tmps.getD i undef)
  obs : ObsIs (okOf cx ρ ob) ρ w ob
  nd : (ob.map (·.1)).Nodup
  fresh : ∀ p ∈ ob, p.1 < nx
  names : ∀ i, nx ≤ i → ρ i = none
  nx0 : cx.nx0 ≤ nx
  sep : ∀ p ∈ ob, ∀ q ∈ ob, p.1 ≠ q.1 → ∀ b, blk (ρ p.1) = some b → blk (ρ q.1) ≠ some b
  low : ∀ p ∈ ob, ∀ b, blk (ρ p.1) = some b → b < w.heap.size ∧ (cx.w0.heap.size ≤ b ∨ (p.1 < cx.nx0 ∧ blk (cx.nm p.1) = some b))
  keep : Keep cx w
  disj : ∀ i b, i < cx.nx0 → blk (cx.nm i) = some b → ¬ cx.ok0 b
  pin : ∀ i, i < cx.nx0 → ∀ p, cx.nm i = some (.pointer p) → ρ i = cx.nm i
  glob : GlobAt cx.ok0 cx.w0

section
variable {P : Program} {te : List (TypeId × TyI)} {cx : Cx} {tm : Tm} {ob : Obs} {nx : Nat} {ρ : Nat → Option Value} {a : Act} {w w' : World}

theorem StOk.globAt (h : StOk cx tm ob nx ρ a w) : GlobAt (okOf cx ρ ob) w := by
  obtain ⟨h1, h2, m, h3⟩ := h.glob
  have hno : ¬ ∃ i, i < cx.nx0 ∧ blk (cx.nm i) = some 0 := fun ⟨i, hi, e⟩ => h.disj i 0 hi e h1
  refine ⟨⟨.inl h1, fun p hp e => ?_⟩, Nat.lt_of_lt_of_le h2 h.keep.size, m, ?_⟩
  · rcases (h.low p hp 0 e).2 with h4 | h4
    · omega
    · exact hno ⟨_, h4⟩
  · have hb := h.keep.block 0 h2 hno
    rw [← h3]
    simp only [World.cell?, hb]
theorem StOk.look (h : StOk cx tm ob nx ρ a w) (x : Operand) : (look tm x).rep (okOf cx ρ ob) ρ w (a.eval x) := by
  cases x with
  | tmp t => exact h.tms t
  | const v => rfl
  | global g => rfl
  | func f => rfl

theorem Ob.kept {ok ok' : Nat → Prop} {ρ : Nat → Option Value} (hk : Keeps ok ok' w w') {id : Nat} {o : Ob} (hb : ∀ b, blk (ρ id) = some b → w'.heap[b]? = w.heap[b]?) (h : o.is ok ρ w id) : o.is ok' ρ w' id := by
  cases o with
  | box T cs =>
    obtain ⟨b, vs, h1, h2, h3⟩ := h
    exact ⟨b, vs, h1, by rw [hb b (by rw [h1]; rfl)]; exact h2, h3.kept hk⟩
  | vec E R xs =>
    obtain ⟨v, hv, css, h1, h2, h3⟩ := h
    refine ⟨v, hv, css, h1, fun i hi => R.kept hk (h2 i hi), h3.1, ?_⟩
    rcases h3.2 with h4 | ⟨g, cap, cur, h4, h5, h6, h7⟩
    · exact .inl h4
    · exact .inr ⟨g, cap, cur, h4, h5, by rw [hb g (by rw [hv, h4]; rfl)]; exact h6, h7⟩

/-- Behind the making of new memory alone. -/
theorem StOk.below (h : StOk cx tm ob nx ρ a w) (hb : Below w.heap.size w w') : StOk cx tm ob nx ρ a w' := by
  have hk : Keeps (okOf cx ρ ob) (okOf cx ρ ob) w w' := fun b ho hlt => ⟨ho, hb.block b hlt⟩
  exact ⟨h.size, h.defers, fun i => A.kept hk (h.tms i), fun p hp => Ob.kept hk (fun b hbk => hb.block b (h.low p hp b hbk).1) (h.obs p hp), h.nd, h.fresh, h.names, h.nx0, h.sep,
    fun p hp b hbk => ⟨Nat.lt_of_lt_of_le (h.low p hp b hbk).1 hb.size, (h.low p hp b hbk).2⟩, h.keep.below hb, h.disj, h.pin, h.glob⟩

/-- Another act of as many slots, in which each slot holds what is said. -/
theorem StOk.act (h : StOk cx tm ob nx ρ a w) {tm' : Tm} {a' : Act} (hs : a'.tmps.size = a.tmps.size) (hd : a'.defers = a.defers) (ht : ∀ i, (get tm' i).rep (okOf cx ρ ob) ρ w (a'.tmps.getD i undef)) : StOk cx tm' ob nx ρ a' w :=
  ⟨hs.trans h.size, hd.trans h.defers, ht, h.obs, h.nd, h.fresh, h.names, h.nx0, h.sep, h.low, h.keep, h.disj, h.pin, h.glob⟩

theorem getD_set_ne' {l : Array Value} {i j : Nat} {v d : Value} (h : i ≠ j) : (l.setIfInBounds i v).getD j d = l.getD j d := by
  simp only [Array.getD_eq_getD_getElem?]
  rw [Array.getElem?_setIfInBounds_ne h]
theorem getD_set_eq' {l : Array Value} {i : Nat} {v d : Value} (h : i < l.size) : (l.setIfInBounds i v).getD i d = v := by
  simp [Array.getD_eq_getD_getElem?, h]

theorem StOk.put (h : StOk cx tm ob nx ρ a w) {d : Option Nat} {v : A} {u : Value} {K : Tm → Prop} (hp : put cx.N d v tm K) (hr : v.rep (okOf cx ρ ob) ρ w u) : ∃ tm', K tm' ∧ StOk cx tm' ob nx ρ (a.put d u) w := by
  unfold Ab.put at hp
  cases d with
  | none => exact ⟨tm, hp, h⟩
  | some d =>
    simp only at hp
    split at hp
    · rename_i hlt
      have hlt : d < cx.N := Nat.lt_of_succ_le (Nat.le_of_ble_eq_true hlt)
      refine ⟨_, hp, h.act (by simp [Act.put]) rfl fun i => ?_⟩
      simp only [get, Act.put]
      split
      · rename_i e
        have e := Nat.eq_of_beq_eq_true e
        subst e
        rw [getD_set_eq' (by rw [h.size]; exact hlt)]
        exact hr
      · rename_i e
        rw [getD_set_ne' (fun e' => by subst e'; simp at e)]
        exact h.tms i
    · exact hp.elim

theorem rep_grow {v : A} {u : Value} (h : StOk cx tm ob nx ρ a w) (_hb : Below w.heap.size w w') (hr : v.rep (grow (okOf cx ρ ob) w) ρ w' u) : v.rep (okOf cx ρ ob) ρ w' u := by
  refine A.kept (w := w') (fun b ho _ => ⟨?_, rfl⟩) hr
  rcases ho with ho | ho
  · exact ho
  · exact ⟨.inr (Nat.le_trans h.keep.size ho), fun p hp e => by have := (h.low p hp b e).1; omega⟩
end
end Ab
end Go.Proofs.YthlfbpmbkcoclaaDoor
