/-
  Abstract values: what a slot, a cell, a block of the call's own holds, as plain data; which concrete values stand for it; and that it is kept where nothing on which it leans is written. Over any program; no condition.
-/
import Derived.Below
import Derived.Control
import Derived.Laws.AppendOwn
import Derived.WalkKit
namespace Go.Proofs.YthlfbpmbkcoclaaDoor
open Go.RowKit
namespace Ab

/-- How cells read as plain data. -/
inductive Rd : Type → Type 1
  | str : Rd ByteArray
  | int (k : IntKind) : Rd Int
  | bool : Rd Bool
  | raw : Rd Value
  | sl {α : Type} (R : Rd α) : Rd (List α)
  | st {α β : Type} (R : Rd α) (S : Rd β) : Rd (α × β)

def Rd.n : {α : Type} → Rd α → Nat
  | _, .str => 1
  | _, .int _ => 1
  | _, .bool => 1
  | _, .raw => 1
  | _, .sl _ => 1
  | _, .st R S => R.n + S.n

theorem Rd.n_pos : ∀ {α : Type} (R : Rd α), 0 < R.n
  | _, .str => Nat.one_pos
  | _, .int _ => Nat.one_pos
  | _, .bool => Nat.one_pos
  | _, .raw => Nat.one_pos
  | _, .sl _ => Nat.one_pos
  | _, .st R S => by
    have := R.n_pos
    simp only [Rd.n]; omega

/-- n cells from an address on. -/
def CellsAt (w : World) (b off n : Nat) (cs : List Value) : Prop := cs.length = n ∧ ∀ j, j < n → w.cell? ⟨b, off + j, none⟩ = cs[j]?

/-- The value is a slice of these, whose elements (n cells each) read by Pr, in blocks on which one may lean. -/
def SlOk {α : Type} (n : Nat) (Pr : List Value → α → Prop) (ok : Nat → Prop) (w : World) (v : Value) (xs : List α) : Prop :=
  ∃ a cap, v = .slice a xs.length cap ∧ xs.length ≤ cap ∧ cap ≤ maxLen ∧
    ∀ i (h : i < xs.length), ∃ b off cs, a = some ⟨b, off, none⟩ ∧ ok b ∧ b < w.heap.size ∧ CellsAt w b (off + i * n) n cs ∧ Pr cs xs[i]

/-- No address in it: it reads the same in every world; and it fills one cell. -/
def plainB : Value → Bool
  | .bool _ => true
  | .int _ _ => true
  | .string _ => true
  | .nilIface => true
  | .nilFunc => true
  | .pointer none => true
  | .slice none 0 0 => true
  | .iface _ v => plainB v
  | _ => false
theorem plain_one {v : Value} (h : plainB v = true) : v.oneCell' = true := by
  cases v <;> first | rfl | (simp [plainB] at h)

def Rd.is : {α : Type} → Rd α → (Nat → Prop) → World → List Value → α → Prop
  | _, .str, _, _, cs, s => cs = [.string s]
  | _, .int k, _, _, cs, x => cs = [.int k x]
  | _, .bool, _, _, cs, x => cs = [.bool x]
  | _, .raw, _, _, cs, x => cs = [x] ∧ plainB x = true
  | _, .sl R, ok, w, cs, xs => ∃ v, cs = [v] ∧ SlOk R.n (fun cs x => R.is ok w cs x) ok w v xs
  | _, .st R S, ok, w, cs, x => ∃ c d, cs = c ++ d ∧ R.is ok w c x.1 ∧ S.is ok w d x.2

theorem Rd.len : ∀ {α : Type} (R : Rd α) {ok : Nat → Prop} {w : World} {cs : List Value} {x : α}, R.is ok w cs x → cs.length = R.n
  | _, .str, _, _, _, _, h => by rw [show _ = _ from h]; rfl
  | _, .int _, _, _, _, _, h => by rw [show _ = _ from h]; rfl
  | _, .bool, _, _, _, _, h => by rw [show _ = _ from h]; rfl
  | _, .raw, _, _, _, _, h => by rw [h.1]; rfl
  | _, .sl _, _, _, _, _, h => by obtain ⟨v, e, _⟩ := h; rw [e]; rfl
  | _, .st R S, _, _, _, _, h => by
    obtain ⟨c, d, e, h1, h2⟩ := h
    rw [e, List.length_append, R.len h1, S.len h2]; rfl

theorem Rd.ones : ∀ {α : Type} (R : Rd α) {ok : Nat → Prop} {w : World} {cs : List Value} {x : α}, R.is ok w cs x → ∀ v ∈ cs, v.oneCell' = true
  | _, .str, _, _, _, _, h, v, hv => by rw [show _ = _ from h] at hv; simp at hv; subst hv; rfl
  | _, .int _, _, _, _, _, h, v, hv => by rw [show _ = _ from h] at hv; simp at hv; subst hv; rfl
  | _, .bool, _, _, _, _, h, v, hv => by rw [show _ = _ from h] at hv; simp at hv; subst hv; rfl
  | _, .raw, _, _, _, _, h, v, hv => by rw [h.1] at hv; simp at hv; subst hv; exact plain_one h.2
  | _, .sl _, _, _, _, _, h, v, hv => by
    obtain ⟨u, e, a, cap, hu, _⟩ := h
    rw [e] at hv; simp at hv; subst hv; rw [hu]; rfl
  | _, .st R S, _, _, _, _, h, v, hv => by
    obtain ⟨c, d, e, h1, h2⟩ := h
    rw [e] at hv
    rcases List.mem_append.1 hv with hv | hv
    · exact R.ones h1 v hv
    · exact S.ones h2 v hv

/-- What leans on blocks of ok in w may be read in w', leaning on blocks of ok'. -/
def Keeps (ok ok' : Nat → Prop) (w w' : World) : Prop := ∀ b, ok b → b < w.heap.size → ok' b ∧ w'.heap[b]? = w.heap[b]?

theorem lt_of_heap {w w' : World} {b : Nat} (h : w'.heap[b]? = w.heap[b]?) (hlt : b < w.heap.size) : b < w'.heap.size := by
  rcases Nat.lt_or_ge b w'.heap.size with h' | h'
  · exact h'
  · rw [Array.getElem?_eq_none h', Array.getElem?_eq_getElem hlt] at h
    cases h
theorem CellsAt.of_block {w w' : World} {b off n : Nat} {cs : List Value} (hb : w'.heap[b]? = w.heap[b]?) (h : CellsAt w b off n cs) : CellsAt w' b off n cs :=
  ⟨h.1, fun j hj => by rw [World.cell?_of_block (w := w) hb]; exact h.2 j hj⟩

theorem SlOk.kept {α : Type} {n : Nat} {Pr Pr' : List Value → α → Prop} {ok ok' : Nat → Prop} {w w' : World} {v : Value} {xs : List α} (hk : Keeps ok ok' w w')
    (hp : ∀ cs x, Pr cs x → Pr' cs x) (h : SlOk n Pr ok w v xs) : SlOk n Pr' ok' w' v xs := by
  obtain ⟨a, cap, hv, h1, h2, hc⟩ := h
  refine ⟨a, cap, hv, h1, h2, fun i hi => ?_⟩
  obtain ⟨b, off, cs, ha, hb, hlt, hcell, hr⟩ := hc i hi
  have hkb := hk b hb hlt
  exact ⟨b, off, cs, ha, hkb.1, lt_of_heap hkb.2 hlt, hcell.of_block hkb.2, hp _ _ hr⟩

theorem Rd.kept : ∀ {α : Type} (R : Rd α) {ok ok' : Nat → Prop} {w w' : World} {cs : List Value} {x : α}, Keeps ok ok' w w' → R.is ok w cs x → R.is ok' w' cs x
  | _, .str, _, _, _, _, _, _, _, h => h
  | _, .int _, _, _, _, _, _, _, _, h => h
  | _, .bool, _, _, _, _, _, _, _, h => h
  | _, .raw, _, _, _, _, _, _, _, h => h
  | _, .sl R, _, _, _, _, _, _, hk, h => by
    obtain ⟨v, e, h⟩ := h
    exact ⟨v, e, h.kept hk (fun _ _ h => R.kept hk h)⟩
  | _, .st R S, _, _, _, _, _, _, hk, h => by
    obtain ⟨c, d, e, h1, h2⟩ := h
    exact ⟨c, d, e, R.kept hk h1, S.kept hk h2⟩

/-- What one cell holds. -/
inductive C : Type 1
  | any
  | lit (v : Value)
  | sl {α : Type} (R : Rd α) (xs : List α)
  | full {α : Type} (R : Rd α) (xs : List α)
  | addr {α : Type} (R : Rd α) (x : α)
  | own (id off : Nat)
  | vec (id : Nat)
  | vel (id k n : Nat)
  | ifc (t : TypeId) (c : C)
  | clo (f : FuncId) (c : C)
  | ref (c : C)
  | nself (u : Bool) (id : Nat)

/-- What a slot holds. -/
inductive A : Type 1
  | one (c : C)
  | agg (cs : List C)
  | tup (cs : List (Bool × List C))
  | cond (b : Bool) (a : A)

def C.rep (ok : Nat → Prop) (ρ : Nat → Option Value) (w : World) : C → Value → Prop
  | .any, _ => True
  | .lit u, v => v = u
  | .sl R xs, v => SlOk R.n (fun cs x => R.is ok w cs x) ok w v xs
  | .full R xs, v => SlOk R.n (fun cs x => R.is ok w cs x) ok w v xs ∧ ∃ a, v = .slice a xs.length xs.length
  | .addr R x, v => ∃ b off cs, v = .pointer (some ⟨b, off, none⟩) ∧ ok b ∧ b < w.heap.size ∧ CellsAt w b off R.n cs ∧ R.is ok w cs x
  | .own id off, v => ∃ b, ρ id = some (.pointer (some ⟨b, 0, none⟩)) ∧ v = .pointer (some ⟨b, off, none⟩)
  | .vec id, v => ρ id = some v ∧ ∃ a n c, v = .slice a n c
  | .vel id k n, v => ∃ b m cap, ρ id = some (.slice (some ⟨b, 0, none⟩) m cap) ∧ v = .pointer (some ⟨b, k * n, none⟩)
  | .ifc t c, v => ∃ u, v = .iface t u ∧ c.rep ok ρ w u
  | .clo f c, v => ∃ u, v = .func (.func f) #[] #[u] ∧ c.rep ok ρ w u
  | .ref c, v => ∃ b off u, v = .pointer (some ⟨b, off, none⟩) ∧ ok b ∧ b < w.heap.size ∧ CellsAt w b off 1 [u] ∧ c.rep ok ρ w u
  | .nself u i, v => (u = true → ∃ b, ρ i = some (.pointer (some ⟨b, 0, none⟩)) ∧ v = .pointer (some ⟨b, 0, none⟩)) ∧ (u = false → v = .pointer none)

theorem C.kept {ok ok' : Nat → Prop} {ρ : Nat → Option Value} {w w' : World} (hk : Keeps ok ok' w w') : ∀ {c : C} {v : Value}, c.rep ok ρ w v → c.rep ok' ρ w' v
  | .any, _, _ => trivial
  | .lit _, _, h => h
  | .sl R _, _, h => SlOk.kept hk (fun _ _ h => R.kept hk h) h
  | .full R _, _, h => ⟨SlOk.kept hk (fun _ _ h => R.kept hk h) h.1, h.2⟩
  | .addr R _, _, h => by
    obtain ⟨b, off, cs, hv, hb, hlt, hc, hr⟩ := h
    have hkb := hk b hb hlt
    exact ⟨b, off, cs, hv, hkb.1, lt_of_heap hkb.2 hlt, hc.of_block hkb.2, R.kept hk hr⟩
  | .own _ _, _, h => h
  | .vec _, _, h => h
  | .vel _ _ _, _, h => h
  | .ifc _ c, _, h => by
    obtain ⟨u, hv, h⟩ := h
    exact ⟨u, hv, C.kept hk h⟩
  | .clo _ c, _, h => by
    obtain ⟨u, hv, h⟩ := h
    exact ⟨u, hv, C.kept hk h⟩
  | .ref c, _, h => by
    obtain ⟨b, off, u, hv, hb, hlt, hc, hr⟩ := h
    have hkb := hk b hb hlt
    exact ⟨b, off, u, hv, hkb.1, lt_of_heap hkb.2 hlt, hc.of_block hkb.2, C.kept hk hr⟩
  | .nself _ _, _, h => h

/-- Cells that hold these. -/
def repL (ok : Nat → Prop) (ρ : Nat → Option Value) (w : World) : List C → List Value → Prop
  | [], vs => vs = []
  | c :: cs, vs => ∃ v r, vs = v :: r ∧ c.rep ok ρ w v ∧ repL ok ρ w cs r
/-- A value (of several cells or of one) that holds these. -/
def repV (ok : Nat → Prop) (ρ : Nat → Option Value) (w : World) : Bool → List C → Value → Prop
  | true, cs, v => ∃ vs, v = .agg vs.toArray ∧ repL ok ρ w cs vs
  | false, cs, v => repL ok ρ w cs [v]
def repT (ok : Nat → Prop) (ρ : Nat → Option Value) (w : World) : List (Bool × List C) → List Value → Prop
  | [], vs => vs = []
  | c :: cs, vs => ∃ v r, vs = v :: r ∧ repV ok ρ w c.1 c.2 v ∧ repT ok ρ w cs r
def A.rep (ok : Nat → Prop) (ρ : Nat → Option Value) (w : World) : A → Value → Prop
  | .one c, v => c.rep ok ρ w v
  | .agg cs, v => repV ok ρ w true cs v
  | .tup cs, v => ∃ vs, v = .tuple vs.toArray ∧ repT ok ρ w cs vs
  | .cond b a, v => (b = true → a.rep ok ρ w v) ∧ (b = false → v = undef)

theorem repL.kept {ok ok' : Nat → Prop} {ρ : Nat → Option Value} {w w' : World} (hk : Keeps ok ok' w w') : ∀ {cs : List C} {vs : List Value}, repL ok ρ w cs vs → repL ok' ρ w' cs vs
  | [], _, h => h
  | _ :: _, _, h => by
    obtain ⟨v, r, e, h1, h2⟩ := h
    exact ⟨v, r, e, C.kept hk h1, repL.kept hk h2⟩
theorem repV.kept {ok ok' : Nat → Prop} {ρ : Nat → Option Value} {w w' : World} (hk : Keeps ok ok' w w') : ∀ {g : Bool} {cs : List C} {v : Value}, repV ok ρ w g cs v → repV ok' ρ w' g cs v
  | true, _, _, h => by obtain ⟨vs, e, h⟩ := h; exact ⟨vs, e, h.kept hk⟩
  | false, _, _, h => repL.kept hk h
theorem repT.kept {ok ok' : Nat → Prop} {ρ : Nat → Option Value} {w w' : World} (hk : Keeps ok ok' w w') : ∀ {cs : List (Bool × List C)} {vs : List Value}, repT ok ρ w cs vs → repT ok' ρ w' cs vs
  | [], _, h => h
  | _ :: _, _, h => by
    obtain ⟨v, r, e, h1, h2⟩ := h
    exact ⟨v, r, e, h1.kept hk, repT.kept hk h2⟩
theorem A.kept {ok ok' : Nat → Prop} {ρ : Nat → Option Value} {w w' : World} (hk : Keeps ok ok' w w') : ∀ {a : A} {v : Value}, a.rep ok ρ w v → a.rep ok' ρ w' v
  | .one _, _, h => C.kept hk h
  | .agg _, _, h => repV.kept hk h
  | .tup _, _, h => by obtain ⟨vs, e, h⟩ := h; exact ⟨vs, e, h.kept hk⟩
  | .cond _ _, _, h => ⟨fun hb => A.kept hk (h.1 hb), h.2⟩

/-- More names. -/
def Names (ρ ρ' : Nat → Option Value) : Prop := ∀ i v, ρ i = some v → ρ' i = some v
theorem C.names {ok : Nat → Prop} {ρ ρ' : Nat → Option Value} {w : World} (hn : Names ρ ρ') : ∀ {c : C} {v : Value}, c.rep ok ρ w v → c.rep ok ρ' w v
  | .any, _, _ => trivial
  | .lit _, _, h => h
  | .sl _ _, _, h => h
  | .full _ _, _, h => h
  | .addr _ _, _, h => h
  | .own _ _, _, h => by obtain ⟨b, h1, h2⟩ := h; exact ⟨b, hn _ _ h1, h2⟩
  | .vec _, _, h => ⟨hn _ _ h.1, h.2⟩
  | .vel _ _ _, _, h => by obtain ⟨b, m, cap, h1, h2⟩ := h; exact ⟨b, m, cap, hn _ _ h1, h2⟩
  | .ifc _ c, _, h => by obtain ⟨u, hv, h⟩ := h; exact ⟨u, hv, C.names hn h⟩
  | .clo _ c, _, h => by obtain ⟨u, hv, h⟩ := h; exact ⟨u, hv, C.names hn h⟩
  | .ref c, _, h => by obtain ⟨b, off, u, hv, h1, h2, h3, h⟩ := h; exact ⟨b, off, u, hv, h1, h2, h3, C.names hn h⟩
  | .nself _ _, _, h => ⟨fun e => by obtain ⟨b, h1, h2⟩ := h.1 e; exact ⟨b, hn _ _ h1, h2⟩, h.2⟩
theorem repL.names {ok : Nat → Prop} {ρ ρ' : Nat → Option Value} {w : World} (hn : Names ρ ρ') : ∀ {cs : List C} {vs : List Value}, repL ok ρ w cs vs → repL ok ρ' w cs vs
  | [], _, h => h
  | _ :: _, _, h => by
    obtain ⟨v, r, e, h1, h2⟩ := h
    exact ⟨v, r, e, C.names hn h1, repL.names hn h2⟩
theorem repV.names {ok : Nat → Prop} {ρ ρ' : Nat → Option Value} {w : World} (hn : Names ρ ρ') : ∀ {g : Bool} {cs : List C} {v : Value}, repV ok ρ w g cs v → repV ok ρ' w g cs v
  | true, _, _, h => by obtain ⟨vs, e, h⟩ := h; exact ⟨vs, e, h.names hn⟩
  | false, _, _, h => repL.names hn h
theorem repT.names {ok : Nat → Prop} {ρ ρ' : Nat → Option Value} {w : World} (hn : Names ρ ρ') : ∀ {cs : List (Bool × List C)} {vs : List Value}, repT ok ρ w cs vs → repT ok ρ' w cs vs
  | [], _, h => h
  | _ :: _, _, h => by
    obtain ⟨v, r, e, h1, h2⟩ := h
    exact ⟨v, r, e, h1.names hn, repT.names hn h2⟩
theorem A.names {ok : Nat → Prop} {ρ ρ' : Nat → Option Value} {w : World} (hn : Names ρ ρ') : ∀ {a : A} {v : Value}, a.rep ok ρ w v → a.rep ok ρ' w v
  | .one _, _, h => C.names hn h
  | .agg _, _, h => repV.names hn h
  | .tup _, _, h => by obtain ⟨vs, e, h⟩ := h; exact ⟨vs, e, h.names hn⟩
  | .cond _ _, _, h => ⟨fun hb => A.names hn (h.1 hb), h.2⟩

theorem repL.len {ok : Nat → Prop} {ρ : Nat → Option Value} {w : World} : ∀ {cs : List C} {vs : List Value}, repL ok ρ w cs vs → vs.length = cs.length
  | [], _, h => by rw [show _ = _ from h]; rfl
  | _ :: _, _, h => by
    obtain ⟨v, r, e, _, h2⟩ := h
    rw [e, List.length_cons, List.length_cons, repL.len h2]
theorem repL.append {ok : Nat → Prop} {ρ : Nat → Option Value} {w : World} : ∀ {cs ds : List C} {us vs : List Value}, repL ok ρ w cs us → repL ok ρ w ds vs → repL ok ρ w (cs ++ ds) (us ++ vs)
  | [], _, _, _, h, k => by rw [show _ = _ from h]; exact k
  | _ :: _, _, _, _, h, k => by
    obtain ⟨v, r, e, h1, h2⟩ := h
    exact ⟨v, r ++ _, by rw [e]; rfl, h1, repL.append h2 k⟩

/-! ### What a reading's cells are, as abstract cells -/
def toC : {α : Type} → Rd α → α → C
  | _, .str, s => .lit (.string s)
  | _, .int k, x => .lit (.int k x)
  | _, .bool, x => .lit (.bool x)
  | _, .raw, v => .lit v
  | _, .sl R, xs => .sl R xs
  | _, .st _ _, _ => .any
def toL : {α : Type} → Rd α → α → List C
  | _, .str, s => [.lit (.string s)]
  | _, .int k, x => [.lit (.int k x)]
  | _, .bool, x => [.lit (.bool x)]
  | _, .raw, v => [.lit v]
  | _, .sl R, xs => [.sl R xs]
  | _, .st R S, x => toL R x.1 ++ toL S x.2

theorem toL_rep {ok : Nat → Prop} {ρ : Nat → Option Value} {w : World} : ∀ {α : Type} (R : Rd α) {cs : List Value} {x : α}, R.is ok w cs x → repL ok ρ w (toL R x) cs
  | _, .str, _, _, h => ⟨_, _, h, rfl, rfl⟩
  | _, .int _, _, _, h => ⟨_, _, h, rfl, rfl⟩
  | _, .bool, _, _, h => ⟨_, _, h, rfl, rfl⟩
  | _, .raw, _, _, h => ⟨_, _, h.1, rfl, rfl⟩
  | _, .sl R, _, _, h => by
    obtain ⟨v, e, h⟩ := h
    exact ⟨v, [], e, h, rfl⟩
  | _, .st R S, _, _, h => by
    obtain ⟨c, d, e, h1, h2⟩ := h
    rw [e]
    exact (toL_rep R h1).append (toL_rep S h2)
theorem toL_one : ∀ {α : Type} (R : Rd α) (x : α), R.n = 1 → toL R x = [toC R x]
  | _, .str, _, _ => rfl
  | _, .int _, _, _ => rfl
  | _, .bool, _, _ => rfl
  | _, .raw, _, _ => rfl
  | _, .sl _, _, _ => rfl
  | _, .st R S, _, h => by
    have := R.n_pos
    have := S.n_pos
    simp only [Rd.n] at h
    omega
theorem toL_length : ∀ {α : Type} (R : Rd α) (x : α), (toL R x).length = R.n
  | _, .str, _ => rfl
  | _, .int _, _ => rfl
  | _, .bool, _ => rfl
  | _, .raw, _ => rfl
  | _, .sl _, _ => rfl
  | _, .st R S, x => by rw [toL, List.length_append, toL_length R, toL_length S]; rfl

/-- Are two readings one? -/
def Rd.same : {α β : Type} → (R : Rd α) → (S : Rd β) → Option (PLift ((⟨α, R⟩ : Sigma Rd) = ⟨β, S⟩))
  | _, _, .str, .str => some ⟨rfl⟩
  | _, _, .int k, .int l => match decEq k l with
    | isTrue h => some ⟨by rw [h]⟩
    | isFalse _ => none
  | _, _, .bool, .bool => some ⟨rfl⟩
  | _, _, .raw, .raw => some ⟨rfl⟩
  | _, _, .sl R, .sl S => match Rd.same R S with
    | some h => some ⟨by cases h.down; rfl⟩
    | none => none
  | _, _, .st R R', .st S S' => match Rd.same R S with
    | some h => match Rd.same R' S' with
      | some h' => some ⟨by cases h.down; cases h'.down; rfl⟩
      | none => none
    | none => none
  | _, _, _, _ => none
/-- What stands at a reading, at another one that is the same. -/
def Rd.move {α β : Type} {R : Rd α} {S : Rd β} (h : (⟨α, R⟩ : Sigma Rd) = ⟨β, S⟩) (xs : List β) : List α := cast (by rw [(Sigma.mk.inj h).1]) xs
theorem Rd.move_rfl {α : Type} {R : Rd α} (h : (⟨α, R⟩ : Sigma Rd) = ⟨α, R⟩) (xs : List α) : Rd.move (R := R) (S := R) h xs = xs := rfl

/-- Abstract cells as typed data, and the cells behind them. -/
def ofL : {α : Type} → Rd α → List C → Option (α × List C)
  | _, .str, cs => match cs with
    | .lit (.string s) :: r => some (s, r)
    | _ => none
  | _, .int i, cs => match cs with
    | .lit (.int j x) :: r => match decEq i j with
      | isTrue _ => some (x, r)
      | isFalse _ => none
    | _ => none
  | _, .bool, cs => match cs with
    | .lit (.bool b) :: r => some (b, r)
    | _ => none
  | _, .raw, cs => match cs with
    | .lit v :: r => match plainB v with
      | true => some (v, r)
      | false => none
    | _ => none
  | _, .sl R, cs => match cs with
    | .sl S xs :: r => match Rd.same R S with
      | some h => some (Rd.move h.down xs, r)
      | none => none
    | .full S xs :: r => match Rd.same R S with
      | some h => some (Rd.move h.down xs, r)
      | none => none
    | .lit (.slice none 0 0) :: r => some ([], r)
    | _ => none
  | _, .st R S, cs => match ofL R cs with
    | some (x, r) => match ofL S r with
      | some (y, r') => some ((x, y), r')
      | none => none
    | none => none

theorem slOk_nil {α : Type} {n : Nat} {Pr : List Value → α → Prop} {ok : Nat → Prop} {w : World} : SlOk n Pr ok w (.slice none 0 0) [] :=
  ⟨none, 0, rfl, Nat.le_refl _, Nat.zero_le _, fun _ h => absurd h (Nat.not_lt_zero _)⟩

theorem ofL_rep {ok : Nat → Prop} {ρ : Nat → Option Value} {w : World} : ∀ {α : Type} (R : Rd α) {cs : List C} {vs : List Value} {x : α} {cr : List C}, ofL R cs = some (x, cr) → repL ok ρ w cs vs →
    ∃ us r, vs = us ++ r ∧ R.is ok w us x ∧ repL ok ρ w cr r
  | _, .str, cs, vs, x, cr, h, hr => by
    unfold ofL at h
    split at h
    · cases h
      obtain ⟨v, r, e, h1, h2⟩ := hr
      exact ⟨[v], r, e, by rw [show v = _ from h1]; rfl, h2⟩
    · cases h
  | _, .int _, cs, vs, x, cr, h, hr => by
    unfold ofL at h
    split at h
    · split at h
      · rename_i hij _
        cases h
        subst hij
        obtain ⟨v, r, e, h1, h2⟩ := hr
        exact ⟨[v], r, e, by rw [show v = _ from h1]; rfl, h2⟩
      · cases h
    · cases h
  | _, .bool, cs, vs, x, cr, h, hr => by
    unfold ofL at h
    split at h
    · cases h
      obtain ⟨v, r, e, h1, h2⟩ := hr
      exact ⟨[v], r, e, by rw [show v = _ from h1]; rfl, h2⟩
    · cases h
  | _, .raw, cs, vs, x, cr, h, hr => by
    unfold ofL at h
    split at h
    · split at h
      · rename_i hp
        cases h
        obtain ⟨v, r, e, h1, h2⟩ := hr
        exact ⟨[v], r, e, by rw [show v = _ from h1]; exact ⟨rfl, hp⟩, h2⟩
      · cases h
    · cases h
  | _, .sl R, cs, vs, x, cr, h, hr => by
    unfold ofL at h
    split at h
    · split at h
      · rename_i hh _
        obtain ⟨v, r, e, h1, h2⟩ := hr
        cases h
        cases hh.down
        exact ⟨[v], r, e, ⟨v, rfl, h1⟩, h2⟩
      · cases h
    · split at h
      · rename_i hh _
        obtain ⟨v, r, e, h1, h2⟩ := hr
        cases h
        cases hh.down
        exact ⟨[v], r, e, ⟨v, rfl, h1.1⟩, h2⟩
      · cases h
    · cases h
      obtain ⟨v, r, e, h1, h2⟩ := hr
      exact ⟨[v], r, e, ⟨v, rfl, by rw [show v = _ from h1]; exact slOk_nil⟩, h2⟩
    · cases h
  | _, .st R S, cs, vs, x, cr, h, hr => by
    unfold ofL at h
    split at h
    · rename_i x1 r1 e1
      split at h
      · rename_i y1 r2 e2
        cases h
        obtain ⟨us, r, e, h1, h3⟩ := ofL_rep R e1 hr
        obtain ⟨us', r', e', h1', h3'⟩ := ofL_rep S e2 h3
        exact ⟨us ++ us', r', by rw [e, e', List.append_assoc], ⟨us, us', rfl, h1, h1'⟩, h3'⟩
      · cases h
    · cases h

/-- What some reading gives where nothing is. -/
def Rd.dflt : {α : Type} → Rd α → α
  | _, .str => ByteArray.empty
  | _, .int _ => 0
  | _, .bool => false
  | _, .raw => .nilIface
  | _, .sl _ => []
  | _, .st R S => (R.dflt, S.dflt)

/-- What an operation comes to: a value; one, if something holds; one, and something is known; no value that is known of. -/
inductive Vr : Type 1
  | ok (v : A)
  | need (p : Prop) (v : A)
  | know (p : Prop) (v : A)
  | bad

abbrev ib (b : Bool) : A := .one (.lit (.bool b))
abbrev ii (k : IntKind) (n : Int) : A := .one (.lit (.int k n))
abbrev is (s : ByteArray) : A := .one (.lit (.string s))

theorem flatten_at {n : Nat} : ∀ (css : List (List Value)) (i j : Nat), (∀ c ∈ css, c.length = n) → i < css.length → j < n → css.flatten[i * n + j]? = (css.getD i [])[j]?
  | [], i, j, _, hi, _ => absurd hi (by simp)
  | c :: r, 0, j, hc, _, hj => by
    have : c.length = n := hc c (by simp)
    simp [List.getElem?_append, this, hj]
  | c :: r, i + 1, j, hc, hi, hj => by
    have h1 : c.length = n := hc c (by simp)
    have h2 : ¬ (i + 1) * n + j < c.length := by rw [h1, Nat.add_mul]; omega
    have h3 : (i + 1) * n + j - c.length = i * n + j := by rw [h1, Nat.add_mul]; omega
    rw [List.flatten_cons, List.getElem?_append_right (by omega), h3]
    have := flatten_at r i j (fun c hc' => hc c (by simp [hc'])) (by simpa using hi) hj
    simpa using this

end Ab
end Go.Proofs.YthlfbpmbkcoclaaDoor
