/-
  Readings: which cells read as which plain data, on which blocks that leans, and how it is kept. Over any program; no condition.
-/
import Derived.Below
import Derived.ChangeArms
import Derived.Deep.Slices
import Derived.Deep.Draws
import Derived.Laws.AppendOwn
import Derived.Laws.OwnMore
import Derived.OwnWalk
import Derived.ArgAppend
import Derived.WalkKit
import Derived.WideShapes
namespace Go.Proofs.Ytahdeifoakjccaa
open Go.RowKit
namespace Rdl

/-- A reading of cells as data of type α. 'ok': the blocks on which it leans. -/
structure Rd (α : Type) where
  n : Nat
  rd : (Nat → Prop) → World → List Value → α → Prop
  len : ∀ {ok w cs a}, rd ok w cs a → cs.length = n
  kept : ∀ {ok ok' : Nat → Prop} {w w' cs a}, (∀ b, ok b → b < w.heap.size → ok' b ∧ w'.heap[b]? = w.heap[b]?) → rd ok w cs a → rd ok' w' cs a

def str : Rd ByteArray where
  n := 1
  rd := fun _ _ cs s => cs = [.string s] ∧ s.size ≤ maxLen
  len := fun h => by rw [h.1]; rfl
  kept := fun _ h => h
def int : Rd Int where
  n := 1
  rd := fun _ _ cs k => cs = [.int .i64 k] ∧ -9223372036854775808 ≤ k ∧ k ≤ 9223372036854775807
  len := fun h => by rw [h.1]; rfl
  kept := fun _ h => h
def bool : Rd Bool where
  n := 1
  rd := fun _ _ cs k => cs = [.bool k]
  len := fun h => by rw [h]; rfl
  kept := fun _ h => h
def pair {α β : Type} (R : Rd α) (S : Rd β) : Rd (α × β) where
  n := R.n + S.n
  rd := fun ok w cs x => ∃ c d, cs = c ++ d ∧ R.rd ok w c x.1 ∧ S.rd ok w d x.2
  len := fun ⟨c, d, e, h1, h2⟩ => by rw [e, List.length_append, R.len h1, S.len h2]
  kept := fun hk ⟨c, d, e, h1, h2⟩ => ⟨c, d, e, R.kept hk h1, S.kept hk h2⟩

/-- The value reads as a slice of these. -/
def Sl {α : Type} (R : Rd α) (ok : Nat → Prop) (w : World) (v : Value) (xs : List α) : Prop :=
  ∃ a cap, v = .slice a xs.length cap ∧ xs.length ≤ cap ∧ cap ≤ maxLen ∧
    ∀ i (h : i < xs.length), ∃ b off cs, a = some ⟨b, off, none⟩ ∧ ok b ∧ R.rd ok w cs xs[i] ∧ ∀ j, j < R.n → w.cell? ⟨b, off + (i * R.n + j), none⟩ = cs[j]?

theorem Sl.kept {α : Type} {R : Rd α} {ok ok' : Nat → Prop} {w w' : World} {v : Value} {xs : List α} (hn : 0 < R.n)
    (hk : ∀ b, ok b → b < w.heap.size → ok' b ∧ w'.heap[b]? = w.heap[b]?) (h : Sl R ok w v xs) : Sl R ok' w' v xs := by
  obtain ⟨a, cap, hv, h1, h2, hc⟩ := h
  refine ⟨a, cap, hv, h1, h2, fun i hi => ?_⟩
  obtain ⟨b, off, cs, ha, hb, hr, hcell⟩ := hc i hi
  have hlt : b < w.heap.size := by
    have h0 := hcell 0 hn
    have hl := R.len hr
    rw [List.getElem?_eq_getElem (by omega)] at h0
    exact World.block_lt_of_cell? _ _ h0
  have hkb := hk b hb hlt
  exact ⟨b, off, cs, ha, hkb.1, R.kept hk hr, fun j hj => by rw [World.cell?_of_block (w := w) hkb.2]; exact hcell j hj⟩

/-- Slices of what takes at least one cell. -/
def sl {α : Type} (R : Rd α) (hn : 0 < R.n) : Rd (List α) where
  n := 1
  rd := fun ok w cs xs => ∃ v, cs = [v] ∧ Sl R ok w v xs
  len := fun ⟨v, e, _⟩ => by rw [e]; rfl
  kept := fun hk ⟨v, e, h⟩ => ⟨v, e, h.kept hn hk⟩

abbrev all : Nat → Prop := fun _ => True
theorem keep_below {w w' : World} (hb : Below w.heap.size w w') {ok : Nat → Prop} : ∀ b, ok b → b < w.heap.size → ok b ∧ w'.heap[b]? = w.heap[b]? := fun b h hlt => ⟨h, hb.block b hlt⟩
theorem Sl.below {α : Type} {R : Rd α} {ok : Nat → Prop} {w w' : World} {v : Value} {xs : List α} (hn : 0 < R.n) (h : Sl R ok w v xs) (hb : Below w.heap.size w w') : Sl R ok w' v xs :=
  h.kept hn (keep_below hb)
theorem Sl.weak {α : Type} {R : Rd α} {ok ok' : Nat → Prop} {w : World} {v : Value} {xs : List α} (hn : 0 < R.n) (h : Sl R ok w v xs) (hi : ∀ b, ok b → b < w.heap.size → ok' b) : Sl R ok' w v xs :=
  h.kept hn (fun b hb hlt => ⟨hi b hb hlt, rfl⟩)
theorem Sl.drewN {α : Type} {R : Rd α} {ok : Nat → Prop} {w : World} {v : Value} {xs : List α} (hn : 0 < R.n) (h : Sl R ok w v xs) (n : Nat) : Sl R ok (w.drewN n) v xs :=
  Sl.kept (w := w) hn (fun _ hb _ => ⟨hb, by rw [World.heap_drewN]⟩) h
theorem Sl.length {α : Type} {R : Rd α} {ok : Nat → Prop} {w : World} {v : Value} {xs : List α} (h : Sl R ok w v xs) : xs.length ≤ maxLen := by
  obtain ⟨a, cap, _, h1, h2, _⟩ := h; omega
theorem Sl.nil {α : Type} {R : Rd α} {ok : Nat → Prop} {w : World} : Sl R ok w (.slice none 0 0) [] :=
  ⟨none, 0, rfl, Nat.le_refl _, by unfold maxLen; omega, fun i h => absurd h (by simp)⟩

/-! ### Opening what came in -/
/-- What reads at type t reads as R says. -/
def Opens {α : Type} (P : Program) (t : TypeId) (R : Rd α) : Prop :=
  P.cellsOf t = R.n ∧ ∀ {H : Type} (enc : TypeId × Value → H) (w : World) (base fuel : Nat) (spare : Nat → Bool) (held : Bool) (cs : List Value) (x : DataW H × List MemPlace), DataW.trod enc P w base spare held fuel t cs = some x → ∃ a, R.rd all w cs a
theorem opens_str {P : Program} {t : TypeId} (ht : P.underlying t = some .string) (hc : P.cellsOf t = 1) : Opens P t str :=
  ⟨hc, fun _ _ _ _ _ _ _ _ h => by obtain ⟨s, e, _, hs⟩ := DataW.trod_string ht h; exact ⟨s, e, hs⟩⟩
theorem opens_int {P : Program} {t : TypeId} (ht : P.underlying t = some (.int .i64)) (hc : P.cellsOf t = 1) : Opens P t int :=
  ⟨hc, fun _ _ _ _ _ _ _ _ h => by
    obtain ⟨s, e, _, hs⟩ := DataW.trod_int ht h
    have : -9223372036854775808 ≤ s ∧ s ≤ 9223372036854775807 := by simpa [Lit.wf, IntKind.min, IntKind.max, IntKind.signed, IntKind.bits] using hs
    exact ⟨s, e, this⟩⟩
theorem opens_bool {P : Program} {t : TypeId} (ht : P.underlying t = some .bool) (hc : P.cellsOf t = 1) : Opens P t bool :=
  ⟨hc, fun _ _ _ _ _ _ _ _ h => by obtain ⟨s, e, _⟩ := DataW.trod_bool ht h; exact ⟨s, e⟩⟩
theorem opens_two {α β : Type} {P : Program} {t : TypeId} {R : Rd α} {S : Rd β} {f0 f1 : Field} (ht : P.underlying t = some (.struct #[f0, f1])) (hc : P.cellsOf t = R.n + S.n)
    (o0 : f0.offset = 0) (o1 : f1.offset = R.n) (h0 : Opens P f0.type R) (h1 : Opens P f1.type S) : Opens P t (pair R S) :=
  ⟨hc, fun enc w base fuel spare held cs x h => by
    obtain ⟨xs, n, _, _, hl, hxl, hf⟩ := DataW.trod_struct ht h
    match xs, hxl with
    | [y0, y1], _ =>
      have e0 := hf 0 f0 rfl
      have e1 := hf 1 f1 rfl
      rw [o0, h0.1, List.drop_zero] at e0
      rw [o1, h1.1] at e1
      obtain ⟨a, ha⟩ := h0.2 enc w base n spare held _ _ e0
      obtain ⟨b, hb⟩ := h1.2 enc w base n spare held _ _ e1
      have e2 : (cs.drop R.n).take S.n = cs.drop R.n := List.take_of_length_le (by rw [List.length_drop, hl, hc]; omega)
      rw [e2] at hb
      exact ⟨(a, b), cs.take R.n, cs.drop R.n, (List.take_append_drop _ _).symm, ha, hb⟩⟩
theorem opens_sl {α : Type} {P : Program} {t e : TypeId} {R : Rd α} (hn : 0 < R.n) (ht : P.underlying t = some (.slice e)) (hc : P.cellsOf t = 1) (he : Opens P e R) : Opens P t (sl R hn) :=
  ⟨hc, fun enc w base fuel spare held cs x h => by
    rcases Go.Deep.open_slice ht h with ⟨rfl, _⟩ | ⟨a, len, cap, m, n, D, Pl, rfl, _, hl, hm, hmm, rfl, hx⟩
    · exact ⟨[], _, rfl, Sl.nil⟩
    · have hlm : len ≤ m := by rw [hmm]; split <;> omega
      have each : ∀ i, i < len → ∃ q : List Value × α, w.cells? base (a.add (i * P.cellsOf e)) (P.cellsOf e) = some q.1 ∧ R.rd all w q.1 q.2 := by
        intro i hi
        obtain ⟨cs', h1, h2⟩ := hx i (by omega)
        obtain ⟨y, hy⟩ := he.2 enc w base n spare held cs' _ h2
        exact ⟨(cs', y), h1, hy⟩
      by_cases h0 : len = 0
      · subst h0
        exact ⟨[], _, rfl, some a, cap, rfl, Nat.zero_le _, hm, fun i h => absurd h (by simp)⟩
      · obtain ⟨q0, _⟩ := each 0 (by omega)
        haveI : Inhabited (List Value × α) := ⟨q0⟩
        obtain ⟨f, hf⟩ := Go.Deep.choose_lt each
        refine ⟨(List.range len).map fun i => (f i).2, _, rfl, some a, cap, by simp, by simpa using hl, hm, fun i hi => ?_⟩
        have hi' : i < len := by simpa using hi
        obtain ⟨hc1, hr1⟩ := hf i hi'
        obtain ⟨_, hlen, hcell⟩ := World.cells?_some hc1
        have hspot : a.spot = none := by
          obtain ⟨hc0, hr0⟩ := hf 0 (by omega)
          obtain ⟨_, hlen0, hcell0⟩ := World.cells?_some hc0
          have hg := hcell0 0 (by rw [he.1]; exact hn)
          rw [List.getElem?_eq_getElem (by rw [hlen0, he.1]; exact hn)] at hg
          have := World.cell?_spot hg
          simpa [Addr.add] using this
        obtain ⟨b, off, spot⟩ := a
        simp only at hspot
        subst hspot
        refine ⟨b, off, (f i).1, rfl, trivial, by simpa using hr1, fun j hj => ?_⟩
        have hg := hcell j (by rw [he.1]; exact hj)
        rw [Go.Deep.add_add, he.1, Go.WideShapes.add_plain] at hg
        exact hg⟩


/-! ### What a call makes itself -/
/-- The value is a slice of the call's own that reads as these; its elements do not lean on its own block. -/
def Own {α : Type} (R : Rd α) (ok : Nat → Prop) (w : World) (B : Nat) (E : TypeId) (v : Value) (xs : List α) : Prop :=
  ∃ css : List (List Value), css.length = xs.length ∧ (∀ i (h : i < xs.length), R.rd (fun b => ok b ∧ some b ≠ v.ownBlock) w (css.getD i []) xs[i]) ∧ w.ownsRow B E R.n v xs.length css.flatten

theorem Own.nil {α : Type} {R : Rd α} {ok : Nat → Prop} {w : World} {B : Nat} {E : TypeId} : Own R ok w B E (.slice none 0 0) ([] : List α) :=
  ⟨[], rfl, fun i h => absurd h (by simp), World.ownsRow_nil _ _ _ _⟩

theorem flatten_at {n : Nat} : ∀ (css : List (List Value)) (i j : Nat), (∀ c ∈ css, c.length = n) → i < css.length → j < n → css.flatten[i * n + j]? = (css.getD i [])[j]?
  | [], i, j, _, hi, _ => absurd hi (by simp)
  | c :: r, 0, j, hc, _, hj => by
    have : c.length = n := hc c (by simp)
    simp [List.getElem?_append, this, hj]
  | c :: r, i + 1, j, hc, hi, hj => by
    have h1 : c.length = n := hc c (by simp)
    have h2 : ¬ (i + 1) * n + j < c.length := by rw [h1, Nat.add_mul]; omega
    have h3 : (i + 1) * n + j - c.length = i * n + j := by rw [h1, Nat.add_mul]; omega
    rw [List.flatten_cons, List.getElem?_append_right (by omega), h3]
    have := flatten_at r i j (fun c hc' => hc c (by simp [hc'])) (by simpa using hi) hj
    simpa using this

theorem Own.lens {α : Type} {R : Rd α} {ok : Nat → Prop} {w : World} {xs : List α} {css : List (List Value)} (h1 : css.length = xs.length) (h2 : ∀ i (h : i < xs.length), R.rd ok w (css.getD i []) xs[i]) : ∀ c ∈ css, c.length = R.n := by
  intro c hc
  obtain ⟨i, hi, rfl⟩ := List.mem_iff_getElem.1 hc
  have := R.len (h2 i (by omega))
  simpa [List.getD, hi] using this

/-- As a slice that reads so. -/
theorem Own.sl {α : Type} {R : Rd α} {ok ok' : Nat → Prop} {w : World} {B : Nat} {E : TypeId} {v : Value} {xs : List α} (h : Own R ok w B E v xs)
    (h1 : ∀ b, ok b → b < w.heap.size → ok' b) (h2 : ∀ b, B ≤ b → b < w.heap.size → ok' b) : Sl R ok' w v xs := by
  obtain ⟨css, hl, hr, hown⟩ := h
  have hlens := Own.lens hl hr
  have hown' := hown
  rcases hown.2 with ⟨rfl, h0⟩ | ⟨g, cap, cur, rfl, hbg, hg, hnc, hcm, hcs, htake⟩
  · have : xs = [] := List.length_eq_zero_iff.1 h0
    subst this
    exact Sl.nil
  · have hlt := (hown.lt g rfl).2
    refine ⟨some ⟨g, 0, none⟩, cap, rfl, hnc, hcm, fun i hi => ⟨g, 0, css.getD i [], rfl, h2 g hbg hlt, R.kept (fun b hb hlt' => ⟨h1 b hb.1 hlt', rfl⟩) (hr i hi), fun j hj => ?_⟩⟩
    have hb : i * R.n + j < xs.length * R.n := by
      have : (i + 1) * R.n ≤ xs.length * R.n := Nat.mul_le_mul_right _ (by omega)
      rw [Nat.add_mul] at this; omega
    rw [Nat.zero_add, hown.cellAt _ hb, flatten_at css i j hlens (by omega) hj]

theorem Own.kept {α : Type} {R : Rd α} {ok : Nat → Prop} {w w' : World} {B : Nat} {E : TypeId} {v : Value} {xs : List α} {row : Option Nat} (h : Own R ok w B E v xs) (hg : w.grownBy w' row)
    (h1 : v.ownBlock = none ∨ v.ownBlock ≠ row) (h2 : ∀ b, ok b → b < w.heap.size → some b ≠ row) : Own R ok w' B E v xs := by
  obtain ⟨css, hl, hr, hown⟩ := h
  exact ⟨css, hl, fun i hi => R.kept (fun b hb hlt => ⟨hb, hg.block b hlt (h2 b hb.1 hlt)⟩) (hr i hi), hown.kept hg h1⟩
theorem grown_of_below {w w' : World} (h : Below w.heap.size w w') : w.grownBy w' none := ⟨h.os, h.tape, h.output, h.size, fun k hk _ => h.block k hk⟩
theorem Own.below {α : Type} {R : Rd α} {ok : Nat → Prop} {w w' : World} {B : Nat} {E : TypeId} {v : Value} {xs : List α} (h : Own R ok w B E v xs) (hb : Below w.heap.size w w') : Own R ok w' B E v xs :=
  h.kept (grown_of_below hb) (by cases hv : v.ownBlock <;> simp) (fun _ _ _ => by simp)
theorem Own.alloc {α : Type} {R : Rd α} {ok : Nat → Prop} {w : World} {B : Nat} {E : TypeId} {v : Value} {xs : List α} (h : Own R ok w B E v xs) (o : Obj) : Own R ok (w.alloc o) B E v xs :=
  h.below ((Below.refl _ _).alloc (Nat.le_refl _) _)
theorem Own.drewN {α : Type} {R : Rd α} {ok : Nat → Prop} {w : World} {B : Nat} {E : TypeId} {v : Value} {xs : List α} (h : Own R ok w B E v xs) (n : Nat) : Own R ok (w.drewN n) B E v xs :=
  h.below ⟨rfl, rfl, rfl, Nat.le_refl _, fun _ _ => rfl⟩

/-- 'append' onto a slice of the call's own, with word on where the new one lies. -/
theorem wpList_app {P : Program} (w : World) {ops : Array Oper} {rest : List Oper} {o : Oper} {a : Act} {Q : Exit → Act → World → Prop} (hgd : o.guard = none) (s x : Operand) (t : TypeId)
    (ho : o.op = .call { callee := .builtin .append, args := #[s, x], argTypes := #[t, t] })
    (base : Nat) (e : TypeId) (i : TypeInfo) (z : Value) (size bytes : Nat) (ht : P.underlying t = some (.slice e)) (hi : P.info? e = some i) (hz : i.zero = some z)
    (hsize : i.size = size) (hby : i.bytes = bytes) (hzs : z.cells.size = size) (hsz : 0 < size)
    (v : Value) (n : Nat) (xs : List Value) (hs : a.eval s = v) (hown : w.ownsRow base e size v n xs)
    (ad : Addr) (m c : Nat) (news : List Value) (hx : a.eval x = .slice (some ad) m c) (hl : news.length = m * size) (hnews : ∀ j u, news[j]? = some u → w.cell? (ad.add j) = some u) (h1 : ∀ u ∈ news, u.oneCell' = true) (hm : 0 < m)
    (h63 : n + m ≤ maxLen) (hbytes : (n + m) * bytes ≤ 140737488355328) (hbase : base ≤ w.heap.size)
    (h : ∀ v' w', w'.ownsRow base e size v' (n + m) (xs ++ news) → w.grownBy w' v.ownBlock → (v'.ownBlock = v.ownBlock ∨ ∃ g, v'.ownBlock = some g ∧ w.heap.size ≤ g) → wpList P ops Q rest (a.put o.dst v') w') : wpList P ops Q (o :: rest) a w := by
  have hgrow : ∀ v' w', w'.ownsRow w.heap.size e size v' (n + m) (xs ++ news) → w.grownBy w' none → wpList P ops Q rest (a.put o.dst v') w' := by
    intro v' w' ho' hg'
    refine h v' w' ⟨ho'.1, ?_⟩ ⟨hg'.os, hg'.tape, hg'.output, hg'.size, fun k hk _ => hg'.block k hk (by simp)⟩ ?_
    · rcases ho'.2 with h0 | ⟨g, cap, cur, r1, r2, r3⟩
      · exact .inl h0
      · exact .inr ⟨g, cap, cur, r1, Nat.le_trans hbase r2, r3⟩
    · rcases ho'.2 with ⟨_, h0⟩ | ⟨g, cap, cur, r1, r2, _⟩
      · omega
      · exact .inr ⟨g, by rw [r1]; rfl, r2⟩
  have hown' := hown
  rcases hown.2 with ⟨hv, h0⟩ | ⟨g, cap, cur, hv, hbg, hg, hnc, hcm, hcs, htake⟩
  · subst h0
    refine wpList_append_grows w hgd s x t ho e i z size bytes ht hi hz hsize hby hzs hsz none 0 0 xs (by rw [hs, hv]) (fun _ => ⟨rfl, rfl⟩) hown.1 (fun b hb => by cases hb) ad m c news hx hl hnews h1 (by omega) h63 hbytes ?_
    intro v' w' h2 h3
    exact hgrow v' w' h2 h3
  · by_cases hroom : n + m ≤ cap
    · subst hv
      refine wpList_append_fits w hgd s x t ho base e i size ht hi hsize g n cap xs hs hown' ad m c news hx hl hnews h1 hroom ?_
      intro w' h2 h3
      exact h _ w' h2 h3 (.inl rfl)
    · refine wpList_append_grows w hgd s x t ho e i z size bytes ht hi hz hsize hby hzs hsz (some ⟨g, 0, none⟩) n cap xs (by rw [hs, hv]) (fun hh => by cases hh) hown.1 ?_ ad m c news hx hl hnews h1 (by omega) h63 hbytes ?_
      · intro b hb j u hj
        cases hb
        exact hown'.cells (by rw [hv]; rfl) j u hj
      · intro v' w' h2 h3
        exact hgrow v' w' h2 h3

theorem Own.base {α : Type} {R : Rd α} {ok : Nat → Prop} {w : World} {B : Nat} {E : TypeId} {v : Value} {xs : List α} (h : Own R ok w B E v xs) : ∀ g, v.ownBlock = some g → B ≤ g := by
  obtain ⟨css, hl, hr, hown⟩ := h
  exact fun g hg => (hown.lt g hg).1

theorem Lib.alloc_old' (w : World) (o : Obj) (i : Nat) (h : i < w.heap.size) : (w.alloc o).heap[i]? = w.heap[i]? := Below.heap_alloc w o i h
/-- 'append(out, x)' of one element onto a slice of the call's own: the element's cells lie in a new block ahead of it. -/
theorem wpList_push {α : Type} {P : Program} (R : Rd α) (w0 : World) {ops : Array Oper} {rest : List Oper} {o : Oper} {a : Act} {Q : Exit → Act → World → Prop} (hgd : o.guard = none) (s x : Operand) (t : TypeId)
    (ho : o.op = .call { callee := .builtin .append, args := #[s, x], argTypes := #[t, t] })
    (base : Nat) (e : TypeId) (z : Value) (bytes : Nat) (ht : P.underlying t = some (.slice e)) (hinfo : (P.info? e).map (fun i => (i.zero, i.size, i.bytes)) = some (some z, R.n, bytes))
    (hzs : z.cells.size = R.n) (hsz : 0 < R.n)
    (ok : Nat → Prop) (v : Value) (xs : List α) (hs : a.eval s = v) (hown : Own R ok w0 base e v xs)
    (cs : Array Value) (y : α) (hrd : R.rd (fun b => ok b ∧ some b ≠ v.ownBlock) w0 cs.toList y) (c : Nat) (hx : a.eval x = .slice (some ⟨w0.heap.size, 0, none⟩) 1 c) (h1 : ∀ u ∈ cs.toList, u.oneCell' = true)
    (hbytes : (xs.length + 1) * bytes ≤ 140737488355328) (h63 : xs.length + 1 ≤ maxLen) (hbase : base ≤ w0.heap.size)
    (h : ∀ v' w', Own R ok w' base e v' (xs ++ [y]) → w0.grownBy w' v.ownBlock → wpList P ops Q rest (a.put o.dst v') w') : wpList P ops Q (o :: rest) a (w0.alloc (.cells cs e)) := by
  obtain ⟨i, hi, hz0, hz1, hz2⟩ := info_parts hinfo
  obtain ⟨css, hl, hr, hrow⟩ := hown
  have hn := R.len hrd
  have hown0 : Own R ok w0 base e v xs := ⟨css, hl, hr, hrow⟩
  refine wpList_app (w0.alloc (.cells cs e)) hgd s x t ho base e i z R.n bytes ht hi hz0 hz1 hz2 hzs hsz v xs.length css.flatten hs (hrow.alloc _) ⟨w0.heap.size, 0, none⟩ 1 c cs.toList hx (by rw [hn, Nat.one_mul]) ?_ h1 (by omega) h63 hbytes (by simp; omega) ?_
  · intro j u hj
    rw [Go.WideShapes.add_plain, Nat.zero_add, World.cell?_alloc_at _ _ _ _ rfl]
    simpa using hj
  · intro v' w' h2 h3 h4
    have hg : w0.grownBy w' v.ownBlock := ⟨h3.os, h3.tape, h3.output, Nat.le_trans (by simp) h3.size, fun k hk hne => (h3.block k (by simp; omega) hne).trans (Lib.alloc_old' w0 _ k hk)⟩
    refine h v' w' ⟨css ++ [cs.toList], by simp [hl], ?_, ?_⟩ hg
    · have hok : ∀ b, (ok b ∧ some b ≠ v.ownBlock) → b < w0.heap.size → (ok b ∧ some b ≠ v'.ownBlock) ∧ w'.heap[b]? = w0.heap[b]? := by
        intro b hb hlt
        refine ⟨⟨hb.1, ?_⟩, hg.block b hlt hb.2⟩
        rcases h4 with h4 | ⟨g, hg4, hge⟩
        · rw [h4]; exact hb.2
        · rw [hg4]
          intro e
          injection e with e
          simp at hge
          omega
      intro i hi
      by_cases hlt : i < xs.length
      · have := R.kept hok (hr i hlt)
        rw [List.getElem_append_left hlt]
        have e1 : (css ++ [cs.toList]).getD i [] = css.getD i [] := by simp [List.getD, List.getElem?_append_left (show i < css.length by omega)]
        rw [e1]; exact this
      · have hi2 : i = xs.length := by simp at hi; omega
        subst hi2
        have e1 : (css ++ [cs.toList]).getD xs.length [] = cs.toList := by simp [List.getD, ← hl]
        rw [e1]
        simpa using R.kept hok hrd
    · simpa [hl] using h2

/-! ### Lists held against each other, one by one -/
theorem ne_at {α : Type} {xs ys : List α} (k : Nat) (h1 : k < xs.length) (h2 : k < ys.length) (h : xs[k] ≠ ys[k]) : xs ≠ ys := by
  rintro rfl; exact h rfl
theorem take_step {α : Type} {xs ys : List α} (k : Nat) (h1 : k < xs.length) (h2 : k < ys.length) (h : xs[k] = ys[k]) (ht : xs.take k = ys.take k) : xs.take (k + 1) = ys.take (k + 1) := by
  rw [List.take_succ_eq_append_getElem h1, List.take_succ_eq_append_getElem h2, ht, h]
theorem take_full {α : Type} {xs ys : List α} (hl : xs.length = ys.length) (ht : xs.take xs.length = ys.take xs.length) : xs = ys := by
  rw [List.take_length] at ht
  rw [ht, hl, List.take_length]
theorem ret_bool {a b : Bool} (h : a = b) : Ending.returned (.bool a) = .returned (.bool b) := by rw [h]

end Rdl
end Go.Proofs.Ytahdeifoakjccaa
