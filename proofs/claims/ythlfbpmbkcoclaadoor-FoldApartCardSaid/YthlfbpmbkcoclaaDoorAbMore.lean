/-
  Slices of strings and of slices, tuples, interfaces, structs built, abstractly. Over any program; no condition.
-/
import Derived.Test.YthlfbpmbkcoclaaDoorAbMem
namespace Go.Proofs.YthlfbpmbkcoclaaDoor
open Go.RowKit
namespace Ab

section
variable {P : Program} {te : List (TypeId × TyI)} {ok : Nat → Prop} {ρ : Nat → Option Value} {w : World}

def repO (ok : Nat → Prop) (ρ : Nat → Option Value) (w : World) : Option A → Option Value → Prop
  | none, none => True
  | some a, some v => a.rep ok ρ w v
  | _, _ => False

theorem run_slice_str {t : TypeId} (h : P.underlying t = some .string) (s : ByteArray) {lo hi : Option A} {l r : Option Value} (hl : repO ok ρ w lo l) (hr : repO ok ρ w hi r) {i j : Int} (h1 : bnd lo 0 = some i) (h2 : bnd hi s.size = some j)
    (hb : 0 ≤ i ∧ i ≤ j ∧ j ≤ (s.size : Int)) : (Instr.slice t (.string s) l r none).run P w = .ok (.string (s.extract i.toNat j.toNat)) w := by
  have lo' : (l = none ∧ i = 0) ∨ ∃ k, l = some (.int k i) := by
    unfold bnd at h1
    split at h1
    · cases l with
      | none => exact .inl ⟨rfl, by cases h1; rfl⟩
      | some v => exact hl.elim
    · rename_i k n
      cases l with
      | none => exact hl.elim
      | some v =>
        cases h1
        rw [show v = _ from hl]
        exact .inr ⟨k, rfl⟩
    · cases h1
  have hi' : (r = none ∧ j = s.size) ∨ ∃ k, r = some (.int k j) := by
    unfold bnd at h2
    split at h2
    · cases r with
      | none => exact .inl ⟨rfl, by cases h2; rfl⟩
      | some v => exact hr.elim
    · rename_i k n
      cases r with
      | none => exact hr.elim
      | some v =>
        cases h2
        rw [show v = _ from hr]
        exact .inr ⟨k, rfl⟩
    · cases h2
  have hb1 : 0 ≤ j ∧ j ≤ (s.size : Int) := ⟨by omega, hb.2.2⟩
  have hb2 : 0 ≤ i ∧ i ≤ ((j.toNat : Nat) : Int) := ⟨hb.1, by omega⟩
  rcases lo' with ⟨rfl, rfl⟩ | ⟨k, rfl⟩ <;> rcases hi' with ⟨rfl, rfl⟩ | ⟨k', rfl⟩
  · simp [Instr.slice, Instr.sliceBounds, run_underlying h]
  · simp [Instr.slice, Instr.sliceBounds, Instr.sliceBound, asIntOf, run_underlying h, hb1]
  · have hb3 : 0 ≤ i ∧ i ≤ (s.size : Int) := ⟨hb.1, by omega⟩
    simp [Instr.slice, Instr.sliceBounds, Instr.sliceBound, asIntOf, run_underlying h, hb3]
  · simp [Instr.slice, Instr.sliceBounds, Instr.sliceBound, asIntOf, run_underlying h, hb1, hb2]
    intro hc
    omega

theorem slOk_part {α : Type} {n : Nat} {Pr : List Value → α → Prop} {a : Option Addr} {cap : Nat} {xs : List α} (h : SlOk n Pr ok w (.slice a xs.length cap) xs) (_hn : 0 < n) (l r m : Nat) (h1 : l ≤ r) (h2 : r ≤ xs.length) (hm : r ≤ m) (hmc : m ≤ cap) :
    SlOk n Pr ok w (.slice (if m = l then a else a.map (·.add (l * n))) (r - l) (m - l)) ((xs.take r).drop l) := by
  obtain ⟨a', cap', hv, h3, h4, hc⟩ := h
  injection hv with e1 e2 e3
  subst e1 e3
  have hlen : ((xs.take r).drop l).length = r - l := by simp; omega
  refine ⟨_, m - l, by rw [hlen], by rw [hlen]; omega, by omega, fun i hi => ?_⟩
  rw [hlen] at hi
  obtain ⟨b, off, cs, ha, hb, hlt, hcell, hr⟩ := hc (l + i) (by omega)
  subst ha
  refine ⟨b, off + l * n, cs, ?_, hb, hlt, ?_, ?_⟩
  · rw [if_neg (by omega)]
    simp [Go.WideShapes.add_plain]
  · have : off + l * n + i * n = off + (l + i) * n := by rw [Nat.add_mul]; omega
    rw [this]
    exact hcell
  · have : ((xs.take r).drop l)[i] = xs[l + i] := by simp
    rw [this]
    exact hr

theorem vSlice_sound (hte : TEok P te) {t : TypeId} {x : A} {lo hi : Option A} (h : (vSlice te t x lo hi).obl) {u : Value} {l r : Option Value} (hx : x.rep ok ρ w u) (hl : repO ok ρ w lo l) (hr : repO ok ρ w hi r) :
    (vSlice te t x lo hi).Is P (Instr.sliceAt t u l r none) ok ρ w := by
  unfold vSlice at h ⊢
  split at h
  · rename_i ti hti
    have hk := (find_ok hte hti).kind
    split at h
    · rename_i s e
      rw [e] at hk
      have hu : P.underlying t = _ := hk
      split at h
      · rename_i i j h1 h2
        rw [show u = _ from hx]
        refine .quiet (u := .string (s.extract i.toNat j.toNat)) ?_ rfl trivial
        simp only [Instr.sliceAt, Sem.run_bind, run_underlying hu, Result.andThen_ok]
        exact run_slice_str hu s hl hr h1 h2 h
      · exact h.elim
    · rename_i el α R xs e
      rw [e] at hk
      have hu : P.underlying t = some (.slice el) := hk
      split at h
      · rename_i ei hei
        have hei := find_ok hte hei
        split at h
        · rename_i hn
          have hn := Nat.eq_of_beq_eq_true hn
          have hs : SlOk R.n (fun cs x => R.is ok w cs x) ok w u xs := hx
          obtain ⟨a, cap, rfl, h1, h2, _⟩ := id hs
          have key : ∀ (l' r' : Option Value) (i j : Nat), i ≤ j → j ≤ xs.length → (Instr.sliceBounds true xs.length cap l' r' none).run P w = .ok (i, j, cap) w →
              ∃ v, (Instr.sliceAt t (.slice a xs.length cap) l' r' none).run P w = .ok v w ∧ (C.sl R ((xs.take j).drop i)).rep ok ρ w v := by
            intro l' r' i j hij hj hb
            refine ⟨_, ?_, slOk_part hs R.n_pos i j cap hij hj (Nat.le_trans hj h1) (Nat.le_refl _)⟩
            simp only [Instr.sliceAt, Instr.slice, Sem.run_bind, run_underlying hu, Result.andThen_ok, hb, hei.sizeOf, Sem.run_pure, hn]
          split at h
          · rename_i k i
            cases l with
            | none => exact hl.elim
            | some lv =>
              cases r with
              | some _ => exact hr.elim
              | none =>
                rw [show lv = _ from hl]
                have hb : 0 ≤ i ∧ i ≤ (xs.length : Int) := h
                obtain ⟨v, h3, h4⟩ := key (some (.int k i)) none i.toNat xs.length (by omega) (Nat.le_refl _) (by simp [Instr.sliceBounds, Instr.sliceBound, asIntOf, hb])
                rw [List.take_length] at h4
                exact .quiet h3 h4 trivial
          · rename_i k j
            cases l with
            | some _ => exact hl.elim
            | none =>
              cases r with
              | none => exact hr.elim
              | some rv =>
                rw [show rv = _ from hr]
                have hb : 0 ≤ j ∧ j ≤ (xs.length : Int) := h
                have hb' : 0 ≤ j ∧ j ≤ (cap : Int) := by omega
                obtain ⟨v, h3, h4⟩ := key none (some (.int k j)) 0 j.toNat (by omega) (by omega) (by simp [Instr.sliceBounds, Instr.sliceBound, asIntOf, hb'])
                rw [List.drop_zero] at h4
                exact .quiet h3 h4 trivial
          · rename_i k i k' j
            cases l with
            | none => exact hl.elim
            | some lv =>
              cases r with
              | none => exact hr.elim
              | some rv =>
                rw [show lv = _ from hl, show rv = _ from hr]
                have hb : 0 ≤ i ∧ i ≤ j ∧ j ≤ (xs.length : Int) := h
                have hb' : 0 ≤ j ∧ j ≤ (cap : Int) := by omega
                have hb2 : 0 ≤ i ∧ i ≤ ((j.toNat : Nat) : Int) := by omega
                obtain ⟨v, h3, h4⟩ := key (some (.int k i)) (some (.int k' j)) i.toNat j.toNat (by omega) (by omega) (by
                  simp only [Instr.sliceBounds, Instr.sliceBound, asIntOf, Sem.run_bind, Sem.run_pure, Result.andThen_ok, if_pos hb', if_pos hb2, if_true])
                exact .quiet h3 h4 trivial
          · cases l with
            | some _ => exact hl.elim
            | none =>
              cases r with
              | some _ => exact hr.elim
              | none =>
                obtain ⟨v, h3, h4⟩ := key none none 0 xs.length (by omega) (Nat.le_refl _) (by simp [Instr.sliceBounds])
                rw [List.take_length, List.drop_zero] at h4
                exact .quiet h3 h4 trivial
          · exact h.elim
        · exact h.elim
      · exact h.elim
    · exact h.elim
  · exact h.elim

/-! ### Tuples, truth, interfaces -/
def nthT : List (Bool × List C) → Nat → Option (Bool × List C)
  | [], _ => none
  | p :: _, 0 => some p
  | _ :: r, n + 1 => nthT r n
theorem nthT_rep : ∀ {cs : List (Bool × List C)} {vs : List Value} {j : Nat} {p : Bool × List C}, nthT cs j = some p → repT ok ρ w cs vs → ∃ v, vs[j]? = some v ∧ repV ok ρ w p.1 p.2 v
  | [], _, _, _, h, _ => by cases h
  | p :: _, _, 0, _, h, hr => by
    cases h
    obtain ⟨v, r, e, h1, _⟩ := hr
    exact ⟨v, by rw [e]; rfl, h1⟩
  | _ :: _, _, n + 1, _, h, hr => by
    obtain ⟨v, r, e, _, h2⟩ := hr
    obtain ⟨u, h3, h4⟩ := nthT_rep (j := n) h h2
    exact ⟨u, by rw [e]; simpa using h3, h4⟩
def vExt (x : A) (j : Nat) : Vr :=
  match x with
  | .tup cs => match nthT cs j with
    | some (true, cs) => .ok (.agg cs)
    | some (false, [c]) => okC c
    | _ => .bad
  | _ => .bad
theorem vExt_sound {x : A} {j : Nat} (h : (vExt x j).obl) {u : Value} (hx : x.rep ok ρ w u) : (vExt x j).Is P (Instr.extract u j) ok ρ w := by
  unfold vExt at h ⊢
  split at h
  · obtain ⟨vs, rfl, hvs⟩ := hx
    split at h
    · rename_i e
      obtain ⟨v, h1, h2⟩ := nthT_rep e hvs
      exact .quiet (by simp [Instr.extract, h1]) h2 trivial
    · rename_i c e
      obtain ⟨v, h1, h2⟩ := nthT_rep e hvs
      obtain ⟨ho, hf⟩ := okC_obl h
      obtain ⟨z, r, e1, h3, _⟩ := h2
      cases e1
      exact .quiet (u := v) (by simp [Instr.extract, h1]) (by rw [ho]; exact h3) hf
    · exact h.elim
  · exact h.elim

def vNot (x : A) : Vr :=
  match x with
  | .one (.lit (.bool b)) => .ok (ib (!b))
  | _ => .bad
def vUn (op : UnOp) (x : A) : Vr :=
  match op with
  | .not => vNot x
  | .neg => match x with
    | .one (.lit (.int k n)) => vInt .sub k 0 n
    | _ => .bad
  | _ => .bad
theorem vUn_sound {op : UnOp} {x : A} (h : (vUn op x).obl) {u : Value} (hx : x.rep ok ρ w u) : (vUn op x).Is P (Op.unary op u) ok ρ w := by
  unfold vUn at h ⊢
  split at h
  · unfold vNot at h ⊢
    split at h
    · rw [show u = _ from hx]
      exact .quiet rfl rfl trivial
    · exact h.elim
  · split at h
    · rename_i k n
      rw [show u = _ from hx]
      obtain ⟨z, h1, h2, h3⟩ := vInt_sound (P := P) (t := 0) h
      refine .quiet (u := z) ?_ (by rw [h1]; rfl) h2
      have := h3 w
      simp [binOp] at this
      exact this
    · exact h.elim
  · exact h.elim

/-- A slot's value, where the operation that writes it was wanted; and that it was. -/
def A.bare : A → A
  | .cond _ a => a.bare
  | a => a
def A.were : A → Prop
  | .cond b a => b = true ∧ a.were
  | _ => True
theorem A.bare_rep : ∀ {a : A} {v : Value}, a.were → a.rep ok ρ w v → a.bare.rep ok ρ w v
  | .one _, _, _, h => h
  | .agg _, _, _, h => h
  | .tup _, _, _, h => h
  | .cond _ a, _, hw, h => A.bare_rep (a := a) hw.2 (h.1 hw.1)

def vPick (c a b : A) : Vr :=
  match c with
  | .one (.lit (.bool p)) => match b with
    | .one (.lit (.bool false)) => match a with
      | .cond q (.one (.lit (.bool y))) => .need (p = true → q = true) (ib (p && y))
      | .one (.lit (.bool y)) => .ok (ib (p && y))
      | _ => .bad
    | b => match a with
      | .one (.lit (.bool true)) => match b with
        | .cond q (.one (.lit (.bool y))) => .need (p = false → q = true) (ib (p || y))
        | .one (.lit (.bool y)) => .ok (ib (p || y))
        | _ => .bad
      | _ => .bad
  | _ => .bad
theorem vPick_sound {c a b : A} (h : (vPick c a b).obl) {u x y : Value} (hc : c.rep ok ρ w u) (ha : a.rep ok ρ w x) (hb : b.rep ok ρ w y) :
    (vPick c a b).Is P (do if ← asBool u then pure x else pure y) ok ρ w := by
  unfold vPick at h ⊢
  split at h
  · rename_i p
    rw [show u = _ from hc]
    have hrun : (do if ← asBool (.bool p) then pure x else pure y : Sem Value).run P w = .ok (if p = true then x else y) w := by
      cases p <;> simp [asBool]
    split at h
    · rw [show y = _ from hb] at hrun ⊢
      split at h
      · rename_i q z
        refine .quiet hrun ?_ trivial
        cases p
        · rfl
        · have : x = .bool z := ha.1 (h rfl)
          rw [this]; rfl
      · refine .quiet hrun ?_ trivial
        rw [show x = _ from ha]
        cases p <;> rfl
      · exact h.elim
    · split at h
      · rw [show x = _ from ha] at hrun ⊢
        split at h
        · rename_i q z _
          refine .quiet hrun ?_ trivial
          cases p
          · have : y = .bool z := hb.1 (h rfl)
            rw [this]; rfl
          · rfl
        · refine .quiet hrun ?_ trivial
          rw [show y = _ from hb]
          cases p <;> rfl
        · exact h.elim
      · exact h.elim
  · exact h.elim

def vNil (x : A) : Vr :=
  match x with
  | .one (.addr R x) => .ok (.one (.addr R x))
  | .one (.own i o) => .ok (.one (.own i o))
  | .one (.vel i k n) => .ok (.one (.vel i k n))
  | .one (.ifc t c) => .ok (.one (.ifc t c))
  | .one (.clo f c) => .ok (.one (.clo f c))
  | .one (.ref c) => .ok (.one (.ref c))
  | .one (.lit (.iface t v)) => .ok (.one (.lit (.iface t v)))
  | .one (.lit (.func (.func f) a b)) => .ok (.one (.lit (.func (.func f) a b)))
  | _ => .bad

def vMin (x y : A) : Vr :=
  match x, y with
  | .one (.lit (.int k a)), .one (.lit (.int _ b)) => .ok (ii k (if b < a then b else a))
  | _, _ => .bad
def vMax (x y : A) : Vr :=
  match x, y with
  | .one (.lit (.int k a)), .one (.lit (.int _ b)) => .ok (ii k (if a < b then b else a))
  | _, _ => .bad
theorem vMin_sound {ts : Array TypeId} {ty : TypeId} {x y : A} (h : (vMin x y).obl) {u v : Value} (hx : x.rep ok ρ w u) (hy : y.rep ok ρ w v) : (vMin x y).Is P (Builtin.min_ ts ty #[u, v]) ok ρ w := by
  unfold vMin at h ⊢
  split at h
  · rw [show u = _ from hx, show v = _ from hy]
    exact .quiet (by simp [Builtin.min_, Builtin.min2]) rfl trivial
  · exact h.elim

def TyI.conc (i : TyI) : Bool :=
  match i.k with
  | .iface => false
  | _ => true
theorem TyOk.conc {t : TypeId} {i : TyI} (h : TyOk P t i) (hc : i.conc = true) : ∃ d, P.underlying t = some d ∧ ∀ ms, d ≠ .interface ms := by
  have hk := h.kind
  unfold TyI.conc at hc
  cases e : i.k <;> rw [e] at hk hc
  · exact ⟨_, hk, fun _ => by simp⟩
  · exact ⟨_, hk, fun _ => by simp⟩
  · exact ⟨_, hk, fun _ => by simp⟩
  · exact ⟨_, hk.1, fun _ => by simp⟩
  · exact ⟨_, hk, fun _ => by simp⟩
  · exact ⟨_, hk, fun _ => by simp⟩
  · cases hc
  · obtain ⟨d, hd, hn⟩ := hk
    exact ⟨d, hd, fun ms e => by rw [e] at hn; exact hn⟩
def vIfc (te : List (TypeId × TyI)) (t : TypeId) (x : A) : Vr :=
  match find te t with
  | some i => match i.conc with
    | true => match x with
      | .one (.lit v) => .ok (.one (.lit (.iface t v)))
      | .one .any => .bad
      | .one c => .ok (.one (.ifc t c))
      | _ => .bad
    | false => .bad
  | none => .bad
theorem vIfc_sound (hte : TEok P te) {t : TypeId} {x : A} (h : (vIfc te t x).obl) {u : Value} (hx : x.rep ok ρ w u) : (vIfc te t x).Is P (Instr.makeInterface t u) ok ρ w := by
  unfold vIfc at h ⊢
  split at h
  · rename_i i hi
    split at h
    · rename_i hc
      obtain ⟨d, hd, hn⟩ := (find_ok hte hi).conc hc
      have hrun : (Instr.makeInterface t u).run P w = .ok (.iface t u) w := by
        unfold Instr.makeInterface
        simp only [Sem.run_bind, run_underlying hd, Result.andThen_ok]
        cases d <;> first | rfl | exact absurd rfl (hn _)
      split at h
      · rw [show u = _ from hx] at hrun ⊢
        exact .quiet hrun rfl trivial
      · exact h.elim
      · exact .quiet hrun ⟨u, rfl, hx⟩ trivial
      · exact h.elim
    · exact h.elim
  · exact h.elim

theorem repL_lits : ∀ (vs : List Value), repL ok ρ w (vs.map C.lit) vs
  | [] => rfl
  | v :: r => ⟨v, r, rfl, rfl, repL_lits r⟩
theorem TyOk.zeroOne {t : TypeId} {i : TyI} (h : TyOk P t i) (hk : i.k.agg = false) : i.zero = [i.zeroV] := by
  have h1 := h.size1 hk
  have h2 := h.zlen
  rw [h1] at h2
  obtain ⟨z, hz⟩ := List.length_eq_one_iff.1 h2
  unfold TyI.zeroV
  rw [hk, hz]
  rfl
def vAss (te : List (TypeId × TyI)) (x : A) (a : TypeId) : Vr :=
  match find te a with
  | some i => match i.conc, i.k.agg with
    | true, false => match x with
      | .one (.lit .nilIface) => .ok (.tup [(false, i.zero.map C.lit), (false, [.lit (.bool false)])])
      | .one (.lit (.iface t v)) => match Nat.beq t a with
        | true => .ok (.tup [(false, [.lit v]), (false, [.lit (.bool true)])])
        | false => .ok (.tup [(false, i.zero.map C.lit), (false, [.lit (.bool false)])])
      | .one (.ifc t c) => match Nat.beq t a with
        | true => .ok (.tup [(false, [c]), (false, [.lit (.bool true)])])
        | false => .ok (.tup [(false, i.zero.map C.lit), (false, [.lit (.bool false)])])
      | _ => .bad
    | _, _ => .bad
  | none => .bad
theorem vAss_sound (hte : TEok P te) {xt a : TypeId} {x : A} (h : (vAss te x a).obl) {u : Value} (hx : x.rep ok ρ w u) : (vAss te x a).Is P (Instr.typeAssert u xt a true) ok ρ w := by
  unfold vAss at h ⊢
  split at h
  · rename_i i hi
    have hok := find_ok hte hi
    split at h
    · rename_i hc hag
      obtain ⟨d, hd, hn⟩ := hok.conc hc
      have hz := hok.zeroOne hag
      have runs : ∀ t' v, (Instr.typeAssert (.iface t' v) xt a true).run P w = .ok (if t' = a then .tuple #[v, .bool true] else .tuple #[i.zeroV, .bool false]) w := by
        intro t' v
        unfold Instr.typeAssert
        simp only [Sem.run_bind, run_underlying hd, Result.andThen_ok]
        cases d <;> first | exact absurd rfl (hn _) | (by_cases e : t' = a <;> simp [e, hok.zeroValue])
      have runn : (Instr.typeAssert .nilIface xt a true).run P w = .ok (.tuple #[i.zeroV, .bool false]) w := by
        unfold Instr.typeAssert
        simp only [Sem.run_bind, run_underlying hd, Result.andThen_ok]
        cases d <;> first | exact absurd rfl (hn _) | simp [hok.zeroValue]
      have zrep : (A.tup [(false, i.zero.map C.lit), (false, [.lit (.bool false)])]).rep ok ρ w (.tuple #[i.zeroV, .bool false]) := by
        refine ⟨[i.zeroV, .bool false], rfl, _, _, rfl, ?_, _, _, rfl, ⟨_, _, rfl, rfl, rfl⟩, rfl⟩
        rw [hz]
        exact repL_lits [i.zeroV]
      split at h
      · rw [show u = _ from hx]
        exact .quiet runn zrep trivial
      · rename_i t v
        rw [show u = _ from hx]
        have hr := runs t v
        split at h
        · rename_i e
          rw [if_pos (Nat.eq_of_beq_eq_true e)] at hr
          exact .quiet hr ⟨[v, .bool true], rfl, _, _, rfl, ⟨_, _, rfl, rfl, rfl⟩, _, _, rfl, ⟨_, _, rfl, rfl, rfl⟩, rfl⟩ trivial
        · rename_i e
          rw [if_neg (fun e' => by rw [e'] at e; simp at e)] at hr
          exact .quiet hr zrep trivial
      · rename_i t c
        obtain ⟨v, rfl, hv⟩ := hx
        have hr := runs t v
        split at h
        · rename_i e
          rw [if_pos (Nat.eq_of_beq_eq_true e)] at hr
          exact .quiet hr ⟨[v, .bool true], rfl, _, _, rfl, ⟨_, _, rfl, hv, rfl⟩, _, _, rfl, ⟨_, _, rfl, rfl, rfl⟩, rfl⟩ trivial
        · rename_i e
          rw [if_neg (fun e' => by rw [e'] at e; simp at e)] at hr
          exact .quiet hr zrep trivial
      · exact h.elim
    · exact h.elim
  · exact h.elim

def vCnv (te : List (TypeId × TyI)) (s t : TypeId) (x : A) : Vr :=
  match find te s, find te t with
  | some i, some j => match i.k, j.k, x with
    | .int _, .int k, .one (.lit (.int _ n)) => .ok (ii k (k.wrap n))
    | .str, .str, .one (.lit (.string b)) => .ok (is b)
    | _, _, _ => .bad
  | _, _ => .bad
theorem vCnv_sound (hte : TEok P te) {s t : TypeId} {x : A} (h : (vCnv te s t x).obl) {u : Value} (hx : x.rep ok ρ w u) : (vCnv te s t x).Is P (convert s t u) ok ρ w := by
  unfold vCnv at h ⊢
  split at h
  · rename_i i j hi hj
    have hki := (find_ok hte hi).kind
    have hkj := (find_ok hte hj).kind
    split at h
    · rename_i e1 e2
      rw [e1] at hki
      rw [e2] at hkj
      rw [show u = _ from hx]
      refine .quiet ?_ rfl trivial
      simp [convert, run_underlying (show P.underlying s = _ from hki), run_underlying (show P.underlying t = _ from hkj), Conv.intToInt]
    · rename_i e1 e2
      rw [e1] at hki
      rw [e2] at hkj
      rw [show u = _ from hx]
      refine .quiet ?_ rfl trivial
      simp [convert, run_underlying (show P.underlying s = _ from hki), run_underlying (show P.underlying t = _ from hkj)]
    · exact h.elim
  · exact h.elim

/-! ### A struct built of its parts -/
def setC : Nat → List C → List C → List C
  | 0, [], cs => cs
  | 0, n :: ns, _ :: cs => n :: setC 0 ns cs
  | 0, _ :: _, [] => []
  | k + 1, ns, c :: cs => c :: setC k ns cs
  | _ + 1, _, [] => []
def cellsA : A → Option (List C)
  | .one c => some [c]
  | .agg cs => some cs
  | _ => none
def nthP : List (Nat × TypeId) → Nat → Option (Nat × TypeId)
  | [], _ => none
  | p :: _, 0 => some p
  | _ :: r, n + 1 => nthP r n
def bld (te : List (TypeId × TyI)) (fs : List (Nat × TypeId)) : List (Nat × A) → List C → Option (List C)
  | [], cs => some cs
  | (i, a) :: r, cs => match nthP fs i with
    | some (off, ty) => match cellsA a with
      | some ns => match find te ty with
        | some ti => match Nat.beq (lenC ns) ti.size, Nat.ble (off + lenC ns) (lenC cs) with
          | true, true => bld te fs r (setC off ns cs)
          | _, _ => none
        | none => none
      | none => none
    | none => none
def vBld (te : List (TypeId × TyI)) (t : TypeId) (ps : List (Nat × A)) : Vr :=
  match find te t with
  | some i => match i.k with
    | .struct fs => match bld te fs ps (i.zero.map C.lit) with
      | some cs => .ok (.agg cs)
      | none => .bad
    | _ => .bad
  | none => .bad
end
end Ab
end Go.Proofs.YthlfbpmbkcoclaaDoor
