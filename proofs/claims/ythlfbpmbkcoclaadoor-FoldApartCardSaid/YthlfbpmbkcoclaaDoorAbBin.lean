/-
  Operations on plain values, abstractly: arithmetic, comparisons, strings, equality. Over any program; no condition.
-/
import Derived.Test.YthlfbpmbkcoclaaDoorAbTy
namespace Go.Proofs.YthlfbpmbkcoclaaDoor
open Go.RowKit
namespace Ab

def grow (ok : Nat → Prop) (w : World) : Nat → Prop := fun b => ok b ∨ w.heap.size ≤ b
theorem keeps_below {ok : Nat → Prop} {w w' : World} (h : Below w.heap.size w w') : Keeps ok (grow ok w) w w' := fun b hb hlt => ⟨.inl hb, h.block b hlt⟩

/-- The operation yields a value that v stands for, and makes at most new memory. -/
def Gives (P : Program) (s : Sem Value) (ok : Nat → Prop) (ρ : Nat → Option Value) (w : World) (v : A) : Prop :=
  ∃ u w', s.run P w = .ok u w' ∧ Below w.heap.size w w' ∧ v.rep (grow ok w) ρ w' u
theorem Gives.quiet {P : Program} {s : Sem Value} {ok : Nat → Prop} {ρ : Nat → Option Value} {w : World} {v : A} {u : Value} (h : s.run P w = .ok u w) (hr : v.rep ok ρ w u) : Gives P s ok ρ w v :=
  ⟨u, w, h, Below.refl _ _, A.kept (keeps_below (Below.refl _ _)) hr⟩

def Vr.obl : Vr → Prop
  | .ok _ => True
  | .need p _ => p
  | .know _ _ => True
  | .bad => False
def Vr.val : Vr → A
  | .ok v => v
  | .need _ v => v
  | .know _ v => v
  | .bad => .one .any
def Vr.fact : Vr → Prop
  | .know p _ => p
  | _ => True

theorem beq_bytes (a b : ByteArray) : (a.toList == b.toList) = decide (a = b) := by
  rw [← beq_toListBytes]
  by_cases h : a = b
  · subst h
    rw [decide_eq_true rfl, beq_toListBytes]
    exact beq_self_eq_true _
  · rw [decide_eq_false h, beq_toListBytes, beq_eq_false_iff_ne, ByteArray.toList_eq, ByteArray.toList_eq]
    intro e
    apply h
    obtain ⟨⟨x⟩⟩ := a
    obtain ⟨⟨y⟩⟩ := b
    simp only at e
    rw [e]

/-! ### Integers -/
def vInt (op : BinOp) (k : IntKind) (a b : Int) : Vr :=
  match op with
  | .add => match k with
    | .i64 => .need (-9223372036854775808 ≤ a + b ∧ a + b ≤ 9223372036854775807) (ii .i64 (a + b))
    | k => .ok (ii k (k.wrap (a + b)))
  | .sub => match k with
    | .i64 => .need (-9223372036854775808 ≤ a - b ∧ a - b ≤ 9223372036854775807) (ii .i64 (a - b))
    | k => .ok (ii k (k.wrap (a - b)))
  | .mul => match k with
    | .i64 => .need (-9223372036854775808 ≤ a * b ∧ a * b ≤ 9223372036854775807) (ii .i64 (a * b))
    | k => .ok (ii k (k.wrap (a * b)))
  | .rem => .need (b ≠ 0) (ii k (a.tmod b))
  | .quo => .need (b ≠ 0) (ii k (k.wrap (a.tdiv b)))
  | .eql => .ok (ib (decide (a = b)))
  | .neq => .ok (ib (!decide (a = b)))
  | .lss => .ok (ib (decide (a < b)))
  | .leq => .ok (ib (decide (a ≤ b)))
  | .gtr => .ok (ib (decide (b < a)))
  | .geq => .ok (ib (decide (b ≤ a)))
  | _ => .bad

theorem int_ne (a b : Int) : (a != b) = !decide (a = b) := by
  by_cases h : a = b <;> simp [h]
theorem vInt_sound {P : Program} {op : BinOp} {t : TypeId} {k : IntKind} {a b : Int} (h : (vInt op k a b).obl) :
    ∃ z, (vInt op k a b).val = .one (.lit z) ∧ (vInt op k a b).fact ∧ ∀ w, (binOp op t (.int k a) (.int k b)).run P w = .ok z w := by
  cases op
  case add =>
    cases k
    case i64 => exact ⟨_, rfl, trivial, fun w => by simp [binOp, Op.intArith, IntWalk.i64_in _ (show _ ∧ _ from h)]⟩
    all_goals exact ⟨_, rfl, trivial, fun w => by simp [binOp, Op.intArith]⟩
  case sub =>
    cases k
    case i64 => exact ⟨_, rfl, trivial, fun w => by simp [binOp, Op.intArith, IntWalk.i64_in _ (show _ ∧ _ from h)]⟩
    all_goals exact ⟨_, rfl, trivial, fun w => by simp [binOp, Op.intArith]⟩
  case mul =>
    cases k
    case i64 => exact ⟨_, rfl, trivial, fun w => by simp [binOp, Op.intArith, IntWalk.i64_in _ (show _ ∧ _ from h)]⟩
    all_goals exact ⟨_, rfl, trivial, fun w => by simp [binOp, Op.intArith]⟩
  case rem => exact ⟨_, rfl, trivial, fun w => by simp [binOp, Op.intDiv, show b ≠ 0 from h]⟩
  case quo => exact ⟨_, rfl, trivial, fun w => by simp [binOp, Op.intDiv, show b ≠ 0 from h]⟩
  case eql => exact ⟨_, rfl, trivial, fun w => by simp [binOp, Op.intCmp]; rfl⟩
  case neq => exact ⟨_, rfl, trivial, fun w => by simp [binOp, Op.intCmp, int_ne]⟩
  case lss => exact ⟨_, rfl, trivial, fun w => by simp [binOp, Op.intCmp]⟩
  case leq => exact ⟨_, rfl, trivial, fun w => by simp [binOp, Op.intCmp]⟩
  case gtr => exact ⟨_, rfl, trivial, fun w => by simp [binOp, Op.intCmp]⟩
  case geq => exact ⟨_, rfl, trivial, fun w => by simp [binOp, Op.intCmp]⟩
  all_goals exact h.elim

/-! ### Strings -/
def vStr (op : BinOp) (a b : ByteArray) : Vr :=
  match op with
  | .add => .need (a.size + b.size ≤ maxLen) (is (a ++ b))
  | .eql => .ok (ib (decide (a = b)))
  | .neq => .ok (ib (!decide (a = b)))
  | .lss => .ok (ib (Op.bytesLess a.toList b.toList))
  | .leq => .ok (ib (Op.bytesLess a.toList b.toList || decide (a = b)))
  | .gtr => .ok (ib (!(Op.bytesLess a.toList b.toList || decide (a = b))))
  | .geq => .ok (ib (!Op.bytesLess a.toList b.toList))
  | _ => .bad
theorem vStr_sound {P : Program} {op : BinOp} {t : TypeId} {a b : ByteArray} (h : (vStr op a b).obl) :
    ∃ z, (vStr op a b).val = .one (.lit z) ∧ (vStr op a b).fact ∧ ∀ w, (binOp op t (.string a) (.string b)).run P w = .ok z w := by
  cases op
  case add =>
    refine ⟨_, rfl, trivial, fun w => ?_⟩
    have h1 : ¬ ((a.size + b.size : Nat) : Int) > IntKind.i64.max := by
      have := show a.size + b.size ≤ maxLen from h
      unfold maxLen at this
      simp only [IntKind.max, IntKind.signed, IntKind.bits]
      simp
      omega
    simp only [binOp, Op.stringOp, if_neg h1, Sem.run_pure]
  case eql => exact ⟨_, rfl, trivial, fun w => by simp [binOp, Op.stringOp, beq_bytes]⟩
  case neq => exact ⟨_, rfl, trivial, fun w => by simp [binOp, Op.stringOp, beq_bytes]⟩
  case lss => exact ⟨_, rfl, trivial, fun w => by simp [binOp, Op.stringOp]⟩
  case leq => exact ⟨_, rfl, trivial, fun w => by simp [binOp, Op.stringOp, beq_bytes]⟩
  case gtr => exact ⟨_, rfl, trivial, fun w => by simp [binOp, Op.stringOp, beq_bytes]⟩
  case geq => exact ⟨_, rfl, trivial, fun w => by simp [binOp, Op.stringOp]⟩
  all_goals exact h.elim

/-! ### Equality of structs, field by field -/
def nthC : List C → Nat → C
  | [], _ => .any
  | c :: _, 0 => c
  | _ :: r, n + 1 => nthC r n
def eqCell (k : Option TyI) (x y : C) : Option Bool :=
  match k with
  | none => none
  | some i => match i.k, x, y with
    | .str, .lit (.string a), .lit (.string b) => some (decide (a = b))
    | .int _, .lit (.int j a), .lit (.int l b) => match decEq j l with
      | isTrue _ => some (decide (a = b))
      | isFalse _ => none
    | .bool, .lit (.bool a), .lit (.bool b) => some (a == b)
    | _, _, _ => none
def eqL (te : List (TypeId × TyI)) : List (Nat × TypeId) → List C → List C → Option Bool
  | [], _, _ => some true
  | [f], cs, ds => match Nat.ble cs.length f.1, Nat.ble ds.length f.1 with
    | false, false => eqCell (find te f.2) (nthC cs f.1) (nthC ds f.1)
    | _, _ => none
  | f :: fs, cs, ds => match Nat.ble cs.length f.1, Nat.ble ds.length f.1 with
    | false, false => match eqCell (find te f.2) (nthC cs f.1) (nthC ds f.1) with
      | some b => match eqL te fs cs ds with
        | some r => some (b && r)
        | none => none
      | none => none
    | _, _ => none

theorem repL_nth {ok : Nat → Prop} {ρ : Nat → Option Value} {w : World} : ∀ {cs : List C} {vs : List Value} (i : Nat), i < cs.length → repL ok ρ w cs vs → ∃ v, vs[i]? = some v ∧ (nthC cs i).rep ok ρ w v
  | [], _, _, h, _ => absurd h (by simp)
  | c :: cs, vs, 0, _, hr => by
    obtain ⟨v, r, e, h1, _⟩ := hr
    exact ⟨v, by rw [e]; rfl, h1⟩
  | c :: cs, vs, i + 1, h, hr => by
    obtain ⟨v, r, e, _, h2⟩ := hr
    obtain ⟨u, hu, hr'⟩ := repL_nth i (by simpa using h) h2
    exact ⟨u, by rw [e]; simpa using hu, hr'⟩

theorem eqCell_sound {P : Program} {te : List (TypeId × TyI)} (hte : TEok P te) {t : TypeId} {x y : C} {b : Bool} (h : eqCell (find te t) x y = some b) :
    (∃ i, TyOk P t i ∧ i.k.agg = false) ∧ ∀ d ok ρ w u v, x.rep ok ρ w u → y.rep ok ρ w v → (Op.equalIn (d + 1) t u v).run P w = .ok b w := by
  unfold eqCell at h
  split at h
  · cases h
  · rename_i i hi
    have hok := find_ok hte hi
    have hk := hok.kind
    have hag : ∀ k, i.k = k → k.agg = false → ∃ i, TyOk P t i ∧ i.k.agg = false := fun k e hk => ⟨i, hok, by rw [e]; exact hk⟩
    split at h
    · rename_i e1
      rw [e1] at hk
      cases h
      refine ⟨hag _ e1 rfl, fun d ok ρ w u v hu hv => ?_⟩
      rw [show u = _ from hu, show v = _ from hv, run_equalIn_string w d t _ _ hk, beq_bytes]
    · rename_i e1
      rw [e1] at hk
      split at h
      · rename_i hjl _
        cases h
        subst hjl
        refine ⟨hag _ e1 rfl, fun d ok ρ w u v hu hv => ?_⟩
        rw [show u = _ from hu, show v = _ from hv, run_equalIn_int w d t _ _ _ _ hk]
        rfl
      · cases h
    · rename_i e1
      rw [e1] at hk
      cases h
      refine ⟨hag _ e1 rfl, fun d ok ρ w u v hu hv => ?_⟩
      rw [show u = _ from hu, show v = _ from hv, run_equalIn_bool' w d t _ _ hk]
    · cases h

theorem run_part_one {P : Program} {t : TypeId} {i : TyI} (h : TyOk P t i) (ha : i.k.agg = false) (w : World) (vs : List Value) (off : Nat) (v : Value) (hv : vs[off]? = some v) :
    (part t vs.toArray off).run P w = .ok v w := by
  unfold part
  simp [h.isAgg, ha, hv]

theorem ble_lt {a b : Nat} (h : Nat.ble a b = false) : b < a := by
  rcases Nat.lt_or_ge b a with h' | h'
  · exact h'
  · rw [Nat.ble_eq_true_of_le h'] at h; cases h
theorem eqL_sound {P : Program} {te : List (TypeId × TyI)} (hte : TEok P te) {cs ds : List C} : ∀ {fs : List Field} {b : Bool}, fs.all (fun f => f.name != "_") = true → eqL te (fs.map fun f => (f.offset, f.type)) cs ds = some b →
    ∀ d ok ρ w us vs, repL ok ρ w cs us → repL ok ρ w ds vs → (Op.eqFields (d + 1) us.toArray vs.toArray fs).run P w = .ok b w
  | [], b, _, h => fun d ok ρ w us vs _ _ => by cases h; simp [Op.eqFields]
  | f :: fs, b, hn, h => by
    simp only [List.all_cons, Bool.and_eq_true] at hn
    have hf : f.name ≠ "_" := by simpa using hn.1
    have one : ∀ {b : Bool}, Nat.ble cs.length f.offset = false → Nat.ble ds.length f.offset = false → eqCell (find te f.type) (nthC cs f.offset) (nthC ds f.offset) = some b →
        ∀ d ok ρ w us vs, repL ok ρ w cs us → repL ok ρ w ds vs → ∃ x y, (part f.type us.toArray f.offset).run P w = .ok x w ∧ (part f.type vs.toArray f.offset).run P w = .ok y w ∧ (Op.equalIn (d + 1) f.type x y).run P w = .ok b w := by
      intro b h1 h2 h3 d ok ρ w us vs hu hv
      obtain ⟨⟨i, hi, hag⟩, he⟩ := eqCell_sound hte h3
      obtain ⟨x, hx, hx'⟩ := repL_nth f.offset (ble_lt h1) hu
      obtain ⟨y, hy, hy'⟩ := repL_nth f.offset (ble_lt h2) hv
      exact ⟨x, y, run_part_one hi hag w us _ x hx, run_part_one hi hag w vs _ y hy, he d ok ρ w x y hx' hy'⟩
    match fs, hn, h with
    | [], _, h =>
      simp only [List.map, eqL] at h
      split at h
      · rename_i h1 h2
        intro d ok ρ w us vs hu hv
        obtain ⟨x, y, h1, h2, h3⟩ := one h1 h2 h d ok ρ w us vs hu hv
        simp only [Op.eqFields, if_pos hf, Sem.run_bind, h1, h2, h3, Result.andThen_ok]
        cases b <;> simp
      · cases h
    | g :: gs, hn, h =>
      rw [List.map, List.map, eqL] at h
      · split at h
        · rename_i h1 h2
          split at h
          · rename_i b1 e1
            split at h
            · rename_i b2 e2
              cases h
              intro d ok ρ w us vs hu hv
              have h4 := eqL_sound hte (fs := g :: gs) hn.2 e2 d ok ρ w us vs hu hv
              obtain ⟨x, y, h1, h2, h3⟩ := one h1 h2 e1 d ok ρ w us vs hu hv
              rw [Op.eqFields]
              simp only [if_pos hf, Sem.run_bind, h1, h2, h3, Result.andThen_ok]
              cases b1
              · simp
              · simpa using h4
            · cases h
          · cases h
        · cases h
      · intro h; cases h

end Ab
end Go.Proofs.YthlfbpmbkcoclaaDoor
