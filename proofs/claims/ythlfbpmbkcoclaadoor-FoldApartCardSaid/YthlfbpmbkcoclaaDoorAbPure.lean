/-
  The operations that write nothing, abstractly, one by one. Over any program; no condition.
-/
import Derived.Test.YthlfbpmbkcoclaaDoorAbBin
namespace Go.Proofs.YthlfbpmbkcoclaaDoor
open Go.RowKit
namespace Ab

/-- A block of the call's own. -/
inductive Ob : Type 1
  | box (T : TypeId) (cs : List C)
  | vec {α : Type} (E : TypeId) (R : Rd α) (xs : List α)

def VecOk {α : Type} (ok : Nat → Prop) (w : World) (v : Value) (E : TypeId) (R : Rd α) (xs : List α) : Prop :=
  ∃ css : List (List Value), css.length = xs.length ∧ (∀ i (h : i < xs.length), R.is ok w (css.getD i []) xs[i]) ∧ w.ownsRow 0 E R.n v xs.length css.flatten
def Ob.is (ok : Nat → Prop) (ρ : Nat → Option Value) (w : World) (id : Nat) : Ob → Prop
  | .box T cs => ∃ b vs, ρ id = some (.pointer (some ⟨b, 0, none⟩)) ∧ w.heap[b]? = some (.cells (vs.toArray : Array Value) T (0, 0)) ∧ repL ok ρ w cs vs
  | .vec E R xs => ∃ v, ρ id = some v ∧ VecOk ok w v E R xs
def ObsIs (ok : Nat → Prop) (ρ : Nat → Option Value) (w : World) (ob : List (Nat × Ob)) : Prop := ∀ p ∈ ob, p.2.is ok ρ w p.1
def getO : List (Nat × Ob) → Nat → Option Ob
  | [], _ => none
  | p :: r, i => match Nat.beq p.1 i with
    | true => some p.2
    | false => getO r i
theorem getO_is {ok : Nat → Prop} {ρ : Nat → Option Value} {w : World} : ∀ {ob : List (Nat × Ob)} {i : Nat} {o : Ob}, ObsIs ok ρ w ob → getO ob i = some o → o.is ok ρ w i
  | [], _, _, _, h => by cases h
  | p :: r, i, o, hob, h => by
    unfold getO at h
    split at h
    · rename_i hb
      have : p.1 = i := Nat.eq_of_beq_eq_true hb
      cases h
      exact this ▸ hob p (by simp)
    · exact getO_is (fun q hq => hob q (by simp [hq])) h

section
variable {P : Program} {te : List (TypeId × TyI)} {ok : Nat → Prop} {ρ : Nat → Option Value} {w : World}

/-- What is asked of a value of an operation's, and what is known behind it. -/
def Vr.Is (P : Program) (s : Sem Value) (ok : Nat → Prop) (ρ : Nat → Option Value) (w : World) (v : Vr) : Prop := Gives P s ok ρ w v.val ∧ v.fact
theorem Vr.Is.quiet {s : Sem Value} {v : Vr} {u : Value} (h : s.run P w = .ok u w) (hr : v.val.rep ok ρ w u) (hf : v.fact) : v.Is P s ok ρ w := ⟨Gives.quiet h hr, hf⟩

/-! ### Operations of two values -/
def isK : Operand → Bool
  | .const _ => true
  | _ => false
def vEqNil (i : TyI) (k : Bool) (x y : C) (neg : Bool) : Vr :=
  match i.k with
  | .iface => match x, y with
    | .lit .nilIface, .lit .nilIface => match k with
      | true => .ok (ib (!neg))
      | false => .bad
    | .lit (.iface _ _), .lit .nilIface => .ok (ib neg)
    | .ifc _ _, .lit .nilIface => .ok (ib neg)
    | _, _ => .bad
  | .ptr _ => match x, y with
    | .lit (.pointer none), .lit (.pointer none) => .ok (ib (!neg))
    | .addr _ _, .lit (.pointer none) => .ok (ib neg)
    | .own _ _, .lit (.pointer none) => .ok (ib neg)
    | _, _ => .bad
  | .bool => match x, y with
    | .lit (.bool a), .lit (.bool b) => .ok (ib (match neg with | true => !(a == b) | false => a == b))
    | _, _ => .bad
  | _ => .bad
def vBin (te : List (TypeId × TyI)) (op : BinOp) (t : TypeId) (k : Bool) (x y : A) : Vr :=
  match x, y with
  | .one (.lit (.int i a)), .one (.lit (.int j b)) => match decEq i j with
    | isTrue _ => vInt op i a b
    | isFalse _ => .bad
  | .one (.lit (.string a)), .one (.lit (.string b)) => vStr op a b
  | .one c, .one d => match find te t with
    | some i => match op with
      | .eql => vEqNil i k c d false
      | .neq => vEqNil i k c d true
      | _ => .bad
    | none => .bad
  | .agg cs, .agg ds => match find te t with
    | some i => match i.k with
      | .struct fs => match eqL te fs cs ds with
        | some b => match op with
          | .eql => .need (i.eq = true) (ib b)
          | .neq => .need (i.eq = true) (ib (!b))
          | _ => .bad
        | none => .bad
      | _ => .bad
    | none => .bad
  | _, _ => .bad

theorem eqGuard_agg {op : BinOp} {t : TypeId} {x y : Operand} {a b : Array Value} (h : P.eqGuardType P.depth t = false) : (eqGuard op t x y (.agg a) (.agg b)).run P w = .ok () w := by
  cases op <;> first | rfl | simp [eqGuard, h]
theorem eqGuard_nils {op : BinOp} {t : TypeId} {x y : Operand} (h : isK x = true ∨ isK y = true) : (eqGuard op t x y .nilIface .nilIface).run P w = .ok () w := by
  rcases h with h | h
  · cases x with
    | const v => cases op <;> first | rfl | simp [eqGuard]
    | _ => simp [isK] at h
  · cases y with
    | const v => cases op <;> first | rfl | simp [eqGuard]
    | _ => simp [isK] at h
theorem e_nn {t : TypeId} {ms} (hu : P.underlying t = some (.interface ms)) (d : Nat) : (Op.equalIn (d + 1) t .nilIface .nilIface).run P w = .ok true w := by
  simp only [Op.equalIn, Sem.run_bind, run_underlying hu, Result.andThen_ok, Sem.run_pure]
theorem e_in {t : TypeId} {ms} (hu : P.underlying t = some (.interface ms)) (t' : TypeId) (v : Value) (d : Nat) : (Op.equalIn (d + 1) t (.iface t' v) .nilIface).run P w = .ok false w := by
  simp only [Op.equalIn, Sem.run_bind, run_underlying hu, Result.andThen_ok, Sem.run_pure]
theorem e_pp {t e : TypeId} (hu : P.underlying t = some (.pointer e)) (d : Nat) : (Op.equalIn (d + 1) t (.pointer none) (.pointer none)).run P w = .ok true w := by
  simp only [Op.equalIn, Sem.run_bind, run_underlying hu, Result.andThen_ok, Sem.run_pure, Option.isNone]
theorem e_ap {t e : TypeId} (hu : P.underlying t = some (.pointer e)) (a : Addr) (d : Nat) : (Op.equalIn (d + 1) t (.pointer (some a)) (.pointer none)).run P w = .ok false w := by
  simp only [Op.equalIn, Sem.run_bind, run_underlying hu, Result.andThen_ok, Sem.run_pure]
theorem run_eq2 {op : BinOp} {neg : Bool} (hop : op = (match neg with | true => BinOp.neq | false => BinOp.eql)) {t : TypeId} {ox oy : Operand} {u v : Value} {b : Bool}
    (hg : (eqGuard op t ox oy u v).run P w = .ok () w) (h1 : binOp .eql t u v = (do pure (.bool (← Op.equal t u v)))) (h2 : binOp .neq t u v = (do pure (.bool (!(← Op.equal t u v)))))
    (he : ∀ d, (Op.equalIn (d + 1 + 1) t u v).run P w = .ok b w) : (do eqGuard op t ox oy u v; binOp op t u v).run P w = .ok (.bool (match neg with | true => !b | false => b)) w := by
  have hq : (Op.equal t u v).run P w = .ok b w := he 9998
  rw [Sem.run_bind, hg]
  cases neg <;> subst hop
  · simp only [Result.andThen_ok, h1, Sem.run_bind, hq, Sem.run_pure]
  · simp only [Result.andThen_ok, h2, Sem.run_bind, hq, Sem.run_pure]
theorem vEqNil_sound {op : BinOp} {neg : Bool} (hop : op = (match neg with | true => BinOp.neq | false => BinOp.eql)) {t : TypeId} {i : TyI} (hi : TyOk P t i) {k : Bool} {x y : C} (h : (vEqNil i k x y neg).obl) {ox oy : Operand} (hk : k = true → isK ox = true ∨ isK oy = true) {u v : Value}
    (hx : x.rep ok ρ w u) (hy : y.rep ok ρ w v) : (vEqNil i k x y neg).Is P (do eqGuard op t ox oy u v; binOp op t u v) ok ρ w := by
  have hkd := hi.kind
  unfold vEqNil at h ⊢
  split at h
  · rename_i e
    rw [e] at hkd
    obtain ⟨ms, hu⟩ := hkd
    split at h
    · split at h
      · rw [show u = _ from hx, show v = _ from hy]
        refine .quiet (run_eq2 hop (b := true) (eqGuard_nils (hk rfl)) rfl rfl (fun d => e_nn hu (d + 1))) ?_ trivial
        cases neg <;> rfl
      · exact h.elim
    · rw [show u = _ from hx, show v = _ from hy]
      refine .quiet (run_eq2 hop (b := false) (by cases neg <;> subst hop <;> rfl) rfl rfl (fun d => e_in hu _ _ (d + 1))) ?_ trivial
      cases neg <;> rfl
    · obtain ⟨z, rfl, _⟩ := hx
      rw [show v = _ from hy]
      refine .quiet (run_eq2 hop (b := false) (by cases neg <;> subst hop <;> rfl) rfl rfl (fun d => e_in hu _ _ (d + 1))) ?_ trivial
      cases neg <;> rfl
    · exact h.elim
  · rename_i e
    rw [e] at hkd
    have hu : P.underlying t = _ := hkd
    split at h
    · rw [show u = _ from hx, show v = _ from hy]
      refine .quiet (run_eq2 hop (b := true) (by cases neg <;> subst hop <;> rfl) rfl rfl (fun d => e_pp hu (d + 1))) ?_ trivial
      cases neg <;> rfl
    · obtain ⟨b, off, cs, rfl, _⟩ := hx
      rw [show v = _ from hy]
      refine .quiet (run_eq2 hop (b := false) (by cases neg <;> subst hop <;> rfl) rfl rfl (fun d => e_ap hu _ (d + 1))) ?_ trivial
      cases neg <;> rfl
    · obtain ⟨b, _, rfl⟩ := hx
      rw [show v = _ from hy]
      refine .quiet (run_eq2 hop (b := false) (by cases neg <;> subst hop <;> rfl) rfl rfl (fun d => e_ap hu _ (d + 1))) ?_ trivial
      cases neg <;> rfl
    · exact h.elim
  · rename_i e
    rw [e] at hkd
    have hu : P.underlying t = _ := hkd
    split at h
    · rename_i a b
      rw [show u = _ from hx, show v = _ from hy]
      refine .quiet (run_eq2 hop (b := a == b) (by cases neg <;> subst hop <;> rfl) rfl rfl (fun d => run_equalIn_bool' w (d + 1) t _ _ hu)) ?_ trivial
      cases neg <;> rfl
    · exact h.elim
  · exact h.elim

theorem vBin_sound (hte : TEok P te) {op : BinOp} {t : TypeId} {k : Bool} {x y : A} (h : (vBin te op t k x y).obl) {ox oy : Operand} (hk : k = true → isK ox = true ∨ isK oy = true) {u v : Value}
    (hx : x.rep ok ρ w u) (hy : y.rep ok ρ w v) : (vBin te op t k x y).Is P (do eqGuard op t ox oy u v; binOp op t u v) ok ρ w := by
  unfold vBin at h ⊢
  split at h
  · split at h
    · rename_i hij _
      subst hij
      rw [show u = _ from hx, show v = _ from hy]
      obtain ⟨z, h1, h2, h3⟩ := vInt_sound (P := P) (t := t) h
      refine .quiet (u := z) ?_ (by rw [h1]; rfl) h2
      rw [Sem.run_bind, eqGuard_at_int]
      exact h3 w
    · exact h.elim
  · rw [show u = _ from hx, show v = _ from hy]
    obtain ⟨z, h1, h2, h3⟩ := vStr_sound (P := P) (t := t) h
    refine .quiet (u := z) ?_ (by rw [h1]; rfl) h2
    rw [Sem.run_bind, eqGuard_at_string]
    exact h3 w
  · split at h
    · rename_i i hi
      have hok := find_ok hte hi
      split at h
      · exact vEqNil_sound (neg := false) rfl hok h hk hx hy
      · exact vEqNil_sound (neg := true) rfl hok h hk hx hy
      · exact h.elim
    · exact h.elim
  · split at h
    · rename_i i hi
      have hok := find_ok hte hi
      have hkd := hok.kind
      split at h
      · rename_i fs hfs
        rw [hfs] at hkd
        obtain ⟨h1, h2, h3, h4, _⟩ := hkd
        split at h
        · rename_i b hb
          rw [← h2] at hb
          obtain ⟨us, rfl, hus⟩ := hx
          obtain ⟨vs, rfl, hvs⟩ := hy
          have hrun : ∀ d, (Op.equalIn (d + 1 + 1) t (.agg us.toArray) (.agg vs.toArray)).run P w = .ok b w := by
            intro d
            rw [run_equalIn_struct w (d + 1) t _ _ h1 h4]
            exact eqL_sound hte h3 hb d ok ρ w us vs hus hvs
          split at h
          · exact .quiet (run_eq2 (neg := false) rfl (b := b) (eqGuard_agg (hok.eqg h)) rfl rfl hrun) rfl trivial
          · exact .quiet (run_eq2 (neg := true) rfl (b := b) (eqGuard_agg (hok.eqg h)) rfl rfl hrun) rfl trivial
          · exact h.elim
        · exact h.elim
      · exact h.elim
    · exact h.elim
  · exact h.elim

end
end Ab
end Go.Proofs.YthlfbpmbkcoclaaDoor
