/-
  More rules of a text: something is let go; a nil slice in a variable becomes an own one. Over any program; no condition.
-/
import Derived.Test.YthlfbpmbkcoclaaDoorAbFunO
namespace Go.Proofs.YthlfbpmbkcoclaaDoor
open Go.RowKit
namespace Ab
theorem dflt_sl {α : Type} {R : Rd α} : (Rd.sl R).dflt = [] := rfl
theorem dflt_st {α β : Type} {R : Rd α} {S : Rd β} : (Rd.st R S).dflt = (R.dflt, S.dflt) := rfl
theorem dflt_str : Rd.str.dflt = ByteArray.empty := rfl
theorem dflt_int {k : IntKind} : (Rd.int k).dflt = 0 := rfl
theorem dflt_bool : Rd.bool.dflt = false := rfl
theorem vec_eq {α : Type} {E : TypeId} {R : Rd α} {xs ys : List α} (h : xs = ys) : some (Ob.vec E R xs) = some (Ob.vec E R ys) := by rw [h]
theorem sl_eq {α : Type} {R : Rd α} {xs ys : List α} (h : xs = ys) : A.one (.sl R xs) = A.one (.sl R ys) := by rw [h]
theorem ib_eq {a b : Bool} (h : a = b) : ib a = ib b := by rw [h]
theorem is_eq {a b : ByteArray} (h : a = b) : is a = is b := by rw [h]
theorem ii_eq {k : IntKind} {a b : Int} (h : a = b) : ii k a = ii k b := by rw [h]
theorem take_snoc {α : Type} {l : List α} {i : Nat} (d : α) (h : i < l.length) : l.take i ++ [l.getD i d] = l.take (i + 1) := by
  rw [List.take_succ_eq_append_getElem h]
  simp [List.getD, List.getElem?_eq_getElem h]
theorem take_any {α : Type} (l : List α) (p : α → Bool) (d : α) (i : Nat) (h : i < l.length) : (l.take (i + 1)).any p = ((l.take i).any p || p (l.getD i d)) := by
  rw [List.take_succ_eq_append_getElem h, List.any_append]
  simp [List.getD, List.getElem?_eq_getElem h]
theorem take_all {α : Type} (l : List α) (p : α → Bool) (d : α) (i : Nat) (h : i < l.length) : (l.take (i + 1)).all p = ((l.take i).all p && p (l.getD i d)) := by
  rw [List.take_succ_eq_append_getElem h, List.all_append]
  simp [List.getD, List.getElem?_eq_getElem h]
theorem range_any (p : Nat → Bool) (n : Nat) : (List.range (n + 1)).any p = ((List.range n).any p || p n) := by
  rw [List.range_succ, List.any_append]; simp
theorem getD_mem {α : Type} {l : List α} {i : Nat} (h : i < l.length) (d : α) : l.getD i d ∈ l := by
  rw [List.getD_eq_getElem?_getD, List.getElem?_eq_getElem h]; exact List.getElem_mem h
theorem any_at {α : Type} {l : List α} {p : α → Bool} {i : Nat} (d : α) (h : i < l.length) (hp : p (l.getD i d) = true) : l.any p = true :=
  List.any_eq_true.2 ⟨_, getD_mem h d, hp⟩
section
variable {P : Program} {te : List (TypeId × TyI)} {N nx0 : Nat} {tm : Tm} {ob : Obs} {nx : Nat} {Q : AQ}

/-- These are let go. -/
theorem acode_frz {c : Code} (ids : List Nat) (h : frz te nx0 ids tm ob fun tm ob => ACode P te N nx0 c tm ob nx Q) : ACode P te N nx0 c tm ob nx Q := by
  unfold ACode
  intro hte cx e1 e2 ρ a w hs
  subst e2
  obtain ⟨tm', ob', h1, h2⟩ := frz_sound h hs
  unfold ACode at h1
  exact h1 hte cx e1 rfl ρ a w h2

theorem repL_set1 {ok : Nat → Prop} {ρ : Nat → Option Value} {w : World} {c c' : C} : ∀ (j : Nat) {cs : List C} {vs : List Value}, nthC cs j = c → j < cs.length → (∀ v, c.rep ok ρ w v → c'.rep ok ρ w v) → repL ok ρ w cs vs → repL ok ρ w (setC j [c'] cs) vs
  | _, [], _, _, hl, _, _ => absurd hl (Nat.not_lt_zero _)
  | 0, d :: cs, _, hj, _, hc, h => by
    obtain ⟨v, r, e, h1, h2⟩ := h
    have hj : d = c := hj
    subst hj
    refine ⟨v, r, e, hc v h1, ?_⟩
    cases cs <;> exact h2
  | j + 1, d :: cs, _, hj, hl, hc, h => by
    obtain ⟨v, r, e, h1, h2⟩ := h
    exact ⟨v, r, e, h1, repL_set1 j hj (by simpa using hl) hc h2⟩
/-- A nil slice that stands in a variable becomes an own slice. -/
theorem acode_nilcell {c : Code} (id j : Nat) {T : TypeId} {cs : List C} {α : Type} (E : TypeId) (R : Rd α) (hg : getO ob id = some (.box T cs)) (hj : nthC cs j = .lit (.slice none 0 0)) (hl : Nat.ble (j + 1) (lenC cs) = true)
    (h : ACode P te N nx0 c tm ((nx, .vec E R []) :: setO id (.box T (setC j [.vec nx] cs)) ob) (nx + 1) Q) : ACode P te N nx0 c tm ob nx Q := by
  unfold ACode at h ⊢
  intro hte cx e1 e2 ρ a w hs
  obtain ⟨ρ', h1, h2⟩ := new_vec (E := E) (R := R) (xs := []) (v := .slice none 0 0) hs (Below.refl _ _) (fun b hb => by cases hb) ⟨_, _, _, rfl⟩ (fun ok' _ => ⟨[], rfl, fun i hi => absurd hi (by simp), World.ownsRow_nil _ _ _ _⟩)
  have hne : Nat.beq nx id = false := by
    have := hs.fresh _ (mem_getO hg)
    simp only at this
    cases hb : Nat.beq nx id
    · rfl
    · have := Nat.eq_of_beq_eq_true hb; omega
  have hg1 : getO ((nx, Ob.vec E R []) :: ob) id = some (.box T cs) := by
    unfold getO
    simp only [hne]
    exact hg
  have hset : setO id (.box T (setC j [.vec nx] cs)) ((nx, Ob.vec E R []) :: ob) = (nx, Ob.vec E R []) :: setO id (.box T (setC j [.vec nx] cs)) ob := by
    rw [setO]
    simp only [hne]
  have hw := h1.write (o' := .box T (setC j [.vec nx] cs)) (w' := w) hg1 ⟨rfl, rfl, rfl, Nat.le_refl _, fun _ _ _ => rfl⟩ rfl (by
    obtain ⟨b, vs, r1, r2, r3⟩ := h1.obs _ (mem_getO hg1)
    refine ⟨b, vs, r1, r2, repL_set1 j hj ?_ (fun v hv => ?_) r3⟩
    · have := Nat.le_of_ble_eq_true hl
      rw [lenC_eq] at this
      omega
    · rw [show v = _ from hv]; exact h2)
  rw [hset] at hw
  exact h hte cx e1 e2 ρ' a w hw
/-- A new builder: nothing in it yet. -/
theorem acode_bld {c : Code} (id : Nat) {T : TypeId} {α : Type} (E : TypeId) (R : Rd α) (hg : getO ob id = some (.box T [.lit (.pointer none), .lit (.slice none 0 0)]))
    (h : ACode P te N nx0 c tm ((nx, .vec E R []) :: setO id (.box T [.nself false id, .vec nx]) ob) (nx + 1) Q) : ACode P te N nx0 c tm ob nx Q := by
  unfold ACode at h ⊢
  intro hte cx e1 e2 ρ a w hs
  obtain ⟨ρ', h1, h2⟩ := new_vec (E := E) (R := R) (xs := []) (v := .slice none 0 0) hs (Below.refl _ _) (fun b hb => by cases hb) ⟨_, _, _, rfl⟩ (fun ok' _ => ⟨[], rfl, fun i hi => absurd hi (by simp), World.ownsRow_nil _ _ _ _⟩)
  have hne : Nat.beq nx id = false := by
    have := hs.fresh _ (mem_getO hg)
    simp only at this
    cases hb : Nat.beq nx id
    · rfl
    · have := Nat.eq_of_beq_eq_true hb; omega
  have hg1 : getO ((nx, Ob.vec E R []) :: ob) id = some (.box T [.lit (.pointer none), .lit (.slice none 0 0)]) := by
    unfold getO
    simp only [hne]
    exact hg
  have hset : setO id (.box T [.nself false id, .vec nx]) ((nx, Ob.vec E R []) :: ob) = (nx, Ob.vec E R []) :: setO id (.box T [.nself false id, .vec nx]) ob := by
    rw [setO]
    simp only [hne]
  have hw := h1.write (o' := .box T [.nself false id, .vec nx]) (w' := w) hg1 ⟨rfl, rfl, rfl, Nat.le_refl _, fun _ _ _ => rfl⟩ rfl (by
    obtain ⟨b, vs, r1, r2, v, t, rfl, hv, v2, t2, rfl, hv2, ht⟩ := h1.obs _ (mem_getO hg1)
    refine ⟨b, _, r1, r2, v, _, rfl, ⟨fun e => by (cases e), fun _ => hv⟩, v2, _, rfl, ?_, ht⟩
    rw [show v2 = _ from hv2]
    exact h2)
  rw [hset] at hw
  exact h hte cx e1 e2 ρ' a w hw
end
end Ab
end Go.Proofs.YthlfbpmbkcoclaaDoor
