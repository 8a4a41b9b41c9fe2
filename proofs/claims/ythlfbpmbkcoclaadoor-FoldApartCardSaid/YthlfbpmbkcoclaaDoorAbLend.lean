/-
  Calls to which variables and slices of one's own are lent: what stands in them before and behind. Over any program; no condition.
-/
import Derived.Test.YthlfbpmbkcoclaaDoorAbNew
namespace Go.Proofs.YthlfbpmbkcoclaaDoor
open Go.RowKit
namespace Ab

def RepAs (ok : Nat → Prop) (ρ : Nat → Option Value) (w : World) : List A → List Value → Prop
  | [], vs => vs = []
  | a :: as, vs => ∃ v r, vs = v :: r ∧ a.rep ok ρ w v ∧ RepAs ok ρ w as r

def noNames : Nat → Option Value := fun _ => none
/-- A function, called with such arguments, hands back such a value, and makes at most new memory. -/
def FnOk (P : Program) (f : FuncId) : Prop := ∃ fn, P.funcs[f]? = some fn ∧ fn.body.isSome = true ∧ (fn.name == "runtime.NumGoroutine") = false

/-! ### Other names -/
def C.ren (σ : Nat → Nat) : C → C
  | .own i o => .own (σ i) o
  | .vec i => .vec (σ i)
  | .vel i k n => .vel (σ i) k n
  | .ifc t c => .ifc t (c.ren σ)
  | .clo f c => .clo f (c.ren σ)
  | .ref c => .ref (c.ren σ)
  | .nself u i => .nself u (σ i)
  | .any => .any
  | .lit v => .lit v
  | .sl R xs => .sl R xs
  | .full R xs => .full R xs
  | .addr R x => .addr R x
def renL (σ : Nat → Nat) : List C → List C
  | [] => []
  | c :: r => c.ren σ :: renL σ r
def renT (σ : Nat → Nat) : List (Bool × List C) → List (Bool × List C)
  | [] => []
  | p :: r => (p.1, renL σ p.2) :: renT σ r
def A.ren (σ : Nat → Nat) : A → A
  | .one c => .one (c.ren σ)
  | .agg cs => .agg (renL σ cs)
  | .tup cs => .tup (renT σ cs)
  | .cond b a => .cond b (a.ren σ)
def renAs (σ : Nat → Nat) : List A → List A
  | [] => []
  | a :: r => a.ren σ :: renAs σ r
def Ob.ren (σ : Nat → Nat) : Ob → Ob
  | .box T cs => .box T (renL σ cs)
  | .vec E R xs => .vec E R xs
def renOb (σ : Nat → Nat) : Obs → Obs
  | [] => []
  | p :: r => (σ p.1, p.2.ren σ) :: renOb σ r
def appO : Obs → Obs → Obs
  | [], y => y
  | p :: x, y => p :: appO x y
def lenN : List Nat → Nat
  | [] => 0
  | _ :: r => lenN r + 1
def sigO (nx : Nat) : List Nat → Nat → Nat
  | [], k => nx + k
  | i :: _, 0 => i
  | _ :: r, k + 1 => sigO nx r k
def memN : List Nat → Nat → Bool
  | [], _ => false
  | j :: r, i => match Nat.beq j i with
    | true => true
    | false => memN r i
def ndN : List Nat → Bool
  | [] => true
  | i :: r => match memN r i with
    | true => false
    | false => ndN r
/-- What may have turned is said no longer. -/
def C.drp (bad : List Nat) : C → C
  | .vec i => match memN bad i with
    | true => .any
    | false => .vec i
  | .vel i k n => match memN bad i with
    | true => .any
    | false => .vel i k n
  | .ifc t c => .ifc t (c.drp bad)
  | .clo f c => .clo f (c.drp bad)
  | .ref c => .ref (c.drp bad)
  | .nself u i => .nself u i
  | .own i o => .own i o
  | .any => .any
  | .lit v => .lit v
  | .sl R xs => .sl R xs
  | .full R xs => .full R xs
  | .addr R x => .addr R x
def drpL (bad : List Nat) : List C → List C
  | [] => []
  | c :: r => c.drp bad :: drpL bad r
def drpT (bad : List Nat) : List (Bool × List C) → List (Bool × List C)
  | [] => []
  | p :: r => (p.1, drpL bad p.2) :: drpT bad r
def A.drp (bad : List Nat) : A → A
  | .one c => .one (c.drp bad)
  | .agg cs => .agg (drpL bad cs)
  | .tup cs => .tup (drpT bad cs)
  | .cond b a => .cond b (a.drp bad)
def drpTm (bad : List Nat) : Tm → Tm
  | [] => []
  | p :: r => (p.1, p.2.drp bad) :: drpTm bad r
def Ob.drp (bad : List Nat) : Ob → Ob
  | .box T cs => .box T (drpL bad cs)
  | .vec E R xs => .vec E R xs
def dropO (L bad : List Nat) : Obs → Obs
  | [] => []
  | p :: r => match memN L p.1 with
    | true => dropO L bad r
    | false => (p.1, p.2.drp bad) :: dropO L bad r
def badOf : List Nat → Obs → List Nat
  | i :: L, p :: r => match p.2 with
    | .vec _ _ _ => i :: badOf L r
    | .box _ _ => badOf L r
  | _, _ => []
def lentO (ob : Obs) (σ : Nat → Nat) : Nat → List Nat → Obs → Prop
  | _, [], [] => True
  | k, i :: L, p :: r => (p.1 = k ∧ getO ob i = some (p.2.ren σ)) ∧ lentO ob σ (k + 1) L r
  | _, _, _ => False

/-- A function, called with such arguments where what is lent holds this, hands back such a value, and what was lent holds that. -/
def ACallO (P : Program) (f : FuncId) (as : List A) (ob : Obs) (m : Nat) (r : A) (ob' : Obs) (m' : Nat) : Prop :=
  FnOk P f ∧ ∀ (cx : Cx) (ρ : Nat → Option Value) (w : World) (vs : List Value), cx.N = 0 → cx.nx0 = m → cx.w0 = w → StOk cx [] ob m ρ ⟨#[], []⟩ w → RepAs (okOf cx ρ ob) ρ w as vs →
    Calls P f vs.toArray w fun e w' => ∃ u ρ', e = .returned u ∧ StOk cx [] ob' m' ρ' ⟨#[], []⟩ w' ∧ r.rep (okOf cx ρ' ob') ρ' w' u

section
variable {P : Program} {te : List (TypeId × TyI)} {cx : Cx} {tm : Tm} {ob : Obs} {nx : Nat} {ρ ρ' : Nat → Option Value} {a : Act} {w w' : World} {ok ok' : Nat → Prop} {σ : Nat → Nat}

theorem C.ren_rep : ∀ {c : C} {v : Value}, (c.ren σ).rep ok ρ w v ↔ c.rep ok (fun i => ρ (σ i)) w v
  | .any, _ => Iff.rfl
  | .lit _, _ => Iff.rfl
  | .sl _ _, _ => Iff.rfl
  | .full _ _, _ => Iff.rfl
  | .addr _ _, _ => Iff.rfl
  | .own _ _, _ => Iff.rfl
  | .vec _, _ => Iff.rfl
  | .vel _ _ _, _ => Iff.rfl
  | .nself _ _, _ => Iff.rfl
  | .ifc _ c, _ => by constructor <;> (rintro ⟨u, hv, h⟩; first | exact ⟨u, hv, C.ren_rep.1 h⟩ | exact ⟨u, hv, C.ren_rep.2 h⟩)
  | .clo _ c, _ => by constructor <;> (rintro ⟨u, hv, h⟩; first | exact ⟨u, hv, C.ren_rep.1 h⟩ | exact ⟨u, hv, C.ren_rep.2 h⟩)
  | .ref c, _ => by constructor <;> (rintro ⟨b, off, u, hv, h1, h2, h3, h⟩; first | exact ⟨b, off, u, hv, h1, h2, h3, C.ren_rep.1 h⟩ | exact ⟨b, off, u, hv, h1, h2, h3, C.ren_rep.2 h⟩)
theorem renL_rep : ∀ {cs : List C} {vs : List Value}, repL ok ρ w (renL σ cs) vs ↔ repL ok (fun i => ρ (σ i)) w cs vs
  | [], _ => Iff.rfl
  | _ :: _, _ => by
    constructor
    · rintro ⟨v, r, e, h1, h2⟩; exact ⟨v, r, e, C.ren_rep.1 h1, renL_rep.1 h2⟩
    · rintro ⟨v, r, e, h1, h2⟩; exact ⟨v, r, e, C.ren_rep.2 h1, renL_rep.2 h2⟩
theorem renV_rep : ∀ {g : Bool} {cs : List C} {v : Value}, repV ok ρ w g (renL σ cs) v ↔ repV ok (fun i => ρ (σ i)) w g cs v
  | true, _, _ => by
    constructor
    · rintro ⟨vs, e, h⟩; exact ⟨vs, e, renL_rep.1 h⟩
    · rintro ⟨vs, e, h⟩; exact ⟨vs, e, renL_rep.2 h⟩
  | false, _, _ => renL_rep
theorem renT_rep : ∀ {cs : List (Bool × List C)} {vs : List Value}, repT ok ρ w (renT σ cs) vs ↔ repT ok (fun i => ρ (σ i)) w cs vs
  | [], _ => Iff.rfl
  | _ :: _, _ => by
    constructor
    · rintro ⟨v, r, e, h1, h2⟩; exact ⟨v, r, e, renV_rep.1 h1, renT_rep.1 h2⟩
    · rintro ⟨v, r, e, h1, h2⟩; exact ⟨v, r, e, renV_rep.2 h1, renT_rep.2 h2⟩
theorem A.ren_rep : ∀ {x : A} {v : Value}, (x.ren σ).rep ok ρ w v ↔ x.rep ok (fun i => ρ (σ i)) w v
  | .one _, _ => C.ren_rep
  | .agg _, _ => renV_rep (g := true)
  | .tup _, _ => by
    constructor
    · rintro ⟨vs, e, h⟩; exact ⟨vs, e, renT_rep.1 h⟩
    · rintro ⟨vs, e, h⟩; exact ⟨vs, e, renT_rep.2 h⟩
  | .cond _ _, _ => by
    constructor
    · rintro ⟨h1, h2⟩; exact ⟨fun hb => A.ren_rep.1 (h1 hb), h2⟩
    · rintro ⟨h1, h2⟩; exact ⟨fun hb => A.ren_rep.2 (h1 hb), h2⟩
theorem renAs_rep : ∀ {as : List A} {vs : List Value}, RepAs ok ρ w (renAs σ as) vs ↔ RepAs ok (fun i => ρ (σ i)) w as vs
  | [], _ => Iff.rfl
  | _ :: _, _ => by
    constructor
    · rintro ⟨v, r, e, h1, h2⟩; exact ⟨v, r, e, A.ren_rep.1 h1, renAs_rep.1 h2⟩
    · rintro ⟨v, r, e, h1, h2⟩; exact ⟨v, r, e, A.ren_rep.2 h1, renAs_rep.2 h2⟩
theorem RepAs.kept (hk : Keeps ok ok' w w') : ∀ {as : List A} {vs : List Value}, RepAs ok ρ w as vs → RepAs ok' ρ w' as vs
  | [], _, h => h
  | _ :: _, _, h => by
    obtain ⟨v, r, e, h1, h2⟩ := h
    exact ⟨v, r, e, A.kept hk h1, RepAs.kept hk h2⟩
theorem Ob.ren_is {o : Ob} {k : Nat} : (o.ren σ).is ok ρ w (σ k) ↔ o.is ok (fun i => ρ (σ i)) w k := by
  cases o with
  | box T cs =>
    constructor
    · rintro ⟨b, vs, h1, h2, h3⟩; exact ⟨b, vs, h1, h2, renL_rep.1 h3⟩
    · rintro ⟨b, vs, h1, h2, h3⟩; exact ⟨b, vs, h1, h2, renL_rep.2 h3⟩
  | vec E R xs => exact Iff.rfl

/-- What is kept of the names. -/
structure Drp (bad : List Nat) (ok ok' : Nat → Prop) (ρ ρ' : Nat → Option Value) (w w' : World) : Prop where
  ptr : ∀ i p, ρ i = some (.pointer p) → ρ' i = some (.pointer p)
  oth : ∀ i v, memN bad i = false → ρ i = some v → ρ' i = some v
  keeps : Keeps ok ok' w w'
theorem C.drp_rep {bad : List Nat} (h : Drp bad ok ok' ρ ρ' w w') : ∀ {c : C} {v : Value}, c.rep ok ρ w v → (c.drp bad).rep ok' ρ' w' v
  | .any, _, _ => trivial
  | .lit _, _, hr => hr
  | .sl R xs, v, hr => C.kept (c := .sl R xs) (ρ := ρ') h.keeps hr
  | .full R xs, v, hr => C.kept (c := .full R xs) (ρ := ρ') h.keeps hr
  | .addr R x, v, hr => C.kept (c := .addr R x) (ρ := ρ') h.keeps hr
  | .own i o, v, hr => by obtain ⟨b, h1, h2⟩ := hr; exact ⟨b, h.ptr _ _ h1, h2⟩
  | .vec i, v, hr => by
    unfold C.drp
    split
    · trivial
    · rename_i e
      exact ⟨h.oth _ _ e hr.1, hr.2⟩
  | .vel i k n, v, hr => by
    unfold C.drp
    split
    · trivial
    · rename_i e
      obtain ⟨b, m, cap, h1, h2⟩ := hr
      exact ⟨b, m, cap, h.oth _ _ e h1, h2⟩
  | .ifc t c, v, hr => by obtain ⟨u, hv, hr⟩ := hr; exact ⟨u, hv, C.drp_rep h hr⟩
  | .clo f c, v, hr => by obtain ⟨u, hv, hr⟩ := hr; exact ⟨u, hv, C.drp_rep h hr⟩
  | .ref c, v, hr => by
    obtain ⟨b, off, u, hv, hb, hlt, hc, hr⟩ := hr
    have hkb := h.keeps b hb hlt
    exact ⟨b, off, u, hv, hkb.1, lt_of_heap hkb.2 hlt, hc.of_block hkb.2, C.drp_rep h hr⟩
  | .nself u i, v, hr => ⟨fun e2 => by obtain ⟨b, h1, h2⟩ := hr.1 e2; exact ⟨b, h.ptr _ _ h1, h2⟩, hr.2⟩
theorem drpL_rep {bad : List Nat} (h : Drp bad ok ok' ρ ρ' w w') : ∀ {cs : List C} {vs : List Value}, repL ok ρ w cs vs → repL ok' ρ' w' (drpL bad cs) vs
  | [], _, hr => hr
  | _ :: _, _, hr => by
    obtain ⟨v, r, e, h1, h2⟩ := hr
    exact ⟨v, r, e, C.drp_rep h h1, drpL_rep h h2⟩
theorem drpV_rep {bad : List Nat} (h : Drp bad ok ok' ρ ρ' w w') : ∀ {g : Bool} {cs : List C} {v : Value}, repV ok ρ w g cs v → repV ok' ρ' w' g (drpL bad cs) v
  | true, _, _, hr => by obtain ⟨vs, e, hr⟩ := hr; exact ⟨vs, e, drpL_rep h hr⟩
  | false, _, _, hr => drpL_rep h hr
theorem drpT_rep {bad : List Nat} (h : Drp bad ok ok' ρ ρ' w w') : ∀ {cs : List (Bool × List C)} {vs : List Value}, repT ok ρ w cs vs → repT ok' ρ' w' (drpT bad cs) vs
  | [], _, hr => hr
  | _ :: _, _, hr => by
    obtain ⟨v, r, e, h1, h2⟩ := hr
    exact ⟨v, r, e, drpV_rep h h1, drpT_rep h h2⟩
theorem A.drp_rep {bad : List Nat} (h : Drp bad ok ok' ρ ρ' w w') : ∀ {x : A} {v : Value}, x.rep ok ρ w v → (x.drp bad).rep ok' ρ' w' v
  | .one _, _, hr => C.drp_rep h hr
  | .agg _, _, hr => drpV_rep (g := true) h hr
  | .tup _, _, hr => by obtain ⟨vs, e, hr⟩ := hr; exact ⟨vs, e, drpT_rep h hr⟩
  | .cond _ _, _, hr => ⟨fun hb => A.drp_rep h (hr.1 hb), hr.2⟩
theorem get_drp (bad : List Nat) : ∀ (tm : Tm) (i : Nat), get (drpTm bad tm) i = (get tm i).drp bad
  | [], _ => rfl
  | p :: r, i => by
    simp only [drpTm, get]
    split
    · rfl
    · exact get_drp bad r i
theorem Ob.drp_is {bad : List Nat} (h : Drp bad ok ok' ρ ρ' w w') {i : Nat} (hi : ρ' i = ρ i) {o : Ob} (hb : ∀ b, blk (ρ i) = some b → w'.heap[b]? = w.heap[b]?) (ho : o.is ok ρ w i) : (o.drp bad).is ok' ρ' w' i := by
  cases o with
  | box T cs =>
    obtain ⟨b, vs, h1, h2, h3⟩ := ho
    exact ⟨b, vs, hi.trans h1, by rw [hb b (by rw [h1]; rfl)]; exact h2, drpL_rep h h3⟩
  | vec E R xs =>
    obtain ⟨v, hv, css, h1, h2, h3⟩ := ho
    refine ⟨v, hi.trans hv, css, h1, fun i hi => R.kept h.keeps (h2 i hi), h3.1, ?_⟩
    rcases h3.2 with h4 | ⟨g, cap, cur, h4, h5, h6, h7⟩
    · exact .inl h4
    · exact .inr ⟨g, cap, cur, h4, h5, by rw [hb g (by rw [hv, h4]; rfl)]; exact h6, h7⟩

/-! ### Lists of names -/
theorem lenN_eq : ∀ L : List Nat, lenN L = L.length
  | [] => rfl
  | _ :: r => by rw [lenN, lenN_eq r]; rfl
theorem memN_iff : ∀ {L : List Nat} {i : Nat}, memN L i = true ↔ i ∈ L
  | [], i => by simp [memN]
  | j :: r, i => by
    unfold memN
    split
    · rename_i e
      have e := Nat.eq_of_beq_eq_true e
      simp [e]
    · rename_i e
      have e : i ≠ j := fun e' => by subst e'; simp at e
      rw [memN_iff (L := r)]
      simp [e]
theorem memN_false {L : List Nat} {i : Nat} : memN L i = false ↔ i ∉ L := by
  rw [← memN_iff]; simp
theorem ndN_nd : ∀ {L : List Nat}, ndN L = true → L.Nodup
  | [], _ => List.nodup_nil
  | i :: r, h => by
    unfold ndN at h
    split at h
    · cases h
    · rename_i e
      exact List.nodup_cons.2 ⟨memN_false.1 e, ndN_nd h⟩
theorem sigO_some : ∀ {L : List Nat} {k i : Nat}, L[k]? = some i → sigO nx L k = i
  | [], _, _, h => by simp at h
  | _ :: _, 0, _, h => by simpa [sigO] using h
  | _ :: r, k + 1, _, h => sigO_some (L := r) (k := k) (by simpa using h)
theorem sigO_none : ∀ {L : List Nat} {k : Nat}, L.length ≤ k → sigO nx L k = nx + (k - L.length)
  | [], _, _ => rfl
  | _ :: _, 0, h => by simp at h
  | _ :: r, k + 1, h => by
    simp only [List.length_cons] at h ⊢
    rw [sigO, sigO_none (L := r) (by omega)]
    omega
theorem sigO_inj {L : List Nat} (hnd : L.Nodup) (hlt : ∀ i ∈ L, i < nx) {j k : Nat} (h : sigO nx L j = sigO nx L k) : j = k := by
  rcases Nat.lt_or_ge j L.length with hj | hj <;> rcases Nat.lt_or_ge k L.length with hk | hk
  · rw [sigO_some (List.getElem?_eq_getElem hj), sigO_some (List.getElem?_eq_getElem hk)] at h
    exact (List.getElem?_inj hj hnd).1 (by rw [List.getElem?_eq_getElem hj, List.getElem?_eq_getElem hk, h])
  · rw [sigO_some (List.getElem?_eq_getElem hj), sigO_none hk] at h
    have := hlt _ (List.getElem_mem hj)
    omega
  · rw [sigO_none hj, sigO_some (List.getElem?_eq_getElem hk)] at h
    have := hlt _ (List.getElem_mem hk)
    omega
  · rw [sigO_none hj, sigO_none hk] at h
    omega
theorem lent_mem : ∀ {k : Nat} {L : List Nat} {obc : Obs}, lentO ob σ k L obc → ∀ p ∈ obc, k ≤ p.1 ∧ ∃ i, L[p.1 - k]? = some i ∧ getO ob i = some (p.2.ren σ)
  | _, [], [], _, _, hp => by cases hp
  | k, i :: L, q :: r, h, p, hp => by
    obtain ⟨⟨h1, h2⟩, h3⟩ := h
    rcases List.mem_cons.1 hp with hp | hp
    · subst hp
      exact ⟨by omega, i, by rw [h1, Nat.sub_self]; rfl, h2⟩
    · obtain ⟨h4, j, h5, h6⟩ := lent_mem h3 p hp
      refine ⟨by omega, j, ?_, h6⟩
      rw [show p.1 - k = (p.1 - (k + 1)) + 1 by omega]
      simpa using h5
theorem lent_of : ∀ {k : Nat} {L : List Nat} {obc : Obs}, lentO ob σ k L obc → ∀ j i, L[j]? = some i → ∃ o, (k + j, o) ∈ obc ∧ getO ob i = some (o.ren σ)
  | _, [], [], _, _, _, h => by simp at h
  | k, i :: L, q :: r, h, j, i', hj => by
    obtain ⟨⟨h1, h2⟩, h3⟩ := h
    cases j with
    | zero =>
      simp only [List.getElem?_cons_zero, Option.some.injEq] at hj
      subst hj
      exact ⟨q.2, by rw [Nat.add_zero, ← h1]; simp, h2⟩
    | succ j =>
      obtain ⟨o, h4, h5⟩ := lent_of h3 j i' (by simpa using hj)
      exact ⟨o, by rw [show k + (j + 1) = k + 1 + j by omega]; exact List.mem_cons_of_mem _ h4, h5⟩
theorem lent_nd : ∀ {k : Nat} {L : List Nat} {obc : Obs}, lentO ob σ k L obc → (obc.map (·.1)).Nodup
  | _, [], [], _ => List.nodup_nil
  | k, i :: L, q :: r, h => by
    obtain ⟨⟨h1, h2⟩, h3⟩ := h
    refine List.nodup_cons.2 ⟨fun hm => ?_, lent_nd h3⟩
    obtain ⟨p, hp, e⟩ := List.mem_map.1 hm
    have := (lent_mem h3 p hp).1
    simp only at e
    omega
theorem bad_of : ∀ {k : Nat} {L : List Nat} {obc : Obs}, lentO ob σ k L obc → ∀ j i {α : Type} (E : TypeId) (R : Rd α) (xs : List α), L[j]? = some i → (k + j, .vec E R xs) ∈ obc → i ∈ badOf L obc
  | _, [], [], _, _, _, _, _, _, _, h, _ => by simp at h
  | k, i :: L, q :: r, h, j, i', α, E, R, xs, hj, hm => by
    obtain ⟨⟨h1, h2⟩, h3⟩ := h
    have hr : ∀ p ∈ r, k + 1 ≤ p.1 := fun p hp => (lent_mem h3 p hp).1
    cases j with
    | zero =>
      simp only [List.getElem?_cons_zero, Option.some.injEq] at hj
      subst hj
      rcases List.mem_cons.1 hm with hm | hm
      · subst hm
        simp [badOf]
      · have := hr _ hm
        simp only at this
        omega
    | succ j =>
      rcases List.mem_cons.1 hm with hm | hm
      · subst hm
        simp only at h1
        omega
      · have := bad_of h3 j i' E R xs (by simpa using hj) (by rw [show k + 1 + j = k + (j + 1) by omega]; exact hm)
        unfold badOf
        split
        · exact List.mem_cons_of_mem _ this
        · exact this
theorem mem_dropO {L bad : List Nat} : ∀ {ob : Obs} {p : Nat × Ob}, p ∈ dropO L bad ob → ∃ q ∈ ob, q.1 ∉ L ∧ p = (q.1, q.2.drp bad)
  | [], _, h => by cases h
  | q :: r, p, h => by
    unfold dropO at h
    split at h
    · obtain ⟨q', h1, h2⟩ := mem_dropO h
      exact ⟨q', List.mem_cons_of_mem _ h1, h2⟩
    · rename_i e
      rcases List.mem_cons.1 h with h | h
      · exact ⟨q, by simp, memN_false.1 e, h⟩
      · obtain ⟨q', h1, h2⟩ := mem_dropO h
        exact ⟨q', List.mem_cons_of_mem _ h1, h2⟩
theorem dropO_sub {L bad : List Nat} : ∀ {ob : Obs}, List.Sublist ((dropO L bad ob).map (·.1)) (ob.map (·.1))
  | [] => .slnil
  | q :: r => by
    unfold dropO
    split
    · exact .cons _ dropO_sub
    · exact .cons_cons _ dropO_sub
theorem appO_eq : ∀ (x y : Obs), appO x y = x ++ y
  | [], _ => rfl
  | p :: x, y => by rw [appO, appO_eq x y]; rfl
theorem mem_renOb : ∀ {ob : Obs} {p : Nat × Ob}, p ∈ renOb σ ob → ∃ q ∈ ob, p = (σ q.1, q.2.ren σ)
  | [], _, h => by cases h
  | q :: r, p, h => by
    rcases List.mem_cons.1 h with h | h
    · exact ⟨q, by simp, h⟩
    · obtain ⟨q', h1, h2⟩ := mem_renOb h
      exact ⟨q', List.mem_cons_of_mem _ h1, h2⟩
theorem renOb_keys : ∀ {ob : Obs}, (renOb σ ob).map (·.1) = (ob.map (·.1)).map σ
  | [] => rfl
  | q :: r => by simp only [renOb, List.map_cons, renOb_keys (ob := r)]

open Classical in
/-- The names behind such a call. -/
noncomputable def backN (nx : Nat) (L : List Nat) (ρ ρ' : Nat → Option Value) : Nat → Option Value := fun i => if h : ∃ k, sigO nx L k = i then ρ' h.choose else ρ i
theorem backN_in {L : List Nat} (hnd : L.Nodup) (hlt : ∀ i ∈ L, i < nx) (k : Nat) : backN nx L ρ ρ' (sigO nx L k) = ρ' k := by
  have h : ∃ j, sigO nx L j = sigO nx L k := ⟨k, rfl⟩
  unfold backN
  rw [dif_pos h, sigO_inj hnd hlt h.choose_spec]
theorem backN_out {L : List Nat} {i : Nat} (hi : i < nx) (hL : i ∉ L) : backN nx L ρ ρ' i = ρ i := by
  unfold backN
  rw [dif_neg]
  rintro ⟨k, hk⟩
  rcases Nat.lt_or_ge k L.length with h | h
  · rw [sigO_some (List.getElem?_eq_getElem h)] at hk
    exact hL (hk ▸ List.getElem_mem h)
  · rw [sigO_none h] at hk
    omega

theorem lend_sound {g : FuncId} {L : List Nat} {as : List A} {obc obc' : Obs} {r : A} {m' : Nat} {vs : List Value} (hs : StOk cx tm ob nx ρ a w) (hc : ACallO P g as obc (lenN L) r obc' m')
    (hargs : RepAs (okOf cx ρ ob) ρ w (renAs (sigO nx L) as) vs) (hl : lentO ob (sigO nx L) 0 L obc) (hd : ndN L = true) :
    Calls P g vs.toArray w fun e w' => ∃ u ρ', e = .returned u ∧ StOk cx (drpTm (badOf L obc) tm) (appO (renOb (sigO nx L) obc') (dropO L (badOf L obc) ob)) (nx + (m' - lenN L)) ρ' a w' ∧
      (r.ren (sigO nx L)).rep (okOf cx ρ' (appO (renOb (sigO nx L) obc') (dropO L (badOf L obc) ob))) ρ' w' u := by
  have hnd := ndN_nd hd
  have hin : ∀ i ∈ L, ∃ o, (i, o) ∈ ob := by
    intro i hi
    obtain ⟨j, hj⟩ := List.getElem?_of_mem hi
    obtain ⟨o, _, h⟩ := lent_of hl j i hj
    exact ⟨_, mem_getO h⟩
  have hlt : ∀ i ∈ L, i < nx := fun i hi => by
    obtain ⟨o, ho⟩ := hin i hi
    exact hs.fresh _ ho
  obtain ⟨_, hc⟩ := hc
  rw [lenN_eq] at hc ⊢
  let ρc : Nat → Option Value := fun k => ρ (sigO nx L k)
  let cx' : Cx := ⟨okOf cx ρ ob, ρc, w, 0, L.length⟩
  have hcl : ∀ p ∈ obc, p.1 < L.length ∧ ∃ i, L[p.1]? = some i ∧ i = sigO nx L p.1 ∧ getO ob i = some (p.2.ren (sigO nx L)) := by
    intro p hp
    obtain ⟨_, i, h1, h2⟩ := lent_mem hl p hp
    rw [Nat.sub_zero] at h1
    exact ⟨(List.getElem?_eq_some_iff.1 h1).1, i, h1, (sigO_some h1).symm, h2⟩
  have hmemc : ∀ p ∈ obc, (sigO nx L p.1, p.2.ren (sigO nx L)) ∈ ob := by
    intro p hp
    obtain ⟨_, i, _, e, h2⟩ := hcl p hp
    rw [← e]
    exact mem_getO h2
  have hmemL : ∀ k, k < L.length → ∃ o, (sigO nx L k, o) ∈ ob := by
    intro k hk
    rw [sigO_some (List.getElem?_eq_getElem hk)]
    exact hin _ (List.getElem_mem hk)
  have hk1 : Keeps (okOf cx ρ ob) (okOf cx' ρc obc) w w := fun b hb _ => ⟨⟨.inl hb, fun p hp => hb.2 _ (hmemc p hp)⟩, rfl⟩
  have hs' : StOk cx' [] obc L.length ρc ⟨#[], []⟩ w := by
    refine ⟨rfl, rfl, fun _ => trivial, fun p hp => ?_, lent_nd hl, fun p hp => (hcl p hp).1, fun i hi => ?_, Nat.le_refl _, fun p hp q hq hne b e1 e2 => ?_, fun p hp b e => ⟨?_, .inr ⟨(hcl p hp).1, e⟩⟩, ⟨rfl, rfl, rfl, Nat.le_refl _, fun _ _ _ => rfl⟩, fun i b hi e hb => ?_, fun _ _ _ _ => rfl, hs.globAt⟩
    · have h1 := hs.obs _ (hmemc p hp)
      exact Ob.kept hk1 (fun _ _ => rfl) (Ob.ren_is.1 h1)
    · exact hs.names _ (by rw [sigO_none hi]; omega)
    · exact hs.sep _ (hmemc p hp) _ (hmemc q hq) (fun e => hne (sigO_inj hnd hlt e)) b e1 e2
    · exact (hs.low _ (hmemc p hp) b e).1
    · obtain ⟨o, ho⟩ := hmemL i hi
      exact hb.2 _ ho e
  refine (hc cx' ρc w vs rfl rfl rfl hs' ((renAs_rep.1 hargs).kept hk1)).mono ?_
  rintro e w' ⟨u, ρ', rfl, hs2, hr⟩
  let ρ2 := backN nx L ρ ρ'
  have hin2 : ∀ k, ρ2 (sigO nx L k) = ρ' k := backN_in hnd hlt
  have hout : ∀ i, i < nx → i ∉ L → ρ2 i = ρ i := fun i h1 h2 => backN_out h1 h2
  have hren : (fun i => ρ2 (sigO nx L i)) = ρ' := funext hin2
  let ob2 : Obs := appO (renOb (sigO nx L) obc') (dropO L (badOf L obc) ob)
  have hmem2 : ∀ p ∈ ob2, (∃ q ∈ obc', p = (sigO nx L q.1, q.2.ren (sigO nx L))) ∨ (∃ q ∈ ob, q.1 ∉ L ∧ p = (q.1, q.2.drp (badOf L obc))) := by
    intro p hp
    have hp : p ∈ renOb (sigO nx L) obc' ++ dropO L (badOf L obc) ob := by rw [← appO_eq]; exact hp
    rcases List.mem_append.1 hp with h | h
    · exact .inl (mem_renOb h)
    · exact .inr (mem_dropO h)
  have hlow2 : ∀ q ∈ obc', ∀ b, blk (ρ' q.1) = some b → w.heap.size ≤ b ∨ (q.1 < L.length ∧ blk (ρ (sigO nx L q.1)) = some b) := fun q hq b e => (hs2.low q hq b e).2
  have hlentb : ∀ k b, k < L.length → blk (ρ (sigO nx L k)) = some b → ∃ o, (sigO nx L k, o) ∈ ob ∧ b < w.heap.size := by
    intro k b hk e
    obtain ⟨o, ho⟩ := hmemL k hk
    exact ⟨o, ho, (hs.low _ ho b e).1⟩
  have hblock : ∀ b, b < w.heap.size → (∀ k, k < L.length → blk (ρ (sigO nx L k)) ≠ some b) → w'.heap[b]? = w.heap[b]? := fun b hb h => hs2.keep.block b hb (fun ⟨i, h1, h2⟩ => h i h1 h2)
  have hk2 : Keeps (okOf cx ρ ob) (okOf cx ρ2 ob2) w w' := by
    intro b hb hlt'
    have hno : ∀ k, k < L.length → blk (ρ (sigO nx L k)) ≠ some b := fun k hk e => by
      obtain ⟨o, ho⟩ := hmemL k hk
      exact hb.2 _ ho e
    refine ⟨⟨hb.1, fun p hp e => ?_⟩, hblock b hlt' hno⟩
    rcases hmem2 p hp with ⟨q, hq, rfl⟩ | ⟨q, hq, hqL, rfl⟩
    · rw [hin2] at e
      rcases hlow2 q hq b e with h | h
      · omega
      · exact hno _ h.1 h.2
    · rw [hout _ (hs.fresh q hq) hqL] at e
      exact hb.2 q hq e
  have hk3 : Keeps (okOf cx' ρ' obc') (okOf cx ρ2 ob2) w' w' := by
    intro b hb _
    have h1 : okOf cx ρ ob b ∨ w.heap.size ≤ b := hb.1
    refine ⟨⟨?_, fun p hp e => ?_⟩, rfl⟩
    · rcases h1 with h1 | h1
      · exact h1.1
      · exact .inr (Nat.le_trans hs.keep.size h1)
    · rcases hmem2 p hp with ⟨q, hq, rfl⟩ | ⟨q, hq, hqL, rfl⟩
      · rw [hin2] at e
        exact hb.2 q hq e
      · rw [hout _ (hs.fresh q hq) hqL] at e
        rcases h1 with h1 | h1
        · exact h1.2 q hq e
        · have := (hs.low q hq b e).1
          omega
  have hdrp : Drp (badOf L obc) (okOf cx ρ ob) (okOf cx ρ2 ob2) ρ ρ2 w w' := by
    refine ⟨fun i p e => ?_, fun i v hb e => ?_, hk2⟩
    · have hi : i < nx := Nat.lt_of_not_ge fun h => by rw [hs.names i h] at e; cases e
      by_cases hL : i ∈ L
      · obtain ⟨k, hk⟩ := List.getElem?_of_mem hL
        have hkl := (List.getElem?_eq_some_iff.1 hk).1
        rw [← sigO_some (nx := nx) hk] at e ⊢
        rw [hin2]
        exact (hs2.pin k hkl p e).trans e
      · rw [hout i hi hL]; exact e
    · have hi : i < nx := Nat.lt_of_not_ge fun h => by rw [hs.names i h] at e; cases e
      by_cases hL : i ∈ L
      · obtain ⟨k, hk⟩ := List.getElem?_of_mem hL
        have hkl := (List.getElem?_eq_some_iff.1 hk).1
        obtain ⟨o, ho, hgo⟩ := lent_of hl k i hk
        rw [Nat.zero_add] at ho
        cases o with
        | box T cs =>
          obtain ⟨b, us, h1, _⟩ := hs.obs _ (mem_getO hgo)
          have h1 : ρ i = some (.pointer (some ⟨b, 0, none⟩)) := h1
          rw [← sigO_some (nx := nx) hk] at e h1 ⊢
          rw [hin2]
          exact (hs2.pin k hkl _ h1).trans e
        | vec E R xs =>
          exact absurd (bad_of hl k i E R xs hk (by rw [Nat.zero_add]; exact ho)) (memN_false.1 hb)
      · rw [hout i hi hL]; exact e
  refine ⟨u, ρ2, rfl, ⟨hs.size, hs.defers, fun i => by rw [get_drp]; exact A.drp_rep hdrp (hs.tms i), ?_, ?_, ?_, ?_, Nat.le_trans hs.nx0 (Nat.le_add_right _ _), ?_, ?_, ?_, hs.disj, ?_, hs.glob⟩, A.ren_rep.2 (by rw [hren]; exact A.kept hk3 hr)⟩
  · intro p hp
    rcases hmem2 p hp with ⟨q, hq, rfl⟩ | ⟨q, hq, hqL, rfl⟩
    · refine Ob.ren_is.2 ?_
      rw [hren]
      exact Ob.kept hk3 (fun _ _ => rfl) (hs2.obs q hq)
    · refine Ob.drp_is hdrp (hout _ (hs.fresh q hq) hqL) (fun b e => ?_) (hs.obs q hq)
      refine hblock b (hs.low q hq b e).1 fun k hk e' => ?_
      obtain ⟨o, ho⟩ := hmemL k hk
      refine hs.sep q hq _ ho (fun e2 => ?_) b e e'
      exact hqL (by rw [show q.1 = _ from e2, sigO_some (List.getElem?_eq_getElem hk)]; exact List.getElem_mem hk)
  · rw [appO_eq, List.map_append, renOb_keys]
    refine List.nodup_append.2 ⟨?_, hs.nd.sublist dropO_sub, ?_⟩
    · exact List.Pairwise.map _ (fun _ _ h e => h (sigO_inj hnd hlt e)) hs2.nd
    · rintro i hi j hj rfl
      obtain ⟨k, _, hk⟩ := List.mem_map.1 hi
      obtain ⟨p, hp, hp1⟩ := List.mem_map.1 hj
      obtain ⟨q, hq, hqL, rfl⟩ := mem_dropO hp
      simp only at hp1
      have hqn := hs.fresh q hq
      rcases Nat.lt_or_ge k L.length with h | h
      · rw [sigO_some (List.getElem?_eq_getElem h)] at hk
        exact hqL (by rw [hp1, ← hk]; exact List.getElem_mem h)
      · rw [sigO_none h] at hk
        omega
  · intro p hp
    have hm : L.length ≤ m' := hs2.nx0
    rcases hmem2 p hp with ⟨q, hq, rfl⟩ | ⟨q, hq, hqL, rfl⟩
    · have h1 := hs2.fresh q hq
      simp only
      rcases Nat.lt_or_ge q.1 L.length with h | h
      · rw [sigO_some (List.getElem?_eq_getElem h)]
        have := hlt _ (List.getElem_mem h)
        omega
      · rw [sigO_none h]; omega
    · have := hs.fresh q hq
      simp only
      omega
  · intro i hi
    have hm : L.length ≤ m' := hs2.nx0
    have e : i = sigO nx L (L.length + (i - nx)) := by rw [sigO_none (by omega)]; omega
    rw [show ρ2 i = _ from congrArg ρ2 e, hin2]
    exact hs2.names _ (by omega)
  · intro p hp q hq hne b e1 e2
    rcases hmem2 p hp with ⟨p', hp', rfl⟩ | ⟨p', hp', hpL, rfl⟩ <;> rcases hmem2 q hq with ⟨q', hq', rfl⟩ | ⟨q', hq', hqL, rfl⟩
    · rw [hin2] at e1 e2
      exact hs2.sep p' hp' q' hq' (fun e => hne (by simp only [e])) b e1 e2
    · rw [hin2] at e1
      rw [hout _ (hs.fresh q' hq') hqL] at e2
      have hb := (hs.low q' hq' b e2).1
      rcases hlow2 p' hp' b e1 with h | h
      · omega
      · obtain ⟨o, ho⟩ := hmemL _ h.1
        refine hs.sep q' hq' _ ho (fun e => ?_) b e2 h.2
        exact hqL (by rw [show q'.1 = _ from e, sigO_some (List.getElem?_eq_getElem h.1)]; exact List.getElem_mem h.1)
    · rw [hin2] at e2
      rw [hout _ (hs.fresh p' hp') hpL] at e1
      have hb := (hs.low p' hp' b e1).1
      rcases hlow2 q' hq' b e2 with h | h
      · omega
      · obtain ⟨o, ho⟩ := hmemL _ h.1
        refine hs.sep p' hp' _ ho (fun e => ?_) b e1 h.2
        exact hpL (by rw [show p'.1 = _ from e, sigO_some (List.getElem?_eq_getElem h.1)]; exact List.getElem_mem h.1)
    · rw [hout _ (hs.fresh p' hp') hpL] at e1
      rw [hout _ (hs.fresh q' hq') hqL] at e2
      exact hs.sep p' hp' q' hq' hne b e1 e2
  · intro p hp b e
    rcases hmem2 p hp with ⟨q, hq, rfl⟩ | ⟨q, hq, hqL, rfl⟩
    · rw [hin2] at e
      refine ⟨(hs2.low q hq b e).1, ?_⟩
      rcases hlow2 q hq b e with h | h
      · exact .inl (Nat.le_trans hs.keep.size h)
      · obtain ⟨o, ho⟩ := hmemL _ h.1
        exact (hs.low _ ho b h.2).2
    · rw [hout _ (hs.fresh q hq) hqL] at e
      have := hs.low q hq b e
      exact ⟨Nat.lt_of_lt_of_le this.1 hs2.keep.size, this.2⟩
  · refine ⟨hs2.keep.os.trans hs.keep.os, hs2.keep.tape.trans hs.keep.tape, hs2.keep.output.trans hs.keep.output, Nat.le_trans hs.keep.size hs2.keep.size, fun b hb ho => ?_⟩
    rw [hblock b (Nat.lt_of_lt_of_le hb hs.keep.size) fun k hk e => ?_, hs.keep.block b hb ho]
    obtain ⟨o, ho'⟩ := hmemL k hk
    rcases (hs.low _ ho' b e).2 with h | h
    · omega
    · exact ho ⟨_, h⟩
  · intro i hi p e
    have h1 := (hs.pin i hi p e).trans e
    exact (hdrp.ptr i p h1).trans e.symm
end
end Ab
end Go.Proofs.YthlfbpmbkcoclaaDoor
