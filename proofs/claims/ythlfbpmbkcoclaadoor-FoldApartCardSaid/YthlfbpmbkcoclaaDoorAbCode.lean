/-
  Code, abstractly: the rules by which a function's text is gone through. Over any program; no condition.
-/
import Derived.Test.YthlfbpmbkcoclaaDoorAbDraw
import Derived.LoopN
namespace Go.Proofs.YthlfbpmbkcoclaaDoor
open Go.RowKit
namespace Ab

def AQ := Exit → Tm → Obs → Nat → Prop
/-- From such a state the code comes to an end, each end as Q says. -/
def ACode (P : Program) (te : List (TypeId × TyI)) (N nx0 : Nat) (c : Code) (tm : Tm) (ob : Obs) (nx : Nat) (Q : AQ) : Prop :=
  TEok P te → ∀ cx : Cx, cx.N = N → cx.nx0 = nx0 → ∀ ρ a w, StOk cx tm ob nx ρ a w → c.wp P (fun e a' w' => ∃ tm' ob' nx' ρ', Q e tm' ob' nx' ∧ StOk cx tm' ob' nx' ρ' a' w') a w

def thenQ (K : Tm → Obs → Nat → Prop) (Q : AQ) : AQ := fun e tm ob nx => match e with
  | .normal => K tm ob nx
  | .exit i => Q (.exit i) tm ob nx
  | .goto l => Q (.goto l) tm ob nx
  | .ret => Q .ret tm ob nx
  | .panic ch => Q (.panic ch) tm ob nx
  | .outgrown => Q .outgrown tm ob nx
def blockQ (id : Nat) (Q : AQ) : AQ := fun e tm ob nx => match e with
  | .normal => Q .normal tm ob nx
  | .exit i => match Nat.beq i id with
    | true => Q .normal tm ob nx
    | false => Q (.exit i) tm ob nx
  | .goto l => Q (.goto l) tm ob nx
  | .ret => Q .ret tm ob nx
  | .panic ch => Q (.panic ch) tm ob nx
  | .outgrown => Q .outgrown tm ob nx

section
variable {P : Program} {te : List (TypeId × TyI)} {N nx0 nx : Nat} {tm : Tm} {ob : Obs} {Q Q' : AQ}

theorem acode_mono {c : Code} (h : ∀ e tm ob nx, Q e tm ob nx → Q' e tm ob nx) (hc : ACode P te N nx0 c tm ob nx Q) : ACode P te N nx0 c tm ob nx Q' :=
  fun hte cx h1 h2 ρ a w hs => Code.wp_mono (fun _ _ _ ⟨tm', ob', nx', ρ', hq, hs'⟩ => ⟨tm', ob', nx', ρ', h _ _ _ _ hq, hs'⟩) (hc hte cx h1 h2 ρ a w hs)
theorem acode_skip (h : Q .normal tm ob nx) : ACode P te N nx0 .skip tm ob nx Q :=
  fun _ _ _ _ ρ _ _ hs => wp_skip ⟨tm, ob, nx, ρ, h, hs⟩
theorem acode_ret (h : Q .ret tm ob nx) : ACode P te N nx0 .ret tm ob nx Q :=
  fun _ _ _ _ ρ _ _ hs => wp_ret ⟨tm, ob, nx, ρ, h, hs⟩
theorem acode_exit {id : Nat} (h : Q (.exit id) tm ob nx) : ACode P te N nx0 (.exit id) tm ob nx Q :=
  fun _ _ _ _ ρ _ _ hs => wp_exit ⟨tm, ob, nx, ρ, h, hs⟩
theorem acode_seq {x y : Code} (h : ACode P te N nx0 x tm ob nx (thenQ (fun tm ob nx => ACode P te N nx0 y tm ob nx Q) Q)) : ACode P te N nx0 (.seq x y) tm ob nx Q := by
  intro hte cx h1 h2 ρ a w hs
  refine wp_seq (Code.wp_mono ?_ (h hte cx h1 h2 ρ a w hs))
  rintro e a' w' ⟨tm', ob', nx', ρ', hq, hs'⟩
  cases e <;> simp only [thenQ, Exit.then] at hq ⊢
  · exact hq hte cx h1 h2 ρ' a' w' hs'
  all_goals exact ⟨tm', ob', nx', ρ', hq, hs'⟩
theorem acode_block {id : Nat} {c : Code} (h : ACode P te N nx0 c tm ob nx (blockQ id Q)) : ACode P te N nx0 (.block id c) tm ob nx Q := by
  intro hte cx h1 h2 ρ a w hs
  refine wp_block (Code.wp_mono ?_ (h hte cx h1 h2 ρ a w hs))
  rintro e a' w' ⟨tm', ob', nx', ρ', hq, hs'⟩
  cases e <;> simp only [blockQ, Exit.inBlock] at hq ⊢
  case exit i =>
    by_cases e : i = id
    · subst e
      simp only [Nat.beq_refl] at hq
      rw [if_pos rfl]
      exact ⟨tm', ob', nx', ρ', hq, hs'⟩
    · rw [if_neg e]
      have : Nat.beq i id = false := by
        cases hb : Nat.beq i id
        · rfl
        · exact absurd (Nat.eq_of_beq_eq_true hb) e
      rw [this] at hq
      exact ⟨tm', ob', nx', ρ', hq, hs'⟩
  all_goals exact ⟨tm', ob', nx', ρ', hq, hs'⟩
theorem acode_cond {c : Operand} {x y : Code} {b : Bool} (hc : look tm c = ib b) (h1 : b = true → ACode P te N nx0 x tm ob nx Q) (h2 : b = false → ACode P te N nx0 y tm ob nx Q) : ACode P te N nx0 (.cond c x y) tm ob nx Q := by
  intro hte cx e1 e2 ρ a w hs
  have hr := hs.look c
  rw [hc] at hr
  exact wp_cond_split (t := b) hr (fun e => h1 e hte cx e1 e2 ρ a w hs) (fun e => h2 e hte cx e1 e2 ρ a w hs)
theorem acode_region {id : Nat} {ops : Array Oper} (h : awp P te N nx0 ops.toList ops.toList tm ob nx (fun tm ob nx => Q .normal tm ob nx)) : ACode P te N nx0 (.region id ops false) tm ob nx Q := by
  intro hte cx e1 e2 ρ a w hs
  subst e1 e2
  exact wp_region_list (awp_sound hte ops ops.toList h hs (fun tm ob nx ρ a w hq hs => ⟨tm, ob, nx, ρ, hq, hs⟩))

theorem acode_draw {id : Nat} {ops : Array Oper} (hm : P.follows .mixedOrders = true) (hB : Region.lexB .any ops = true) (h : awpD P te N ops.toList ops.toList tm ob (fun tm => Q .normal tm ob nx)) : ACode P te N nx0 (.region id ops true) tm ob nx Q := by
  intro hte cx e1 e2 ρ a w hs
  subst e1 e2
  exact region_draw hte hm hB h hs (fun tm ρ a w hq hs => ⟨tm, ob, nx, ρ, hq, hs⟩)

/-- What is known of fewer slots and blocks. -/
structure Le (nx0 : Nat) (tm : Tm) (ob : Obs) (nx : Nat) (tm' : Tm) (ob' : Obs) (nx' : Nat) : Prop where
  st : ∀ cx : Cx, cx.nx0 = nx0 → ∀ ρ a w, StOk cx tm ob nx ρ a w → ∃ ρ', StOk cx tm' ob' nx' ρ' a w

/-- Names below a number alone. -/
def C.bd (n : Nat) : C → Bool
  | .own i _ => Nat.ble (i + 1) n
  | .vec i => Nat.ble (i + 1) n
  | .vel i _ _ => Nat.ble (i + 1) n
  | .ifc _ c => c.bd n
  | .clo _ c => c.bd n
  | .ref c => c.bd n
  | .nself _ i => Nat.ble (i + 1) n
  | _ => true
def bdL (n : Nat) : List C → Bool
  | [] => true
  | c :: r => match c.bd n with
    | true => bdL n r
    | false => false
def bdT (n : Nat) : List (Bool × List C) → Bool
  | [] => true
  | p :: r => match bdL n p.2 with
    | true => bdT n r
    | false => false
def A.bd (n : Nat) : A → Bool
  | .one c => c.bd n
  | .agg cs => bdL n cs
  | .tup cs => bdT n cs
  | .cond _ a => a.bd n
def bdTm (n : Nat) : Tm → Bool
  | [] => true
  | p :: r => match p.2.bd n with
    | true => bdTm n r
    | false => false
def Ob.bd (n : Nat) : Ob → Bool
  | .box _ cs => bdL n cs
  | .vec _ _ _ => true
def bdOb (n : Nat) : Obs → Bool
  | [] => true
  | p :: r => match Nat.ble (p.1 + 1) n, p.2.bd n with
    | true, true => bdOb n r
    | _, _ => false
def noKey (i : Nat) : Obs → Bool
  | [] => true
  | p :: r => match Nat.beq p.1 i with
    | true => false
    | false => noKey i r
def ndOb : Obs → Bool
  | [] => true
  | p :: r => match noKey p.1 r with
    | true => ndOb r
    | false => false
/-- Each slot of the second holds what it held in the first. -/
def leT (tm : Tm) : Tm → Prop
  | [] => True
  | [p] => get tm p.1 = p.2
  | p :: r => get tm p.1 = p.2 ∧ leT tm r
def leO (ob : Obs) : Obs → Prop
  | [] => True
  | [p] => getO ob p.1 = some p.2
  | p :: r => getO ob p.1 = some p.2 ∧ leO ob r

def cut (n : Nat) (ρ : Nat → Option Value) : Nat → Option Value := fun i => if i < n then ρ i else none
theorem cut_lt {n : Nat} {ρ : Nat → Option Value} {i : Nat} (h : i < n) : cut n ρ i = ρ i := if_pos h
section cutting
variable {ok : Nat → Prop} {ρ : Nat → Option Value} {w : World} {n : Nat}
theorem C.cut_rep : ∀ {c : C} {v : Value}, c.bd n = true → c.rep ok ρ w v → c.rep ok (cut n ρ) w v
  | .any, _, _, _ => trivial
  | .lit _, _, _, h => h
  | .sl _ _, _, _, h => h
  | .full _ _, _, _, h => h
  | .addr _ _, _, _, h => h
  | .own _ _, _, hc, h => by obtain ⟨b, h1, h2⟩ := h; exact ⟨b, by rw [cut_lt (Nat.lt_of_succ_le (Nat.le_of_ble_eq_true hc))]; exact h1, h2⟩
  | .vec _, _, hc, h => ⟨by rw [cut_lt (Nat.lt_of_succ_le (Nat.le_of_ble_eq_true hc))]; exact h.1, h.2⟩
  | .vel _ _ _, _, hc, h => by obtain ⟨b, m, cap, h1, h2⟩ := h; exact ⟨b, m, cap, by rw [cut_lt (Nat.lt_of_succ_le (Nat.le_of_ble_eq_true hc))]; exact h1, h2⟩
  | .ifc _ c, _, hc, h => by obtain ⟨u, hv, h⟩ := h; exact ⟨u, hv, C.cut_rep (c := c) hc h⟩
  | .clo _ c, _, hc, h => by obtain ⟨u, hv, h⟩ := h; exact ⟨u, hv, C.cut_rep (c := c) hc h⟩
  | .ref c, _, hc, h => by obtain ⟨b, off, u, hv, h1, h2, h3, h⟩ := h; exact ⟨b, off, u, hv, h1, h2, h3, C.cut_rep (c := c) hc h⟩
  | .nself _ _, _, hc, h => ⟨fun e => by obtain ⟨b, h1, h2⟩ := h.1 e; exact ⟨b, by rw [cut_lt (Nat.lt_of_succ_le (Nat.le_of_ble_eq_true hc))]; exact h1, h2⟩, h.2⟩
theorem bdL_rep : ∀ {cs : List C} {vs : List Value}, bdL n cs = true → repL ok ρ w cs vs → repL ok (cut n ρ) w cs vs
  | [], _, _, h => h
  | c :: r, _, hc, h => by
    unfold bdL at hc
    split at hc
    · rename_i h1
      obtain ⟨v, r, e, h2, h3⟩ := h
      exact ⟨v, r, e, C.cut_rep h1 h2, bdL_rep hc h3⟩
    · cases hc
theorem bdV_rep : ∀ {g : Bool} {cs : List C} {v : Value}, bdL n cs = true → repV ok ρ w g cs v → repV ok (cut n ρ) w g cs v
  | true, _, _, hc, h => by obtain ⟨vs, e, h⟩ := h; exact ⟨vs, e, bdL_rep hc h⟩
  | false, _, _, hc, h => bdL_rep hc h
theorem bdT_rep : ∀ {cs : List (Bool × List C)} {vs : List Value}, bdT n cs = true → repT ok ρ w cs vs → repT ok (cut n ρ) w cs vs
  | [], _, _, h => h
  | c :: r, _, hc, h => by
    unfold bdT at hc
    split at hc
    · rename_i h1
      obtain ⟨v, r, e, h2, h3⟩ := h
      exact ⟨v, r, e, bdV_rep h1 h2, bdT_rep hc h3⟩
    · cases hc
theorem A.cut_rep : ∀ {a : A} {v : Value}, a.bd n = true → a.rep ok ρ w v → a.rep ok (cut n ρ) w v
  | .one _, _, hc, h => C.cut_rep hc h
  | .agg _, _, hc, h => bdV_rep (g := true) hc h
  | .tup _, _, hc, h => by obtain ⟨vs, e, h⟩ := h; exact ⟨vs, e, bdT_rep hc h⟩
  | .cond _ a, _, hc, h => ⟨fun hb => A.cut_rep (a := a) hc (h.1 hb), h.2⟩
theorem Ob.cut_is {i : Nat} (hi : i < n) {o : Ob} (hc : o.bd n = true) (h : o.is ok ρ w i) : o.is ok (cut n ρ) w i := by
  cases o with
  | box T cs => obtain ⟨b, vs, h1, h2, h3⟩ := h; exact ⟨b, vs, by rw [cut_lt hi]; exact h1, h2, bdL_rep hc h3⟩
  | vec E R xs => obtain ⟨v, hv, h⟩ := h; exact ⟨v, by rw [cut_lt hi]; exact hv, h⟩
end cutting
theorem bdTm_get {n : Nat} : ∀ {tm : Tm} (i : Nat), bdTm n tm = true → (get tm i).bd n = true
  | [], _, _ => rfl
  | p :: r, i, h => by
    unfold bdTm at h
    split at h
    · rename_i h1
      unfold get
      split
      · exact h1
      · exact bdTm_get i h
    · cases h
theorem bdOb_mem {n : Nat} : ∀ {ob : Obs} {p : Nat × Ob}, bdOb n ob = true → p ∈ ob → p.1 < n ∧ p.2.bd n = true
  | [], _, _, h => by cases h
  | q :: r, p, h, hp => by
    unfold bdOb at h
    split at h
    · rename_i h1 h2
      rcases List.mem_cons.1 hp with hp | hp
      · subst hp; exact ⟨Nat.lt_of_succ_le (Nat.le_of_ble_eq_true h1), h2⟩
      · exact bdOb_mem h hp
    · cases h
theorem noKey_ne {i : Nat} : ∀ {ob : Obs}, noKey i ob = true → i ∉ ob.map (·.1)
  | [], _ => by simp
  | q :: r, h => by
    unfold noKey at h
    split at h
    · cases h
    · rename_i e
      intro hm
      rcases List.mem_cons.1 hm with hm | hm
      · subst hm; simp at e
      · exact noKey_ne h hm
theorem ndOb_nd : ∀ {ob : Obs}, ndOb ob = true → (ob.map (·.1)).Nodup
  | [], _ => by simp
  | q :: r, h => by
    unfold ndOb at h
    split at h
    · rename_i h1
      exact List.nodup_cons.2 ⟨noKey_ne h1, ndOb_nd h⟩
    · cases h
theorem get_cons (p : Nat × A) (r : Tm) (i : Nat) : get (p :: r) i = (match Nat.beq p.1 i with | true => p.2 | false => get r i) := rfl
theorem leT_get {tm : Tm} : ∀ {tm' : Tm} (i : Nat), leT tm tm' → get tm' i = .one .any ∨ get tm' i = get tm i
  | [], _, _ => .inl rfl
  | [p], i, h => by
    rw [get_cons p]
    split
    · rename_i e
      have e := Nat.eq_of_beq_eq_true e
      subst e
      exact .inr (show get tm p.1 = p.2 from h).symm
    · exact .inl rfl
  | p :: q :: r, i, h => by
    rw [get_cons p]
    split
    · rename_i e
      have e := Nat.eq_of_beq_eq_true e
      subst e
      exact .inr h.1.symm
    · exact leT_get i h.2
theorem leO_mem {ob : Obs} : ∀ {ob' : Obs} {p : Nat × Ob}, leO ob ob' → p ∈ ob' → getO ob p.1 = some p.2
  | [], _, _, hp => by cases hp
  | [q], p, h, hp => by
    have : p = q := by simpa using hp
    subst this
    exact h
  | q :: q' :: r, p, h, hp => by
    rcases List.mem_cons.1 hp with hp | hp
    · subst hp; exact h.1
    · exact leO_mem h.2 hp

theorem le_of {tm' : Tm} {ob' : Obs} {nx' : Nat} (ht : leT tm tm') (ho : leO ob ob') (hb : (match bdTm nx' tm', bdOb nx' ob', ndOb ob', Nat.ble nx' nx, Nat.ble nx0 nx' with | true, true, true, true, true => true | _, _, _, _, _ => false) = true) : Le nx0 tm ob nx tm' ob' nx' := by
  split at hb
  · rename_i b1 b2 b3 b4 b5
    refine ⟨fun cx e ρ a w hs => ⟨cut nx' ρ, ?_⟩⟩
    have hmem : ∀ p ∈ ob', p ∈ ob := fun p hp => mem_getO (leO_mem ho hp)
    have hlt : ∀ p ∈ ob', p.1 < nx' := fun p hp => (bdOb_mem b2 hp).1
    have hblk : ∀ p ∈ ob', blk (cut nx' ρ p.1) = blk (ρ p.1) := fun p hp => by rw [cut_lt (hlt p hp)]
    have hk : Keeps (okOf cx ρ ob) (okOf cx (cut nx' ρ) ob') w w := fun b hb _ => ⟨⟨hb.1, fun p hp => by rw [hblk p hp]; exact hb.2 p (hmem p hp)⟩, rfl⟩
    refine ⟨hs.size, hs.defers, fun i => ?_, fun p hp => ?_, ndOb_nd b3, hlt, fun i hi => if_neg (by omega), by rw [e]; exact Nat.le_of_ble_eq_true b5, ?_, ?_, hs.keep, hs.disj, fun i hi p e' => by rw [cut_lt (Nat.lt_of_lt_of_le (by rw [← e]; exact hi) (Nat.le_of_ble_eq_true b5))]; exact hs.pin i hi p e', hs.glob⟩
    · rcases leT_get i ht with h | h
      · rw [h]; trivial
      · have hbd := bdTm_get i b1
        rw [h] at hbd ⊢
        exact A.cut_rep hbd (A.kept hk (hs.tms i))
    · exact Ob.cut_is (hlt p hp) (bdOb_mem b2 hp).2 (Ob.kept hk (fun _ _ => rfl) (hs.obs p (hmem p hp)))
    · intro p hp q hq hne b
      rw [hblk p hp, hblk q hq]
      exact hs.sep p (hmem p hp) q (hmem q hq) hne b
    · intro p hp b
      rw [hblk p hp]
      exact hs.low p (hmem p hp) b
  · cases hb

theorem acode_weak {c : Code} {tm' : Tm} {ob' : Obs} {nx' : Nat} (hle : Le nx0 tm ob nx tm' ob' nx') (h : ACode P te N nx0 c tm' ob' nx' Q) : ACode P te N nx0 c tm ob nx Q := by
  intro hte cx e1 e2 ρ a w hs
  obtain ⟨ρ', hs'⟩ := hle.st cx e2 ρ a w hs
  exact h hte cx e1 e2 ρ' a w hs'

/-- A loop, by a state for each index, and a number that falls. -/
theorem acode_loop {c : Code} {ι : Type} (I : ι → Tm) (O : ι → Obs) (nx' : Nat) (μ : ι → Nat) (i0 : ι) (h0 : Le nx0 tm ob nx (I i0) (O i0) nx')
    (round : ∀ i, ACode P te N nx0 c (I i) (O i) nx' (thenQ (fun tm ob nx => ∃ j, μ j < μ i ∧ Le nx0 tm ob nx (I j) (O j) nx') Q)) : ACode P te N nx0 (.loop c) tm ob nx Q := by
  intro hte cx e1 e2 ρ a w hs
  obtain ⟨ρ0, hs0⟩ := h0.st cx e2 ρ a w hs
  have key : ∀ n i, μ i < n → ∀ ρ a w, StOk cx (I i) (O i) nx' ρ a w → Code.rounds P c (fun e a' w' => ∃ tm' ob' nx' ρ', Q e tm' ob' nx' ∧ StOk cx tm' ob' nx' ρ' a' w') n a w := by
    intro n
    induction n with
    | zero => intro i hi; omega
    | succ n ih =>
      intro i hi ρ a w hs
      refine Code.wp_mono ?_ (round i hte cx e1 e2 ρ a w hs)
      rintro e a' w' ⟨tm', ob', nx'', ρ', hq, hs'⟩
      cases e <;> simp only [thenQ, Exit.then] at hq ⊢
      · obtain ⟨j, hj, hle⟩ := hq
        obtain ⟨ρ'', hs''⟩ := hle.st cx e2 ρ' a' w' hs'
        exact ih j (by omega) ρ'' a' w' hs''
      all_goals exact ⟨tm', ob', nx'', ρ', hq, hs'⟩
  exact wp_loop_rounds _ (key (μ i0 + 1) i0 (Nat.lt_succ_self _) ρ0 a w hs0)

/-- A loop, by a state for each index of which something holds, and a number that falls. -/
theorem acode_loopP {c : Code} {ι : Type} (Pr : ι → Prop) (I : ι → Tm) (O : ι → Obs) (nx' : Nat) (μ : ι → Nat) (i0 : ι) (hp : Pr i0) (h0 : Le nx0 tm ob nx (I i0) (O i0) nx')
    (round : ∀ i, Pr i → ACode P te N nx0 c (I i) (O i) nx' (thenQ (fun tm ob nx => ∃ j, Pr j ∧ μ j < μ i ∧ Le nx0 tm ob nx (I j) (O j) nx') Q)) : ACode P te N nx0 (.loop c) tm ob nx Q := by
  refine acode_loop (ι := {i : ι // Pr i}) (fun i => I i.1) (fun i => O i.1) nx' (fun i => μ i.1) ⟨i0, hp⟩ h0 fun i => acode_mono ?_ (round i.1 i.2)
  intro e tm ob nx h
  cases e
  · obtain ⟨j, hj, hm, hle⟩ := h
    exact ⟨⟨j, hj⟩, hm, hle⟩
  all_goals exact h
/-- Where ways meet again. -/
theorem acode_cut {x y : Code} {ι : Type} (Pr : ι → Prop) (I : ι → Tm) (O : ι → Obs) (nx' : Nat) (h1 : ACode P te N nx0 x tm ob nx (thenQ (fun tm ob nx => ∃ j, Pr j ∧ Le nx0 tm ob nx (I j) (O j) nx') Q))
    (h2 : ∀ i, Pr i → ACode P te N nx0 y (I i) (O i) nx' Q) : ACode P te N nx0 (.seq x y) tm ob nx Q := by
  refine acode_seq (acode_mono ?_ h1)
  intro e tm ob nx h
  cases e
  · obtain ⟨j, hj, hle⟩ := h
    exact acode_weak hle (h2 j hj)
  all_goals exact h
/-- A nil slice in some slot is taken for one of the call's own. -/
theorem acode_nilvec {c : Code} (i : Nat) {α : Type} (E : TypeId) (R : Rd α) (hi : get tm i = .one (.lit (.slice none 0 0))) (h : ACode P te N nx0 c ((i, .one (.vec nx)) :: tm) ((nx, .vec E R []) :: ob) (nx + 1) Q) : ACode P te N nx0 c tm ob nx Q := by
  intro hte cx e1 e2 ρ a w hs
  obtain ⟨ρ', h1, h2⟩ := new_vec (E := E) (R := R) (xs := []) (v := .slice none 0 0) hs (Below.refl _ _) (fun b hb => by cases hb) ⟨_, _, _, rfl⟩ (fun ok' _ => ⟨[], rfl, fun i hi => absurd hi (by simp), World.ownsRow_nil _ _ _ _⟩)
  refine h hte cx e1 e2 ρ' a w (h1.act rfl rfl fun j => ?_)
  rw [get_cons]
  split
  · rename_i e
    have e : i = j := Nat.eq_of_beq_eq_true e
    subst e
    have hv := hs.tms i
    rw [hi] at hv
    rw [show a.tmps.getD i undef = _ from hv]
    exact h2
  · exact h1.tms j
end
attribute [irreducible] ACode
end Ab
end Go.Proofs.YthlfbpmbkcoclaaDoor
