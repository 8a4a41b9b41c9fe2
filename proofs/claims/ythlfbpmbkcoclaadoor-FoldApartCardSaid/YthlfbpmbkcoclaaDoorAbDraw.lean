/-
  A region that draws its order, of operations that write nothing: one walk in the text's order serves every order. Over any program; no condition.
-/
import Derived.Test.YthlfbpmbkcoclaaDoorAbAll
import Derived.Still
namespace Go.Proofs.YthlfbpmbkcoclaaDoor
open Go.RowKit
namespace Ab

/-- One operation without a guard, in such a region. -/
def stepD (P : Program) (te : List (TypeId × TyI)) (o : Oper) (tm : Tm) (ob : Obs) (K : A → Prop) : Prop :=
  match o.op with
  | .call { callee := .value f, args, argTypes := _ } => callK P (look tm) f args.toList K
  | op => match opv te ob (look tm) op with
    | .ok v => K v
    | .need p v => p ∧ K v
    | .know _ v => K v
    | .bad => False
def putD (N : Nat) (d : Option Nat) (v : A) (tm : Tm) (K : Tm → Prop) : Prop := put N d v tm K
def awpD (P : Program) (te : List (TypeId × TyI)) (N : Nat) (all : List Oper) : List Oper → Tm → Obs → (Tm → Prop) → Prop
  | [], tm, _, K => K tm
  | o :: rest, tm, ob, K => match o.guard with
    | none => stepD P te o tm ob fun v => put N o.dst v tm fun tm => awpD P te N all rest tm ob K
    | some (j, want) => match dstAt all j with
      | some d => match Nat.ble (d + 1) N, get tm d with
        | true, .one (.lit (.bool b)) => aopG P te N o (gq want b) tm ob fun tm => awpD P te N all rest tm ob K
        | true, .cond p (.one (.lit (.bool b))) => aopG P te N o (p && gq want b) tm ob fun tm => awpD P te N all rest tm ob K
        | _, _ => False
      | none => False

def putT (d : Option Nat) (v : A) (tm : Tm) : Tm := match d with
  | none => tm
  | some d => (d, v) :: tm
theorem put_putT {N : Nat} {d : Option Nat} {v : A} {tm : Tm} {K : Tm → Prop} (h : put N d v tm K) : K (putT d v tm) ∧ ∀ i, d = some i → i < N := by
  unfold put at h
  cases d with
  | none => exact ⟨h, fun i hi => by cases hi⟩
  | some d =>
    simp only at h
    split at h
    · rename_i hlt
      exact ⟨h, fun i hi => by cases hi; exact Nat.lt_of_succ_le (Nat.le_of_ble_eq_true hlt)⟩
    · exact h.elim

section
variable (P : Program) (cx : Cx) (ob : Obs) (nx : Nat) (ops : Array Oper) (md : Region.Mode) (tmF : Tm)

/-- In every run that fits, the operation yields what v stands for (or is passed over, as v says). -/
def Does (o : Oper) (tm : Tm) (v : A) : Prop :=
  ∀ ρ a w, StOk cx [] ob nx ρ a w → (∀ t ∈ o.looksAt ops, (get tm t).rep (okOf cx ρ ob) ρ w (a.tmps.getD t undef)) → ∀ (K : Act → World → Prop) (Q : Exit → Act → World → Prop),
    (∀ u w', Below w.heap.size w w' → v.rep (okOf cx ρ ob) ρ w' u → K (a.put o.dst u) w') → if Region.wanted o (yielded ops a.tmps) then o.wp P a w K Q else K (a.put o.dst undef) w
def Eqv (tm tm' : Tm) : Prop := ∀ i, get tm i = get tm' i
def qA (i : Nat) (K : Tm → Prop) (tm : Tm) : Prop :=
  match ops[i]? with
  | none => K tm
  | some o => ∃ v, Does P cx ob nx ops o tm v ∧ (∀ d, o.dst = some d → d < cx.N) ∧ K (putT o.dst v tm)
def anyA : Nat → Array Bool → Tm → Prop
  | 0, listed, tm => Region.ready md ops listed = [] ∧ Eqv tm tmF
  | fuel + 1, listed, tm => (Region.ready md ops listed = [] → Eqv tm tmF) ∧ ∀ i ∈ Region.ready md ops listed, qA P cx ob nx ops i (anyA fuel (listed.setIfInBounds i true)) tm
def wpA : List Oper → Tm → Prop
  | [], tm => Eqv tm tmF
  | o :: l, tm => ∃ v, Does P cx ob nx ops o tm v ∧ (∀ d, o.dst = some d → d < cx.N) ∧ wpA l (putT o.dst v tm)

variable {P cx ob nx ops md tmF}
theorem Does.congr {o : Oper} {tm tm' : Tm} {v : A} (h : Does P cx ob nx ops o tm v) (he : ∀ t ∈ o.looksAt ops, get tm t = get tm' t) : Does P cx ob nx ops o tm' v :=
  fun ρ a w hs hl => h ρ a w hs fun t ht => by rw [he t ht]; exact hl t ht
theorem get_putT_ne {d : Option Nat} {v : A} {tm : Tm} {i : Nat} (h : d ≠ some i) : get (putT d v tm) i = get tm i := by
  cases d with
  | none => rfl
  | some d =>
    show get ((d, v) :: tm) i = _
    unfold get
    split
    · rename_i e
      have e := Nat.eq_of_beq_eq_true e
      simp only at e
      exact absurd (by rw [e]) h
    · cases tm <;> rfl
theorem get_putT_eq {d : Nat} {v : A} {tm : Tm} : get (putT (some d) v tm) d = v := by
  show get ((d, v) :: tm) d = v
  unfold get
  simp
theorem Eqv.put {tm tm' : Tm} (h : Eqv tm tm') (d : Option Nat) (v : A) : Eqv (putT d v tm) (putT d v tm') := by
  intro i
  by_cases e : d = some i
  · subst e; rw [get_putT_eq, get_putT_eq]
  · rw [get_putT_ne e, get_putT_ne e]; exact h i
theorem Eqv.comm {tm : Tm} {d d' : Option Nat} {v v' : A} (h : ∀ i, d = some i → d' ≠ some i) : Eqv (putT d v (putT d' v' tm)) (putT d' v' (putT d v tm)) := by
  intro i
  by_cases e : d = some i
  · subst e
    rw [get_putT_eq, get_putT_ne (h i rfl), get_putT_eq]
  · rw [get_putT_ne e]
    by_cases e' : d' = some i
    · subst e'; rw [get_putT_eq, get_putT_eq]
    · rw [get_putT_ne e', get_putT_ne e', get_putT_ne e]
theorem qA_mono {i : Nat} {K K' : Tm → Prop} {tm : Tm} (h : ∀ tm, K tm → K' tm) (hq : qA P cx ob nx ops i K tm) : qA P cx ob nx ops i K' tm := by
  unfold qA at *
  split
  · rename_i e; rw [e] at hq; exact h _ hq
  · rename_i o e
    rw [e] at hq
    obtain ⟨v, h1, h2, h3⟩ := hq
    exact ⟨v, h1, h2, h _ h3⟩
theorem anyA_eqv : ∀ (fuel : Nat) {listed : Array Bool} {tm tm' : Tm}, Eqv tm tm' → anyA P cx ob nx ops md tmF fuel listed tm → anyA P cx ob nx ops md tmF fuel listed tm'
  | 0, _, _, _, he, h => ⟨h.1, fun i => (he i).symm.trans (h.2 i)⟩
  | fuel + 1, listed, tm, tm', he, h => by
    refine ⟨fun h0 i => (he i).symm.trans (h.1 h0 i), fun i hi => ?_⟩
    have := h.2 i hi
    unfold qA at *
    split
    · rename_i e; rw [e] at this; exact anyA_eqv fuel he this
    · rename_i o e
      rw [e] at this
      obtain ⟨v, h1, h2, h3⟩ := this
      exact ⟨v, h1.congr (fun t _ => he t), h2, anyA_eqv fuel (he.put _ _) h3⟩

theorem qA_put {j : Nat} {oi oj : Oper} {v : A} (hj : ops[j]? = some oj) (hap : oi.apart ops oj = true) {K : Tm → Prop} (hK : ∀ tm tm', Eqv tm tm' → K tm → K tm') {tm : Tm} (hy : Does P cx ob nx ops oi tm v)
    (h : qA P cx ob nx ops j K (putT oi.dst v tm)) : qA P cx ob nx ops j (fun tm' => Does P cx ob nx ops oi tm' v ∧ K (putT oi.dst v tm')) tm := by
  obtain ⟨h1, h2, h3⟩ := Oper.apart_spec hap
  unfold qA at *
  rw [hj] at h ⊢
  obtain ⟨u, g1, g2, g3⟩ := h
  refine ⟨u, g1.congr (fun t ht => get_putT_ne (fun e => h1 t e ht)), g2, hy.congr (fun t ht => (get_putT_ne (fun e => h3 t e ht)).symm), hK _ _ (Eqv.comm fun i e e' => h2 i e' e) g3⟩

theorem anyA_first {i : Nat} {oi : Oper} {v : A} (hi : ops[i]? = some oi) (hd : ∀ d, oi.dst = some d → d < cx.N) : ∀ (fuel : Nat) (listed : Array Bool) (tm : Tm),
    (∀ j oj, ops[j]? = some oj → j ≠ i → listed.getD j true = false → (∀ e ∈ oj.after, Region.binds md e = true → e.on ≠ i) → oi.apart ops oj = true) →
    i ∈ Region.ready md ops listed → Does P cx ob nx ops oi tm v → anyA P cx ob nx ops md tmF fuel (listed.setIfInBounds i true) (putT oi.dst v tm) → anyA P cx ob nx ops md tmF (fuel + 1) listed tm := by
  have own : ∀ {K : Tm → Prop} {tm : Tm}, Does P cx ob nx ops oi tm v → K (putT oi.dst v tm) → qA P cx ob nx ops i K tm := by
    intro K tm hy hk
    unfold qA
    rw [hi]
    exact ⟨v, hy, hd, hk⟩
  intro fuel
  induction fuel with
  | zero =>
    intro listed tm _ hr hy H
    refine ⟨fun h => (by rw [h] at hr; cases hr), fun j hj => ?_⟩
    by_cases hji : j = i
    · subst hji; exact own hy H
    · have := ready_mono hj hji
      rw [H.1] at this
      cases this
  | succ fuel ih =>
    intro listed tm hfree hr hy H
    refine ⟨fun h => (by rw [h] at hr; cases hr), fun j hj => ?_⟩
    by_cases hji : j = i
    · subst hji; exact own hy H
    · have h1 := H.2 j (ready_mono hj hji)
      obtain ⟨hjun, oj, hoj, hall⟩ := mem_ready.1 hj
      have hnot : ∀ e ∈ oj.after, Region.binds md e = true → e.on ≠ i := fun e he hb heq => by
        have h1 := hall e he hb
        have h0 := (mem_ready.1 hr).1
        rw [heq] at h1
        rcases Nat.lt_or_ge i listed.size with h' | h'
        · simp [h'] at h0 h1; rw [h0] at h1; cases h1
        · simp [Array.getElem?_eq_none h'] at h1
      have h2 := qA_put hoj (hfree j oj hoj hji hjun hnot) (fun tm tm' he hk => anyA_eqv fuel he hk) hy h1
      have hfree' : ∀ k ok, ops[k]? = some ok → k ≠ i → (listed.setIfInBounds j true).getD k true = false →
          (∀ e ∈ ok.after, Region.binds md e = true → e.on ≠ i) → oi.apart ops ok = true := fun k ok hk hki hun hno => by
        refine hfree k ok hk hki ?_ hno
        by_cases hjk : j = k
        · subst hjk; exact hjun
        · rw [getD_set_ne true hjk] at hun; exact hun
      refine qA_mono (fun tm' h3 => ih (listed.setIfInBounds j true) tm' hfree' (ready_mono hr (Ne.symm hji)) h3.1 ?_) h2
      rw [Array.setIfInBounds_comm _ _ hji]
      exact h3.2

theorem anyA_lex : ∀ (l : List Oper) (k : Nat) (listed : Array Bool) (tm : Tm), (∀ j : Nat, l[j]? = ops[k + j]?) → Region.lexFrom md ops l.length k listed = true → wpA P cx ob nx ops tmF l tm → anyA P cx ob nx ops md tmF l.length listed tm
  | [], _, _, _, _, hB, h => ⟨by simpa [Region.lexFrom] using hB, h⟩
  | o :: l, k, listed, tm, hl, hB, h => by
    have h0 : ops[k]? = some o := by simpa using (hl 0).symm
    simp only [List.length_cons, Region.lexFrom, Bool.and_eq_true] at hB
    obtain ⟨⟨hr, hf⟩, hB'⟩ := hB
    obtain ⟨v, hy, hd, hK⟩ := h
    exact anyA_first h0 hd l.length listed tm (Region.free_spec h0 hf) (by simpa using hr) hy
      (anyA_lex l (k + 1) _ _ (fun j => by have := hl (j + 1); simpa [Nat.add_assoc, Nat.add_comm 1 j] using this) hB' hK)

theorem StOk.putT' {tm : Tm} {ρ : Nat → Option Value} {a : Act} {w w' : World} (hs : StOk cx tm ob nx ρ a w) (hb : Below w.heap.size w w') {d : Option Nat} (hd : ∀ i, d = some i → i < cx.N) {v : A} {u : Value} (hr : v.rep (okOf cx ρ ob) ρ w' u) :
    StOk cx (putT d v tm) ob nx ρ (a.put d u) w' := by
  have hs' := hs.below hb
  cases d with
  | none => exact hs'
  | some d =>
    have hp : Ab.put cx.N (some d) v tm (fun tm' => tm' = (d, v) :: tm) := by
      unfold Ab.put
      simp only
      have : Nat.ble (d + 1) cx.N = true := Nat.ble_eq_true_of_le (hd d rfl)
      rw [this]
      trivial
    obtain ⟨tm', h1, h2⟩ := hs'.put hp hr
    subst h1
    exact h2
theorem anyA_any {Q : Exit → Act → World → Prop} (hQ : ∀ ρ a w, StOk cx tmF ob nx ρ a w → Q .normal a w) : ∀ (fuel : Nat) (listed : Array Bool) (tm : Tm) (ρ : Nat → Option Value) (a : Act) (w : World), anyA P cx ob nx ops md tmF fuel listed tm → StOk cx tm ob nx ρ a w →
    wpAny P md ops Q fuel listed a w := by
  have fin : ∀ {tm : Tm} {ρ : Nat → Option Value} {a : Act} {w : World}, Eqv tm tmF → StOk cx tm ob nx ρ a w → Q .normal a w := fun he hs => hQ _ _ _ (hs.act rfl rfl fun i => by rw [← he i]; exact hs.tms i)
  intro fuel
  induction fuel with
  | zero => intro listed tm ρ a w h hs; exact ⟨h.1, fin h.2 hs⟩
  | succ fuel ih =>
    intro listed tm ρ a w h hs
    refine ⟨fun h0 => fin (h.1 h0) hs, fun i hi => ?_⟩
    have := h.2 i hi
    unfold qA at this
    unfold wpOp
    split
    · rename_i e; rw [e] at this; exact ih _ _ ρ a w this hs
    · rename_i o e
      rw [e] at this
      obtain ⟨v, h1, h2, h3⟩ := this
      have h4 := h1 ρ a w (hs.act rfl rfl fun i => trivial) (fun t _ => hs.tms t) (wpAny P md ops Q fuel (listed.setIfInBounds i true)) Q (fun u w' hb hr => ih _ _ ρ _ w' h3 (hs.putT' hb h2 hr))
      split
      · rename_i hw; rw [if_pos hw] at h4; exact .inl h4
      · rename_i hw; rw [if_neg hw] at h4; exact h4

theorem looks_op {o : Oper} {tm : Tm} {ρ : Nat → Option Value} {a : Act} {w : World} (hl : ∀ t ∈ o.looksAt ops, (get tm t).rep (okOf cx ρ ob) ρ w (a.tmps.getD t undef)) : ∀ x ∈ o.op.operands.toList, (look tm x).rep (okOf cx ρ ob) ρ w (a.eval x) := by
  intro x hx
  cases x with
  | tmp t => exact hl t (by
      unfold Oper.looksAt
      exact List.mem_append_left _ (List.mem_filterMap.2 ⟨.tmp t, hx, rfl⟩))
  | const v => rfl
  | global g => rfl
  | func f => rfl

theorem does_of {o : Oper} {tm : Tm} {v : A} (hg : o.guard = none) (h : ∀ ρ a w, StOk cx [] ob nx ρ a w → (∀ x ∈ o.op.operands.toList, (look tm x).rep (okOf cx ρ ob) ρ w (a.eval x)) → ∀ (K : Act → World → Prop) (Q : Exit → Act → World → Prop),
    (∀ u w', Below w.heap.size w w' → v.rep (okOf cx ρ ob) ρ w' u → K (a.put o.dst u) w') → o.wp P a w K Q) : Does P cx ob nx ops o tm v := by
  intro ρ a w hs hl K Q hK
  rw [if_pos (by simp [Region.wanted, hg])]
  exact h ρ a w hs (looks_op hl) K Q hK
theorem yld_wp {o : Oper} {v : A} {ρ : Nat → Option Value} {a : Act} {w : World} (hs : StOk cx [] ob nx ρ a w) (hy : Yld P o a.eval (okOf cx ρ ob) ρ w v) {K : Act → World → Prop} {Q : Exit → Act → World → Prop}
    (hK : ∀ u w', Below w.heap.size w w' → v.rep (okOf cx ρ ob) ρ w' u → K (a.put o.dst u) w') : o.wp P a w K Q := by
  obtain ⟨u, w', h1, h2, h3⟩ := hy
  exact wp_value h1 (hK u w' h2 (rep_grow hs h2 h3))
theorem call_wp {o : Oper} {f : Operand} {args : Array Operand} {ts : Array TypeId} {g : FuncId} {caps : List A} {r : A} {lk : Operand → A} {ρ : Nat → Option Value} {a : Act} {w : World} (hs : StOk cx [] ob nx ρ a w) (hop : o.op = .call { callee := .value f, args := args, argTypes := ts })
    (hlk : ∀ x ∈ f :: args.toList, (lk x).rep (okOf cx ρ ob) ρ w (a.eval x)) (ht : tgt (lk f) = some (g, caps)) (hcl : closedAs (appA (mapL lk args.toList) caps) = true) (hc : ACall P g (appA (mapL lk args.toList) caps) r)
    {K : Act → World → Prop} {Q : Exit → Act → World → Prop} (hK : ∀ u w', Below w.heap.size w w' → r.rep (okOf cx ρ ob) ρ w' u → K (a.put o.dst u) w') : o.wp P a w K Q := by
  obtain ⟨cs, hf, hcs⟩ := tgt_rep ht (hlk f (by simp))
  obtain ⟨hfn, hcall⟩ := hc
  unfold Oper.wp
  rw [run_static hop hf hfn]
  have hargs := appA_rep (mapL_rep (w := w) (lk := lk) (xs := args.toList) (fun x hx => hlk x (by simp [hx]))) hcs
  refine (hcall (okOf cx ρ ob) w _ hs.globAt (closedAs_rep hcl hargs)).mono ?_
  rintro e w' ⟨u, rfl, hb, hr⟩
  exact hK u w' hb (rep_grow hs hb (A.names noNames_names hr))

theorem ops_call {o : Oper} {f : Operand} {args : Array Operand} {ts : Array TypeId} (hop : o.op = .call { callee := .value f, args := args, argTypes := ts }) : o.op.operands.toList = f :: args.toList := by
  rw [hop]
  simp [Op.operands, Call.operands]
theorem stepD_sound {te : List (TypeId × TyI)} (hte : TEok P te) {o : Oper} (hg : o.guard = none) {tm : Tm} {K : A → Prop} (h : stepD P te o tm ob K) : ∃ v, K v ∧ Does P cx ob nx ops o tm v := by
  have pv : (opv te ob (look tm) o.op).obl → Does P cx ob nx ops o tm (opv te ob (look tm) o.op).val := fun ho =>
    does_of hg fun ρ a w hs hl K Q hK => yld_wp hs (opv_sound hte ho hl hs.obs).1 hK
  unfold stepD at h
  split at h
  · rename_i f args ts hop
    unfold callK at h
    split at h
    · rename_i g caps ht
      obtain ⟨hcl, r, hc, hk⟩ := h
      exact ⟨r, hk, does_of hg fun ρ a w hs hl K Q hK => call_wp hs hop (by rw [← ops_call hop]; exact hl) ht hcl hc hK⟩
    · exact h.elim
  · split at h
    · rename_i v e
      rw [e] at pv
      exact ⟨v, h, pv trivial⟩
    · rename_i p v e
      rw [e] at pv
      exact ⟨v, h.2, pv h.1⟩
    · rename_i p v e
      rw [e] at pv
      exact ⟨v, h, pv trivial⟩
    · exact h.elim

theorem does_guard {o : Oper} {tm : Tm} {v : A} {q : Bool} (hw : ∀ ρ a w, StOk cx [] ob nx ρ a w → (∀ t ∈ o.looksAt ops, (get tm t).rep (okOf cx ρ ob) ρ w (a.tmps.getD t undef)) → Region.wanted o (yielded ops a.tmps) = q)
    (h : q = true → ∀ ρ a w, StOk cx [] ob nx ρ a w → (∀ x ∈ o.op.operands.toList, (look tm x).rep (okOf cx ρ ob) ρ w (a.eval x)) → ∀ (K : Act → World → Prop) (Q : Exit → Act → World → Prop),
      (∀ u w', Below w.heap.size w w' → v.rep (okOf cx ρ ob) ρ w' u → K (a.put o.dst u) w') → o.wp P a w K Q) : Does P cx ob nx ops o tm (.cond q v) := by
  intro ρ a w hs hl K Q hK
  rw [hw ρ a w hs hl]
  split
  · rename_i hq
    exact h hq ρ a w hs (looks_op hl) K Q fun u w' hb hr => hK u w' hb ⟨fun _ => hr, fun e => by rw [hq] at e; cases e⟩
  · rename_i hq
    exact hK undef w (Below.refl _ _) ⟨fun e => absurd e hq, fun _ => rfl⟩

theorem guardD {o : Oper} {tm : Tm} {j d : Nat} {want : Bool} (hg : o.guard = some (j, want)) (hd : dstAt ops.toList j = some d) (hlt : Nat.ble (d + 1) cx.N = true) {q : Bool}
    (hb : (∃ b, get tm d = .one (.lit (.bool b)) ∧ q = gq want b) ∨ ∃ p b, get tm d = .cond p (.one (.lit (.bool b))) ∧ q = (p && gq want b)) :
    ∀ ρ a w, StOk cx [] ob nx ρ a w → (∀ t ∈ o.looksAt ops, (get tm t).rep (okOf cx ρ ob) ρ w (a.tmps.getD t undef)) → Region.wanted o (yielded ops a.tmps) = q := by
  intro ρ a w hs hl
  obtain ⟨og, h1, h2⟩ := dstAt_eq hd
  have h1' : ops[j]? = some og := by simpa using h1
  have hmem : d ∈ o.looksAt ops := by
    unfold Oper.looksAt
    rw [hg]
    simp [h1', h2]
  have hr := hl d hmem
  have hlt' : d < a.tmps.size := by rw [hs.size]; exact Nat.lt_of_succ_le (Nat.le_of_ble_eq_true hlt)
  have hv : a.tmps[d]? = some (a.tmps.getD d undef) := by
    rw [Array.getD_eq_getD_getElem?, Array.getElem?_eq_getElem hlt']
    rfl
  unfold Region.wanted yielded
  rw [hg]
  simp only [h1', Option.bind_some, h2, hv]
  rcases hb with ⟨b, e1, e2⟩ | ⟨p, b, e1, e2⟩
  · rw [e1] at hr
    rw [show a.tmps.getD d undef = .bool b from hr, e2]
    cases want <;> cases b <;> rfl
  · rw [e1] at hr
    cases p with
    | true =>
      rw [show a.tmps.getD d undef = .bool b from hr.1 rfl, e2]
      cases want <;> cases b <;> rfl
    | false =>
      rw [hr.2 rfl, e2]
      rfl

theorem aopG_does {te : List (TypeId × TyI)} (hte : TEok P te) {o : Oper} {tm : Tm} {q : Bool} {K : Tm → Prop} (h : aopG P te cx.N o q tm ob K)
    (hw : ∀ ρ a w, StOk cx [] ob nx ρ a w → (∀ t ∈ o.looksAt ops, (get tm t).rep (okOf cx ρ ob) ρ w (a.tmps.getD t undef)) → Region.wanted o (yielded ops a.tmps) = q) :
    ∃ v, Does P cx ob nx ops o tm v ∧ put cx.N o.dst v tm K := by
  unfold aopG at h
  split at h
  · rename_i f args ts hop
    split at h
    · rename_i g caps ht
      obtain ⟨hcl, r, hc, hp⟩ := h
      refine ⟨_, does_guard hw fun hq ρ a w hs hl K Q hK => ?_, hp⟩
      obtain ⟨hwr, hc⟩ := hc hq
      rw [ops_call hop] at hl
      exact call_wp (lk := bareLk tm) hs hop (fun x hx => A.bare_rep (wereL_sound hwr x hx) (hl x hx)) ht hcl hc hK
    · exact h.elim
  · rename_i c x y hop
    have yes : ∀ {v : Vr}, v = vPick (bareLk tm c) (look tm x) (look tm y) → (q = true → v.obl ∧ wereL tm [c]) → Does P cx ob nx ops o tm (.cond q v.val) := by
      intro v hv ho
      subst hv
      refine does_guard hw fun hq ρ a w hs hl K Q hK => ?_
      have hops : o.op.operands.toList = [c, x, y] := by rw [hop]; simp [Op.operands]
      rw [hops] at hl
      have hpk := vPick_sound (P := P) (ho hq).1 (A.bare_rep (wereL_sound (ho hq).2 c (by simp)) (hl c (by simp))) (hl x (by simp)) (hl y (by simp))
      refine yld_wp hs (Yld.of (o := o) (ev := a.eval) ?_ hpk).1 hK
      unfold execOp
      simp only [hop, bind_assoc]
      congr 1
      funext p
      cases p <;> rfl
    split at h
    · rename_i v e
      exact ⟨_, yes (v := .ok v) e.symm (fun hq => ⟨trivial, h.1 hq⟩), h.2⟩
    · rename_i p v e
      exact ⟨_, yes (v := .need p v) e.symm (fun hq => ⟨(h.1 hq).2, (h.1 hq).1⟩), h.2⟩
    · exact h.elim
  · have yes : ∀ {v : Vr}, v = opv te ob (bareLk tm) o.op → (q = true → v.obl ∧ wereL tm o.op.operands.toList) → Does P cx ob nx ops o tm (.cond q v.val) := by
      intro v hv ho
      subst hv
      exact does_guard hw fun hq ρ a w hs hl K Q hK => yld_wp hs (opv_sound hte (ho hq).1 (fun x hx => A.bare_rep (wereL_sound (ho hq).2 x hx) (hl x hx)) hs.obs).1 hK
    split at h
    · rename_i v e
      exact ⟨_, yes (v := .ok v) e.symm (fun hq => ⟨trivial, h.1 hq⟩), h.2⟩
    · rename_i p v e
      exact ⟨_, yes (v := .need p v) e.symm (fun hq => ⟨(h.1 hq).2, (h.1 hq).1⟩), h.2⟩
    · rename_i p v e
      exact ⟨_, yes (v := .know p v) e.symm (fun hq => ⟨trivial, h.1 hq⟩), h.2⟩
    · exact h.elim

theorem awpD_sound {te : List (TypeId × TyI)} (hte : TEok P te) {K : Tm → Prop} : ∀ (l : List Oper) {tm : Tm}, awpD P te cx.N ops.toList l tm ob K → ∃ tmF, K tmF ∧ wpA P cx ob nx ops tmF l tm
  | [], tm, h => ⟨tm, h, fun _ => rfl⟩
  | o :: l, tm, h => by
    have step : ∀ {v : A}, Does P cx ob nx ops o tm v → put cx.N o.dst v tm (fun tm => awpD P te cx.N ops.toList l tm ob K) → ∃ tmF, K tmF ∧ wpA P cx ob nx ops tmF (o :: l) tm := by
      intro v hd hp
      obtain ⟨h1, h2⟩ := put_putT hp
      obtain ⟨tmF, h3, h4⟩ := awpD_sound hte l h1
      exact ⟨tmF, h3, v, hd, h2, h4⟩
    unfold awpD at h
    split at h
    · rename_i hg
      obtain ⟨v, hk, hd⟩ := stepD_sound (cx := cx) (nx := nx) (ops := ops) hte hg h
      exact step hd hk
    · rename_i j want hg
      split at h
      · rename_i d hd
        split at h
        · rename_i b hlt hb
          obtain ⟨v, h1, h2⟩ := aopG_does (nx := nx) (ops := ops) hte h (guardD hg hd hlt (.inl ⟨b, hb, rfl⟩))
          exact step h1 h2
        · rename_i p b hlt hb
          obtain ⟨v, h1, h2⟩ := aopG_does (nx := nx) (ops := ops) hte h (guardD hg hd hlt (.inr ⟨p, b, hb, rfl⟩))
          exact step h1 h2
        · exact h.elim
      · exact h.elim

/-- One walk, in the text's order, serves every order. -/
theorem region_draw {te : List (TypeId × TyI)} (hte : TEok P te) {id : Nat} (hm : P.follows .mixedOrders = true) (hB : Region.lexB .any ops = true) {K : Tm → Prop} {tm : Tm} (h : awpD P te cx.N ops.toList ops.toList tm ob K) {ρ : Nat → Option Value} {a : Act} {w : World} (hs : StOk cx tm ob nx ρ a w)
    {Q : Exit → Act → World → Prop} (hQ : ∀ tm ρ a w, K tm → StOk cx tm ob nx ρ a w → Q .normal a w) : (Code.region id ops true).wp P Q a w := by
  obtain ⟨tmF, h1, h2⟩ := awpD_sound (cx := cx) (nx := nx) (ops := ops) hte ops.toList h
  simp only [Region.lexB, Bool.and_eq_true] at hB
  have h3 := anyA_lex (md := .any) ops.toList 0 (Array.replicate ops.size false) tm (by simp) (by simpa using hB.2) h2
  rw [Array.length_toList] at h3
  have hs' : StOk cx tm ob nx ρ a { w with drawn := w.drawn + 1 } := hs.below ⟨rfl, rfl, rfl, Nat.le_refl _, fun _ _ => rfl⟩
  exact wp_region_any hm (anyA_any (fun ρ a w hs => hQ tmF ρ a w h1 hs) _ _ tm ρ a _ h3 hs')
end
end Ab
end Go.Proofs.YthlfbpmbkcoclaaDoor
