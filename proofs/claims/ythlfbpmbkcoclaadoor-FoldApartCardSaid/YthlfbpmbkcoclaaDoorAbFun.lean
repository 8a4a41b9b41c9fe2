/-
  A function, abstractly: its entry, and what it hands back. Over any program; no condition.
-/
import Derived.Test.YthlfbpmbkcoclaaDoorAbCode
import Derived.OwnWalk
namespace Go.Proofs.YthlfbpmbkcoclaaDoor
open Go.RowKit
namespace Ab

def argT : Nat → List A → Tm
  | _, [] => []
  | k, a :: r => (k, a) :: argT (k + 1) r

/-- What stands behind the call for a cell that it hands back. -/
def finC (te : List (TypeId × TyI)) (ob : Obs) : C → C
  | .vec id => match getO ob id with
    | some (.vec _ R xs) => .sl R xs
    | _ => .any
  | .own id 0 => match getO ob id with
    | some (.box T cs) => match find te T with
      | some i => match i.rd with
        | some ⟨_, R⟩ => match ofL R cs with
          | some (x, []) => .addr R x
          | _ => .any
        | none => .any
      | none => .any
    | _ => .any
  | .own _ (_ + 1) => .any
  | .vel _ _ _ => .any
  | .ifc t c => .ifc t (finC te ob c)
  | .clo f c => .clo f (finC te ob c)
  | .ref c => .ref (finC te ob c)
  | .nself _ _ => .any
  | .any => .any
  | .lit v => .lit v
  | .sl R xs => .sl R xs
  | .full R xs => .full R xs
  | .addr R x => .addr R x
def finL (te : List (TypeId × TyI)) (ob : Obs) : List C → List C
  | [] => []
  | c :: r => finC te ob c :: finL te ob r
def finA (te : List (TypeId × TyI)) (ob : Obs) : A → A
  | .one c => .one (finC te ob c)
  | .agg cs => match closedL cs with
    | true => .agg cs
    | false => .agg (finL te ob cs)
  | .tup _ => .one .any
  | .cond _ _ => .one .any
def cellsB : A → Bool × List C
  | .one c => (false, [c])
  | .agg cs => (true, cs)
  | _ => (false, [.any])
def retQ (te : List (TypeId × TyI)) (rs : List Nat) (r : A) : AQ := fun e tm ob _ => match e with
  | .ret => match rs with
    | [] => r = .tup []
    | [t] => finA te ob (get tm t) = r
    | [t, u] => .tup [cellsB (finA te ob (get tm t)), cellsB (finA te ob (get tm u))] = r
    | [t, u, v] => .tup [cellsB (finA te ob (get tm t)), cellsB (finA te ob (get tm u)), cellsB (finA te ob (get tm v))] = r
    | _ => False
  | .normal => match rs with
    | [] => r = .tup []
    | _ => False
  | _ => False
def resT : List ResultVar → List Nat
  | [] => []
  | .tmp t :: r => t :: resT r
  | .cell _ _ :: _ => []

section
variable {P : Program} {te : List (TypeId × TyI)} {cx : Cx} {tm : Tm} {ob : Obs} {nx : Nat} {ρ : Nat → Option Value} {a : Act} {w : World}

/-- What may be leaned on behind the call. -/
theorem fin_keeps (_hs : StOk cx tm ob nx ρ a w) : Keeps (okOf cx ρ ob) (grow cx.ok0 cx.w0) w w := fun _ hb _ => ⟨hb.1, rfl⟩
theorem own_grow (hs : StOk cx tm ob nx ρ a w) (h0 : cx.nx0 = 0) {id : Nat} {o : Ob} (hg : getO ob id = some o) {b : Nat} (hb : blk (ρ id) = some b) : grow cx.ok0 cx.w0 b := by
  rcases (hs.low _ (mem_getO hg) b hb).2 with h | ⟨h, _⟩
  · exact .inr h
  · rw [h0] at h; exact absurd h (Nat.not_lt_zero _)
theorem finC_rep (hs : StOk cx tm ob nx ρ a w) (h0 : cx.nx0 = 0) : ∀ {c : C} {v : Value}, c.rep (okOf cx ρ ob) ρ w v → (finC te ob c).rep (grow cx.ok0 cx.w0) noNames w v
  | .any, _, _ => trivial
  | .lit _, _, h => h
  | .sl R xs, v, h => C.kept (c := .sl R xs) (ρ := noNames) (fin_keeps hs) h
  | .full R xs, v, h => C.kept (c := .full R xs) (ρ := noNames) (fin_keeps hs) h
  | .addr R x, v, h => C.kept (c := .addr R x) (ρ := noNames) (fin_keeps hs) h
  | .own id 0, v, h => by
    unfold finC
    split
    · rename_i T cs hg
      split
      · split
        · rename_i R _
          split
          · rename_i x hx
            obtain ⟨b, h1, h2⟩ := h
            obtain ⟨b', vs, h3, h4, h5⟩ := hs.obs _ (mem_getO hg)
            rw [h1] at h3
            simp only [Option.some.injEq, Value.pointer.injEq, Addr.mk.injEq, and_true] at h3
            subst h3
            obtain ⟨us, r, e1, hus, hr⟩ := ofL_rep R hx h5
            have hr0 : r = [] := hr
            rw [hr0, List.append_nil] at e1
            subst e1
            have hlt : b < w.heap.size := (Array.getElem?_eq_some_iff.1 h4).1
            refine ⟨b, 0, vs, h2, own_grow hs h0 hg (by rw [h1]; rfl), hlt, ⟨R.len hus, fun j _ => ?_⟩, R.kept (fin_keeps hs) hus⟩
            simp only [World.cell?, h4, Option.isSome_none, Bool.false_eq_true, if_false, List.getElem?_toArray, Nat.zero_add]
          · trivial
        · trivial
      · trivial
    · trivial
  | .own _ (_ + 1), _, _ => trivial
  | .vec id, v, h => by
    unfold finC
    split
    · rename_i R xs hg
      obtain ⟨v', h1, h2⟩ : ∃ v, ρ id = some v ∧ VecOk (okOf cx ρ ob) w v _ _ _ := hs.obs _ (mem_getO hg)
      have h3 : ρ id = some v := h.1
      rw [h1] at h3
      obtain rfl := Option.some.inj h3
      exact vec_sl h2 (fun b hb => hb.1) (fun b hb => own_grow hs h0 hg (by rw [h1]; exact hb))
    · trivial
  | .vel _ _ _, _, _ => trivial
  | .ifc t c, v, h => by obtain ⟨u, hv, h⟩ := h; exact ⟨u, hv, finC_rep hs h0 h⟩
  | .clo f c, v, h => by obtain ⟨u, hv, h⟩ := h; exact ⟨u, hv, finC_rep hs h0 h⟩
  | .ref c, v, h => by
    obtain ⟨b, off, u, hv, hb, hlt, hc, hr⟩ := h
    exact ⟨b, off, u, hv, hb.1, hlt, hc, finC_rep hs h0 hr⟩
  | .nself _ _, _, _ => trivial
theorem finL_rep (hs : StOk cx tm ob nx ρ a w) (h0 : cx.nx0 = 0) : ∀ {cs : List C} {vs : List Value}, repL (okOf cx ρ ob) ρ w cs vs → repL (grow cx.ok0 cx.w0) noNames w (finL te ob cs) vs
  | [], _, h => h
  | _ :: _, _, h => by
    obtain ⟨v, r, e, h1, h2⟩ := h
    exact ⟨v, r, e, finC_rep hs h0 h1, finL_rep hs h0 h2⟩
theorem finA_rep (hs : StOk cx tm ob nx ρ a w) (h0 : cx.nx0 = 0) {x : A} {v : Value} (h : x.rep (okOf cx ρ ob) ρ w v) : (finA te ob x).rep (grow cx.ok0 cx.w0) noNames w v := by
  cases x with
  | one c => exact finC_rep hs h0 h
  | agg cs =>
    show (match closedL cs with | true => A.agg cs | false => A.agg (finL te ob cs)).rep _ _ _ v
    split
    · rename_i hc
      exact A.kept (a := .agg cs) (fin_keeps hs) (A.closed_rep (a := .agg cs) hc h)
    · obtain ⟨vs, e, h⟩ := h
      exact ⟨vs, e, finL_rep hs h0 h⟩
  | tup _ => trivial
  | cond _ _ => trivial
theorem cellsB_rep {ok : Nat → Prop} {x : A} {v : Value} (h : x.rep ok ρ w v) : repV ok ρ w (cellsB x).1 (cellsB x).2 v := by
  cases x with
  | one c => exact ⟨v, [], rfl, h, rfl⟩
  | agg cs => exact h
  | tup _ => exact ⟨v, [], rfl, trivial, rfl⟩
  | cond _ _ => exact ⟨v, [], rfl, trivial, rfl⟩

theorem argT_get {ok : Nat → Prop} : ∀ {as : List A} {vs : List Value} (k i : Nat), RepAs ok ρ w as vs → (get (argT k as) i).rep ok ρ w (if i < k then undef else vs.getD (i - k) undef) ∨ get (argT k as) i = .one .any
  | [], _, _, _, _ => .inr rfl
  | x :: as, vs, k, i, h => by
    obtain ⟨v, r, rfl, h1, h2⟩ := h
    rw [argT, get_cons]
    split
    · rename_i e
      have e : k = i := Nat.eq_of_beq_eq_true e
      subst e
      left
      simpa using h1
    · rename_i e
      have e : k ≠ i := fun e' => by subst e'; simp at e
      rcases argT_get (k + 1) i h2 with h3 | h3
      · left
        by_cases hlt : i < k
        · rw [if_pos (by omega)] at h3
          rw [if_pos hlt]; exact h3
        · rw [if_neg (by omega)] at h3
          rw [if_neg hlt]
          have : i - k = (i - (k + 1)) + 1 := by omega
          rw [this]
          simpa using h3
      · exact .inr h3
theorem RepAs.len {ok : Nat → Prop} : ∀ {as : List A} {vs : List Value}, RepAs ok ρ w as vs → vs.length = as.length
  | [], _, h => by rw [show _ = _ from h]; rfl
  | _ :: _, _, h => by obtain ⟨v, r, rfl, _, h2⟩ := h; simp [RepAs.len h2]

/-- A function keeps a contract, if its text does. -/
theorem acall_of {f : FuncId} {fn : Func} {c : Code} {args : List A} {rs : List Nat} {r : A} (hf : P.funcs[f]? = some fn) (hb : fn.body = some c) (hname : (fn.name == "runtime.NumGoroutine") = false) (hr : fn.results = (rs.map ResultVar.tmp).toArray) (hte : TEok P te)
    (hn : Nat.ble args.length fn.ntmps = true) (h : ACode P te fn.ntmps 0 c (argT 0 args) [] 0 (retQ te rs r)) : ACall P f args r := by
  refine ⟨⟨fn, hf, by rw [hb]; rfl, hname⟩, fun ok w vs hgl hvs => calls_of_wp hf hb ?_⟩
  let cx : Cx := ⟨ok, noNames, w, fn.ntmps, 0⟩
  have hl := RepAs.len hvs
  have hn := Nat.le_of_ble_eq_true hn
  have hk : Keeps ok (okOf cx noNames []) w w := fun b hb _ => ⟨⟨.inl hb, fun p hp => by cases hp⟩, rfl⟩
  have hs : StOk cx (argT 0 args) [] 0 noNames { tmps := vs.toArray ++ Array.replicate (fn.ntmps - vs.toArray.size) undef, defers := [] } w := by
    refine ⟨?_, rfl, fun i => ?_, fun p hp => by (cases hp), by simp, fun p hp => by (cases hp), fun _ _ => rfl, Nat.le_refl _, fun p hp => by (cases hp), fun p hp => by (cases hp), ⟨rfl, rfl, rfl, Nat.le_refl _, fun _ _ _ => rfl⟩, fun _ _ h _ => absurd h (Nat.not_lt_zero _), fun _ h => absurd h (Nat.not_lt_zero _), hgl⟩
    · show (vs.toArray ++ Array.replicate (fn.ntmps - vs.toArray.size) undef).size = fn.ntmps
      simp
      omega
    · rcases argT_get 0 i hvs with h1 | h1
      · have hcell : (vs.toArray ++ Array.replicate (fn.ntmps - vs.toArray.size) undef).getD i undef = if i < 0 then undef else vs.getD (i - 0) undef := by
          rw [if_neg (Nat.not_lt_zero _), Nat.sub_zero, Array.getD_eq_getD_getElem?, Array.getElem?_append]
          split
          · simp [List.getD]
          · rename_i hge
            rw [Array.getElem?_replicate]
            simp only [List.size_toArray] at hge ⊢
            rw [List.getD, List.getElem?_eq_none (by omega)]
            split <;> rfl
        rw [hcell]
        exact A.kept hk h1
      · rw [h1]; trivial
  unfold ACode at h
  refine Code.wp_mono ?_ (h hte cx rfl rfl noNames _ w hs)
  rintro e a' w' ⟨tm', ob', nx', ρ', hq, hs'⟩
  have hbel : Below w.heap.size w w' := ⟨hs'.keep.os, hs'.keep.tape, hs'.keep.output, hs'.keep.size, fun b hb => hs'.keep.block b hb (fun ⟨_, h, _⟩ => absurd h (Nat.not_lt_zero _))⟩
  have fin : ∀ t, (finA te ob' (get tm' t)).rep (grow ok w) noNames w' (a'.tmps.getD t undef) := fun t => finA_rep hs' rfl (hs'.tms t)
  cases e with
  | ret =>
    refine ⟨hs'.defers, ?_⟩
    simp only [retQ] at hq
    split at hq
    · subst hq
      exact ⟨_, results_none hr _ _ _, _, rfl, hbel, [], rfl, rfl⟩
    · rename_i t
      subst hq
      exact ⟨_, results_tmp hr _ _ _, _, rfl, hbel, fin t⟩
    · rename_i t u
      subst hq
      exact ⟨_, results_tmp2 hr _ _ _, _, rfl, hbel, [_, _], rfl, _, _, rfl, cellsB_rep (fin t), _, _, rfl, cellsB_rep (fin u), rfl⟩
    · rename_i t u v
      subst hq
      exact ⟨_, results_tmp3 hr _ _ _, _, rfl, hbel, [_, _, _], rfl, _, _, rfl, cellsB_rep (fin t), _, _, rfl, cellsB_rep (fin u), _, _, rfl, cellsB_rep (fin v), rfl⟩
    · exact hq.elim
  | normal =>
    refine ⟨hs'.defers, ?_⟩
    simp only [retQ] at hq
    split at hq
    · subst hq
      exact ⟨_, results_none hr _ _ _, _, rfl, hbel, [], rfl, rfl⟩
    · exact hq.elim
  | exit i => exact (show False from hq).elim
  | goto l => exact (show False from hq).elim
  | panic ch => exact (show False from hq).elim
  | outgrown => exact (show False from hq).elim
end
end Ab
end Go.Proofs.YthlfbpmbkcoclaaDoor
