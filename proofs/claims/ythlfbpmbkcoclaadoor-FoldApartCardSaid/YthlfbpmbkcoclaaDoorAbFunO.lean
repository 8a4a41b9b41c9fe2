/-
  A function to which variables and slices are lent: its entry, and what it hands back. Over any program; no condition.
-/
import Derived.Test.YthlfbpmbkcoclaaDoorAbFun
namespace Go.Proofs.YthlfbpmbkcoclaaDoor
open Go.RowKit
namespace Ab

def keepT : List Nat → Tm → Tm
  | [], _ => []
  | t :: r, tm => (t, get tm t) :: keepT r tm
def resOf (rs : List Nat) (tm : Tm) : A := match rs with
  | [] => .tup []
  | [t] => get tm t
  | t :: r => .tup (cellsB (get tm t) :: more r tm)
where more : List Nat → Tm → List (Bool × List C)
  | [], _ => []
  | t :: r, tm => cellsB (get tm t) :: more r tm
def retOK (rs : List Nat) (r : A) (m : Nat) (ob' : Obs) (m' : Nat) (tm : Tm) (ob : Obs) (nx : Nat) : Prop :=
  resOf rs tm = r ∧ leO ob ob' ∧ (match bdTm m' (keepT rs tm), bdOb m' ob', ndOb ob', Nat.ble m' nx, Nat.ble m m' with | true, true, true, true, true => true | _, _, _, _, _ => false) = true
def retO (rs : List Nat) (r : A) (m : Nat) (ob' : Obs) (m' : Nat) : AQ := fun e tm ob nx => match e with
  | .ret => retOK rs r m ob' m' tm ob nx
  | .normal => match rs with
    | [] => retOK rs r m ob' m' tm ob nx
    | _ => False
  | _ => False

section
variable {P : Program} {te : List (TypeId × TyI)} {cx : Cx} {tm : Tm} {ob : Obs} {nx : Nat} {ρ : Nat → Option Value} {a : Act} {w : World}
theorem keepT_le : ∀ {rs : List Nat}, leT tm (keepT rs tm)
  | [] => trivial
  | [_] => rfl
  | _ :: t :: r => ⟨rfl, keepT_le (rs := t :: r)⟩
theorem keepT_get : ∀ {rs : List Nat} {t : Nat}, t ∈ rs → get (keepT rs tm) t = get tm t
  | [], _, h => by cases h
  | s :: r, t, h => by
    rw [keepT, get_cons]
    split
    · rename_i e
      rw [show s = t from Nat.eq_of_beq_eq_true e]
    · rename_i e
      rcases List.mem_cons.1 h with h | h
      · subst h; simp at e
      · exact keepT_get h
theorem StOk.anyN (h : StOk cx tm ob nx ρ a w) {N : Nat} {tm' : Tm} {a' : Act} (h1 : a'.tmps.size = N) (h2 : a'.defers = []) (h3 : ∀ i, (get tm' i).rep (okOf cx ρ ob) ρ w (a'.tmps.getD i undef)) :
    StOk { cx with N := N } tm' ob nx ρ a' w :=
  ⟨h1, h2, h3, h.obs, h.nd, h.fresh, h.names, h.nx0, h.sep, h.low, ⟨h.keep.os, h.keep.tape, h.keep.output, h.keep.size, h.keep.block⟩, h.disj, h.pin, h.glob⟩

/-- A function keeps such a contract, if its text does. -/
theorem acallo_of {f : FuncId} {fn : Func} {c : Code} {args : List A} {rs : List Nat} {r : A} {m : Nat} {ob' : Obs} {m' : Nat} (hf : P.funcs[f]? = some fn) (hb : fn.body = some c) (hname : (fn.name == "runtime.NumGoroutine") = false)
    (hr : fn.results = (rs.map ResultVar.tmp).toArray) (hte : TEok P te) (hl : rs.length ≤ 3) (hn : Nat.ble args.length fn.ntmps = true) (h : ACode P te fn.ntmps m c (argT 0 args) ob m (retO rs r m ob' m')) : ACallO P f args ob m r ob' m' := by
  refine ⟨⟨fn, hf, by rw [hb]; rfl, hname⟩, fun cx ρ w vs hN hnx hw hs hvs => calls_of_wp hf hb ?_⟩
  have hlen := RepAs.len hvs
  have hn := Nat.le_of_ble_eq_true hn
  let a0 : Act := { tmps := vs.toArray ++ Array.replicate (fn.ntmps - vs.toArray.size) undef, defers := [] }
  have hs0 : StOk { cx with N := fn.ntmps } (argT 0 args) ob m ρ a0 w := by
    refine hs.anyN ?_ rfl fun i => ?_
    · show (vs.toArray ++ Array.replicate (fn.ntmps - vs.toArray.size) undef).size = fn.ntmps
      simp
      omega
    · rcases argT_get 0 i hvs with h1 | h1
      · have hcell : (vs.toArray ++ Array.replicate (fn.ntmps - vs.toArray.size) undef).getD i undef = if i < 0 then undef else vs.getD (i - 0) undef := by
          rw [if_neg (Nat.not_lt_zero _), Nat.sub_zero, Array.getD_eq_getD_getElem?, Array.getElem?_append]
          split
          · simp [List.getD]
          · rename_i hge
            rw [Array.getElem?_replicate]
            simp only [List.size_toArray] at hge ⊢
            rw [List.getD, List.getElem?_eq_none (by omega)]
            split <;> rfl
        show (get (argT 0 args) i).rep _ _ _ ((vs.toArray ++ Array.replicate (fn.ntmps - vs.toArray.size) undef).getD i undef)
        rw [hcell]
        exact h1
      · rw [h1]; trivial
  unfold ACode at h
  refine Code.wp_mono ?_ (h hte { cx with N := fn.ntmps } rfl hnx ρ a0 w hs0)
  rintro e a' w' ⟨tm', ob1, nx', ρ', hq, hs'⟩
  have fin : retOK rs r m ob' m' tm' ob1 nx' → ∃ u ρ2, (results fn a'.tmps).run P w' = .ok u w' ∧ StOk cx [] ob' m' ρ2 ⟨#[], []⟩ w' ∧ r.rep (okOf cx ρ2 ob') ρ2 w' u := by
    rintro ⟨h1, h2, h3⟩
    obtain ⟨ρ2, hs2⟩ := (le_of (nx0 := m) keepT_le h2 h3).st { cx with N := fn.ntmps } hnx ρ' a' w' hs'
    have hs3 : StOk cx [] ob' m' ρ2 ⟨#[], []⟩ w' := by
      have := hs2.anyN (N := cx.N) (tm' := []) (a' := ⟨#[], []⟩) (by rw [hN]; rfl) rfl (fun _ => trivial)
      exact this
    have hrep : ∀ t ∈ rs, (get tm' t).rep (okOf cx ρ2 ob') ρ2 w' (a'.tmps.getD t undef) := fun t ht => by
      have := hs2.tms t
      rw [keepT_get ht] at this
      exact this
    subst h1
    match rs, hl, hr, hrep with
    | [], _, hr, _ => exact ⟨_, ρ2, results_none hr _ _ _, hs3, [], rfl, rfl⟩
    | [t], _, hr, hrep => exact ⟨_, ρ2, results_tmp hr _ _ _, hs3, hrep t (by simp)⟩
    | [t, u], _, hr, hrep => exact ⟨_, ρ2, results_tmp2 hr _ _ _, hs3, [_, _], rfl, _, _, rfl, cellsB_rep (hrep t (by simp)), _, _, rfl, cellsB_rep (hrep u (by simp)), rfl⟩
    | [t, u, v], _, hr, hrep => exact ⟨_, ρ2, results_tmp3 hr _ _ _, hs3, [_, _, _], rfl, _, _, rfl, cellsB_rep (hrep t (by simp)), _, _, rfl, cellsB_rep (hrep u (by simp)), _, _, rfl, cellsB_rep (hrep v (by simp)), rfl⟩
    | _ :: _ :: _ :: _ :: _, hl, _, _ => simp at hl
  cases e with
  | ret =>
    obtain ⟨u, ρ2, h1, h2, h3⟩ := fin hq
    exact ⟨hs'.defers, u, h1, u, ρ2, rfl, h2, h3⟩
  | normal =>
    cases rs with
    | nil =>
      obtain ⟨u, ρ2, h1, h2, h3⟩ := fin hq
      exact ⟨hs'.defers, u, h1, u, ρ2, rfl, h2, h3⟩
    | cons t r' => exact (show False from hq).elim
  | exit i => exact (show False from hq).elim
  | goto l => exact (show False from hq).elim
  | panic ch => exact (show False from hq).elim
  | outgrown => exact (show False from hq).elim
end
end Ab
end Go.Proofs.YthlfbpmbkcoclaaDoor
