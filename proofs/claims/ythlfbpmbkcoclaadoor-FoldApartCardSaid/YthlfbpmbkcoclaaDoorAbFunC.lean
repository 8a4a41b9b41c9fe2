/-
  A function that hands back what stands in a variable: its entry, and what it hands back. Over any program; no condition.
-/
import Derived.Test.YthlfbpmbkcoclaaDoorAbFun
import Derived.Laws.ResultCell
namespace Go.Proofs.YthlfbpmbkcoclaaDoor
open Go.RowKit
namespace Ab

def cellV (te : List (TypeId × TyI)) (ob : Obs) (ty : TypeId) (x : A) : Option A := match x with
  | .one (.own id off) => match find te ty, getO ob id with
    | some i, some (.box _ cs) => match ldBox i off cs with
      | .ok v => some v
      | _ => none
    | _, _ => none
  | _ => none
def retQC (te : List (TypeId × TyI)) (rs : List ResultVar) (r : A) : AQ := fun e tm ob _ => match e with
  | .ret => match rs with
    | [.cell t ty] => match cellV te ob ty (get tm t) with
      | some v => finA te ob v = r
      | none => False
    | [.cell t ty, .tmp u] => match cellV te ob ty (get tm t) with
      | some v => .tup [cellsB (finA te ob v), cellsB (finA te ob (get tm u))] = r
      | none => False
    | [.cell t ty, .cell u uy] => match cellV te ob ty (get tm t), cellV te ob uy (get tm u) with
      | some v, some x => .tup [cellsB (finA te ob v), cellsB (finA te ob x)] = r
      | _, _ => False
    | _ => False
  | _ => False
theorem results_cell {fn : Func} {p : Tmp} {ty : TypeId} (h : fn.results = #[.cell p ty]) (tmps : Array Value) (P : Program) (w : World) :
    (results fn tmps).run P w = ((asAddr (tmps.getD p undef)).run P w).andThen fun a w₁ => (loadVar ty a).run P w₁ := by
  simp only [results, h]
  simp [Sem.run_bind, Result.andThen]
theorem results_cell2 {fn : Func} {p q : Tmp} {ty uy : TypeId} (h : fn.results = #[.cell p ty, .cell q uy]) (tmps : Array Value) (P : Program) (w : World) :
    (results fn tmps).run P w = ((asAddr (tmps.getD p undef)).run P w).andThen fun a w₁ => ((loadVar ty a).run P w₁).andThen fun v w₂ => ((asAddr (tmps.getD q undef)).run P w₂).andThen fun b w₃ => ((loadVar uy b).run P w₃).andThen fun u w₄ => .ok (.tuple #[v, u]) w₄ := by
  simp only [results, h]
  simp [Sem.run_bind, Result.andThen]

section
variable {P : Program} {te : List (TypeId × TyI)} {cx : Cx} {tm : Tm} {ob : Obs} {nx : Nat} {ρ : Nat → Option Value} {a : Act} {w : World}
theorem box_load {i : TyI} {t : TypeId} {b off : Nat} {T : TypeId} {vs : List Value} {cs : List C} (hok : TyOk P t i) (hb : w.heap[b]? = some (.cells (vs.toArray : Array Value) T (0, 0))) (hcs : repL (okOf cx ρ ob) ρ w cs vs) (h : (ldBox i off cs).obl) :
    ∃ u, (loadVar t ⟨b, off, none⟩).run P w = .ok u w ∧ (ldBox i off cs).val.rep (okOf cx ρ ob) ρ w u := by
  have hlen := repL.len hcs
  unfold ldBox at h ⊢
  split at h
  · rename_i hle
    have hle := Nat.le_of_ble_eq_true hle
    rw [lenC_eq, ← hlen] at hle
    have hc := cells_box hb off i.size hle
    have hrun := run_loadVar hok hc
    cases hag : i.k.agg <;> simp only [hag] at h hrun
    · have h1 := hok.size1 hag
      obtain ⟨v, hv, hv'⟩ := repL_nth off (by omega) hcs
      obtain ⟨ho, hf⟩ := okC_obl h
      refine ⟨v, ?_, ?_⟩
      · rw [hrun, h1, nth_drop vs off v hv]
        rfl
      · rw [ho]; exact hv'
    · split at h
      · rename_i hsz
        have hsz := Nat.eq_of_beq_eq_true hsz
        rw [lenC_eq] at hsz
        have h0 : off = 0 := by omega
        subst h0
        refine ⟨_, hrun, vs, ?_, hcs⟩
        simp only [List.drop_zero, if_true]
        rw [List.take_of_length_le (by omega)]
      · refine ⟨_, hrun, _, rfl, ?_⟩
        rw [takeC_eq, dropC_eq]
        exact repL_take _ (repL_drop _ hcs)
  · exact h.elim
theorem cell_load (hte : TEok P te) {ty : TypeId} {t : Nat} {v : A} (hs : StOk cx tm ob nx ρ a w) (h : cellV te ob ty (get tm t) = some v) :
    ∃ ad u, (asAddr (a.tmps.getD t undef)).run P w = .ok ad w ∧ (loadVar ty ad).run P w = .ok u w ∧ v.rep (okOf cx ρ ob) ρ w u := by
  have hr := hs.tms t
  generalize get tm t = x at h hr
  unfold cellV at h
  split at h
  · rename_i id off
    obtain ⟨b, hρ, hv⟩ := hr
    split at h
    · rename_i i T cs hi hg
      obtain ⟨b', vs, hρ', hb, hcs⟩ := getO_is hs.obs hg
      rw [hρ] at hρ'
      simp only [Option.some.injEq, Value.pointer.injEq, Addr.mk.injEq, and_true] at hρ'
      subst hρ'
      split at h
      · rename_i y e
        cases h
        obtain ⟨u, h1, h2⟩ := box_load (t := ty) (off := off) (find_ok hte hi) hb hcs (by rw [e]; trivial)
        rw [e] at h2
        exact ⟨_, u, by rw [hv]; rfl, h1, h2⟩
      · cases h
    · cases h
  · cases h

/-- A function keeps a contract, if its text does. -/
theorem acall_ofc {f : FuncId} {fn : Func} {c : Code} {args : List A} {rs : List ResultVar} {r : A} (hf : P.funcs[f]? = some fn) (hb : fn.body = some c) (hname : (fn.name == "runtime.NumGoroutine") = false) (hr : fn.results = rs.toArray) (hte : TEok P te)
    (hn : Nat.ble args.length fn.ntmps = true) (h : ACode P te fn.ntmps 0 c (argT 0 args) [] 0 (retQC te rs r)) : ACall P f args r := by
  refine ⟨⟨fn, hf, by rw [hb]; rfl, hname⟩, fun ok w vs hgl hvs => calls_of_wp hf hb ?_⟩
  let cx : Cx := ⟨ok, noNames, w, fn.ntmps, 0⟩
  have hl := RepAs.len hvs
  have hn := Nat.le_of_ble_eq_true hn
  have hk : Keeps ok (okOf cx noNames []) w w := fun b hb _ => ⟨⟨.inl hb, fun p hp => by cases hp⟩, rfl⟩
  have hs : StOk cx (argT 0 args) [] 0 noNames { tmps := vs.toArray ++ Array.replicate (fn.ntmps - vs.toArray.size) undef, defers := [] } w := by
    refine ⟨?_, rfl, fun i => ?_, fun p hp => by (cases hp), by simp, fun p hp => by (cases hp), fun _ _ => rfl, Nat.le_refl _, fun p hp => by (cases hp), fun p hp => by (cases hp), ⟨rfl, rfl, rfl, Nat.le_refl _, fun _ _ _ => rfl⟩, fun _ _ h _ => absurd h (Nat.not_lt_zero _), fun _ h => absurd h (Nat.not_lt_zero _), hgl⟩
    · show (vs.toArray ++ Array.replicate (fn.ntmps - vs.toArray.size) undef).size = fn.ntmps
      simp
      omega
    · rcases argT_get 0 i hvs with h1 | h1
      · have hcell : (vs.toArray ++ Array.replicate (fn.ntmps - vs.toArray.size) undef).getD i undef = if i < 0 then undef else vs.getD (i - 0) undef := by
          rw [if_neg (Nat.not_lt_zero _), Nat.sub_zero, Array.getD_eq_getD_getElem?, Array.getElem?_append]
          split
          · simp [List.getD]
          · rename_i hge
            rw [Array.getElem?_replicate]
            simp only [List.size_toArray] at hge ⊢
            rw [List.getD, List.getElem?_eq_none (by omega)]
            split <;> rfl
        rw [hcell]
        exact A.kept hk h1
      · rw [h1]; trivial
  unfold ACode at h
  refine Code.wp_mono ?_ (h hte cx rfl rfl noNames _ w hs)
  rintro e a' w' ⟨tm', ob', nx', ρ', hq, hs'⟩
  have hbel : Below w.heap.size w w' := ⟨hs'.keep.os, hs'.keep.tape, hs'.keep.output, hs'.keep.size, fun b hb => hs'.keep.block b hb (fun ⟨_, h, _⟩ => absurd h (Nat.not_lt_zero _))⟩
  have fin : ∀ t, (finA te ob' (get tm' t)).rep (grow ok w) noNames w' (a'.tmps.getD t undef) := fun t => finA_rep hs' rfl (hs'.tms t)
  cases e with
  | ret =>
    refine ⟨hs'.defers, ?_⟩
    simp only [retQC] at hq
    split at hq
    · rename_i t ty
      split at hq
      · rename_i v hv
        obtain ⟨ad, u, h1, h2, h3⟩ := cell_load hte hs' hv
        subst hq
        refine ⟨u, ?_, u, rfl, hbel, finA_rep hs' rfl h3⟩
        rw [results_cell hr, h1]
        exact h2
      · exact hq.elim
    · rename_i t ty u
      split at hq
      · rename_i v hv
        obtain ⟨ad, x, h1, h2, h3⟩ := cell_load hte hs' hv
        subst hq
        refine ⟨.tuple #[x, a'.tmps.getD u undef], ?_, _, rfl, hbel, [_, _], rfl, _, _, rfl, cellsB_rep (finA_rep hs' rfl h3), _, _, rfl, cellsB_rep (fin u), rfl⟩
        rw [results_cell_tmp hr]
        simp only [Result.andThen, h1, h2]
      · exact hq.elim
    · rename_i t ty u uy
      split at hq
      · rename_i v x hv hx
        obtain ⟨ad, y, h1, h2, h3⟩ := cell_load hte hs' hv
        obtain ⟨ad2, z, g1, g2, g3⟩ := cell_load hte hs' hx
        subst hq
        refine ⟨.tuple #[y, z], ?_, _, rfl, hbel, [_, _], rfl, _, _, rfl, cellsB_rep (finA_rep hs' rfl h3), _, _, rfl, cellsB_rep (finA_rep hs' rfl g3), rfl⟩
        rw [results_cell2 hr]
        simp only [Result.andThen, h1, h2, g1, g2]
      · exact hq.elim
    · exact hq.elim
  | normal => exact (show False from hq).elim
  | exit i => exact (show False from hq).elim
  | goto l => exact (show False from hq).elim
  | panic ch => exact (show False from hq).elim
  | outgrown => exact (show False from hq).elim
end
end Ab
end Go.Proofs.YthlfbpmbkcoclaaDoor
