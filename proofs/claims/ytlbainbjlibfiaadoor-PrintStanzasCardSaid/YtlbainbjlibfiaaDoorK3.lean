/-
  The texts of this proof, joined: abstract values, the library, the functions of the program and what they compute (part 3). No condition.
-/
import Derived.Laws.ResultCell
import Derived.Lib.LazyBuf
import Derived.ProofKit
import Derived.Below
import Derived.ChangeSame
import Derived.OpenShut
import Derived.Carry
import Derived.ChangeArms
import Derived.Deep.Slices
import Derived.WideShapes
import Derived.Handed
import Derived.SizedLaws
import Derived.Test.YtlbainbjlibfiaaDoorK1
import Derived.Test.YtlbainbjlibfiaaDoorK2
namespace Go.Proofs.YtlbainbjlibfiaaDoor
open Go.RowKit
namespace Ab
def cellV (te : List (TypeId × TyI)) (ob : Obs) (ty : TypeId) (x : A) : Option A := match x with
  | .one (.own id off) => match find te ty, getO ob id with
    | some i, some (.box _ cs) => match ldBox i off cs with
      | .ok v => some v
      | _ => none
    | _, _ => none
  | _ => none
def retQC (te : List (TypeId × TyI)) (rs : List ResultVar) (r : A) : AQ := fun e tm ob _ => match e with
  | .ret => match rs with
    | [.cell t ty] => match cellV te ob ty (get tm t) with
      | some v => finA te ob v = r
      | none => False
    | [.cell t ty, .tmp u] => match cellV te ob ty (get tm t) with
      | some v => .tup [cellsB (finA te ob v), cellsB (finA te ob (get tm u))] = r
      | none => False
    | [.cell t ty, .cell u uy] => match cellV te ob ty (get tm t), cellV te ob uy (get tm u) with
      | some v, some x => .tup [cellsB (finA te ob v), cellsB (finA te ob x)] = r
      | _, _ => False
    | [.cell t ty, .tmp u, .tmp x] => match cellV te ob ty (get tm t) with
      | some v => .tup [cellsB (finA te ob v), cellsB (finA te ob (get tm u)), cellsB (finA te ob (get tm x))] = r
      | none => False
    | [.cell t ty, .tmp u, .tmp x, .tmp y] => match cellV te ob ty (get tm t) with
      | some v => .tup [cellsB (finA te ob v), cellsB (finA te ob (get tm u)), cellsB (finA te ob (get tm x)), cellsB (finA te ob (get tm y))] = r
      | none => False
    | _ => False
  | _ => False
theorem results_cell_3 {fn : Func} {p q r : Tmp} {ty : TypeId} (h : fn.results = #[.cell p ty, .tmp q, .tmp r]) (tmps : Array Value) (P : Program) (w : World) :
    (results fn tmps).run P w = ((asAddr (tmps.getD p undef)).run P w).andThen fun a w₁ => ((loadVar ty a).run P w₁).andThen fun v w₂ => .ok (.tuple #[v, tmps.getD q undef, tmps.getD r undef]) w₂ := by
  simp only [results, h]
  simp [Sem.run_bind, Result.andThen]
theorem results_cell_4 {fn : Func} {p q r s : Tmp} {ty : TypeId} (h : fn.results = #[.cell p ty, .tmp q, .tmp r, .tmp s]) (tmps : Array Value) (P : Program) (w : World) :
    (results fn tmps).run P w = ((asAddr (tmps.getD p undef)).run P w).andThen fun a w₁ => ((loadVar ty a).run P w₁).andThen fun v w₂ => .ok (.tuple #[v, tmps.getD q undef, tmps.getD r undef, tmps.getD s undef]) w₂ := by
  simp only [results, h]
  simp [Sem.run_bind, Result.andThen]
theorem results_cell {fn : Func} {p : Tmp} {ty : TypeId} (h : fn.results = #[.cell p ty]) (tmps : Array Value) (P : Program) (w : World) :
    (results fn tmps).run P w = ((asAddr (tmps.getD p undef)).run P w).andThen fun a w₁ => (loadVar ty a).run P w₁ := by
  simp only [results, h]
  simp [Sem.run_bind, Result.andThen]
theorem results_cell2 {fn : Func} {p q : Tmp} {ty uy : TypeId} (h : fn.results = #[.cell p ty, .cell q uy]) (tmps : Array Value) (P : Program) (w : World) :
    (results fn tmps).run P w = ((asAddr (tmps.getD p undef)).run P w).andThen fun a w₁ => ((loadVar ty a).run P w₁).andThen fun v w₂ => ((asAddr (tmps.getD q undef)).run P w₂).andThen fun b w₃ => ((loadVar uy b).run P w₃).andThen fun u w₄ => .ok (.tuple #[v, u]) w₄ := by
  simp only [results, h]
  simp [Sem.run_bind, Result.andThen]
section
variable {P : Program} {te : List (TypeId × TyI)} {cx : Cx} {tm : Tm} {ob : Obs} {nx : Nat} {ρ : Nat → Option Value} {a : Act} {w : World}
theorem box_load {i : TyI} {t : TypeId} {b off : Nat} {T : TypeId} {vs : List Value} {cs : List C} (hok : TyOk P t i) (hb : w.heap[b]? = some (.cells (vs.toArray : Array Value) T (0, 0))) (hcs : repL (okOf cx ρ ob) ρ w cs vs) (h : (ldBox i off cs).obl) :
    ∃ u, (loadVar t ⟨b, off, none⟩).run P w = .ok u w ∧ (ldBox i off cs).val.rep (okOf cx ρ ob) ρ w u := by
  have hlen := repL.len hcs
  unfold ldBox at h ⊢
  split at h
  · rename_i hle
    have hle := Nat.le_of_ble_eq_true hle
    rw [lenC_eq, ← hlen] at hle
    have hc := cells_box hb off i.size hle
    have hrun := run_loadVar hok hc
    cases hag : i.k.agg <;> simp only [hag] at h hrun
    · have h1 := hok.size1 hag
      obtain ⟨v, hv, hv'⟩ := repL_nth off (by omega) hcs
      obtain ⟨ho, hf⟩ := okC_obl h
      refine ⟨v, ?_, ?_⟩
      · rw [hrun, h1, nth_drop vs off v hv]
        rfl
      · rw [ho]; exact hv'
    · split at h
      · rename_i hsz
        have hsz := Nat.eq_of_beq_eq_true hsz
        rw [lenC_eq] at hsz
        have h0 : off = 0 := by omega
        subst h0
        refine ⟨_, hrun, vs, ?_, hcs⟩
        simp only [List.drop_zero, if_true]
        rw [List.take_of_length_le (by omega)]
      · refine ⟨_, hrun, _, rfl, ?_⟩
        rw [takeC_eq, dropC_eq]
        exact repL_take _ (repL_drop _ hcs)
  · exact h.elim
theorem cell_load (hte : TEok P te) {ty : TypeId} {t : Nat} {v : A} (hs : StOk cx tm ob nx ρ a w) (h : cellV te ob ty (get tm t) = some v) :
    ∃ ad u, (asAddr (a.tmps.getD t undef)).run P w = .ok ad w ∧ (loadVar ty ad).run P w = .ok u w ∧ v.rep (okOf cx ρ ob) ρ w u := by
  have hr := hs.tms t
  generalize get tm t = x at h hr
  unfold cellV at h
  split at h
  · rename_i id off
    obtain ⟨b, hρ, hv⟩ := hr
    split at h
    · rename_i i T cs hi hg
      obtain ⟨b', vs, hρ', hb, hcs⟩ := getO_is hs.obs hg
      rw [hρ] at hρ'
      simp only [Option.some.injEq, Value.pointer.injEq, Addr.mk.injEq, and_true] at hρ'
      subst hρ'
      split at h
      · rename_i y e
        cases h
        obtain ⟨u, h1, h2⟩ := box_load (t := ty) (off := off) (find_ok hte hi) hb hcs (by rw [e]; trivial)
        rw [e] at h2
        exact ⟨_, u, by rw [hv]; rfl, h1, h2⟩
      · cases h
    · cases h
  · cases h
theorem acall_ofc {f : FuncId} {fn : Func} {c : Code} {args : List A} {rs : List ResultVar} {r : A} (hf : P.funcs[f]? = some fn) (hb : fn.body = some c) (hname : (fn.name == "runtime.NumGoroutine") = false) (hr : fn.results = rs.toArray) (hte : TEok P te)
    (hn : Nat.ble args.length fn.ntmps = true) (h : ACode P te fn.ntmps 0 c (argT 0 args) [] 0 (retQC te rs r)) : ACall P f args r := by
  refine ⟨⟨fn, hf, by rw [hb]; rfl, hname⟩, fun ok w vs hgl hvs => callsIn_wide.1 (callsIn_of_wp_marks (F := FR none) (n := 0) hf hb trivial ?_)⟩
  let cx : Cx := ⟨ok, noNames, w, fn.ntmps, 0, [], true⟩
  have hl := RepAs.len hvs
  have hn := Nat.le_of_ble_eq_true hn
  have hk : Keeps ok (okOf cx noNames []) w w := fun _ b hb _ => ⟨⟨.inl hb, fun p hp => by cases hp⟩, rfl⟩
  have hs : StOk cx (argT 0 args) [] 0 noNames { tmps := vs.toArray ++ Array.replicate (fn.ntmps - vs.toArray.size) undef, defers := [] } w := by
    refine ⟨?_, DefOk.none rfl, fun i => ?_, fun p hp => by (cases hp), by simp, fun p hp => by (cases hp), fun _ _ => rfl, Nat.le_refl _, fun p hp => by (cases hp), fun p hp => by (cases hp), ⟨rfl, rfl, rfl, Nat.le_refl _, fun _ _ _ _ => rfl, fun _ _ => .rfl' rfl⟩, fun _ _ h _ => absurd h (Nat.not_lt_zero _), fun _ h => absurd h (Nat.not_lt_zero _), hgl, .low (show (0 : Nat) < 1000000 by decide)⟩
    · show (vs.toArray ++ Array.replicate (fn.ntmps - vs.toArray.size) undef).size = fn.ntmps
      simp
      omega
    · rcases argT_get 0 i hvs with h1 | h1
      · have hcell : (vs.toArray ++ Array.replicate (fn.ntmps - vs.toArray.size) undef).getD i undef = if i < 0 then undef else vs.getD (i - 0) undef := by
          rw [if_neg (Nat.not_lt_zero _), Nat.sub_zero, Array.getD_eq_getD_getElem?, Array.getElem?_append]
          split
          · simp [List.getD]
          · rename_i hge
            rw [Array.getElem?_replicate]
            simp only [List.size_toArray] at hge ⊢
            rw [List.getD, List.getElem?_eq_none (by omega)]
            split <;> rfl
        rw [hcell]
        exact A.kept hk h1
      · rw [h1]; trivial
  unfold ACode at h
  refine Code.wpIn_mono ?_ (h hte none 0 cx (noR_free rfl rfl (by show ¬ (1000000 ≤ 0); decide)) rfl rfl noNames _ w hs)
  rintro e a' w0' ⟨tm', ob', nx', ρ', hq, hs0'⟩
  cases e with
  | ret =>
    refine StOk.unwind hs0' rfl rfl fun w' hs' => ?_
    have hbel : Below w.heap.size w w' := ⟨hs'.keep.os, hs'.keep.tape, hs'.keep.output, hs'.keep.size, fun b hb => hs'.keep.block b hb (fun ⟨_, h, _⟩ => absurd h (Nat.not_lt_zero _)) (fun hg => absurd hg.1.1 (by show ¬ (1000000 ≤ 0); decide))⟩
    have fin : ∀ t, (finA te ob' (get tm' t)).rep (grow ok w) noNames w' (a'.tmps.getD t undef) := fun t => finA_rep hs' rfl (hs'.tms t)
    simp only [retQC] at hq
    split at hq
    · rename_i t ty
      split at hq
      · rename_i v hv
        obtain ⟨ad, u, h1, h2, h3⟩ := cell_load hte hs' hv
        subst hq
        refine ⟨u, ?_, u, rfl, hbel, finA_rep hs' rfl h3⟩
        rw [results_cell hr, h1]
        exact h2
      · exact hq.elim
    · rename_i t ty u
      split at hq
      · rename_i v hv
        obtain ⟨ad, x, h1, h2, h3⟩ := cell_load hte hs' hv
        subst hq
        refine ⟨.tuple #[x, a'.tmps.getD u undef], ?_, _, rfl, hbel, [_, _], rfl, _, _, rfl, cellsB_rep (finA_rep hs' rfl h3), _, _, rfl, cellsB_rep (fin u), rfl⟩
        rw [results_cell_tmp hr]
        simp only [Result.andThen, h1, h2]
      · exact hq.elim
    · rename_i t ty u uy
      split at hq
      · rename_i v x hv hx
        obtain ⟨ad, y, h1, h2, h3⟩ := cell_load hte hs' hv
        obtain ⟨ad2, z, g1, g2, g3⟩ := cell_load hte hs' hx
        subst hq
        refine ⟨.tuple #[y, z], ?_, _, rfl, hbel, [_, _], rfl, _, _, rfl, cellsB_rep (finA_rep hs' rfl h3), _, _, rfl, cellsB_rep (finA_rep hs' rfl g3), rfl⟩
        rw [results_cell2 hr]
        simp only [Result.andThen, h1, h2, g1, g2]
      · exact hq.elim
    · rename_i t ty u x
      split at hq
      · rename_i v hv
        obtain ⟨ad, y, h1, h2, h3⟩ := cell_load hte hs' hv
        subst hq
        refine ⟨.tuple #[y, a'.tmps.getD u undef, a'.tmps.getD x undef], ?_, _, rfl, hbel, [_, _, _], rfl, _, _, rfl, cellsB_rep (finA_rep hs' rfl h3), _, _, rfl, cellsB_rep (fin u), _, _, rfl, cellsB_rep (fin x), rfl⟩
        rw [results_cell_3 hr]
        simp only [Result.andThen, h1, h2]
      · exact hq.elim
    · rename_i t ty u x z
      split at hq
      · rename_i v hv
        obtain ⟨ad, y, h1, h2, h3⟩ := cell_load hte hs' hv
        subst hq
        refine ⟨.tuple #[y, a'.tmps.getD u undef, a'.tmps.getD x undef, a'.tmps.getD z undef], ?_, _, rfl, hbel, [_, _, _, _], rfl, _, _, rfl, cellsB_rep (finA_rep hs' rfl h3), _, _, rfl, cellsB_rep (fin u), _, _, rfl, cellsB_rep (fin x), _, _, rfl, cellsB_rep (fin z), rfl⟩
        rw [results_cell_4 hr]
        simp only [Result.andThen, h1, h2]
      · exact hq.elim
    · exact hq.elim
  | normal => exact (show False from hq).elim
  | exit i => exact (show False from hq).elim
  | goto l => exact (show False from hq).elim
  | panic ch => exact (show False from hq).elim
  | outgrown => exact (show False from hq).elim
end
end Ab
end Go.Proofs.YtlbainbjlibfiaaDoor
namespace Go.Proofs.YtlbainbjlibfiaaDoor
open Go.RowKit
namespace Ab
def retOC (te : List (TypeId × TyI)) (K t : Nat) (ty : TypeId) (u : Nat) (r : A) (m : Nat) (ob' : Obs) (m' : Nat) : AQ := fun e tm ob nx => match e with
  | .ret => match cellV te ob ty (get tm t) with
    | some v => retOK [K, u] r m ob' m' ((K, v) :: tm) ob nx
    | none => False
  | _ => False
def retOC1 (te : List (TypeId × TyI)) (K t : Nat) (ty : TypeId) (r : A) (m : Nat) (ob' : Obs) (m' : Nat) : AQ := fun e tm ob nx => match e with
  | .ret => match cellV te ob ty (get tm t) with
    | some v => retOK [K] r m ob' m' ((K, v) :: tm) ob nx
    | none => False
  | _ => False
section
variable {P : Program} {te : List (TypeId × TyI)} {ob : Obs}
theorem acallo_ofc {f : FuncId} {fn : Func} {c : Code} {args : List A} {t u : Nat} {ty : TypeId} {r : A} {m : Nat} {ob' : Obs} {m' : Nat} (hf : P.funcs[f]? = some fn) (hb : fn.body = some c) (hname : (fn.name == "runtime.NumGoroutine") = false)
    (hr : fn.results = #[.cell t ty, .tmp u]) (hte : TEok P te) (hu : Nat.ble (u + 1) fn.ntmps = true) (hn : Nat.ble args.length fn.ntmps = true) (h : ACode P te fn.ntmps m c (argT 0 args) ob m (retOC te fn.ntmps t ty u r m ob' m')) (hm : Nat.ble 1000000 m = false := by rfl) : ACallO P f args ob m r ob' m' := by
  refine ⟨⟨fn, hf, by rw [hb]; rfl, hname⟩, fun cx ρ w vs hN hnx hw hs hvs => callsIn_wide.1 (callsIn_of_wp_marks (F := FR none) (n := 0) hf hb trivial ?_)⟩
  have hlen := RepAs.len hvs
  have hn := Nat.le_of_ble_eq_true hn
  have hu := Nat.le_of_ble_eq_true hu
  have hm : cx.nx0 < 1000000 := by
    rw [hnx]
    exact Nat.lt_of_not_le fun h => by rw [Nat.ble_eq_true_of_le h] at hm; cases hm
  let a0 : Act := { tmps := vs.toArray ++ Array.replicate (fn.ntmps - vs.toArray.size) undef, defers := [] }
  have hs0 : StOk { cx with N := fn.ntmps } (argT 0 args) ob m ρ a0 w := by
    refine hs.anyN ?_ (DefOk.none hN.2.2) fun i => ?_
    · show (vs.toArray ++ Array.replicate (fn.ntmps - vs.toArray.size) undef).size = fn.ntmps
      simp
      omega
    · rcases argT_get 0 i hvs with h1 | h1
      · have hcell : (vs.toArray ++ Array.replicate (fn.ntmps - vs.toArray.size) undef).getD i undef = if i < 0 then undef else vs.getD (i - 0) undef := by
          rw [if_neg (Nat.not_lt_zero _), Nat.sub_zero, Array.getD_eq_getD_getElem?, Array.getElem?_append]
          split
          · simp [List.getD]
          · rename_i hge
            rw [Array.getElem?_replicate]
            simp only [List.size_toArray] at hge ⊢
            rw [List.getD, List.getElem?_eq_none (by omega)]
            split <;> rfl
        show (get (argT 0 args) i).rep _ _ _ ((vs.toArray ++ Array.replicate (fn.ntmps - vs.toArray.size) undef).getD i undef)
        rw [hcell]
        exact h1
      · rw [h1]; trivial
  unfold ACode at h
  refine Code.wpIn_mono ?_ (h hte none 0 { cx with N := fn.ntmps } (noR_free hN.2.1 hN.2.2 (Nat.not_le.2 hm)) rfl hnx ρ a0 w hs0)
  rintro e a' w0' ⟨tm', ob1, nx', ρ', hq, hs0'⟩
  cases e with
  | ret =>
    refine StOk.unwind hs0' hN.2.1 hN.2.2 fun w' hs' => ?_
    simp only [retOC] at hq
    split at hq
    · rename_i v hv
      obtain ⟨ad, x, g1, g2, g3⟩ := cell_load hte hs' hv
      obtain ⟨h1, h2, h3⟩ := hq
      have hsz : a'.tmps.size = fn.ntmps := hs'.size
      have hs4 : StOk { cx with N := fn.ntmps + 1 } ((fn.ntmps, v) :: tm') ob1 nx' ρ' ⟨a'.tmps.push x, []⟩ w' := by
        have := hs'.anyN (N := fn.ntmps + 1) (tm' := (fn.ntmps, v) :: tm') (a' := ⟨a'.tmps.push x, []⟩) (by simp [hsz]) (DefOk.none hN.2.2) (fun i => by
          rw [get_cons]
          split
          · rename_i e
            have e := Nat.eq_of_beq_eq_true e
            subst e
            rw [show (a'.tmps.push x).getD fn.ntmps undef = x from by simp [Array.getD_eq_getD_getElem?, ← hsz]]
            exact g3
          · rename_i e
            have hne : i ≠ fn.ntmps := fun e' => by rw [e'] at e; simp at e
            have : (a'.tmps.push x).getD i undef = a'.tmps.getD i undef := by
              rw [Array.getD_eq_getD_getElem?, Array.getD_eq_getD_getElem?, Array.getElem?_push, if_neg (by rw [hsz]; exact hne)]
            rw [this]
            exact hs'.tms i)
        exact this
      obtain ⟨ρ2, hs2⟩ := (le_of (nx0 := m) keepT_le h2 h3).st { cx with N := fn.ntmps + 1 } hnx ρ' _ w' hs4
      have hs3 : StOk cx [] ob' m' ρ2 ⟨#[], []⟩ w' := by
        have := hs2.anyN (N := cx.N) (tm' := []) (a' := ⟨#[], []⟩) (by rw [hN.1]; rfl) (DefOk.none hN.2.2) (fun _ => trivial)
        exact this
      have r1 := hs2.tms fn.ntmps
      rw [keepT_get (by simp), get_cons] at r1
      have r2 := hs2.tms u
      rw [keepT_get (by simp)] at r2
      have e1 : (a'.tmps.push x).getD fn.ntmps undef = x := by simp [Array.getD_eq_getD_getElem?, ← hsz]
      have e2 : (a'.tmps.push x).getD u undef = a'.tmps.getD u undef := by
        rw [Array.getD_eq_getD_getElem?, Array.getD_eq_getD_getElem?, Array.getElem?_push, if_neg (by omega)]
      have r1' : (get ((fn.ntmps, v) :: tm') fn.ntmps).rep (okOf cx ρ2 ob') ρ2 w' x := by rw [get_cons, ← e1]; exact r1
      have r2' : (get ((fn.ntmps, v) :: tm') u).rep (okOf cx ρ2 ob') ρ2 w' (a'.tmps.getD u undef) := by rw [← e2]; exact r2
      subst h1
      refine ⟨.tuple #[x, a'.tmps.getD u undef], ?_, _, ρ2, rfl, hs3, [_, _], rfl, _, _, rfl, cellsB_rep r1', _, _, rfl, cellsB_rep r2', rfl⟩
      rw [results_cell_tmp hr]
      simp only [Result.andThen, g1, g2]
    · exact hq.elim
  | normal => exact (show False from hq).elim
  | exit i => exact (show False from hq).elim
  | goto l => exact (show False from hq).elim
  | panic ch => exact (show False from hq).elim
  | outgrown => exact (show False from hq).elim
end
end Ab
end Go.Proofs.YtlbainbjlibfiaaDoor
namespace Go.Proofs.YtlbainbjlibfiaaDoor
open Go.RowKit
namespace Ab
structure Det (P : Program) {α : Type} (s : Sem α) : Prop where
  h : ∀ a w w', s.run P w = .ok a w' → ∀ w2, s.run P w2 = .ok a w2
structure Nev (P : Program) {α : Type} (s : Sem α) : Prop where
  h : ∀ a w w', s.run P w ≠ .ok a w'
section
variable {P : Program} {α β : Type}
theorem Nev.det {s : Sem α} (h : Nev P s) : Det P s := ⟨fun a w w' e => absurd e (h.h a w w')⟩
theorem nev_bind {s : Sem α} {f : α → Sem β} (h : ∀ a, Nev P (f a)) : Nev P (s >>= f) := by
  refine ⟨fun b w w' e => ?_⟩
  rw [Sem.run_bind] at e
  cases hs : s.run P w with
  | ok a w1 => rw [hs] at e; exact (h a).h b w1 w' e
  | halt x w1 => rw [hs] at e; cases e
theorem det_bind {s : Sem α} {f : α → Sem β} (h : Det P s) (h2 : ∀ a, Det P (f a)) : Det P (s >>= f) := by
  refine ⟨fun b w w' e w2 => ?_⟩
  rw [Sem.run_bind] at e ⊢
  cases hs : s.run P w with
  | ok a w1 => rw [hs] at e; rw [h.h a w w1 hs w2]; exact (h2 a).h b w1 w' e w2
  | halt x w1 => rw [hs] at e; cases e
theorem det_pure (a : α) : Det P (pure a : Sem α) := ⟨by intro b w w' e w2; cases e; rfl⟩
theorem det_program : Det P program := ⟨by intro b w w' e w2; cases e; rfl⟩
theorem nev_halt (h : Halt) : Nev P (Sem.halt h : Sem α) := ⟨fun a w w' e => by cases e⟩
theorem nev_panic (e : RuntimeError) : Nev P (runtimePanic e : Sem α) := by
  unfold runtimePanic
  refine nev_bind fun p => ?_
  cases e <;> first | exact nev_halt _ | (repeat' (first | exact nev_halt _ | (refine nev_bind fun _ => ?_)))
theorem nev_bounds (k : IntKind) (x y : Int) (c : BoundsCode) : Nev P (boundsPanic k x y c : Sem α) := by
  unfold boundsPanic
  dsimp only
  split <;> exact nev_bind fun _ => nev_panic _
theorem det_underlying (t : TypeId) : Det P (underlying t) := by
  unfold underlying
  repeat' (first | exact det_pure _ | exact det_program | exact (nev_halt _).det | apply det_bind | intro _ | split)
theorem det_asIntOf (v : Value) : Det P (asIntOf v) := by
  unfold asIntOf
  repeat' (first | exact det_pure _ | exact (nev_halt _).det | split)
theorem det_asBool (v : Value) : Det P (asBool v) := by
  unfold asBool
  repeat' (first | exact det_pure _ | exact (nev_halt _).det | split)
theorem det_sizeOf (t : TypeId) : Det P (sizeOf t) := by
  unfold sizeOf typeInfo
  repeat' (first | exact det_pure _ | exact det_program | exact (nev_halt _).det | apply det_bind | intro _ | split)
theorem det_sureAddr (v : Value) : Det P (Instr.sureAddr v) := by
  unfold Instr.sureAddr
  repeat' (first | exact det_pure _ | exact (nev_halt _).det | split)
theorem det_indexAt (t : TypeId) (x i : Value) : Det P (Instr.indexAt t x i) := by
  unfold Instr.indexAt
  dsimp only
  repeat' (first | exact det_pure _ | exact (nev_bounds _ _ _ _).det | exact (nev_halt _).det | exact det_underlying _ | exact det_asIntOf _ | exact det_sizeOf _ | exact det_sureAddr _ | apply det_bind | intro _ | split)
theorem det_index (t : TypeId) (x : ByteArray) (i : Value) : Det P (Instr.index t (.string x) i) := by
  unfold Instr.index
  repeat' (first | exact det_pure _ | exact (nev_bounds _ _ _ _).det | exact (nev_halt _).det | exact det_underlying _ | exact det_asIntOf _ | apply det_bind | intro _ | (rename_i h; cases h; done) | split)
theorem det_bound (x : Value) (y : Nat) (c : BoundsCode) : Det P (Instr.sliceBound x y c) := by
  unfold Instr.sliceBound
  repeat' (first | exact det_pure _ | exact (nev_bounds _ _ _ _).det | exact det_asIntOf _ | apply det_bind | intro _ | split)
theorem det_bounds (b : Bool) (l c : Nat) (x y z : Option Value) : Det P (Instr.sliceBounds b l c x y z) := by
  unfold Instr.sliceBounds
  dsimp only
  repeat' (first | exact det_pure _ | exact det_bound _ _ _ | exact (nev_halt _).det | apply det_bind | intro _ | split)
theorem det_asAddr (v : Value) : Det P (asAddr v) := by
  unfold asAddr
  repeat' (first | exact det_pure _ | exact (nev_panic _).det | exact (nev_halt _).det | split)
theorem det_slice (t : TypeId) (x : Value) (a b c : Option Value) : Det P (Instr.slice t x a b c) := by
  unfold Instr.slice
  dsimp only
  repeat' (first | exact det_pure _ | exact det_bounds _ _ _ _ _ _ | exact (nev_halt _).det | exact det_underlying _ | exact det_asAddr _ | exact det_sizeOf _ | apply det_bind | intro _ | split)
theorem det_sliceAt (t : TypeId) (x : Value) (a b c : Option Value) : Det P (Instr.sliceAt t x a b c) := by
  unfold Instr.sliceAt
  repeat' (first | exact det_pure _ | exact det_slice _ _ _ _ _ | exact det_bounds _ _ _ _ _ _ | exact (nev_halt _).det | exact det_underlying _ | exact det_sureAddr _ | exact det_sizeOf _ | apply det_bind | intro _ | split)
theorem det_extract (v : Value) (i : Nat) : Det P (Instr.extract v i) := by
  unfold Instr.extract
  repeat' (first | exact det_pure _ | exact (nev_halt _).det | split)
theorem det_ints (o : BinOp) (t : TypeId) (k k' : IntKind) (a b : Int) (h : (match o with | .shl | .shr => false | _ => true) = true) : Det P (binOp o t (.int k a) (.int k' b)) := by
  cases o <;> first
    | exact absurd h (by decide)
    | (change Det P (ite (k ≠ k') _ _)
       split
       · exact (nev_halt _).det
       · first
         | exact det_pure _
         | (change Det P (ite (b = 0) _ _)
            split
            · exact (nev_panic _).det
            · exact det_pure _)
         | exact (nev_halt _).det)
theorem det_strs (o : BinOp) (t : TypeId) (a b : ByteArray) : Det P (binOp o t (.string a) (.string b)) := by
  cases o <;> first
    | exact det_pure _
    | (change Det P (ite _ _ _)
       split
       · exact (nev_halt _).det
       · exact det_pure _)
    | exact (nev_halt _).det
theorem guard_ints (o : BinOp) (t : TypeId) (x y : Operand) (k k' : IntKind) (a b : Int) : Det P (eqGuard o t x y (.int k a) (.int k' b)) := by
  unfold eqGuard
  repeat' (first | exact det_pure _ | apply det_bind | intro _ | split)
theorem guard_strs (o : BinOp) (t : TypeId) (x y : Operand) (a b : ByteArray) : Det P (eqGuard o t x y (.string a) (.string b)) := by
  unfold eqGuard
  repeat' (first | exact det_pure _ | apply det_bind | intro _ | split)
end
end Ab
end Go.Proofs.YtlbainbjlibfiaaDoor
namespace Go.Proofs.YtlbainbjlibfiaaDoor
open Go.RowKit
namespace Ab
def lits2 (lk : Operand → A) (x y : Operand) : Bool := match lk x, lk y with
  | .one (.lit (.int _ _)), .one (.lit (.int _ _)) => true
  | .one (.lit (.string _)), .one (.lit (.string _)) => true
  | _, _ => false
def lightB (lk : Operand → A) (op : Op) : Bool := match op with
  | .move _ => true
  | .assign _ => true
  | .binOp o _ x y _ => (match o with | .shl | .shr => false | _ => true) && lits2 lk x y
  | .slice _ _ _ _ _ => true
  | .indexAddr _ _ _ => true
  | .extract _ _ => true
  | .pick _ _ _ => true
  | .index _ x _ => match lk x with
    | .one (.lit (.string _)) => true
    | _ => false
  | .nilCheck x => match lk x with
    | .one (.own _ _) => true
    | .one (.adk _ _ _) => true
    | _ => false
  | .fieldAddr _ x _ => match lk x with
    | .one (.own _ _) => true
    | .one (.adk _ _ _) => true
    | .one (.vel _ _ _) => true
    | _ => false
  | _ => false
section
variable {P : Program} {te : List (TypeId × TyI)} {cx : Cx} {tm : Tm} {ob : Obs} {nx : Nat} {ρ : Nat → Option Value} {a : Act} {w : World}
theorem light_det {te : List (TypeId × TyI)} (hte : TEok P te) {lk : Operand → A} {o : Oper} (h : lightB lk o.op = true) (hobl : (opv te ob lk o.op).obl) (hlk : ∀ x ∈ o.op.operands.toList, (lk x).rep (okOf cx ρ ob) ρ w (a.eval x)) : Det P (execOp a.eval o) := by
  obtain ⟨dst, op, type, pos, after, guard⟩ := o
  simp only at h hobl
  cases op <;> first | cases h | skip
  case move x => exact det_pure _
  case pick c x y => exact det_bind (det_asBool _) fun _ => det_pure _
  case assign x => exact det_pure _
  case slice t x lo hi mx => exact det_bind (det_sliceAt _ _ _ _ _) fun _ => det_pure _
  case indexAddr t x i => exact det_bind (det_indexAt _ _ _) fun _ => det_pure _
  case extract t i => exact det_bind (det_extract _ _) fun _ => det_pure _
  case nilCheck x =>
    simp only [lightB] at h
    split at h
    · rename_i id off e
      have hx := hlk x (by simp [Op.operands])
      rw [e] at hx
      obtain ⟨b, _, hv⟩ := hx
      show Det P (match a.eval x with | .pointer none | .nilIface | .nilFunc => _ | .func (.method _) _ _ => _ | _ => _)
      rw [hv]
      exact det_pure _
    · rename_i e
      have hx := hlk x (by simp [Op.operands])
      rw [e] at hx
      obtain ⟨b, off, cs, hv, _⟩ := hx
      show Det P (match a.eval x with | .pointer none | .nilIface | .nilFunc => _ | .func (.method _) _ _ => _ | _ => _)
      rw [hv]
      exact det_pure _
    · cases h
  case fieldAddr t x f =>
    simp only [lightB] at h
    split at h
    · rename_i id off e
      have ho : (vFld te t (lk x) f).obl := hobl
      rw [e] at ho
      unfold vFld at ho
      split at ho
      · rename_i i hi
        have hk := (find_ok hte hi).kind
        split at ho
        · rename_i fs hfs
          rw [hfs] at hk
          simp only at ho
          split at ho
          · rename_i o' he
            obtain ⟨ty, he⟩ := nthF_eq he
            have hx := hlk x (by simp [Op.operands])
            rw [e] at hx
            obtain ⟨b, _, hv⟩ := hx
            show Det P (do pure (Next.value (← Instr.fieldAt t (a.eval x) f)))
            rw [hv]
            refine det_bind ⟨fun u w1 w2 e1 w3 => ?_⟩ fun _ => det_pure _
            rw [run_fieldAt hk he _] at e1 ⊢
            cases e1
            rfl
          · exact ho.elim
        · exact ho.elim
      · exact ho.elim
    · rename_i e
      have ho : (vFld te t (lk x) f).obl := hobl
      rw [e] at ho
      unfold vFld at ho
      split at ho
      · rename_i i hi
        have hk := (find_ok hte hi).kind
        split at ho
        · rename_i fs hfs
          rw [hfs] at hk
          simp only at ho
          split at ho
          · rename_i β S y he
            have hx := hlk x (by simp [Op.operands])
            rw [e] at hx
            obtain ⟨b, off, cs, hv, _, _, hc, hr⟩ := hx
            obtain ⟨o, ty, ds, h1, _, _⟩ := fldR_sound (off := off) he (by simpa using hc) hr
            show Det P (do pure (Next.value (← Instr.fieldAt t (a.eval x) f)))
            rw [hv]
            refine det_bind ⟨fun u w1 w2 e1 w3 => ?_⟩ fun _ => det_pure _
            rw [run_fieldAt hk h1 _] at e1 ⊢
            cases e1
            rfl
          · exact ho.elim
        · exact ho.elim
      · exact ho.elim
    · rename_i id k n e
      have ho : (vFld te t (lk x) f).obl := hobl
      rw [e] at ho
      unfold vFld at ho
      split at ho
      · rename_i i hi
        have hk := (find_ok hte hi).kind
        split at ho
        · rename_i fs hfs
          rw [hfs] at hk
          simp only at ho
          split at ho
          · rename_i o' he
            obtain ⟨ty, he⟩ := nthF_eq he
            have hx := hlk x (by simp [Op.operands])
            rw [e] at hx
            obtain ⟨b, m, cap, _, hv⟩ := hx
            show Det P (do pure (Next.value (← Instr.fieldAt t (a.eval x) f)))
            rw [hv]
            refine det_bind ⟨fun u w1 w2 e1 w3 => ?_⟩ fun _ => det_pure _
            rw [run_fieldAt hk he _] at e1 ⊢
            cases e1
            rfl
          · exact ho.elim
        · exact ho.elim
      · exact ho.elim
    · cases h
  case index t x i =>
    simp only [lightB] at h
    split at h
    · rename_i s e
      have hx := hlk x (by simp [Op.operands])
      rw [e] at hx
      have hx : a.eval x = .string s := hx
      show Det P (do pure (Next.value (← Instr.index t (a.eval x) (a.eval i))))
      rw [hx]
      exact det_bind (det_index _ _ _) fun _ => det_pure _
    · cases h
  case binOp op t x y ty =>
    simp only [lightB, Bool.and_eq_true] at h
    obtain ⟨h1, h2⟩ := h
    show Det P ((eqGuard op t x y (a.eval x) (a.eval y) >>= fun _ => Go.binOp op t (a.eval x) (a.eval y)) >>= fun v => pure (Next.value v))
    unfold lits2 at h2
    have hx := hlk x (by simp [Op.operands])
    have hy := hlk y (by simp [Op.operands])
    split at h2
    · rename_i k m k' m' e1 e2
      rw [e1] at hx
      rw [e2] at hy
      rw [show a.eval x = .int k m from hx, show a.eval y = .int k' m' from hy]
      exact det_bind (det_bind (guard_ints _ _ _ _ _ _ _ _) fun _ => det_ints _ _ _ _ _ _ h1) fun _ => det_pure _
    · rename_i s s' e1 e2
      rw [e1] at hx
      rw [e2] at hy
      rw [show a.eval x = .string s from hx, show a.eval y = .string s' from hy]
      exact det_bind (det_bind (guard_strs _ _ _ _ _ _) fun _ => det_strs _ _ _ _) fun _ => det_pure _
    · cases h2
def ordQ (cx : Cx) (K : Tm → Obs → Nat → Prop) : Exit → Act → World → Prop := fun e a w => e = .normal ∧ ∃ tm ob nx ρ, K tm ob nx ∧ StOk cx tm ob nx ρ a w
def AOrd (P : Program) (te : List (TypeId × TyI)) (N nx0 : Nat) (ops : Array Oper) (fuel : Nat) (listed : Array Bool) (tm : Tm) (ob : Obs) (nx : Nat) (K : Tm → Obs → Nat → Prop) : Prop :=
  TEok P te → ∀ cx : Cx, cx.N = N → cx.nx0 = nx0 → ∀ ρ a w, StOk cx tm ob nx ρ a w → wpAny P .any ops (ordQ cx K) fuel listed a w
variable {N nx0 : Nat} {ops : Array Oper} {fuel : Nat} {listed : Array Bool} {K : Tm → Obs → Nat → Prop}
theorem aord_done (hr : Region.ready .any ops listed = []) (h : K tm ob nx) : AOrd P te N nx0 ops fuel listed tm ob nx K :=
  fun _ _ _ _ ρ _ _ hs => wpAny_done hr ⟨rfl, tm, ob, nx, ρ, h, hs⟩ fuel
theorem aord_light (i : Nat) {o : Oper} (hi : ops[i]? = some o) (hg : o.guard = none) (hl : lightB (look tm) o.op = true) (hc : (Region.noSelect ops && (Region.free .any ops listed i && (Region.ready .any ops listed).contains i)) = true)
    (h : vrK (opv te ob (look tm) o.op) fun v => put N o.dst v tm fun tm => AOrd P te N nx0 ops fuel (listed.setIfInBounds i true) tm ob nx K) : AOrd P te N nx0 ops (fuel + 1) listed tm ob nx K := by
  intro hte cx h1 h2 ρ a w hs
  subst h1 h2
  simp only [Bool.and_eq_true] at hc
  have hobl : (opv te ob (look tm) o.op).obl ∧ ((opv te ob (look tm) o.op).fact → put cx.N o.dst (opv te ob (look tm) o.op).val tm fun tm => AOrd P te cx.N cx.nx0 ops fuel (listed.setIfInBounds i true) tm ob nx K) := by
    unfold vrK at h
    split at h
    · rename_i v e; rw [e]; exact ⟨trivial, fun _ => h⟩
    · rename_i p v e; rw [e]; exact ⟨h.1, fun _ => h.2⟩
    · rename_i p v e; rw [e]; exact ⟨trivial, fun hp => h hp⟩
    · exact h.elim
  obtain ⟨⟨u, w', hrun, hb, hrep⟩, hf⟩ := opv_sound hte hobl.1 (fun x _ => hs.look x) hs.obs
  have hd := (light_det (cx := cx) (ρ := ρ) (w := w) (a := a) hte hl hobl.1 (fun x _ => hs.look x)).h _ _ _ hrun
  have hw : w' = w := by have := hd w; rw [hrun] at this; cases this; rfl
  subst hw
  obtain ⟨tm', h3, h4⟩ := hs.put (hobl.2 hf) (rep_grow hs (Below.refl _ _) hrep)
  exact wpAny_take hi hc.1 hc.2.1 hc.2.2 (fun c a w hq => (by cases hq.1)) (.inl ⟨by simp [Region.wanted, hg], hd⟩) (h3 hte cx rfl rfl ρ _ _ h4)
def allR (F : Nat → Prop) : List Nat → Prop
  | [] => True
  | [i] => F i
  | i :: r => F i ∧ allR F r
theorem allR_spec {F : Nat → Prop} : ∀ {l : List Nat}, allR F l → ∀ i ∈ l, F i
  | [], _, _, h => by cases h
  | [i], h, j, hj => by rw [List.mem_singleton.1 hj]; exact h
  | i :: k :: r, h, j, hj => by
    rcases List.mem_cons.1 hj with rfl | hj
    · exact h.1
    · exact allR_spec (l := k :: r) h.2 j hj
def oneR (P : Program) (te : List (TypeId × TyI)) (N nx0 : Nat) (ops : Array Oper) (fuel : Nat) (listed : Array Bool) (tm : Tm) (ob : Obs) (nx : Nat) (K : Tm → Obs → Nat → Prop) (i : Nat) : Prop :=
  match ops[i]? with
  | some o => match o.guard with
    | none => aop P te N nx0 o tm ob nx fun tm ob nx => AOrd P te N nx0 ops fuel (listed.setIfInBounds i true) tm ob nx K
    | some (j, want) => match dstAt ops.toList j with
      | some d => match Nat.ble (d + 1) N, get tm d with
        | true, .one (.lit (.bool b)) => aopQ P te N nx0 o (gq want b) tm ob nx fun tm ob nx => AOrd P te N nx0 ops fuel (listed.setIfInBounds i true) tm ob nx K
        | true, .cond p (.one (.lit (.bool b))) => aopQ P te N nx0 o (p && gq want b) tm ob nx fun tm ob nx => AOrd P te N nx0 ops fuel (listed.setIfInBounds i true) tm ob nx K
        | _, _ => False
      | none => False
  | none => False
theorem aord_all (rs : List Nat) (hr : Region.ready .any ops listed = rs) (hne : rs.isEmpty = false) (h : allR (oneR P te N nx0 ops fuel listed tm ob nx K) rs) : AOrd P te N nx0 ops (fuel + 1) listed tm ob nx K := by
  intro hte cx h1 h2 ρ a w hs
  subst h1 h2
  refine wpAny_all hr (fun e => by rw [e] at hne; cases hne) fun i hi => ?_
  have := allR_spec h i hi
  unfold oneR at this
  unfold wpOp
  split at this
  · rename_i o ho
    split at this
    · rename_i hg
      rw [ho]
      simp only
      rw [if_pos (by simp [Region.wanted, hg])]
      exact .inl (aop_sound hte this hs fun tm ob nx ρ a w hk hs => hk hte cx rfl rfl ρ a w hs)
    · rename_i j want hg
      rw [ho]
      simp only
      have go : ∀ {q : Bool}, Region.wanted o (yielded ops a.tmps) = q → aopQ P te cx.N cx.nx0 o q tm ob nx (fun tm ob nx => AOrd P te cx.N cx.nx0 ops fuel (listed.setIfInBounds i true) tm ob nx K) → if Region.wanted o (yielded ops a.tmps) = true then o.wp P a w (wpAny P .any ops (ordQ cx K) fuel (listed.setIfInBounds i true)) (ordQ cx K) ∨ (o.asks P a w ∧ LetsOut (ordQ cx K)) else wpAny P .any ops (ordQ cx K) fuel (listed.setIfInBounds i true) (a.put o.dst undef) w := by
        intro q hw h
        obtain ⟨h3, h4⟩ := aopQ_sound (Q := ordQ cx K) (next := wpAny P .any ops (ordQ cx K) fuel (listed.setIfInBounds i true)) hte h hs (fun tm ob nx ρ a w hk hs => hk hte cx rfl rfl ρ a w hs)
        split
        · rename_i e; exact .inl (h3 (hw.symm.trans e))
        · rename_i e; exact h4 (hw.symm.trans (by simpa using e))
      split at this
      · rename_i d hd
        split at this
        · rename_i b hlt hb
          exact go (wanted_at hs hg hd hlt hb) this
        · rename_i p b hlt hb
          exact go (wanted_at' hs hg hd hlt hb) this
        · exact this.elim
      · exact this.elim
  · exact this.elim
theorem acode_ord {id : Nat} {Q : AQ} (hm : (P.follows .mixedOrders && noDefer ops.toList) = true) (h : AOrd P te N nx0 ops ops.size (Array.replicate ops.size false) tm ob nx (fun tm ob nx => Q .normal tm ob nx)) : ACode P te N nx0 (.region id ops true) tm ob nx Q := by
  unfold ACode
  intro hte rd n cx _ e1 e2 ρ a w hs
  rw [Bool.and_eq_true] at hm
  have hs' : StOk cx tm ob nx ρ a { w with drawn := w.drawn + 1 } := hs.below ⟨rfl, rfl, rfl, Nat.le_refl _, fun _ _ => rfl⟩
  refine wpIn_mono (region_fr (id := id) hm.1 hm.2 (by rintro ⟨_, _, h, _⟩; cases h) (h hte cx e1 e2 ρ a _ hs')) ?_
  rintro e a' w' ⟨rfl, tm', ob', nx', ρ', hk, hs'⟩
  exact ⟨tm', ob', nx', ρ', hk, hs'⟩
end
end Ab
end Go.Proofs.YtlbainbjlibfiaaDoor
namespace Go.Proofs.YtlbainbjlibfiaaDoor
open Go.RowKit
namespace Ab
def swN (i j k : Nat) : Nat := match Nat.beq k i with
  | true => j
  | false => match Nat.beq k j with
    | true => i
    | false => k
def renTm (σ : Nat → Nat) : Tm → Tm
  | [] => []
  | p :: r => (p.1, p.2.ren σ) :: renTm σ r
theorem get_ren (σ : Nat → Nat) : ∀ (tm : Tm) (i : Nat), get (renTm σ tm) i = (get tm i).ren σ
  | [], _ => rfl
  | p :: r, i => by
    simp only [renTm, get]
    split
    · rfl
    · exact get_ren σ r i
theorem swN_eq (i j k : Nat) : swN i j k = if k = i then j else if k = j then i else k := by
  unfold swN
  by_cases h : k = i
  · subst h; simp
  · have : Nat.beq k i = false := by
      cases hb : Nat.beq k i
      · rfl
      · exact absurd (Nat.eq_of_beq_eq_true hb) h
    rw [this, if_neg h]
    by_cases h2 : k = j
    · subst h2; simp
    · have : Nat.beq k j = false := by
        cases hb : Nat.beq k j
        · rfl
        · exact absurd (Nat.eq_of_beq_eq_true hb) h2
      rw [this, if_neg h2]
theorem swN_swN (i j k : Nat) : swN i j (swN i j k) = k := by
  rw [swN_eq i j k]
  by_cases h : k = i
  · rw [if_pos h, swN_eq]
    by_cases h2 : j = i
    · rw [if_pos h2, h2, h]
    · rw [if_neg h2, if_pos rfl, h]
  · rw [if_neg h]
    by_cases h2 : k = j
    · rw [if_pos h2, swN_eq, if_pos rfl, h2]
    · rw [if_neg h2, swN_eq, if_neg h, if_neg h2]
theorem swN_inj {i j a b : Nat} (h : swN i j a = swN i j b) : a = b := by rw [← swN_swN i j a, h, swN_swN]
section
variable {P : Program} {te : List (TypeId × TyI)} {N nx0 : Nat} {tm : Tm} {ob : Obs} {nx : Nat} {Q : AQ}
theorem StOk.swapN {cx : Cx} {ρ : Nat → Option Value} {a : Act} {w : World} (i j : Nat) {α β : Type} {E E' : TypeId} {R : Rd α} {S : Rd β} {xs : List α} {ys : List β} (hi : getO ob i = some (.vec E R xs)) (hj : getO ob j = some (.vec E' S ys)) (hs : StOk cx tm ob nx ρ a w) : StOk cx (renTm (swN i j) tm) (renOb (swN i j) ob) nx (fun k => ρ (swN i j k)) a w := by
  have hback : (fun k => (fun k => ρ (swN i j k)) (swN i j k)) = ρ := funext fun k => by simp only [swN_swN]
  have hok : okOf cx (fun k => ρ (swN i j k)) (renOb (swN i j) ob) = okOf cx ρ ob := by
    funext _ b
    unfold okOf
    congr 1
    apply propext
    constructor
    · intro h1 p hp
      have hm : ∀ {ob : Obs}, p ∈ ob → (swN i j p.1, p.2.ren (swN i j)) ∈ renOb (swN i j) ob := by
        intro ob hp
        induction ob with
        | nil => cases hp
        | cons q r ih =>
          rcases List.mem_cons.1 hp with hp | hp
          · subst hp; exact List.mem_cons_self
          · exact List.mem_cons_of_mem _ (ih hp)
      have := h1 _ (hm hp)
      simp only [swN_swN] at this
      exact this
    · intro h1 p hp
      obtain ⟨q, hq, rfl⟩ := mem_renOb hp
      simp only [swN_swN]
      exact h1 q hq
  have slice : ∀ {id : Nat} {γ : Type} {E : TypeId} {T : Rd γ} {zs : List γ} {p : Option Addr}, getO ob id = some (.vec E T zs) → ρ id ≠ some (.pointer p) := by
    intro id γ E T zs p hg e
    obtain ⟨v, hv, css, _, _, h3⟩ := hs.obs _ (mem_getO hg)
    have hv : ρ id = some v := hv
    rw [hv] at e
    rcases h3.2 with ⟨h4, _⟩ | ⟨g, cap, cur, h4, _⟩ <;> (rw [h4] at e; cases e)
  have hlt : ∀ k, k < nx → swN i j k < nx := fun k hk => by
    rw [swN_eq]
    have h1 := hs.fresh _ (mem_getO hi)
    have h2 := hs.fresh _ (mem_getO hj)
    simp only at h1 h2
    split
    · exact h2
    · split
      · exact h1
      · exact hk
  refine ⟨hs.size, hs.defers, fun k => ?_, fun p hp => ?_, ?_, fun p hp => ?_, fun k hk => ?_, hs.nx0, fun p hp q hq hne b => ?_, fun p hp b => ?_, hs.keep, hs.disj, fun k hk p e => ?_, hs.glob, hs.bags⟩
  · rw [get_ren, hok]
    refine A.ren_rep.2 ?_
    rw [hback]
    exact hs.tms k
  · obtain ⟨q, hq, rfl⟩ := mem_renOb hp
    rw [hok]
    show Ob.is (okOf cx ρ ob) (fun k => ρ (swN i j k)) w (swN i j q.1) (Ob.ren (swN i j) q.2)
    refine Ob.ren_is.2 ?_
    rw [hback]
    exact hs.obs q hq
  · rw [renOb_keys]
    exact List.Pairwise.map _ (fun _ _ h e => h (swN_inj e)) hs.nd
  · obtain ⟨q, hq, rfl⟩ := mem_renOb hp
    exact hlt _ (hs.fresh q hq)
  · have : ¬ swN i j k < nx := fun h => by
      have := hlt _ h
      rw [swN_swN] at this
      omega
    exact hs.names _ (Nat.le_of_not_lt this)
  · obtain ⟨p', hp', rfl⟩ := mem_renOb hp
    obtain ⟨q', hq', rfl⟩ := mem_renOb hq
    simp only [swN_swN]
    exact hs.sep p' hp' q' hq' (fun e => hne (by simp only [e])) b
  · obtain ⟨p', hp', rfl⟩ := mem_renOb hp
    simp only [swN_swN]
    exact hs.low p' hp' b
  · have h1 := (hs.pin k hk p e).trans e
    show ρ (swN i j k) = cx.nm k
    rw [swN_eq]
    split
    · rename_i h2; rw [h2] at h1; exact absurd h1 (slice hi)
    · split
      · rename_i h2; rw [h2] at h1; exact absurd h1 (slice hj)
      · exact hs.pin k hk p e
theorem acode_swap {c : Code} (i j : Nat) {α β : Type} {E E' : TypeId} {R : Rd α} {S : Rd β} {xs : List α} {ys : List β} (hi : getO ob i = some (.vec E R xs)) (hj : getO ob j = some (.vec E' S ys)) (h : ACode P te N nx0 c (renTm (swN i j) tm) (renOb (swN i j) ob) nx Q) : ACode P te N nx0 c tm ob nx Q := by
  unfold ACode at h ⊢
  intro hte rd n cx hnr e1 e2 ρ a w hs
  exact h hte rd n cx hnr e1 e2 (fun k => ρ (swN i j k)) a w (hs.swapN i j hi hj)
def isVec : Option Ob → Bool
  | some (.vec _ _ _) => true
  | _ => false
theorem isVec_of {o : Option Ob} (h : isVec o = true) : ∃ (α : Type) (E : TypeId) (R : Rd α) (xs : List α), o = some (.vec E R xs) := by
  unfold isVec at h
  split at h
  · exact ⟨_, _, _, _, rfl⟩
  · cases h
def mendQ (i j : Nat) (Q : AQ) : AQ := fun e tm ob nx => isVec (getO ob i) = true ∧ isVec (getO ob j) = true ∧ Q e (renTm (swN i j) tm) (renOb (swN i j) ob) nx
theorem acode_mend {c : Code} (i j : Nat) (h : ACode P te N nx0 c tm ob nx (mendQ i j Q)) : ACode P te N nx0 c tm ob nx Q := by
  unfold ACode at h ⊢
  intro hte rd n cx hnr e1 e2 ρ a w hs
  refine Code.wpIn_mono ?_ (h hte rd n cx hnr e1 e2 ρ a w hs)
  rintro e a' w' ⟨tm', ob', nx', ρ', ⟨h1, h2, hq⟩, hs'⟩
  obtain ⟨_, _, _, _, h1⟩ := isVec_of h1
  obtain ⟨_, _, _, _, h2⟩ := isVec_of h2
  exact ⟨_, _, _, _, hq, hs'.swapN i j h1 h2⟩
end
end Ab
end Go.Proofs.YtlbainbjlibfiaaDoor
namespace Go.Proofs.YtlbainbjlibfiaaDoor
open Go.RowKit
namespace Ab
section
variable {P : Program} {te : List (TypeId × TyI)} {N nx0 : Nat} {tm : Tm} {ob : Obs} {nx : Nat} {Q : AQ}
theorem acode_renew {c : Code} (i : Nat) {α : Type} {E : TypeId} {R : Rd α} {xs : List α} (hg : getO ob i = some (.vec E R xs)) (h : ACode P te N nx0 c (subTm i (.sl R xs) tm) ((i, .vec E R []) :: subOb i (.sl R xs) (eraseO i ob)) nx Q) : ACode P te N nx0 c tm ob nx Q := by
  unfold ACode at h ⊢
  intro hte rd n cx hnr e1 e2 ρ a w hs
  have hmem := mem_getO hg
  obtain ⟨v, hv, hvec⟩ : ∃ v, ρ i = some v ∧ VecOk (okOf cx ρ ob) w v E R xs := hs.obs _ hmem
  have hsl : ∀ p, v ≠ .pointer p := by
    intro p e
    obtain ⟨css, _, _, h3⟩ := hvec
    rcases h3.2 with ⟨h4, _⟩ | ⟨g, cap, cur, h4, _⟩ <;> (rw [h4] at e; cases e)
  let ρ' : Nat → Option Value := upd ρ i (.slice none 0 0)
  let ob' : Obs := (i, .vec E R []) :: subOb i (.sl R xs) (eraseO i ob)
  have hmem' : ∀ p ∈ ob', (p.1 = i ∧ p.2 = .vec E R []) ∨ ∃ q ∈ ob, q.1 ≠ i ∧ p = (q.1, q.2.sub i (.sl R xs)) := by
    intro p hp
    rcases List.mem_cons.1 hp with rfl | hp
    · exact .inl ⟨rfl, rfl⟩
    · obtain ⟨q, hq, rfl⟩ := mem_subOb hp
      obtain ⟨h1, h2⟩ := mem_eraseO.1 hq
      exact .inr ⟨q, h1, h2, rfl⟩
  have hblk : ∀ p ∈ ob', ∀ b, blk (ρ' p.1) = some b → ∃ q ∈ ob, q.1 ≠ i ∧ q.1 = p.1 ∧ blk (ρ q.1) = some b := by
    intro p hp b e
    rcases hmem' p hp with ⟨h1, _⟩ | ⟨q, hq, hn, rfl⟩
    · rw [h1, show ρ' i = some (.slice none 0 0) from upd_same] at e; cases e
    · exact ⟨q, hq, hn, rfl, by rw [show ρ' q.1 = ρ q.1 from upd_ne hn] at e; exact e⟩
  have hok : ∀ k b, okOf cx ρ ob k b → okOf cx ρ' ob' k b := fun k b hb => ⟨hb.1, fun p hp e => by
    obtain ⟨q, hq, _, _, e2⟩ := hblk p hp b e
    exact hb.2 q hq e2⟩
  have hkeep : Keeps (okOf cx ρ ob) (okOf cx ρ' ob') w w := fun _ b hb _ => ⟨hok _ b hb, rfl⟩
  have hsub : Sub i (.sl R xs) (okOf cx ρ ob) (okOf cx ρ' ob') ρ ρ' w w := by
    refine ⟨fun u hu => ?_, fun j u hj e => by rw [show ρ' j = ρ j from upd_ne hj]; exact e, hkeep⟩
    rw [hv] at hu
    obtain rfl := Option.some.inj hu
    refine vec_sl 0 hvec hok fun b hb => ⟨?_, fun p hp e => ?_⟩
    · rcases (hs.low _ hmem b (by rw [hv]; exact hb)).2 with h1 | h1
      · exact .inr (.inl ⟨h1, by decide⟩)
      · exact .inr (.inr ⟨by decide, h1⟩)
    · obtain ⟨q, hq, hn, _, e2⟩ := hblk p hp b e
      exact hs.sep q hq _ hmem hn b e2 (by rw [hv]; exact hb)
  refine h hte rd n cx hnr e1 e2 ρ' a w ⟨hs.size, hs.defers, fun k => by rw [get_sub]; exact A.sub_rep hsub (hs.tms k), fun p hp => ?_, ?_, fun p hp => ?_, fun k hk => ?_, hs.nx0, fun p hp q hq hne b e3 e4 => ?_, fun p hp b e3 => ?_, hs.keep, hs.disj, fun k hk p e => ?_, hs.glob, hs.bags⟩
  · rcases hmem' p hp with ⟨h1, h2⟩ | ⟨q, hq, hn, rfl⟩
    · rw [h1, h2]
      exact ⟨.slice none 0 0, upd_same, [], rfl, fun k hk => absurd hk (by simp), World.ownsRow_nil _ _ _ _⟩
    · exact Ob.sub_is hsub hn (fun _ _ => rfl) (hs.obs q hq)
  · have h1 : ((subOb i (C.sl R xs) (eraseO i ob)).map (·.1)).Nodup := by rw [subOb_keys]; exact hs.nd.sublist eraseO_sub
    refine List.nodup_cons.2 ⟨fun hm => ?_, h1⟩
    rw [subOb_keys] at hm
    obtain ⟨q, hq, e⟩ := List.mem_map.1 hm
    exact (mem_eraseO.1 hq).2 e
  · rcases hmem' p hp with ⟨h1, _⟩ | ⟨q, hq, _, rfl⟩
    · rw [h1]; exact hs.fresh _ hmem
    · exact hs.fresh q hq
  · have : k ≠ i := fun e => by have := hs.fresh _ hmem; simp only at this; omega
    rw [show ρ' k = ρ k from upd_ne this]
    exact hs.names k hk
  · obtain ⟨p', hp', hpn, ep, e5⟩ := hblk p hp b e3
    obtain ⟨q', hq', hqn, eq, e6⟩ := hblk q hq b e4
    exact hs.sep p' hp' q' hq' (fun e => hne (by rw [← ep, ← eq, e])) b e5 e6
  · obtain ⟨q, hq, _, _, e4⟩ := hblk p hp b e3
    exact hs.low q hq b e4
  · have h1 := (hs.pin k hk p e).trans e
    have hki : k ≠ i := fun e3 => by
      subst e3
      rw [hv] at h1
      exact hsl p (Option.some.inj h1)
    rw [show ρ' k = ρ k from upd_ne hki]
    exact hs.pin k hk p e
end
end Ab
end Go.Proofs.YtlbainbjlibfiaaDoor
namespace Go.Proofs.YtlbainbjlibfiaaDoor
open Go.RowKit
namespace Ab
section
variable {P : Program} {te : List (TypeId × TyI)} {N nx0 : Nat} {tm : Tm} {ob : Obs} {nx : Nat} {Q : AQ}
theorem acode_isnil {q : Nat} {id : Nat} {ops : Array Oper} (pre : List Oper) (o : Oper) {x : Operand} {t e ty : TypeId} {d : Nat} {α : Type} {R : Rd α} {xs : List α} (hops : ops.toList = pre ++ [o]) (hop : o.op = .binOp .eql t x (.const (.slice none 0 0)) ty) (hd : o.dst = some d) (hg : o.guard = none)
    (hu : P.underlying t = some (.slice e)) (hN : Nat.ble (d + 1) N = true)
    (h : awp P te N nx0 ops.toList pre tm ob nx fun tm1 ob1 nx1 => look tm1 x = .one (.slk q R xs) ∧ ∀ b, (b = true → xs = []) → Q .normal ((d, ib b) :: tm1) ob1 nx1) : ACode P te N nx0 (.region id ops false) tm ob nx Q := by
  unfold ACode
  intro hte rd n cx hnr e1 e2 ρ a w hs
  subst e1 e2
  refine wpIn_region_list ?_
  rw [hops]
  refine awp_rest hte ops [o] pre h hs ?_
  rintro tm1 ob1 nx1 ρ1 a1 w1 ⟨hx, hq⟩ hs1
  have hv := hs1.look x
  rw [hx] at hv
  obtain ⟨ad, cap, hv, h1, h2, hc⟩ := hv
  have hrun : (execOp a1.eval o).run P w1 = .ok (.value (.bool ad.isNone)) w1 := by
    unfold execOp
    rw [hop]
    have hc2 : a1.eval (.const (.slice none 0 0)) = .slice none 0 0 := rfl
    simp only [hv, hc2]
    have hq2 := run_eql_slice_nil (P := P) w1 t e ad xs.length cap hu
    have hg2 : (eqGuard .eql t x (.const (.slice none 0 0)) (.slice ad xs.length cap) (.slice none 0 0)).run P w1 = .ok () w1 := rfl
    simp only [Sem.run_bind, hg2, Result.andThen_ok, hq2, Sem.run_pure]
  refine wpListIn_of hg (fun c e => by rw [hop] at e; cases e) (wp_value hrun ?_)
  have hb : ad.isNone = true → xs = [] := fun hn => by
    cases ad with
    | some y => cases hn
    | none =>
      cases xs with
      | nil => rfl
      | cons y r =>
        obtain ⟨_, _, _, hne, _⟩ := hc 0 (by simp)
        cases hne
  have hput : put cx.N (some d) (ib ad.isNone) tm1 (fun tm' => tm' = (d, ib ad.isNone) :: tm1) := by
    unfold put
    simp only
    rw [hN]
    trivial
  obtain ⟨tm', e3, h3⟩ := hs1.put hput (u := .bool ad.isNone) rfl
  subst e3
  rw [hd]
  unfold wpListIn
  exact ⟨_, _, _, _, hq _ hb, h3⟩
end
end Ab
end Go.Proofs.YtlbainbjlibfiaaDoor
namespace Go.Proofs.YtlbainbjlibfiaaDoor
open Go.ChangeShapes Go.WideShapes Go.ChangeAt Go.RowKit
namespace Base
section
variable {H : Type} {enc : TypeId × Value → H} {P : Program}
theorem trodAll_below (hl : laidOutB P = true) {W W' : World} (hb : Below W.heap.size W W') :
    ∀ {ts : List TypeId} {vs : List Value} {ds : List (DataW H)} {ps : List MemPlace}, (∀ t ∈ ts, P.readableRec t = true ∧ t < P.types.size) →
      (∀ x ∈ ps, x.block < W.heap.size) → DataW.TrodAll enc P W 0 (fun _ => true) true ts vs ds ps →
      DataW.TrodAll enc P W' 0 (fun b => decide (b < W.heap.size)) true ts vs ds ps
  | [], vs, ds, ps, _, _, h => by
    cases vs <;> cases ds <;> simp_all [DataW.TrodAll]
  | t :: ts, vs, ds, ps, hr, hlt, h => by
    obtain ⟨v, vs', d, ds', p, q, rfl, rfl, rfl, h1, h2⟩ := trodAll_cons h
    refine trodAll_cons_mk (Below.trod hl (hr t (by simp)).1 (hr t (by simp)).2 h1 hb (fun x hx => hlt x (by simp [hx]))) ?_
    exact trodAll_below hl hb (fun t' ht' => hr t' (by simp [ht'])) (fun x hx => hlt x (by simp [hx])) h2
theorem law_post {f : Func} {s : ChangeSpec} {W W' : World} {args : Array Value} {ds gs : List (DataW H)} {before : List MemPlace} {tb : TypeId}
    (hW : DataW.Whole enc P f.params.toList s.vars false W args.toList ds gs before) (hvars : s.vars = [])
    (hlo : laidOutB P = true) (hread : ∀ t ∈ f.params.toList, P.readableRec t = true ∧ t < P.types.size)
    (hspec : ∀ ds : List (DataW H), ds.length = f.params.size → s.fn H ds = { results := [.lit (.bool true)], args := ds })
    (hrt : f.resultTypes = #[tb]) (hbool : P.underlying tb = some .bool) (hb : Below W.heap.size W W') :
    s.post enc P f false true false false W args (.bool true) W' := by
  have hlt : ∀ p ∈ before, p.block < W.heap.size := fun p hp => hW.lt p hp
  have hold : ∀ p ∈ before, (fun b => decide (b < W.heap.size)) p.block = true := fun p hp => by simpa using hlt p hp
  have hW' := hW
  obtain ⟨p, q, hA, hV, rfl, hz, hn⟩ := hW'
  rw [hvars] at hV
  obtain ⟨rfl, rfl⟩ := trodVars_none hV
  have hlen : ds.length = f.params.size := by
    have : ∀ {ts : List TypeId} {vs : List Value} {ds : List (DataW H)} {ps : List MemPlace}, DataW.TrodAll enc P W 0 (fun _ => true) true ts vs ds ps → ds.length = ts.length := by
      intro ts
      induction ts with
      | nil => intro vs ds ps h; cases vs <;> cases ds <;> simp_all [DataW.TrodAll]
      | cons t ts ih =>
        intro vs ds ps h
        obtain ⟨v, vs', d, ds', p, q, rfl, rfl, rfl, h1, h2⟩ := trodAll_cons h
        simp [ih h2]
    simpa using this hA
  have hs := hspec (ds ++ []) (by simpa using hlen)
  have hA' := trodAll_below hlo hb hread (fun x hx => hlt x (by simp [hx])) hA
  refine ⟨ds, [], p ++ [], [], p, [], hW, ?_, ?_, ?_, World.keptBut_mono (fun x hx => ⟨hx, Or.inr (by simpa using hx)⟩) (hb.frame (· ∈ p ++ [])), fun h => by cases h⟩
  · rw [hs, hrt]
    exact trodAll_mk1 (shut_bool hbool _)
  · rw [hs]
    simpa using hA'
  · rw [hvars, hs]
    rfl
end
end Base
end Go.Proofs.YtlbainbjlibfiaaDoor
namespace Go.Proofs.YtlbainbjlibfiaaDoor
open Go.RowKit
namespace Ab
abbrev AllOk : Oks := fun _ _ => True
def Opens {α : Type} (P : Program) (t : TypeId) (R : Rd α) : Prop :=
  P.cellsOf t = R.n ∧ ∀ {H : Type} (enc : TypeId × Value → H) (w : World) (base fuel : Nat) (spare : Nat → Bool) (held : Bool) (cs : List Value) (x : DataW H × List MemPlace), DataW.trod enc P w base spare held fuel t cs = some x → ∃ a, R.is AllOk w cs a
theorem opens_str {P : Program} {t : TypeId} (ht : P.underlying t = some .string) (hc : P.cellsOf t = 1) : Opens P t .str :=
  ⟨hc, fun _ _ _ _ _ _ _ _ h => by obtain ⟨s, e, _, hs⟩ := DataW.trod_string ht h; exact ⟨s, e⟩⟩
inductive FO (P : Program) : List Field → Nat → {α : Type} → Rd α → Prop
  | one {f : Field} {off : Nat} {α : Type} {R : Rd α} : f.offset = off → Opens P f.type R → FO P [f] off R
  | cons {f : Field} {fs : List Field} {off : Nat} {α β : Type} {R : Rd α} {S : Rd β} : f.offset = off → Opens P f.type R → FO P fs (off + R.n) S → FO P (f :: fs) off (.st R S)
theorem fo_read {P : Program} {H : Type} {enc : TypeId × Value → H} {w : World} {base n : Nat} {spare : Nat → Bool} {held : Bool} {cs : List Value} : ∀ {fs : List Field} {off : Nat} {α : Type} {R : Rd α}, FO P fs off R →
    (∀ f ∈ fs, ∃ x, DataW.trod enc P w base spare held n f.type ((cs.drop f.offset).take (P.cellsOf f.type)) = some x) → cs.length = off + R.n → ∃ a, R.is AllOk w (cs.drop off) a
  | _, _, _, _, .one (f := f) (R := R) e h, hf, hl => by
    obtain ⟨x, hx⟩ := hf f (by simp)
    rw [e, h.1, List.take_of_length_le (by rw [List.length_drop]; omega)] at hx
    exact h.2 enc w base n spare held _ _ hx
  | _, _, _, _, .cons (f := f) (fs := fs) (off := off) (R := R) (S := S) e h hr, hf, hl => by
    obtain ⟨x, hx⟩ := hf f (by simp)
    rw [e, h.1] at hx
    obtain ⟨a, ha⟩ := h.2 enc w base n spare held _ _ hx
    obtain ⟨b, hb⟩ := fo_read hr (fun g hg => hf g (by simp [hg])) (by rw [hl]; show off + (R.n + S.n) = _; omega)
    rw [← List.drop_drop] at hb
    exact ⟨(a, b), _, _, (List.take_append_drop R.n (cs.drop off)).symm, ha, hb⟩
theorem opens_st {P : Program} {t : TypeId} {α : Type} {R : Rd α} {fs : Array Field} (ht : P.underlying t = some (.struct fs)) (hc : P.cellsOf t = R.n) (hf : FO P fs.toList 0 R) : Opens P t R :=
  ⟨hc, fun enc w base fuel spare held cs x h => by
    obtain ⟨xs, n, _, _, hl, hxl, he⟩ := DataW.trod_struct ht h
    have := fo_read (cs := cs) hf (fun f hm => by
      obtain ⟨i, hi, e⟩ := List.getElem_of_mem hm
      have hi' : i < xs.length := by rw [hxl]; simpa using hi
      have := he i f (by rw [← Array.getElem?_toList, List.getElem?_eq_getElem hi, e])
      rw [List.getElem?_eq_getElem hi'] at this
      exact ⟨_, this⟩) (by rw [hl, hc]; omega)
    rw [List.drop_zero] at this
    exact this⟩
theorem opens_sl {α : Type} {P : Program} {t e : TypeId} {R : Rd α} (hn : 0 < R.n) (ht : P.underlying t = some (.slice e)) (hc : P.cellsOf t = 1) (he : Opens P e R) : Opens P t (.sl R) :=
  ⟨hc, fun enc w base fuel spare held cs x h => by
    rcases Go.Deep.open_slice ht h with ⟨rfl, _⟩ | ⟨a, len, cap, m, n, D, Pl, rfl, _, hl, hm, hmm, rfl, hx⟩
    · exact ⟨[], _, rfl, none, 0, rfl, Nat.le_refl _, by unfold maxLen; omega, fun i h => absurd h (by simp)⟩
    · have hlm : len ≤ m := by rw [hmm]; split <;> omega
      have each : ∀ i, i < len → ∃ q : List Value × α, w.cells? base (a.add (i * P.cellsOf e)) (P.cellsOf e) = some q.1 ∧ R.is AllOk w q.1 q.2 := by
        intro i hi
        obtain ⟨cs', h1, h2⟩ := hx i (by omega)
        obtain ⟨y, hy⟩ := he.2 enc w base n spare held cs' _ h2
        exact ⟨(cs', y), h1, hy⟩
      by_cases h0 : len = 0
      · subst h0
        exact ⟨[], _, rfl, some a, cap, rfl, Nat.zero_le _, hm, fun i h => absurd h (by simp)⟩
      · obtain ⟨q0, _⟩ := each 0 (by omega)
        haveI : Inhabited (List Value × α) := ⟨q0⟩
        obtain ⟨f, hf⟩ := Go.Deep.choose_lt each
        refine ⟨(List.range len).map fun i => (f i).2, _, rfl, some a, cap, by simp, by simpa using hl, hm, fun i hi => ?_⟩
        have hi' : i < len := by simpa using hi
        obtain ⟨hc1, hr1⟩ := hf i hi'
        obtain ⟨_, hlen, hcell⟩ := World.cells?_some hc1
        have hspot : a.spot = none := by
          obtain ⟨hc0, hr0⟩ := hf 0 (by omega)
          obtain ⟨_, hlen0, hcell0⟩ := World.cells?_some hc0
          have hg := hcell0 0 (by rw [he.1]; exact hn)
          rw [List.getElem?_eq_getElem (by rw [hlen0, he.1]; exact hn)] at hg
          have := World.cell?_spot hg
          simpa [Addr.add] using this
        have hg0 := hcell 0 (by rw [he.1]; exact hn)
        rw [List.getElem?_eq_getElem (by rw [hlen, he.1]; exact hn)] at hg0
        obtain ⟨u0, hg0⟩ : ∃ u, w.cell? ((a.add (i * P.cellsOf e)).add 0) = some u := ⟨_, hg0⟩
        obtain ⟨b, off, spot⟩ := a
        simp only at hspot
        subst hspot
        have hb : b < w.heap.size := by
          rcases Nat.lt_or_ge b w.heap.size with h' | h'
          · exact h'
          · exfalso
            rw [Go.Deep.add_add, he.1, Go.WideShapes.add_plain] at hg0
            simp only [World.cell?, Array.getElem?_eq_none h'] at hg0
            cases hg0
        refine ⟨b, off, (f i).1, rfl, okU0 trivial, hb, ⟨by rw [hlen, he.1], fun j hj => ?_⟩, by simpa using hr1⟩
        have hg := hcell j (by rw [he.1]; exact hj)
        rw [Go.Deep.add_add, he.1, Go.WideShapes.add_plain, ← Nat.add_assoc] at hg
        exact hg⟩
theorem open_sl {P : Program} {α : Type} {R : Rd α} {t : TypeId} {e : TypeId} (hu : P.underlying t = some (.slice e)) (ho : Opens P t (.sl R)) {H : Type} {enc : TypeId × Value → H} {W : World} {base : Nat} {v : Value} {d : DataW H} {p : List MemPlace} (hv : Value.okWide P W .any base t v)
    (h : DataW.Trod enc P W 0 (fun _ => true) true t v d p) : ∃ xs : List α, (C.sl R xs).rep AllOk noNames W v := by
  obtain ⟨a0, len, cap, rfl⟩ := Go.WideShapes.okWide_slice hu hv
  obtain ⟨fuel, hf⟩ := h
  obtain ⟨xs, v, hc, hs⟩ := ho.2 enc W _ _ _ _ _ _ hf
  simp only [Value.cells, List.cons.injEq, and_true] at hc
  subst hc
  exact ⟨xs, hs⟩
theorem handed_laid {H : Type} {enc : TypeId × Value → H} {a : Assume} {C : Checked} {os : Os} {f : FuncId} {fn : Func} {s : ChangeSpec} {conds : List PathCond} {apart fresh handsOn again : Bool} {X : World → Array Value → Prop}
    (_hX : ∀ (w w' : World) (args : Array Value), w.heap = w'.heap → X w args → X w' args)
    (own : ownKnob C.prog.godebug = none) (started : os.Started) (noInit : C.prog.inits.idxOf? f = none) (hfn : C.prog.funcs[f]? = some fn)
    (witness : ∃ (w : World) (tape : Tape) (i : Input), w.os = os ∧ (w.forCall tape i).Shaped C.prog ∧ i.vars = [] ∧ Input.okWide C.prog (w.forCall tape i) .any w.heap.size f i ∧
      ((s.pre enc C.prog fn conds apart (w.forCall tape i).memory i.args ∧ X (w.forCall tape i).memory i.args) ∧ sizedMet enc C.prog fn (OpenSpec.ofChange s) apart (w.forCall tape i).memory i.args) ∧ a.holds C.prog (lone (Frame.enter C.prog f i.args .normal) [] (w.forCall tape i)))
    (contract : ∀ (W : World) (base : Nat) (args : Array Value) (ds gs : List (DataW H)) (before : List MemPlace),
      (∀ (j : Nat) t v, fn.params[j]? = some t → args[j]? = some v → Value.okWide C.prog W .any base t v) →
      DataW.Whole enc C.prog fn.params.toList s.vars apart W args.toList ds gs before → W.ShapedOpen C.prog →
      Calls C.prog f args W fun e W' => ∃ v, e = .returned v ∧ s.post enc C.prog fn apart fresh handsOn again W args v W') :
    ReturnsInHanded a C os f .any (fun w args => (s.pre enc C.prog fn conds apart w args ∧ X w args) ∧ sizedMet enc C.prog fn (OpenSpec.ofChange s) apart w args) (s.post enc C.prog fn apart fresh handsOn again) := by
  refine returnsInHanded_of_calls own started noInit witness ?_
  intro w tape i _ hsh _ hok hpre _
  obtain ⟨_, _, _, g, hg, _, _, _, _, hval⟩ := hok
  obtain rfl : g = fn := Option.some.inj (hg.symm.trans hfn)
  obtain ⟨⟨⟨ds, gs, before, hw, _⟩, _⟩, _⟩ := hpre
  refine (contract _ w.heap.size i.args ds gs before hval (DataW.Whole.of_heap (w' := w.forCall tape i) (by rfl) hw) hsh).mono fun e W' ⟨v, he, hp⟩ => ?_
  subst he
  exact ChangeSpec.post_blind hp
end Ab
end Go.Proofs.YtlbainbjlibfiaaDoor
