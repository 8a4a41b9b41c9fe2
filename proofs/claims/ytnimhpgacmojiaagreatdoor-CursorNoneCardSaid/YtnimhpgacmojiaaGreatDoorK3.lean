/-
  The texts of this proof, joined: abstract values, the library, the functions of the program and what they compute (part 3). No condition.
-/
import Derived.ProofKit
import Derived.Below
import Derived.ChangeSame
import Derived.OpenShut
import Derived.Carry
import Derived.ChangeArms
import Derived.Deep.Slices
import Derived.WideShapes
import Derived.Handed
import Derived.SizedLaws
import Derived.Test.YtnimhpgacmojiaaGreatDoorK1
import Derived.Test.YtnimhpgacmojiaaGreatDoorK2
namespace Go.Proofs.YtnimhpgacmojiaaGreatDoor
open Go.RowKit
namespace Ab
def retOC (te : List (TypeId × TyI)) (K t : Nat) (ty : TypeId) (u : Nat) (r : A) (m : Nat) (ob' : Obs) (m' : Nat) : AQ := fun e tm ob nx => match e with
  | .ret => match cellV te ob ty (get tm t) with
    | some v => retOK [K, u] r m ob' m' ((K, v) :: tm) ob nx
    | none => False
  | _ => False
section
variable {P : Program} {te : List (TypeId × TyI)} {ob : Obs}
theorem acallo_ofc {f : FuncId} {fn : Func} {c : Code} {args : List A} {t u : Nat} {ty : TypeId} {r : A} {m : Nat} {ob' : Obs} {m' : Nat} (hf : P.funcs[f]? = some fn) (hb : fn.body = some c) (hname : (fn.name == "runtime.NumGoroutine") = false)
    (hr : fn.results = #[.cell t ty, .tmp u]) (hte : TEok P te) (hu : Nat.ble (u + 1) fn.ntmps = true) (hn : Nat.ble args.length fn.ntmps = true) (h : ACode P te fn.ntmps m c (argT 0 args) ob m (retOC te fn.ntmps t ty u r m ob' m')) : ACallO P f args ob m r ob' m' := by
  refine ⟨⟨fn, hf, by rw [hb]; rfl, hname⟩, fun cx ρ w vs hN hnx hw hs hvs => callsIn_wide.1 (callsIn_of_wp_marks (F := FR none) (n := 0) hf hb trivial ?_)⟩
  have hlen := RepAs.len hvs
  have hn := Nat.le_of_ble_eq_true hn
  have hu := Nat.le_of_ble_eq_true hu
  let a0 : Act := { tmps := vs.toArray ++ Array.replicate (fn.ntmps - vs.toArray.size) undef, defers := [] }
  have hs0 : StOk { cx with N := fn.ntmps } (argT 0 args) ob m ρ a0 w := by
    refine hs.anyN ?_ (DefOk.none hN.2.2) fun i => ?_
    · show (vs.toArray ++ Array.replicate (fn.ntmps - vs.toArray.size) undef).size = fn.ntmps
      simp
      omega
    · rcases argT_get 0 i hvs with h1 | h1
      · have hcell : (vs.toArray ++ Array.replicate (fn.ntmps - vs.toArray.size) undef).getD i undef = if i < 0 then undef else vs.getD (i - 0) undef := by
          rw [if_neg (Nat.not_lt_zero _), Nat.sub_zero, Array.getD_eq_getD_getElem?, Array.getElem?_append]
          split
          · simp [List.getD]
          · rename_i hge
            rw [Array.getElem?_replicate]
            simp only [List.size_toArray] at hge ⊢
            rw [List.getD, List.getElem?_eq_none (by omega)]
            split <;> rfl
        show (get (argT 0 args) i).rep _ _ _ ((vs.toArray ++ Array.replicate (fn.ntmps - vs.toArray.size) undef).getD i undef)
        rw [hcell]
        exact h1
      · rw [h1]; trivial
  unfold ACode at h
  refine Code.wpIn_mono ?_ (h hte none 0 { cx with N := fn.ntmps } (noR_free hN.2.1 hN.2.2) rfl hnx ρ a0 w hs0)
  rintro e a' w0' ⟨tm', ob1, nx', ρ', hq, hs0'⟩
  cases e with
  | ret =>
    refine StOk.unwind hs0' hN.2.1 hN.2.2 fun w' hs' => ?_
    simp only [retOC] at hq
    split at hq
    · rename_i v hv
      obtain ⟨ad, x, g1, g2, g3⟩ := cell_load hte hs' hv
      obtain ⟨h1, h2, h3⟩ := hq
      have hsz : a'.tmps.size = fn.ntmps := hs'.size
      have hs4 : StOk { cx with N := fn.ntmps + 1 } ((fn.ntmps, v) :: tm') ob1 nx' ρ' ⟨a'.tmps.push x, []⟩ w' := by
        have := hs'.anyN (N := fn.ntmps + 1) (tm' := (fn.ntmps, v) :: tm') (a' := ⟨a'.tmps.push x, []⟩) (by simp [hsz]) (DefOk.none hN.2.2) (fun i => by
          rw [get_cons]
          split
          · rename_i e
            have e := Nat.eq_of_beq_eq_true e
            subst e
            rw [show (a'.tmps.push x).getD fn.ntmps undef = x from by simp [Array.getD_eq_getD_getElem?, ← hsz]]
            exact g3
          · rename_i e
            have hne : i ≠ fn.ntmps := fun e' => by rw [e'] at e; simp at e
            have : (a'.tmps.push x).getD i undef = a'.tmps.getD i undef := by
              rw [Array.getD_eq_getD_getElem?, Array.getD_eq_getD_getElem?, Array.getElem?_push, if_neg (by rw [hsz]; exact hne)]
            rw [this]
            exact hs'.tms i)
        exact this
      obtain ⟨ρ2, hs2⟩ := (le_of (nx0 := m) keepT_le h2 h3).st { cx with N := fn.ntmps + 1 } hnx ρ' _ w' hs4
      have hs3 : StOk cx [] ob' m' ρ2 ⟨#[], []⟩ w' := by
        have := hs2.anyN (N := cx.N) (tm' := []) (a' := ⟨#[], []⟩) (by rw [hN.1]; rfl) (DefOk.none hN.2.2) (fun _ => trivial)
        exact this
      have r1 := hs2.tms fn.ntmps
      rw [keepT_get (by simp), get_cons] at r1
      have r2 := hs2.tms u
      rw [keepT_get (by simp)] at r2
      have e1 : (a'.tmps.push x).getD fn.ntmps undef = x := by simp [Array.getD_eq_getD_getElem?, ← hsz]
      have e2 : (a'.tmps.push x).getD u undef = a'.tmps.getD u undef := by
        rw [Array.getD_eq_getD_getElem?, Array.getD_eq_getD_getElem?, Array.getElem?_push, if_neg (by omega)]
      have r1' : (get ((fn.ntmps, v) :: tm') fn.ntmps).rep (okOf cx ρ2 ob') ρ2 w' x := by rw [get_cons, ← e1]; exact r1
      have r2' : (get ((fn.ntmps, v) :: tm') u).rep (okOf cx ρ2 ob') ρ2 w' (a'.tmps.getD u undef) := by rw [← e2]; exact r2
      subst h1
      refine ⟨.tuple #[x, a'.tmps.getD u undef], ?_, _, ρ2, rfl, hs3, [_, _], rfl, _, _, rfl, cellsB_rep r1', _, _, rfl, cellsB_rep r2', rfl⟩
      rw [results_cell_tmp hr]
      simp only [Result.andThen, g1, g2]
    · exact hq.elim
  | normal => exact (show False from hq).elim
  | exit i => exact (show False from hq).elim
  | goto l => exact (show False from hq).elim
  | panic ch => exact (show False from hq).elim
  | outgrown => exact (show False from hq).elim
end
end Ab
end Go.Proofs.YtnimhpgacmojiaaGreatDoor
namespace Go.Proofs.YtnimhpgacmojiaaGreatDoor
open Go.ChangeShapes Go.WideShapes Go.ChangeAt Go.RowKit
namespace Base
section
variable {H : Type} {enc : TypeId × Value → H} {P : Program}
theorem trodAll_below (hl : laidOutB P = true) {W W' : World} (hb : Below W.heap.size W W') :
    ∀ {ts : List TypeId} {vs : List Value} {ds : List (DataW H)} {ps : List MemPlace}, (∀ t ∈ ts, P.readableRec t = true ∧ t < P.types.size) →
      (∀ x ∈ ps, x.block < W.heap.size) → DataW.TrodAll enc P W 0 (fun _ => true) true ts vs ds ps →
      DataW.TrodAll enc P W' 0 (fun b => decide (b < W.heap.size)) true ts vs ds ps
  | [], vs, ds, ps, _, _, h => by
    cases vs <;> cases ds <;> simp_all [DataW.TrodAll]
  | t :: ts, vs, ds, ps, hr, hlt, h => by
    obtain ⟨v, vs', d, ds', p, q, rfl, rfl, rfl, h1, h2⟩ := trodAll_cons h
    refine trodAll_cons_mk (Below.trod hl (hr t (by simp)).1 (hr t (by simp)).2 h1 hb (fun x hx => hlt x (by simp [hx]))) ?_
    exact trodAll_below hl hb (fun t' ht' => hr t' (by simp [ht'])) (fun x hx => hlt x (by simp [hx])) h2
theorem law_post {f : Func} {s : ChangeSpec} {W W' : World} {args : Array Value} {ds gs : List (DataW H)} {before : List MemPlace} {tb : TypeId}
    (hW : DataW.Whole enc P f.params.toList s.vars false W args.toList ds gs before) (hvars : s.vars = [])
    (hlo : laidOutB P = true) (hread : ∀ t ∈ f.params.toList, P.readableRec t = true ∧ t < P.types.size)
    (hspec : ∀ ds : List (DataW H), ds.length = f.params.size → s.fn H ds = { results := [.lit (.bool true)], args := ds })
    (hrt : f.resultTypes = #[tb]) (hbool : P.underlying tb = some .bool) (hb : Below W.heap.size W W') :
    s.post enc P f false true false false W args (.bool true) W' := by
  have hlt : ∀ p ∈ before, p.block < W.heap.size := fun p hp => hW.lt p hp
  have hold : ∀ p ∈ before, (fun b => decide (b < W.heap.size)) p.block = true := fun p hp => by simpa using hlt p hp
  have hW' := hW
  obtain ⟨p, q, hA, hV, rfl, hz, hn⟩ := hW'
  rw [hvars] at hV
  obtain ⟨rfl, rfl⟩ := trodVars_none hV
  have hlen : ds.length = f.params.size := by
    have : ∀ {ts : List TypeId} {vs : List Value} {ds : List (DataW H)} {ps : List MemPlace}, DataW.TrodAll enc P W 0 (fun _ => true) true ts vs ds ps → ds.length = ts.length := by
      intro ts
      induction ts with
      | nil => intro vs ds ps h; cases vs <;> cases ds <;> simp_all [DataW.TrodAll]
      | cons t ts ih =>
        intro vs ds ps h
        obtain ⟨v, vs', d, ds', p, q, rfl, rfl, rfl, h1, h2⟩ := trodAll_cons h
        simp [ih h2]
    simpa using this hA
  have hs := hspec (ds ++ []) (by simpa using hlen)
  have hA' := trodAll_below hlo hb hread (fun x hx => hlt x (by simp [hx])) hA
  refine ⟨ds, [], p ++ [], [], p, [], hW, ?_, ?_, ?_, World.keptBut_mono (fun x hx => ⟨hx, Or.inr (by simpa using hx)⟩) (hb.frame (· ∈ p ++ [])), fun h => by cases h⟩
  · rw [hs, hrt]
    exact trodAll_mk1 (shut_bool hbool _)
  · rw [hs]
    simpa using hA'
  · rw [hvars, hs]
    rfl
end
end Base
end Go.Proofs.YtnimhpgacmojiaaGreatDoor
namespace Go.Proofs.YtnimhpgacmojiaaGreatDoor
open Go.RowKit
namespace Ab
abbrev AllOk : Oks := fun _ _ => True
def Opens {α : Type} (P : Program) (t : TypeId) (R : Rd α) : Prop :=
  P.cellsOf t = R.n ∧ ∀ {H : Type} (enc : TypeId × Value → H) (w : World) (base fuel : Nat) (spare : Nat → Bool) (held : Bool) (cs : List Value) (x : DataW H × List MemPlace), DataW.trod enc P w base spare held fuel t cs = some x → ∃ a, R.is AllOk w cs a
inductive FO (P : Program) : List Field → Nat → {α : Type} → Rd α → Prop
  | one {f : Field} {off : Nat} {α : Type} {R : Rd α} : f.offset = off → Opens P f.type R → FO P [f] off R
  | cons {f : Field} {fs : List Field} {off : Nat} {α β : Type} {R : Rd α} {S : Rd β} : f.offset = off → Opens P f.type R → FO P fs (off + R.n) S → FO P (f :: fs) off (.st R S)
theorem handed_laid {H : Type} {enc : TypeId × Value → H} {a : Assume} {C : Checked} {os : Os} {f : FuncId} {fn : Func} {s : ChangeSpec} {conds : List PathCond} {apart fresh handsOn again : Bool} {X : World → Array Value → Prop}
    (_hX : ∀ (w w' : World) (args : Array Value), w.heap = w'.heap → X w args → X w' args)
    (own : ownKnob C.prog.godebug = none) (started : os.Started) (noInit : C.prog.inits.idxOf? f = none) (hfn : C.prog.funcs[f]? = some fn)
    (witness : ∃ (w : World) (tape : Tape) (i : Input), w.os = os ∧ (w.forCall tape i).Shaped C.prog ∧ i.vars = [] ∧ Input.okWide C.prog (w.forCall tape i) .any w.heap.size f i ∧
      ((s.pre enc C.prog fn conds apart (w.forCall tape i).memory i.args ∧ X (w.forCall tape i).memory i.args) ∧ sizedMet enc C.prog fn (OpenSpec.ofChange s) apart (w.forCall tape i).memory i.args) ∧ a.holds C.prog (lone (Frame.enter C.prog f i.args .normal) [] (w.forCall tape i)))
    (contract : ∀ (W : World) (base : Nat) (args : Array Value) (ds gs : List (DataW H)) (before : List MemPlace),
      (∀ (j : Nat) t v, fn.params[j]? = some t → args[j]? = some v → Value.okWide C.prog W .any base t v) →
      DataW.Whole enc C.prog fn.params.toList s.vars apart W args.toList ds gs before → W.ShapedOpen C.prog →
      Calls C.prog f args W fun e W' => ∃ v, e = .returned v ∧ s.post enc C.prog fn apart fresh handsOn again W args v W') :
    ReturnsInHanded a C os f .any (fun w args => (s.pre enc C.prog fn conds apart w args ∧ X w args) ∧ sizedMet enc C.prog fn (OpenSpec.ofChange s) apart w args) (s.post enc C.prog fn apart fresh handsOn again) := by
  refine returnsInHanded_of_calls own started noInit witness ?_
  intro w tape i _ hsh _ hok hpre _
  obtain ⟨_, _, _, g, hg, _, _, _, _, hval⟩ := hok
  obtain rfl : g = fn := Option.some.inj (hg.symm.trans hfn)
  obtain ⟨⟨⟨ds, gs, before, hw, _⟩, _⟩, _⟩ := hpre
  refine (contract _ w.heap.size i.args ds gs before hval (DataW.Whole.of_heap (w' := w.forCall tape i) (by rfl) hw) hsh).mono fun e W' ⟨v, he, hp⟩ => ?_
  subst he
  exact ChangeSpec.post_blind hp
end Ab
end Go.Proofs.YtnimhpgacmojiaaGreatDoor
