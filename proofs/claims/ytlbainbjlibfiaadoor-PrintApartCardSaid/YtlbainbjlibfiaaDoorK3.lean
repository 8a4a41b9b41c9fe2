/-
  The texts of this proof, joined: abstract values, the library, the functions of the program and what they compute (part 3). No condition.
-/
import Derived.ChangeArms
import Derived.Deep.Slices
import Derived.WideShapes
import Derived.Handed
import Derived.SizedLaws
import Derived.Test.YtlbainbjlibfiaaDoorK1
import Derived.Test.YtlbainbjlibfiaaDoorK2
namespace Go.Proofs.YtlbainbjlibfiaaDoor
open Go.RowKit
namespace Ab
abbrev AllOk : Oks := fun _ _ => True
def Opens {α : Type} (P : Program) (t : TypeId) (R : Rd α) : Prop :=
  P.cellsOf t = R.n ∧ ∀ {H : Type} (enc : TypeId × Value → H) (w : World) (base fuel : Nat) (spare : Nat → Bool) (held : Bool) (cs : List Value) (x : DataW H × List MemPlace), DataW.trod enc P w base spare held fuel t cs = some x → ∃ a, R.is AllOk w cs a
theorem opens_str {P : Program} {t : TypeId} (ht : P.underlying t = some .string) (hc : P.cellsOf t = 1) : Opens P t .str :=
  ⟨hc, fun _ _ _ _ _ _ _ _ h => by obtain ⟨s, e, _, hs⟩ := DataW.trod_string ht h; exact ⟨s, e⟩⟩
theorem opens_int {P : Program} {t : TypeId} {k : IntKind} (ht : P.underlying t = some (.int k)) (hc : P.cellsOf t = 1) : Opens P t (.int k) :=
  ⟨hc, fun _ _ _ _ _ _ _ _ h => by obtain ⟨s, e, _⟩ := DataW.trod_int ht h; exact ⟨s, e⟩⟩
inductive FO (P : Program) : List Field → Nat → {α : Type} → Rd α → Prop
  | one {f : Field} {off : Nat} {α : Type} {R : Rd α} : f.offset = off → Opens P f.type R → FO P [f] off R
  | cons {f : Field} {fs : List Field} {off : Nat} {α β : Type} {R : Rd α} {S : Rd β} : f.offset = off → Opens P f.type R → FO P fs (off + R.n) S → FO P (f :: fs) off (.st R S)
theorem fo_read {P : Program} {H : Type} {enc : TypeId × Value → H} {w : World} {base n : Nat} {spare : Nat → Bool} {held : Bool} {cs : List Value} : ∀ {fs : List Field} {off : Nat} {α : Type} {R : Rd α}, FO P fs off R →
    (∀ f ∈ fs, ∃ x, DataW.trod enc P w base spare held n f.type ((cs.drop f.offset).take (P.cellsOf f.type)) = some x) → cs.length = off + R.n → ∃ a, R.is AllOk w (cs.drop off) a
  | _, _, _, _, .one (f := f) (R := R) e h, hf, hl => by
    obtain ⟨x, hx⟩ := hf f (by simp)
    rw [e, h.1, List.take_of_length_le (by rw [List.length_drop]; omega)] at hx
    exact h.2 enc w base n spare held _ _ hx
  | _, _, _, _, .cons (f := f) (fs := fs) (off := off) (R := R) (S := S) e h hr, hf, hl => by
    obtain ⟨x, hx⟩ := hf f (by simp)
    rw [e, h.1] at hx
    obtain ⟨a, ha⟩ := h.2 enc w base n spare held _ _ hx
    obtain ⟨b, hb⟩ := fo_read hr (fun g hg => hf g (by simp [hg])) (by rw [hl]; show off + (R.n + S.n) = _; omega)
    rw [← List.drop_drop] at hb
    exact ⟨(a, b), _, _, (List.take_append_drop R.n (cs.drop off)).symm, ha, hb⟩
theorem opens_st {P : Program} {t : TypeId} {α : Type} {R : Rd α} {fs : Array Field} (ht : P.underlying t = some (.struct fs)) (hc : P.cellsOf t = R.n) (hf : FO P fs.toList 0 R) : Opens P t R :=
  ⟨hc, fun enc w base fuel spare held cs x h => by
    obtain ⟨xs, n, _, _, hl, hxl, he⟩ := DataW.trod_struct ht h
    have := fo_read (cs := cs) hf (fun f hm => by
      obtain ⟨i, hi, e⟩ := List.getElem_of_mem hm
      have hi' : i < xs.length := by rw [hxl]; simpa using hi
      have := he i f (by rw [← Array.getElem?_toList, List.getElem?_eq_getElem hi, e])
      rw [List.getElem?_eq_getElem hi'] at this
      exact ⟨_, this⟩) (by rw [hl, hc]; omega)
    rw [List.drop_zero] at this
    exact this⟩
theorem opens_sl {α : Type} {P : Program} {t e : TypeId} {R : Rd α} (hn : 0 < R.n) (ht : P.underlying t = some (.slice e)) (hc : P.cellsOf t = 1) (he : Opens P e R) : Opens P t (.sl R) :=
  ⟨hc, fun enc w base fuel spare held cs x h => by
    rcases Go.Deep.open_slice ht h with ⟨rfl, _⟩ | ⟨a, len, cap, m, n, D, Pl, rfl, _, hl, hm, hmm, rfl, hx⟩
    · exact ⟨[], _, rfl, none, 0, rfl, Nat.le_refl _, by unfold maxLen; omega, fun i h => absurd h (by simp)⟩
    · have hlm : len ≤ m := by rw [hmm]; split <;> omega
      have each : ∀ i, i < len → ∃ q : List Value × α, w.cells? base (a.add (i * P.cellsOf e)) (P.cellsOf e) = some q.1 ∧ R.is AllOk w q.1 q.2 := by
        intro i hi
        obtain ⟨cs', h1, h2⟩ := hx i (by omega)
        obtain ⟨y, hy⟩ := he.2 enc w base n spare held cs' _ h2
        exact ⟨(cs', y), h1, hy⟩
      by_cases h0 : len = 0
      · subst h0
        exact ⟨[], _, rfl, some a, cap, rfl, Nat.zero_le _, hm, fun i h => absurd h (by simp)⟩
      · obtain ⟨q0, _⟩ := each 0 (by omega)
        haveI : Inhabited (List Value × α) := ⟨q0⟩
        obtain ⟨f, hf⟩ := Go.Deep.choose_lt each
        refine ⟨(List.range len).map fun i => (f i).2, _, rfl, some a, cap, by simp, by simpa using hl, hm, fun i hi => ?_⟩
        have hi' : i < len := by simpa using hi
        obtain ⟨hc1, hr1⟩ := hf i hi'
        obtain ⟨_, hlen, hcell⟩ := World.cells?_some hc1
        have hspot : a.spot = none := by
          obtain ⟨hc0, hr0⟩ := hf 0 (by omega)
          obtain ⟨_, hlen0, hcell0⟩ := World.cells?_some hc0
          have hg := hcell0 0 (by rw [he.1]; exact hn)
          rw [List.getElem?_eq_getElem (by rw [hlen0, he.1]; exact hn)] at hg
          have := World.cell?_spot hg
          simpa [Addr.add] using this
        have hg0 := hcell 0 (by rw [he.1]; exact hn)
        rw [List.getElem?_eq_getElem (by rw [hlen, he.1]; exact hn)] at hg0
        obtain ⟨u0, hg0⟩ : ∃ u, w.cell? ((a.add (i * P.cellsOf e)).add 0) = some u := ⟨_, hg0⟩
        obtain ⟨b, off, spot⟩ := a
        simp only at hspot
        subst hspot
        have hb : b < w.heap.size := by
          rcases Nat.lt_or_ge b w.heap.size with h' | h'
          · exact h'
          · exfalso
            rw [Go.Deep.add_add, he.1, Go.WideShapes.add_plain] at hg0
            simp only [World.cell?, Array.getElem?_eq_none h'] at hg0
            cases hg0
        refine ⟨b, off, (f i).1, rfl, okU0 trivial, hb, ⟨by rw [hlen, he.1], fun j hj => ?_⟩, by simpa using hr1⟩
        have hg := hcell j (by rw [he.1]; exact hj)
        rw [Go.Deep.add_add, he.1, Go.WideShapes.add_plain, ← Nat.add_assoc] at hg
        exact hg⟩
theorem open_sl {P : Program} {α : Type} {R : Rd α} {t : TypeId} {e : TypeId} (hu : P.underlying t = some (.slice e)) (ho : Opens P t (.sl R)) {H : Type} {enc : TypeId × Value → H} {W : World} {base : Nat} {v : Value} {d : DataW H} {p : List MemPlace} (hv : Value.okWide P W .any base t v)
    (h : DataW.Trod enc P W 0 (fun _ => true) true t v d p) : ∃ xs : List α, (C.sl R xs).rep AllOk noNames W v := by
  obtain ⟨a0, len, cap, rfl⟩ := Go.WideShapes.okWide_slice hu hv
  obtain ⟨fuel, hf⟩ := h
  obtain ⟨xs, v, hc, hs⟩ := ho.2 enc W _ _ _ _ _ _ hf
  simp only [Value.cells, List.cons.injEq, and_true] at hc
  subst hc
  exact ⟨xs, hs⟩
theorem handed_laid {H : Type} {enc : TypeId × Value → H} {a : Assume} {C : Checked} {os : Os} {f : FuncId} {fn : Func} {s : ChangeSpec} {conds : List PathCond} {apart fresh handsOn again : Bool} {X : World → Array Value → Prop}
    (_hX : ∀ (w w' : World) (args : Array Value), w.heap = w'.heap → X w args → X w' args)
    (own : ownKnob C.prog.godebug = none) (started : os.Started) (noInit : C.prog.inits.idxOf? f = none) (hfn : C.prog.funcs[f]? = some fn)
    (witness : ∃ (w : World) (tape : Tape) (i : Input), w.os = os ∧ (w.forCall tape i).Shaped C.prog ∧ i.vars = [] ∧ Input.okWide C.prog (w.forCall tape i) .any w.heap.size f i ∧
      ((s.pre enc C.prog fn conds apart (w.forCall tape i).memory i.args ∧ X (w.forCall tape i).memory i.args) ∧ sizedMet enc C.prog fn (OpenSpec.ofChange s) apart (w.forCall tape i).memory i.args) ∧ a.holds C.prog (lone (Frame.enter C.prog f i.args .normal) [] (w.forCall tape i)))
    (contract : ∀ (W : World) (base : Nat) (args : Array Value) (ds gs : List (DataW H)) (before : List MemPlace),
      (∀ (j : Nat) t v, fn.params[j]? = some t → args[j]? = some v → Value.okWide C.prog W .any base t v) →
      DataW.Whole enc C.prog fn.params.toList s.vars apart W args.toList ds gs before → W.ShapedOpen C.prog →
      Calls C.prog f args W fun e W' => ∃ v, e = .returned v ∧ s.post enc C.prog fn apart fresh handsOn again W args v W') :
    ReturnsInHanded a C os f .any (fun w args => (s.pre enc C.prog fn conds apart w args ∧ X w args) ∧ sizedMet enc C.prog fn (OpenSpec.ofChange s) apart w args) (s.post enc C.prog fn apart fresh handsOn again) := by
  refine returnsInHanded_of_calls own started noInit witness ?_
  intro w tape i _ hsh _ hok hpre _
  obtain ⟨_, _, _, g, hg, _, _, _, _, hval⟩ := hok
  obtain rfl : g = fn := Option.some.inj (hg.symm.trans hfn)
  obtain ⟨⟨⟨ds, gs, before, hw, _⟩, _⟩, _⟩ := hpre
  refine (contract _ w.heap.size i.args ds gs before hval (DataW.Whole.of_heap (w' := w.forCall tape i) (by rfl) hw) hsh).mono fun e W' ⟨v, he, hp⟩ => ?_
  subst he
  exact ChangeSpec.post_blind hp
end Ab
end Go.Proofs.YtlbainbjlibfiaaDoor
