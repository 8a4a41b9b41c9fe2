/-
  The operations that read memory, and those on strings, slices, tuples, interfaces, abstractly. Over any program; no condition.
-/
import Derived.Test.YthlfbpmbkcoclaaDoorAbPure
namespace Go.Proofs.YthlfbpmbkcoclaaDoor
open Go.RowKit
namespace Ab

def lenC : List C → Nat
  | [] => 0
  | _ :: r => lenC r + 1
theorem lenC_eq : ∀ cs : List C, lenC cs = cs.length
  | [] => rfl
  | _ :: r => by rw [lenC, lenC_eq r]; rfl
def dropC : Nat → List C → List C
  | 0, cs => cs
  | _ + 1, [] => []
  | n + 1, _ :: r => dropC n r
def takeC : Nat → List C → List C
  | 0, _ => []
  | _ + 1, [] => []
  | n + 1, c :: r => c :: takeC n r
theorem dropC_eq : ∀ (n : Nat) (cs : List C), dropC n cs = cs.drop n
  | 0, _ => rfl
  | _ + 1, [] => rfl
  | n + 1, _ :: r => dropC_eq n r
theorem takeC_eq : ∀ (n : Nat) (cs : List C), takeC n cs = cs.take n
  | 0, _ => rfl
  | _ + 1, [] => rfl
  | n + 1, c :: r => by rw [takeC, takeC_eq n r]; rfl

/-- An abstract cell, its make seen. -/
def C.see (c : C) : C := match c with
  | .any => .any
  | .lit v => .lit v
  | .sl R xs => .sl R xs
  | .full R xs => .full R xs
  | .addr R x => .addr R x
  | .own i o => .own i o
  | .vec i => .vec i
  | .vel i k n => .vel i k n
  | .ifc t c => .ifc t c
  | .clo f c => .clo f c
  | .ref c => .ref c
  | .nself u i => .nself u i
theorem C.see_eq (c : C) : c.see = c := by cases c <;> rfl
def okC (c : C) : Vr := match c with
  | .any => .bad
  | .lit v => .ok (.one (.lit v))
  | .sl R xs => .ok (.one (.sl R xs))
  | .full R xs => .ok (.one (.full R xs))
  | .addr R x => .ok (.one (.addr R x))
  | .own i o => .ok (.one (.own i o))
  | .vec i => .ok (.one (.vec i))
  | .vel i k n => .ok (.one (.vel i k n))
  | .ifc t c => .ok (.one (.ifc t c))
  | .clo f c => .ok (.one (.clo f c))
  | .ref c => .ok (.one (.ref c))
  | .nself _ _ => .bad

section
variable {P : Program} {te : List (TypeId × TyI)} {ok : Nat → Prop} {ρ : Nat → Option Value} {w : World}

theorem repL_drop : ∀ (n : Nat) {cs : List C} {vs : List Value}, repL ok ρ w cs vs → repL ok ρ w (cs.drop n) (vs.drop n)
  | 0, _, _, h => h
  | _ + 1, [], _, h => by rw [show _ = _ from h]; exact rfl
  | n + 1, _ :: _, _, h => by
    obtain ⟨v, r, e, _, h2⟩ := h
    rw [e]
    exact repL_drop n h2
theorem repL_take : ∀ (n : Nat) {cs : List C} {vs : List Value}, repL ok ρ w cs vs → repL ok ρ w (cs.take n) (vs.take n)
  | 0, _, _, _ => rfl
  | _ + 1, [], _, h => by rw [show _ = _ from h]; exact rfl
  | n + 1, _ :: _, _, h => by
    obtain ⟨v, r, e, h1, h2⟩ := h
    rw [e]
    exact ⟨v, r.take n, rfl, h1, repL_take n h2⟩

/-! ### Loads -/
def ldBox (i : TyI) (off : Nat) (cs : List C) : Vr :=
  match Nat.ble (off + i.size) (lenC cs) with
  | true => match i.k.agg with
    | true => match Nat.beq (lenC cs) i.size with
      | true => .ok (.agg cs)
      | false => .ok (.agg (takeC i.size (dropC off cs)))
    | false => okC (nthC cs off)
  | false => .bad
def ldTyp {α : Type} (i : TyI) (R : Rd α) (x : α) : Vr :=
  match Nat.beq R.n i.size with
  | true => match i.k.agg with
    | true => .ok (.agg (toL R x))
    | false => okC (toC R x)
  | false => .bad
def vLoad (te : List (TypeId × TyI)) (ob : List (Nat × Ob)) (t : TypeId) (x : A) : Vr :=
  match find te t with
  | some i => match x with
    | .one (.addr R x) => ldTyp i R x
    | .one (.ref c) => match i.k.agg with
      | false => okC c
      | true => .bad
    | .one (.own id off) => match getO ob id with
      | some (.box _ cs) => ldBox i off cs
      | _ => .bad
    | .one (.vel id k n) => match getO ob id with
      | some (.vec _ R xs) => match Nat.beq n R.n with
        | true => match ldTyp i R (xs.getD k R.dflt) with
          | .ok v => .need (k < xs.length) v
          | _ => .bad
        | false => .bad
      | _ => .bad
    | _ => .bad
  | none => .bad

theorem okC_obl {c : C} (_h : (okC c).obl) : (okC c).val = .one c ∧ (okC c).fact := by
  cases c <;> first | exact ⟨rfl, trivial⟩ | exact (show False from ‹_›).elim
theorem run_loadAt {t : TypeId} {a : Addr} : (Instr.loadAt t (.pointer (some a))).run P w = (loadVar t a).run P w := rfl

theorem ldTyp_sound {α : Type} {t : TypeId} {i : TyI} (hi : TyOk P t i) {R : Rd α} {x : α} {b off : Nat} {cs : List Value} (h : (ldTyp i R x).obl) (hc : CellsAt w b off R.n cs) (hr : R.is ok w cs x) :
    ∃ u, (loadVar t ⟨b, off, none⟩).run P w = .ok u w ∧ (ldTyp i R x).val.rep ok ρ w u ∧ (ldTyp i R x).fact := by
  unfold ldTyp at h ⊢
  split at h
  · rename_i hn
    have hn := Nat.eq_of_beq_eq_true hn
    rw [hn] at hc
    have hrun := run_loadVar hi hc
    refine ⟨_, hrun, ?_⟩
    cases hag : i.k.agg <;> simp only [hag] at h
    · have h1 : R.n = 1 := by rw [hn]; exact hi.size1 hag
      have hrep := toL_rep (ρ := ρ) R hr
      rw [toL_one R x h1] at hrep
      obtain ⟨v, r, e, hv, hr'⟩ := hrep
      obtain ⟨ho, hf⟩ := okC_obl h
      simp only [Bool.false_eq_true, if_false]
      rw [ho, e]
      exact ⟨hv, hf⟩
    · exact ⟨⟨cs, by simp, toL_rep R hr⟩, trivial⟩
  · exact h.elim

theorem cells_box {b : Nat} {T : TypeId} {vs : List Value} (hb : w.heap[b]? = some (.cells (vs.toArray : Array Value) T (0, 0))) (off n : Nat) (h : off + n ≤ vs.length) : CellsAt w b off n ((vs.drop off).take n) := by
  refine ⟨by simp; omega, fun j hj => ?_⟩
  simp only [World.cell?, hb, Option.isSome_none, Bool.false_eq_true, if_false, List.getElem?_toArray]
  rw [List.getElem?_take_of_lt hj, List.getElem?_drop]

theorem nth_drop (vs : List Value) (off : Nat) (v : Value) (h : vs[off]? = some v) : (vs.drop off).take 1 = [v] := by
  obtain ⟨hl, he⟩ := List.getElem?_eq_some_iff.1 h
  rw [List.drop_eq_getElem_cons hl, he]
  rfl
theorem vLoad_sound (hte : TEok P te) {ob : List (Nat × Ob)} {t : TypeId} {x : A} (h : (vLoad te ob t x).obl) {u : Value} (hx : x.rep ok ρ w u) (hob : ObsIs ok ρ w ob) :
    (vLoad te ob t x).Is P (Instr.loadAt t u) ok ρ w := by
  unfold vLoad at h ⊢
  split at h
  · rename_i i hi
    have hok := find_ok hte hi
    split at h
    · obtain ⟨b, off, cs, rfl, _, _, hc, hr⟩ := hx
      obtain ⟨v, h1, h2, h3⟩ := ldTyp_sound (ρ := ρ) hok h hc hr
      exact .quiet (by rw [run_loadAt]; exact h1) h2 h3
    · obtain ⟨b, off, z, rfl, _, _, hc, hr⟩ := hx
      cases hag : i.k.agg <;> simp only [hag] at h ⊢
      · have h1 := hok.size1 hag
        have hrun := run_loadVar hok (h1 ▸ hc)
        simp only [hag] at hrun
        obtain ⟨ho, hf⟩ := okC_obl h
        refine .quiet (u := z) (by rw [run_loadAt]; exact hrun) ?_ hf
        rw [ho]; exact hr
      · exact h.elim
    · rename_i id off
      obtain ⟨b, hρ, rfl⟩ := hx
      split at h
      · rename_i T cs hg
        have hbx := getO_is hob hg
        obtain ⟨b', vs, hρ', hb, hcs⟩ := hbx
        rw [hρ] at hρ'
        simp only [Option.some.injEq, Value.pointer.injEq, Addr.mk.injEq, and_true] at hρ'
        subst hρ'
        have hlen := repL.len hcs
        unfold ldBox at h ⊢
        split at h
        · rename_i hle
          have hle := Nat.le_of_ble_eq_true hle
          rw [lenC_eq, ← hlen] at hle
          have hc := cells_box hb off i.size hle
          have hrun := run_loadVar hok hc
          cases hag : i.k.agg <;> simp only [hag] at h hrun
          · have h1 := hok.size1 hag
            obtain ⟨v, hv, hv'⟩ := repL_nth off (by omega) hcs
            obtain ⟨ho, hf⟩ := okC_obl h
            refine .quiet (u := v) ?_ ?_ hf
            · rw [run_loadAt, hrun, h1, nth_drop vs off v hv]
              rfl
            · rw [ho]; exact hv'
          · split at h
            · rename_i hsz
              have hsz := Nat.eq_of_beq_eq_true hsz
              rw [lenC_eq] at hsz
              have h0 : off = 0 := by omega
              subst h0
              refine .quiet (by rw [run_loadAt]; exact hrun) ⟨vs, ?_, hcs⟩ trivial
              simp only [List.drop_zero, if_true]
              rw [List.take_of_length_le (by omega)]
            · refine .quiet (by rw [run_loadAt]; exact hrun) ⟨_, rfl, ?_⟩ trivial
              rw [takeC_eq, dropC_eq]
              exact repL_take _ (repL_drop _ hcs)
        · exact h.elim
      · exact h.elim
    · rename_i id k n
      obtain ⟨b, m, cap, hρ, rfl⟩ := hx
      split at h
      · rename_i E R xs hg
        obtain ⟨vv, hvv, hbx⟩ : ∃ v, ρ id = some v ∧ VecOk ok w v E R xs := getO_is hob hg
        split at h
        · rename_i hn
          have hn := Nat.eq_of_beq_eq_true hn
          split at h
          · rename_i v hv
            have hk : k < xs.length := h
            obtain ⟨css, hl, hr, hown⟩ := hbx
            rw [hρ] at hvv
            obtain rfl := Option.some.inj hvv
            rcases hown.2 with ⟨h0, _⟩ | ⟨g, c', cur, hsl, _, hgh, hnc, hcm, hcs, htake⟩
            · cases h0
            · injection hsl with e1 e2 e3
              injection e1 with e1
              injection e1 with e1 _ _
              subst e1 e2 e3
              have hfl : ∀ c ∈ css, c.length = R.n := by
                intro c hc
                obtain ⟨j, hj, rfl⟩ := List.mem_iff_getElem.1 hc
                have := R.len (hr j (by omega))
                simpa [List.getD, hj] using this
              have hcell : CellsAt w b (k * R.n) R.n (css.getD k []) := by
                refine ⟨R.len (hr k hk), fun j hj => ?_⟩
                have hlt : k * R.n + j < xs.length * R.n := by
                  have : (k + 1) * R.n ≤ xs.length * R.n := Nat.mul_le_mul_right _ (by omega)
                  rw [Nat.add_mul] at this; omega
                have e2 : w.cell? ⟨b, k * R.n + j, none⟩ = css.flatten[k * R.n + j]? := hown.cellAt _ hlt
                rw [e2]
                exact flatten_at css k j hfl (by omega) hj
              have hobl : (ldTyp i R (xs.getD k R.dflt)).obl := by rw [hv]; trivial
              have hgd : xs.getD k R.dflt = xs[k] := by simp [List.getD, hk]
              have hr' := hr k hk
              rw [← hgd] at hr'
              obtain ⟨z, h1, h2, h3⟩ := ldTyp_sound (ρ := ρ) hok hobl hcell hr'
              rw [hv] at h2
              subst hn
              exact .quiet (by rw [run_loadAt]; exact h1) h2 trivial
          · exact h.elim
        · exact h.elim
      · exact h.elim
    · exact h.elim
  · exact h.elim

/-! ### Addresses -/
/-- Field number f of a struct whose fields are these, read as R: the reading of the field. -/
def fldR : List (Nat × TypeId) → Nat → {α : Type} → Rd α → α → Nat → Option (Sigma fun β : Type => Rd β × β)
  | [], _, _, _, _, _ => none
  | [p], base, _, R, x, 0 => match Nat.beq p.1 base with
    | true => some ⟨_, R, x⟩
    | false => none
  | [_], _, _, _, _, _ + 1 => none
  | p :: _ :: _, base, _, .st R _, x, 0 => match Nat.beq p.1 base with
    | true => some ⟨_, R, x.1⟩
    | false => none
  | _ :: q :: fs, base, _, .st R S, x, f + 1 => fldR (q :: fs) (base + R.n) S x.2 f
  | _ :: _ :: _, _, _, _, _, _ => none
theorem fldR_sound {b off : Nat} : ∀ {fs : List (Nat × TypeId)} {base : Nat} {α : Type} {R : Rd α} {x : α} {f : Nat} {β : Type} {S : Rd β} {y : β} {cs : List Value}, fldR fs base R x f = some ⟨β, S, y⟩ → CellsAt w b (off + base) R.n cs → R.is ok w cs x →
    ∃ o ty ds, fs[f]? = some (o, ty) ∧ CellsAt w b (off + o) S.n ds ∧ S.is ok w ds y
  | [], _, _, _, _, _, _, _, _, _, h, _, _ => by simp [fldR] at h
  | [p], base, _, R, x, 0, _, _, _, cs, h, hc, hr => by
    unfold fldR at h
    split at h
    · rename_i hb
      cases h
      have hb := Nat.eq_of_beq_eq_true hb
      exact ⟨p.1, p.2, cs, rfl, by rw [hb]; exact hc, hr⟩
    · cases h
  | [_], _, _, _, _, _ + 1, _, _, _, _, h, _, _ => by simp [fldR] at h
  | p :: q :: fs, base, _, .st R S', x, 0, _, _, _, cs, h, hc, hr => by
    unfold fldR at h
    split at h
    · rename_i hb
      cases h
      have hb := Nat.eq_of_beq_eq_true hb
      obtain ⟨c, d, e, h1, h2⟩ := hr
      refine ⟨p.1, p.2, c, rfl, ⟨R.len h1, fun j hj => ?_⟩, h1⟩
      rw [hb, hc.2 j (by simp only [Rd.n]; omega), e, List.getElem?_append_left (by rw [R.len h1]; exact hj)]
    · cases h
  | p :: q :: fs, base, _, .st R S', x, f + 1, _, _, _, cs, h, hc, hr => by
    unfold fldR at h
    obtain ⟨c, d, e, h1, h2⟩ := hr
    have hc' : CellsAt w b (off + (base + R.n)) S'.n d := by
      refine ⟨S'.len h2, fun j hj => ?_⟩
      have := hc.2 (R.n + j) (by simp only [Rd.n]; omega)
      rw [e, List.getElem?_append_right (by rw [R.len h1]; omega), R.len h1, Nat.add_sub_cancel_left] at this
      rw [← this]
      congr 2
      omega
    obtain ⟨o, ty, ds, h3, h4, h5⟩ := fldR_sound h hc' h2
    exact ⟨o, ty, ds, by simpa using h3, h4, h5⟩
  | _ :: _ :: _, _, _, .str, _, 0, _, _, _, _, h, _, _ => by simp [fldR] at h
  | _ :: _ :: _, _, _, .int _, _, 0, _, _, _, _, h, _, _ => by simp [fldR] at h
  | _ :: _ :: _, _, _, .bool, _, 0, _, _, _, _, h, _, _ => by simp [fldR] at h
  | _ :: _ :: _, _, _, .raw, _, 0, _, _, _, _, h, _, _ => by simp [fldR] at h
  | _ :: _ :: _, _, _, .sl _, _, 0, _, _, _, _, h, _, _ => by simp [fldR] at h
  | _ :: _ :: _, _, _, .str, _, _ + 1, _, _, _, _, h, _, _ => by simp [fldR] at h
  | _ :: _ :: _, _, _, .int _, _, _ + 1, _, _, _, _, h, _, _ => by simp [fldR] at h
  | _ :: _ :: _, _, _, .bool, _, _ + 1, _, _, _, _, h, _, _ => by simp [fldR] at h
  | _ :: _ :: _, _, _, .raw, _, _ + 1, _, _, _, _, h, _, _ => by simp [fldR] at h
  | _ :: _ :: _, _, _, .sl _, _, _ + 1, _, _, _, _, h, _, _ => by simp [fldR] at h

def nthF : List (Nat × TypeId) → Nat → Option Nat
  | [], _ => none
  | p :: _, 0 => some p.1
  | _ :: r, n + 1 => nthF r n
theorem nthF_eq : ∀ {fs : List (Nat × TypeId)} {f o : Nat}, nthF fs f = some o → ∃ ty, fs[f]? = some (o, ty)
  | [], _, _, h => by cases h
  | p :: _, 0, _, h => by cases h; exact ⟨p.2, rfl⟩
  | _ :: r, n + 1, _, h => by obtain ⟨ty, h⟩ := nthF_eq (fs := r) h; exact ⟨ty, by simpa using h⟩
def vFld (te : List (TypeId × TyI)) (t : TypeId) (x : A) (f : Nat) : Vr :=
  match find te t with
  | some i => match i.k with
    | .struct fs => match x with
      | .one (.addr R x) => match fldR fs 0 R x f with
        | some ⟨_, S, y⟩ => .ok (.one (.addr S y))
        | none => .bad
      | .one (.own id off) => match nthF fs f with
        | some o => .ok (.one (.own id (off + o)))
        | none => .bad
      | _ => .bad
    | _ => .bad
  | none => .bad

theorem run_fieldAt {t : TypeId} {fs : List (Nat × TypeId)} (hk : (TK.struct fs).ok P t) {f o : Nat} {ty : TypeId} (hf : fs[f]? = some (o, ty)) (a : Addr) :
    (Instr.fieldAt t (.pointer (some a)) f).run P w = .ok (.pointer (some (a.add o))) w := by
  obtain ⟨h1, h2, h3, h4, h5⟩ := hk
  have hff : ∃ fld, (P.fieldsOf t)[f]? = some fld ∧ fld.offset = o ∧ fld.type = ty := by
    rw [← h2, List.getElem?_map] at hf
    obtain ⟨fld, h6, h7⟩ := Option.map_eq_some_iff.1 hf
    cases h7
    exact ⟨fld, by simpa using h6, rfl, rfl⟩
  obtain ⟨fld, hfld, rfl, rfl⟩ := hff
  have hsz : ((P.info? fld.type).map (·.size)).getD 0 ≠ 0 := by
    have hm : (fld.offset, fld.type) ∈ fs := List.mem_of_getElem? hf
    have := List.all_eq_true.1 h5 _ hm
    simpa using this
  cases hi : P.info? fld.type with
  | none => rw [hi] at hsz; exact absurd rfl hsz
  | some inf =>
    rw [hi] at hsz
    have hs : inf.size ≠ 0 := hsz
    simp [Instr.fieldAt, run_underlying h1, hfld, Instr.sureAddr, fieldPlace, Go.sizeOf, typeInfo, hi, hs]

theorem vFld_sound (hte : TEok P te) {t : TypeId} {x : A} {f : Nat} (h : (vFld te t x f).obl) {u : Value} (hx : x.rep ok ρ w u) : (vFld te t x f).Is P (Instr.fieldAt t u f) ok ρ w := by
  unfold vFld at h ⊢
  split at h
  · rename_i i hi
    have hok := find_ok hte hi
    have hk := hok.kind
    split at h
    · rename_i fs hfs
      rw [hfs] at hk
      split at h
      · obtain ⟨b, off, cs, rfl, hb, hlt, hc, hr⟩ := hx
        split at h
        · rename_i β S y he
          obtain ⟨o, ty, ds, h1, h2, h3⟩ := fldR_sound (off := off) he (by simpa using hc) hr
          refine .quiet (run_fieldAt hk h1 _) ⟨b, off + o, ds, by rw [Go.WideShapes.add_plain], hb, hlt, h2, h3⟩ trivial
        · exact h.elim
      · obtain ⟨b, hρ, rfl⟩ := hx
        split at h
        · rename_i o he
          obtain ⟨ty, he⟩ := nthF_eq he
          exact .quiet (run_fieldAt hk he _) ⟨b, hρ, by rw [Go.WideShapes.add_plain]⟩ trivial
        · exact h.elim
      · exact h.elim
    · exact h.elim
  · exact h.elim

def vIdxA (te : List (TypeId × TyI)) (ob : List (Nat × Ob)) (t : TypeId) (x i : A) : Vr :=
  match find te t with
  | some ti => match ti.k with
    | .slice e => match find te e with
      | some ei => match i with
        | .one (.lit (.int _ n)) => match x with
          | .one (.sl R xs) => match Nat.beq R.n ei.size with
            | true => .need (0 ≤ n ∧ n < (xs.length : Int)) (.one (.addr R (xs.getD n.toNat R.dflt)))
            | false => .bad
          | .one (.full R xs) => match Nat.beq R.n ei.size with
            | true => .need (0 ≤ n ∧ n < (xs.length : Int)) (.one (.addr R (xs.getD n.toNat R.dflt)))
            | false => .bad
          | .one (.vec id) => match getO ob id with
            | some (.vec _ R xs) => match Nat.beq R.n ei.size with
              | true => .need (0 ≤ n ∧ n < (xs.length : Int)) (.one (.vel id n.toNat R.n))
              | false => .bad
            | _ => .bad
          | _ => .bad
        | _ => .bad
      | none => .bad
    | _ => .bad
  | none => .bad

theorem run_indexAt_sl {t e : TypeId} {ei : TyI} (ht : P.underlying t = some (.slice e)) (he : TyOk P e ei) (a : Addr) (len cap : Nat) (k : IntKind) (n : Int) (h : 0 ≤ n ∧ n < (len : Int)) :
    (Instr.indexAt t (.slice (some a) len cap) (.int k n)).run P w = .ok (.pointer (some (a.add (n.toNat * ei.size)))) w := by
  simp [Instr.indexAt, asIntOf, run_underlying ht, h, he.sizeOf]

theorem vIdxA_sound (hte : TEok P te) {ob : List (Nat × Ob)} {t : TypeId} {x i : A} (h : (vIdxA te ob t x i).obl) {u v : Value} (hx : x.rep ok ρ w u) (hi : i.rep ok ρ w v) (hob : ObsIs ok ρ w ob) : (vIdxA te ob t x i).Is P (Instr.indexAt t u v) ok ρ w := by
  unfold vIdxA at h ⊢
  split at h
  · rename_i ti hti
    have hk := (find_ok hte hti).kind
    split at h
    · rename_i e hek
      rw [hek] at hk
      split at h
      · rename_i ei hei
        have hei := find_ok hte hei
        split at h
        · rename_i k n
          rw [show v = _ from hi]
          have slc : ∀ {α : Type} {R : Rd α} {xs : List α}, R.n = ei.size → (0 ≤ n ∧ n < (xs.length : Int)) → SlOk R.n (fun cs x => R.is ok w cs x) ok w u xs →
              (Vr.need (0 ≤ n ∧ n < (xs.length : Int)) (.one (.addr R (xs.getD n.toNat R.dflt)))).Is P (Instr.indexAt t u (.int k n)) ok ρ w := by
            intro α R xs hn hb hs
            obtain ⟨a, cap, rfl, h1, h2, hc⟩ := hs
            have hlt : n.toNat < xs.length := by omega
            obtain ⟨b, off, cs, rfl, hb', hltb, hcell, hr⟩ := hc n.toNat hlt
            refine .quiet (run_indexAt_sl hk hei _ _ _ _ _ hb) ?_ trivial
            have hgd : xs.getD n.toNat R.dflt = xs[n.toNat] := by simp [List.getD, hlt]
            show (C.addr R (xs.getD n.toNat R.dflt)).rep ok ρ w _
            rw [hgd]
            exact ⟨b, off + n.toNat * R.n, cs, by rw [Go.WideShapes.add_plain, hn], hb', hltb, hcell, hr⟩
          split at h
          · split at h
            · rename_i hn
              exact slc (Nat.eq_of_beq_eq_true hn) h hx
            · exact h.elim
          · split at h
            · rename_i hn
              exact slc (Nat.eq_of_beq_eq_true hn) h hx.1
            · exact h.elim
          · rename_i id
            split at h
            · rename_i E R xs hg
              obtain ⟨vv, hvv, hbx⟩ : ∃ v, ρ id = some v ∧ VecOk ok w v E R xs := getO_is hob hg
              have hxv : ρ id = some u := hx.1
              rw [hvv] at hxv
              obtain rfl := Option.some.inj hxv
              split at h
              · rename_i hn
                have hn := Nat.eq_of_beq_eq_true hn
                obtain ⟨css, hl, hr, hown⟩ := hbx
                have hb : 0 ≤ n ∧ n < (xs.length : Int) := h
                rcases hown.2 with ⟨h0, h1⟩ | ⟨g, c', cur, hsl, _⟩
                · omega
                · subst hsl
                  refine .quiet (run_indexAt_sl hk hei _ _ _ _ _ hb) ⟨g, xs.length, c', hvv, ?_⟩ trivial
                  rw [Go.WideShapes.add_plain, Nat.zero_add, hn]
              · exact h.elim
            · exact h.elim
          · exact h.elim
        · exact h.elim
      · exact h.elim
    · exact h.elim
  · exact h.elim

/-! ### Lengths, bytes, parts -/
def vLen (te : List (TypeId × TyI)) (ob : List (Nat × Ob)) (t : TypeId) (x : A) : Vr :=
  match find te t with
  | some ti => match ti.k, x with
    | .str, .one (.lit (.string s)) => .ok (ii .i64 (s.size : Int))
    | .slice _, .one (.sl _ xs) => .know (xs.length ≤ 9223372036854775807) (ii .i64 (xs.length : Int))
    | .slice _, .one (.full _ xs) => .know (xs.length ≤ 9223372036854775807) (ii .i64 (xs.length : Int))
    | .slice _, .one (.lit (.slice _ n _)) => .ok (ii .i64 (n : Int))
    | .slice _, .one (.vec id) => match getO ob id with
      | some (.vec _ _ xs) => .know (xs.length ≤ 9223372036854775807) (ii .i64 (xs.length : Int))
      | _ => .bad
    | _, _ => .bad
  | none => .bad
theorem vLen_sound (hte : TEok P te) {ob : List (Nat × Ob)} {t ty : TypeId} {x : A} (h : (vLen te ob t x).obl) {u : Value} (hx : x.rep ok ρ w u) (hob : ObsIs ok ρ w ob) : (vLen te ob t x).Is P (Builtin.len_ #[t] ty #[u]) ok ρ w := by
  unfold vLen at h ⊢
  split at h
  · rename_i ti hti
    have hk := (find_ok hte hti).kind
    split at h
    · rename_i e
      rw [e] at hk
      rw [show u = _ from hx]
      exact .quiet (by simp [Builtin.len_, run_underlying (show P.underlying t = _ from hk)]; rfl) rfl trivial
    · rename_i e
      rw [e] at hk
      obtain ⟨a, cap, rfl, h1, h2, _⟩ := hx
      exact .quiet (by simp [Builtin.len_, run_underlying (show P.underlying t = _ from hk)]; rfl) rfl (Nat.le_trans h1 h2)
    · rename_i e
      rw [e] at hk
      obtain ⟨⟨a, cap, rfl, h1, h2, _⟩, _⟩ := hx
      exact .quiet (by simp [Builtin.len_, run_underlying (show P.underlying t = _ from hk)]; rfl) rfl (Nat.le_trans h1 h2)
    · rename_i e
      rw [e] at hk
      rw [show u = _ from hx]
      exact .quiet (by simp [Builtin.len_, run_underlying (show P.underlying t = _ from hk)]; rfl) rfl trivial
    · rename_i id e
      rw [e] at hk
      split at h
      · rename_i E R xs hg
        obtain ⟨vv, hvv, hbx⟩ : ∃ v, ρ id = some v ∧ VecOk ok w v E R xs := getO_is hob hg
        have hxv : ρ id = some u := hx.1
        rw [hvv] at hxv
        obtain rfl := Option.some.inj hxv
        obtain ⟨css, hl, hr, hown⟩ := hbx
        rcases hown.2 with ⟨h0, h1⟩ | ⟨g, c', cur, hsl, _, _, h3, h4, _⟩
        · rw [h0]
          exact .quiet (by simp [Builtin.len_, run_underlying (show P.underlying t = _ from hk)]; rfl) (by show Value.int .i64 _ = .int .i64 _; rw [h1]; rfl) (by show xs.length ≤ _; rw [h1]; exact Nat.zero_le _)
        · rw [hsl]
          exact .quiet (by simp [Builtin.len_, run_underlying (show P.underlying t = _ from hk)]; rfl) rfl (Nat.le_trans h3 h4)
      · exact h.elim
    · exact h.elim
  · exact h.elim

def vIdx (te : List (TypeId × TyI)) (t : TypeId) (x i : A) : Vr :=
  match find te t with
  | some ti => match ti.k, x, i with
    | .str, .one (.lit (.string s)), .one (.lit (.int _ n)) => .need (0 ≤ n ∧ n < (s.size : Int)) (ii .u8 (((s.data.toList.getD n.toNat 0).toNat : Nat) : Int))
    | _, _, _ => .bad
  | none => .bad
theorem vIdx_sound (hte : TEok P te) {t : TypeId} {x i : A} (h : (vIdx te t x i).obl) {u v : Value} (hx : x.rep ok ρ w u) (hi : i.rep ok ρ w v) : (vIdx te t x i).Is P (Instr.index t u v) ok ρ w := by
  unfold vIdx at h ⊢
  split at h
  · rename_i ti hti
    have hk := (find_ok hte hti).kind
    split at h
    · rename_i s k n e
      rw [e] at hk
      rw [show u = _ from hx, show v = _ from hi]
      have hb : 0 ≤ n ∧ n < (s.size : Int) := h
      have hlt : n.toNat < s.size := by omega
      refine .quiet (u := .int .u8 (((s.data.toList.getD n.toNat 0).toNat : Nat) : Int)) ?_ rfl trivial
      rw [run_index_string w t s k n hk, dif_pos hb]
      have : s.data.toList.getD n.toNat 0 = s[n.toNat] := by
        have hl : n.toNat < s.data.toList.length := by simpa using hlt
        rw [List.getD, List.getElem?_eq_getElem hl]
        rfl
      rw [this]
    · exact h.elim
  · exact h.elim

def bnd (x : Option A) (d : Int) : Option Int :=
  match x with
  | none => some d
  | some (.one (.lit (.int _ n))) => some n
  | _ => none
def vSlice (te : List (TypeId × TyI)) (t : TypeId) (x : A) (lo hi : Option A) : Vr :=
  match find te t with
  | some ti => match ti.k, x with
    | .str, .one (.lit (.string s)) => match bnd lo 0, bnd hi s.size with
      | some l, some h => .need (0 ≤ l ∧ l ≤ h ∧ h ≤ (s.size : Int)) (is (s.extract l.toNat h.toNat))
      | _, _ => .bad
    | .slice e, .one (.sl R xs) => match find te e with
      | some ei => match Nat.beq R.n ei.size with
        | true => match lo, hi with
          | some (.one (.lit (.int _ l))), none => .need (0 ≤ l ∧ l ≤ (xs.length : Int)) (.one (.sl R (xs.drop l.toNat)))
          | none, some (.one (.lit (.int _ h))) => .need (0 ≤ h ∧ h ≤ (xs.length : Int)) (.one (.sl R (xs.take h.toNat)))
          | some (.one (.lit (.int _ l))), some (.one (.lit (.int _ h))) => .need (0 ≤ l ∧ l ≤ h ∧ h ≤ (xs.length : Int)) (.one (.sl R ((xs.take h.toNat).drop l.toNat)))
          | none, none => .ok (.one (.sl R xs))
          | _, _ => .bad
        | false => .bad
      | none => .bad
    | _, _ => .bad
  | none => .bad
end
end Ab
end Go.Proofs.YthlfbpmbkcoclaaDoor
