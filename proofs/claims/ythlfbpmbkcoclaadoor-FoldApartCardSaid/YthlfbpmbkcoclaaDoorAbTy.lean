/-
  A table of types, what it must say of the program's own, and what reading and writing variables of these types comes to. Over any program; no condition.
-/
import Derived.Test.YthlfbpmbkcoclaaDoorAbDef
import Derived.Laws.Cells
import Derived.Laws.StructEq
import Derived.Laws.Strings2
import Derived.Deep.AppendSrc
import Derived.WalkLawsBesides
namespace Go.Proofs.YthlfbpmbkcoclaaDoor
open Go.RowKit
namespace Ab

inductive TK
  | str | int (k : IntKind) | bool | struct (fs : List (Nat × TypeId)) | slice (e : TypeId) | ptr (e : TypeId) | iface | other

structure TyI : Type 1 where
  k : TK
  size : Nat
  bytes : Nat
  zero : List Value
  rd : Option (Sigma Rd)
  eq : Bool := false

def TK.agg : TK → Bool
  | .struct _ => true
  | _ => false
def TyI.zeroV (i : TyI) : Value := if i.k.agg then .agg i.zero.toArray else i.zero.headD undef

def TK.ok (P : Program) (t : TypeId) : TK → Prop
  | .str => P.underlying t = some .string
  | .int k => P.underlying t = some (.int k)
  | .bool => P.underlying t = some .bool
  | .struct fs => P.underlying t = some (.struct (P.fieldsOf t)) ∧ ((P.fieldsOf t).toList.map fun f => (f.offset, f.type)) = fs ∧ (P.fieldsOf t).toList.all (fun f => f.name != "_") = true ∧ P.stoodInHeld t = false ∧
      (fs.all fun f => ((P.info? f.2).map (·.size)).getD 0 != 0) = true
  | .slice e => P.underlying t = some (.slice e)
  | .ptr e => P.underlying t = some (.pointer e)
  | .iface => ∃ ms, P.underlying t = some (.interface ms)
  | .other => ∃ d, P.underlying t = some d ∧ (match d with | .struct _ => False | .array _ _ => False | .interface _ => False | _ => True)

structure TyOk (P : Program) (t : TypeId) (i : TyI) : Prop where
  info : ∃ f, P.info? t = some f ∧ f.size = i.size ∧ f.bytes = i.bytes ∧ f.zero = some i.zeroV
  kind : i.k.ok P t
  zlen : i.zero.length = i.size
  zplain : ∀ z ∈ i.zero, plainB z = true
  size1 : i.k.agg = false → i.size = 1
  rdn : ∀ α R, i.rd = some ⟨α, R⟩ → R.n = i.size
  eqg : i.eq = true → P.eqGuardType P.depth t = false

def find (te : List (TypeId × TyI)) (t : TypeId) : Option TyI :=
  match te with
  | [] => none
  | p :: r => match Nat.beq p.1 t with
    | true => some p.2
    | false => find r t
def TEok (P : Program) (te : List (TypeId × TyI)) : Prop := ∀ p ∈ te, TyOk P p.1 p.2
theorem find_ok {P : Program} : ∀ {te : List (TypeId × TyI)} {t : TypeId} {i : TyI}, TEok P te → find te t = some i → TyOk P t i
  | [], _, _, _, h => by cases h
  | p :: r, t, i, hte, h => by
    unfold find at h
    split at h
    · rename_i hb
      have : p.1 = t := Nat.eq_of_beq_eq_true hb
      cases h
      exact this ▸ hte p (by simp)
    · exact find_ok (fun q hq => hte q (by simp [hq])) h

section
variable {P : Program} {t : TypeId} {i : TyI}
theorem TyOk.und (h : TyOk P t i) : ∃ d, P.underlying t = some d := by
  have := h.kind
  cases hk : i.k <;> rw [hk] at this <;> simp only [TK.ok] at this
  · exact ⟨_, this⟩
  · exact ⟨_, this⟩
  · exact ⟨_, this⟩
  · exact ⟨_, this.1⟩
  · exact ⟨_, this⟩
  · exact ⟨_, this⟩
  · obtain ⟨ms, h⟩ := this; exact ⟨_, h⟩
  · obtain ⟨d, h, _⟩ := this; exact ⟨_, h⟩
theorem TyOk.isAgg (h : TyOk P t i) (w : World) : (isAgg t).run P w = .ok i.k.agg w := by
  have := h.kind
  unfold Go.isAgg
  cases hk : i.k <;> rw [hk] at this <;> simp only [TK.ok] at this
  · simp [run_underlying this, TK.agg]
  · simp [run_underlying this, TK.agg]
  · simp [run_underlying this, TK.agg]
  · simp [run_underlying this.1, TK.agg]
  · simp [run_underlying this, TK.agg]
  · simp [run_underlying this, TK.agg]
  · obtain ⟨ms, h⟩ := this; simp [run_underlying h, TK.agg]
  · obtain ⟨d, h, hd⟩ := this
    simp only [Sem.run_bind, run_underlying h, Result.andThen_ok, TK.agg]
    cases d <;> first | exact hd.elim | rfl
theorem TyOk.sizeOf (h : TyOk P t i) (w : World) : (Go.sizeOf t).run P w = .ok i.size w := by
  obtain ⟨f, hf, hs, _⟩ := h.info
  simp [Go.sizeOf, typeInfo, hf, hs]
theorem TyOk.zeroValue (h : TyOk P t i) (w : World) : (Go.zeroValue t).run P w = .ok i.zeroV w := by
  obtain ⟨f, hf, _, _, hz⟩ := h.info
  simp [Go.zeroValue, typeInfo, hf, hz]
theorem TyOk.zeroCells (h : TyOk P t i) : i.zeroV.cells = i.zero.toArray := by
  unfold TyI.zeroV
  cases hk : i.k.agg
  · have h1 := h.size1 hk
    have h2 := h.zlen
    rw [h1] at h2
    obtain ⟨z, hz⟩ := List.length_eq_one_iff.1 h2
    have hp := h.zplain z (by rw [hz]; simp)
    rw [hz]
    simp only [Bool.false_eq_true, if_false, List.headD_cons]
    cases z <;> first | rfl | (simp [plainB] at hp)
  · simp [Value.cells]

/-- Cells at an address, loaded as one variable. -/
theorem run_loadVar (h : TyOk P t i) {w : World} {b off : Nat} {cs : List Value} (hc : CellsAt w b off i.size cs) :
    (loadVar t ⟨b, off, none⟩).run P w = .ok (if i.k.agg then .agg cs.toArray else cs.headD undef) w := by
  unfold loadVar
  simp only [Sem.run_bind, h.isAgg, Result.andThen_ok]
  cases hk : i.k.agg
  · simp only [Bool.false_eq_true, if_false]
    have h1 := h.size1 hk
    have h0 := hc.2 0 (by omega)
    have hl := hc.1
    rw [h1] at hl
    obtain ⟨v, rfl⟩ := List.length_eq_one_iff.1 hl
    simp only [Nat.add_zero, List.getElem?_cons_zero] at h0
    simp [run_load, h0]
  · simp only [if_true, Sem.run_bind, h.sizeOf, Result.andThen_ok]
    have := run_loadCells_list (P := P) w ⟨b, off, none⟩ cs (fun j v hj => by
      have hlt : j < cs.length := (List.getElem?_eq_some_iff.1 hj).1
      rw [Go.WideShapes.add_plain, hc.2 j (by rw [← hc.1]; exact hlt), hj])
    rw [hc.1] at this
    simp [this]
end

theorem tyOk_of {P : Program} {t : TypeId} {i : TyI} (h : (P.info? t).map (fun f => (f.size, f.bytes, f.zero)) = some (i.size, i.bytes, some i.zeroV)) (hk : i.k.ok P t) (hz : i.zero.length = i.size) (hp : (i.zero.all plainB) = true)
    (h1 : (match i.k.agg with | true => true | false => Nat.beq i.size 1) = true) (hr : ∀ α R, i.rd = some ⟨α, R⟩ → R.n = i.size) (he : i.eq = true → P.eqGuardType P.depth t = false) : TyOk P t i := by
  obtain ⟨f, hf, he2⟩ := Option.map_eq_some_iff.1 h
  simp only [Prod.mk.injEq] at he2
  refine ⟨⟨f, hf, he2.1, he2.2.1, he2.2.2⟩, hk, hz, fun z hz => List.all_eq_true.1 hp z hz, fun e => ?_, hr, he⟩
  rw [e] at h1
  exact Nat.eq_of_beq_eq_true h1

/-- Each value fills one cell. -/
def Ones (vs : List Value) : Prop := ∀ v ∈ vs, v.oneCell' = true

end Ab
end Go.Proofs.YthlfbpmbkcoclaaDoor
