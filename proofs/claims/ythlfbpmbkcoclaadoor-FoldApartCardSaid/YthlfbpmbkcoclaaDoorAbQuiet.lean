/-
  Operations that ask the world for nothing: what they yield, they yield in every world. Over any program; no condition.
-/
import Derived.Test.YthlfbpmbkcoclaaDoorAbCode
namespace Go.Proofs.YthlfbpmbkcoclaaDoor
open Go.RowKit
namespace Ab

/-- What it yields in one world it yields in every world, which it leaves as it is. -/
structure Det (P : Program) {α : Type} (s : Sem α) : Prop where
  h : ∀ a w w', s.run P w = .ok a w' → ∀ w2, s.run P w2 = .ok a w2
structure Nev (P : Program) {α : Type} (s : Sem α) : Prop where
  h : ∀ a w w', s.run P w ≠ .ok a w'
section
variable {P : Program} {α β : Type}
theorem Nev.det {s : Sem α} (h : Nev P s) : Det P s := ⟨fun a w w' e => absurd e (h.h a w w')⟩
theorem nev_bind {s : Sem α} {f : α → Sem β} (h : ∀ a, Nev P (f a)) : Nev P (s >>= f) := by
  refine ⟨fun b w w' e => ?_⟩
  rw [Sem.run_bind] at e
  cases hs : s.run P w with
  | ok a w1 => rw [hs] at e; exact (h a).h b w1 w' e
  | halt x w1 => rw [hs] at e; cases e
theorem det_bind {s : Sem α} {f : α → Sem β} (h : Det P s) (h2 : ∀ a, Det P (f a)) : Det P (s >>= f) := by
  refine ⟨fun b w w' e w2 => ?_⟩
  rw [Sem.run_bind] at e ⊢
  cases hs : s.run P w with
  | ok a w1 => rw [hs] at e; rw [h.h a w w1 hs w2]; exact (h2 a).h b w1 w' e w2
  | halt x w1 => rw [hs] at e; cases e
theorem det_pure (a : α) : Det P (pure a : Sem α) := ⟨by intro b w w' e w2; cases e; rfl⟩
theorem det_program : Det P program := ⟨by intro b w w' e w2; cases e; rfl⟩
theorem nev_halt (h : Halt) : Nev P (Sem.halt h : Sem α) := ⟨fun a w w' e => by cases e⟩
theorem nev_panic (e : RuntimeError) : Nev P (runtimePanic e : Sem α) := by
  unfold runtimePanic
  refine nev_bind fun p => ?_
  cases e <;> first | exact nev_halt _ | (repeat' (first | exact nev_halt _ | (refine nev_bind fun _ => ?_)))
theorem nev_bounds (k : IntKind) (x y : Int) (c : BoundsCode) : Nev P (boundsPanic k x y c : Sem α) := by
  unfold boundsPanic
  dsimp only
  split <;> exact nev_bind fun _ => nev_panic _
theorem det_underlying (t : TypeId) : Det P (underlying t) := by
  unfold underlying
  repeat' (first | exact det_pure _ | exact det_program | exact (nev_halt _).det | apply det_bind | intro _ | split)
theorem det_asIntOf (v : Value) : Det P (asIntOf v) := by
  unfold asIntOf
  repeat' (first | exact det_pure _ | exact (nev_halt _).det | split)
theorem det_asBool (v : Value) : Det P (asBool v) := by
  unfold asBool
  repeat' (first | exact det_pure _ | exact (nev_halt _).det | split)
theorem det_sizeOf (t : TypeId) : Det P (sizeOf t) := by
  unfold sizeOf typeInfo
  repeat' (first | exact det_pure _ | exact det_program | exact (nev_halt _).det | apply det_bind | intro _ | split)
theorem det_sureAddr (v : Value) : Det P (Instr.sureAddr v) := by
  unfold Instr.sureAddr
  repeat' (first | exact det_pure _ | exact (nev_halt _).det | split)
theorem det_indexAt (t : TypeId) (x i : Value) : Det P (Instr.indexAt t x i) := by
  unfold Instr.indexAt
  dsimp only
  repeat' (first | exact det_pure _ | exact (nev_bounds _ _ _ _).det | exact (nev_halt _).det | exact det_underlying _ | exact det_asIntOf _ | exact det_sizeOf _ | exact det_sureAddr _ | apply det_bind | intro _ | split)
theorem det_index (t : TypeId) (x : ByteArray) (i : Value) : Det P (Instr.index t (.string x) i) := by
  unfold Instr.index
  repeat' (first | exact det_pure _ | exact (nev_bounds _ _ _ _).det | exact (nev_halt _).det | exact det_underlying _ | exact det_asIntOf _ | apply det_bind | intro _ | (rename_i h; cases h; done) | split)
theorem det_bound (x : Value) (y : Nat) (c : BoundsCode) : Det P (Instr.sliceBound x y c) := by
  unfold Instr.sliceBound
  repeat' (first | exact det_pure _ | exact (nev_bounds _ _ _ _).det | exact det_asIntOf _ | apply det_bind | intro _ | split)
theorem det_bounds (b : Bool) (l c : Nat) (x y z : Option Value) : Det P (Instr.sliceBounds b l c x y z) := by
  unfold Instr.sliceBounds
  dsimp only
  repeat' (first | exact det_pure _ | exact det_bound _ _ _ | exact (nev_halt _).det | apply det_bind | intro _ | split)
theorem det_asAddr (v : Value) : Det P (asAddr v) := by
  unfold asAddr
  repeat' (first | exact det_pure _ | exact (nev_panic _).det | exact (nev_halt _).det | split)
theorem det_slice (t : TypeId) (x : Value) (a b c : Option Value) : Det P (Instr.slice t x a b c) := by
  unfold Instr.slice
  dsimp only
  repeat' (first | exact det_pure _ | exact det_bounds _ _ _ _ _ _ | exact (nev_halt _).det | exact det_underlying _ | exact det_asAddr _ | exact det_sizeOf _ | apply det_bind | intro _ | split)
theorem det_sliceAt (t : TypeId) (x : Value) (a b c : Option Value) : Det P (Instr.sliceAt t x a b c) := by
  unfold Instr.sliceAt
  repeat' (first | exact det_pure _ | exact det_slice _ _ _ _ _ | exact det_bounds _ _ _ _ _ _ | exact (nev_halt _).det | exact det_underlying _ | exact det_sureAddr _ | exact det_sizeOf _ | apply det_bind | intro _ | split)
theorem det_extract (v : Value) (i : Nat) : Det P (Instr.extract v i) := by
  unfold Instr.extract
  repeat' (first | exact det_pure _ | exact (nev_halt _).det | split)
theorem det_ints (o : BinOp) (t : TypeId) (k k' : IntKind) (a b : Int) (h : (match o with | .shl | .shr => false | _ => true) = true) : Det P (binOp o t (.int k a) (.int k' b)) := by
  cases o <;> first
    | exact absurd h (by decide)
    | (change Det P (ite (k ≠ k') _ _)
       split
       · exact (nev_halt _).det
       · first
         | exact det_pure _
         | (change Det P (ite (b = 0) _ _)
            split
            · exact (nev_panic _).det
            · exact det_pure _)
         | exact (nev_halt _).det)
theorem det_strs (o : BinOp) (t : TypeId) (a b : ByteArray) : Det P (binOp o t (.string a) (.string b)) := by
  cases o <;> first
    | exact det_pure _
    | (change Det P (ite _ _ _)
       split
       · exact (nev_halt _).det
       · exact det_pure _)
    | exact (nev_halt _).det
theorem guard_ints (o : BinOp) (t : TypeId) (x y : Operand) (k k' : IntKind) (a b : Int) : Det P (eqGuard o t x y (.int k a) (.int k' b)) := by
  unfold eqGuard
  repeat' (first | exact det_pure _ | apply det_bind | intro _ | split)
theorem guard_strs (o : BinOp) (t : TypeId) (x y : Operand) (a b : ByteArray) : Det P (eqGuard o t x y (.string a) (.string b)) := by
  unfold eqGuard
  repeat' (first | exact det_pure _ | apply det_bind | intro _ | split)
end
end Ab
end Go.Proofs.YthlfbpmbkcoclaaDoor
