/-
  One operation that writes nothing and calls nothing, abstractly. Over any program; no condition.
-/
import Derived.Test.YthlfbpmbkcoclaaDoorAbBuild
namespace Go.Proofs.YthlfbpmbkcoclaaDoor
open Go.RowKit
namespace Ab

/-- An abstract value, its make seen. -/
def okA (a : A) : Vr := match a with
  | .one .any => .ok (.one .any)
  | .one (.lit v) => .ok (.one (.lit v))
  | .one (.sl R xs) => .ok (.one (.sl R xs))
  | .one (.full R xs) => .ok (.one (.full R xs))
  | .one (.addr R x) => .ok (.one (.addr R x))
  | .one (.own i o) => .ok (.one (.own i o))
  | .one (.vec i) => .ok (.one (.vec i))
  | .one (.vel i k n) => .ok (.one (.vel i k n))
  | .one (.ifc t c) => .ok (.one (.ifc t c))
  | .one (.clo f c) => .ok (.one (.clo f c))
  | .one (.ref c) => .ok (.one (.ref c))
  | .one (.nself u i) => .ok (.one (.nself u i))
  | .agg cs => .ok (.agg cs)
  | .tup cs => .ok (.tup cs)
  | .cond b a => .ok (.cond b a)
theorem okA_eq (a : A) : okA a = .ok a := by
  cases a
  · rename_i c; cases c <;> rfl
  · rfl
  · rfl
  · rfl

def lks (lk : Operand → A) : List (Nat × Operand) → List (Nat × A)
  | [] => []
  | (i, x) :: r => (i, lk x) :: lks lk r
def lkO (lk : Operand → A) : Option Operand → Option A
  | none => none
  | some x => some (lk x)

def vFun (fn : Fn) (first caps : List A) : Vr :=
  match fn, first, caps with
  | .func f, [], [] => .ok (.one (.lit (.func (.func f) #[] #[])))
  | .func _, [], [.one .any] => .bad
  | .func f, [], [.one c] => .ok (.one (.clo f c))
  | _, _, _ => .bad
def mapL (lk : Operand → A) : List Operand → List A
  | [] => []
  | x :: r => lk x :: mapL lk r

def vBi (te : List (TypeId × TyI)) (ob : List (Nat × Ob)) (lk : Operand → A) (b : Builtin) (args : List Operand) (ts : List TypeId) : Vr :=
  match b, args, ts with
  | .len, [x], [t] => vLen te ob t (lk x)
  | .min, [x, y], _ => vMin (lk x) (lk y)
  | _, _, _ => .bad

def opv (te : List (TypeId × TyI)) (ob : List (Nat × Ob)) (lk : Operand → A) (o : Op) : Vr :=
  match o with
  | .move x => okA (lk x)
  | .assign x => okA (lk x)
  | .pick c a b => vPick (lk c) (lk a) (lk b)
  | .build t ps => match sureP (lks lk ps.toList) with
    | true => vBld te t (lks lk ps.toList)
    | false => .bad
  | .buildSlice t n ps => vFull te t n (lks lk ps.toList)
  | .load t x => vLoad te ob t (lk x)
  | .nilCheck x => vNil (lk x)
  | .binOp op t x y _ => vBin te op t (isK x || isK y) (lk x) (lk y)
  | .unOp op _ x => vUn op (lk x)
  | .convert s t x => vCnv te s t (lk x)
  | .makeInterface t x => vIfc te t (lk x)
  | .makeFunc fn first caps => vFun fn (mapL lk first.toList) (mapL lk caps.toList)
  | .slice t x lo hi none => vSlice te t (lk x) (lkO lk lo) (lkO lk hi)
  | .fieldAddr t x f => vFld te t (lk x) f
  | .indexAddr t x i => vIdxA te ob t (lk x) (lk i)
  | .index t x i => vIdx te t (lk x) (lk i)
  | .typeAssert x _ t true => vAss te (lk x) t
  | .extract x j => vExt (lk x) j
  | .call { callee := .builtin b, args, argTypes } => vBi te ob lk b args.toList argTypes.toList
  | _ => .bad

section
variable {P : Program} {te : List (TypeId × TyI)} {ok : Nat → Prop} {ρ : Nat → Option Value} {w : World}

/-- The operation, carried out, yields such a value. -/
def Yld (P : Program) (o : Oper) (ev : Operand → Value) (ok : Nat → Prop) (ρ : Nat → Option Value) (w : World) (v : A) : Prop :=
  ∃ u w', (execOp ev o).run P w = .ok (.value u) w' ∧ Below w.heap.size w w' ∧ v.rep (grow ok w) ρ w' u

theorem Yld.of {o : Oper} {ev : Operand → Value} {s : Sem Value} {v : Vr} (he : execOp ev o = (do pure (.value (← s)))) (h : v.Is P s ok ρ w) : Yld P o ev ok ρ w v.val ∧ v.fact := by
  obtain ⟨⟨u, w', h1, h2, h3⟩, h4⟩ := h
  exact ⟨⟨u, w', by rw [he, Sem.run_bind, h1]; rfl, h2, h3⟩, h4⟩

theorem lks_rep {lk : Operand → A} {ev : Operand → Value} : ∀ {ps : List (Nat × Operand)}, (∀ p ∈ ps, (lk p.2).rep ok ρ w (ev p.2)) → RepP ok ρ w (lks lk ps) (ps.map fun p => (p.1, ev p.2))
  | [], _ => rfl
  | p :: ps, h => ⟨ev p.2, _, rfl, h p (by simp), lks_rep fun q hq => h q (by simp [hq])⟩
theorem lkO_rep {lk : Operand → A} {ev : Operand → Value} : ∀ {x : Option Operand}, (∀ y ∈ x, (lk y).rep ok ρ w (ev y)) → repO ok ρ w (lkO lk x) (x.map ev)
  | none, _ => trivial
  | some x, h => h x rfl

theorem opv_sound (hte : TEok P te) {ob : List (Nat × Ob)} {lk : Operand → A} {o : Oper} (h : (opv te ob lk o.op).obl) {ev : Operand → Value}
    (hl : ∀ x ∈ o.op.operands.toList, (lk x).rep ok ρ w (ev x)) (hob : ObsIs ok ρ w ob) : Yld P o ev ok ρ w (opv te ob lk o.op).val ∧ (opv te ob lk o.op).fact := by
  have hev : ∀ {x : Operand} {v : Vr}, v = okA (lk x) → (lk x).rep ok ρ w (ev x) → v.Is P (pure (ev x)) ok ρ w := by
    intro x v hv hr
    rw [hv, okA_eq]
    exact .quiet rfl hr trivial
  obtain ⟨dst, op, ty, pos, after, guard⟩ := o
  simp only at h hl ⊢
  unfold opv at h ⊢
  split at h
  · exact Yld.of rfl (hev rfl (hl _ (by simp [Op.operands])))
  · exact Yld.of rfl (hev rfl (hl _ (by simp [Op.operands])))
  · rename_i c a b
    have := vPick_sound (P := P) h (hl c (by simp [Op.operands])) (hl a (by simp [Op.operands])) (hl b (by simp [Op.operands]))
    refine Yld.of ?_ this
    show (do pure (Next.value (if ← asBool (ev c) then ev a else ev b))) = _
    simp only [bind_assoc]
    congr 1
    funext p
    cases p <;> rfl
  · rename_i t ps
    split at h
    · rename_i hs
      have hr := lks_rep (ok := ok) (ρ := ρ) (w := w) (lk := lk) (ev := ev) (ps := ps.toList) (fun p hp => hl p.2 (by
        simp only [Op.operands, List.toList_toArray]
        exact List.mem_map.2 ⟨p, hp, rfl⟩))
      refine Yld.of (s := Instr.build t (ps.toList.map fun p => (p.1, ev p.2)).toArray) ?_ (vBld_sound hte h hr (sureP_sound hs hr))
      show (do pure (Next.value (← Instr.build t (ps.map fun (i, x) => (i, ev x))))) = _
      congr 2
      apply Array.toList_inj.1
      simp
    · exact h.elim
  · rename_i t n ps
    have hr := lks_rep (ok := ok) (ρ := ρ) (w := w) (lk := lk) (ev := ev) (ps := ps.toList) (fun p hp => hl p.2 (by
        simp only [Op.operands, List.toList_toArray]
        exact List.mem_map.2 ⟨p, hp, rfl⟩))
    refine Yld.of (s := Instr.buildSlice t n (ps.toList.map fun p => (p.1, ev p.2)).toArray) ?_ (vFull_sound hte h hr)
    show (do pure (Next.value (← Instr.buildSlice t n (ps.map fun (i, x) => (i, ev x))))) = _
    congr 2
    apply Array.toList_inj.1
    simp
  · exact Yld.of rfl (vLoad_sound hte h (hl _ (by simp [Op.operands])) hob)
  · rename_i x
    have hx := hl x (by simp [Op.operands])
    unfold vNil at h ⊢
    split at h
    · rename_i e
      rw [e] at hx
      obtain ⟨b, off, cs, hv, hr⟩ := id hx
      exact Yld.of (s := pure (ev x)) (by show (match ev x with | .pointer none | .nilIface | .nilFunc => _ | .func (.method _) _ _ => _ | _ => _) = _; rw [hv]; rfl) (.quiet rfl hx trivial)
    · rename_i e
      rw [e] at hx
      obtain ⟨b, _, hv⟩ := id hx
      exact Yld.of (s := pure (ev x)) (by show (match ev x with | .pointer none | .nilIface | .nilFunc => _ | .func (.method _) _ _ => _ | _ => _) = _; rw [hv]; rfl) (.quiet rfl hx trivial)
    · rename_i e
      rw [e] at hx
      obtain ⟨b, m, cap, _, hv⟩ := id hx
      exact Yld.of (s := pure (ev x)) (by show (match ev x with | .pointer none | .nilIface | .nilFunc => _ | .func (.method _) _ _ => _ | _ => _) = _; rw [hv]; rfl) (.quiet rfl hx trivial)
    · rename_i e
      rw [e] at hx
      obtain ⟨z, hv, _⟩ := id hx
      exact Yld.of (s := pure (ev x)) (by show (match ev x with | .pointer none | .nilIface | .nilFunc => _ | .func (.method _) _ _ => _ | _ => _) = _; rw [hv]; rfl) (.quiet rfl hx trivial)
    · rename_i e
      rw [e] at hx
      obtain ⟨z, hv, _⟩ := id hx
      exact Yld.of (s := pure (ev x)) (by show (match ev x with | .pointer none | .nilIface | .nilFunc => _ | .func (.method _) _ _ => _ | _ => _) = _; rw [hv]; rfl) (.quiet rfl hx trivial)
    · rename_i e
      rw [e] at hx
      obtain ⟨b, off, z, hv, _⟩ := id hx
      exact Yld.of (s := pure (ev x)) (by show (match ev x with | .pointer none | .nilIface | .nilFunc => _ | .func (.method _) _ _ => _ | _ => _) = _; rw [hv]; rfl) (.quiet rfl hx trivial)
    · rename_i e
      rw [e] at hx
      have hv : ev x = _ := hx
      exact Yld.of (s := pure (ev x)) (by show (match ev x with | .pointer none | .nilIface | .nilFunc => _ | .func (.method _) _ _ => _ | _ => _) = _; rw [hv]; rfl) (.quiet rfl hx trivial)
    · rename_i e
      rw [e] at hx
      have hv : ev x = _ := hx
      exact Yld.of (s := pure (ev x)) (by show (match ev x with | .pointer none | .nilIface | .nilFunc => _ | .func (.method _) _ _ => _ | _ => _) = _; rw [hv]; rfl) (.quiet rfl hx trivial)
    · exact h.elim
  · rename_i op' t x y yt
    have := vBin_sound (P := P) (ox := x) (oy := y) hte h (fun e => by simpa using e) (hl x (by simp [Op.operands])) (hl y (by simp [Op.operands]))
    refine Yld.of ?_ this
    show (do let r ← (do eqGuard op' t x y (ev x) (ev y); binOp op' t (ev x) (ev y)); pure (Next.value r)) = _
    rfl
  · exact Yld.of rfl (vUn_sound h (hl _ (by simp [Op.operands])))
  · exact Yld.of rfl (vCnv_sound hte h (hl _ (by simp [Op.operands])))
  · exact Yld.of rfl (vIfc_sound hte h (hl _ (by simp [Op.operands])))
  · rename_i fn first caps
    have nil : ∀ {xs : List Operand}, mapL lk xs = [] → xs = [] := fun {xs} h => by cases xs; rfl; cases h
    unfold vFun at h ⊢
    split at h
    · rename_i f e1 e2
      have e1 := nil e1
      have e2 := nil e2
      have a1 : first = #[] := by apply Array.toList_inj.1; rw [e1]
      have a2 : caps = #[] := by apply Array.toList_inj.1; rw [e2]
      subst a1 a2
      exact Yld.of (s := pure (.func (.func f) #[] #[])) (by simp [execOp, Instr.makeFunc]) (.quiet rfl rfl trivial)
    · exact h.elim
    · rename_i f c hne e1 e2
      have e1 := nil e1
      have a1 : first = #[] := by apply Array.toList_inj.1; rw [e1]
      have e3 : ∃ x, caps.toList = [x] ∧ lk x = .one c := by
        cases hc : caps.toList with
        | nil => rw [hc] at e2; cases e2
        | cons x r =>
          rw [hc] at e2
          simp only [mapL, List.cons.injEq] at e2
          have := nil e2.2
          subst this
          exact ⟨x, rfl, e2.1⟩
      obtain ⟨x, e3, e4⟩ := e3
      have a2 : caps = #[x] := by apply Array.toList_inj.1; rw [e3]
      subst a1 a2
      have hx := hl x (by simp [Op.operands])
      rw [e4] at hx
      exact Yld.of (s := pure (.func (.func f) #[] #[ev x])) (by simp [execOp, Instr.makeFunc]) (.quiet rfl ⟨_, rfl, hx⟩ trivial)
    · exact h.elim
  · rename_i t x lo hi
    refine Yld.of rfl (vSlice_sound hte h (hl x (by simp [Op.operands])) (lkO_rep fun y hy => hl y (by
      cases lo <;> simp_all [Op.operands])) (lkO_rep fun y hy => hl y (by
      cases hi <;> simp_all [Op.operands])))
  · exact Yld.of rfl (vFld_sound hte h (hl _ (by simp [Op.operands])))
  · exact Yld.of rfl (vIdxA_sound hte h (hl _ (by simp [Op.operands])) (hl _ (by simp [Op.operands])) hob)
  · exact Yld.of rfl (vIdx_sound hte h (hl _ (by simp [Op.operands])) (hl _ (by simp [Op.operands])))
  · exact Yld.of rfl (vAss_sound hte h (hl _ (by simp [Op.operands])))
  · exact Yld.of rfl (vExt_sound h (hl _ (by simp [Op.operands])))
  · rename_i b args argTypes
    unfold vBi at h ⊢
    split at h
    · rename_i x t e1 e2
      have a1 : args = #[x] := by apply Array.toList_inj.1; rw [e1]
      have a2 : argTypes = #[t] := by apply Array.toList_inj.1; rw [e2]
      subst a1 a2
      exact Yld.of (s := Builtin.len_ #[t] ty #[ev x]) (by simp [execOp, resolve, invoke, builtin]) (vLen_sound hte h (hl x (by simp [Op.operands, Call.operands])) hob)
    · rename_i x y e1
      have a1 : args = #[x, y] := by apply Array.toList_inj.1; rw [e1]
      subst a1
      exact Yld.of (s := Builtin.min_ argTypes ty #[ev x, ev y]) (by simp [execOp, resolve, invoke, builtin]) (vMin_sound h (hl x (by simp [Op.operands, Call.operands])) (hl y (by simp [Op.operands, Call.operands])))
    · exact h.elim
  · exact h.elim
end
end Ab
end Go.Proofs.YthlfbpmbkcoclaaDoor
