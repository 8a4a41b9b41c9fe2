/-
  A region that draws its order and writes: operations that ask the world for nothing are done as soon as they can be; of the others each order is gone through. Over any program; no condition.
-/
import Derived.Test.YthlfbpmbkcoclaaDoorAbQuiet
namespace Go.Proofs.YthlfbpmbkcoclaaDoor
open Go.RowKit
namespace Ab

def lits2 (tm : Tm) (x y : Operand) : Bool := match look tm x, look tm y with
  | .one (.lit (.int _ _)), .one (.lit (.int _ _)) => true
  | .one (.lit (.string _)), .one (.lit (.string _)) => true
  | _, _ => false
def lightB (tm : Tm) (op : Op) : Bool := match op with
  | .move _ => true
  | .assign _ => true
  | .binOp o _ x y _ => (match o with | .shl | .shr => false | _ => true) && lits2 tm x y
  | .slice _ _ _ _ _ => true
  | .indexAddr _ _ _ => true
  | .extract _ _ => true
  | .index _ x _ => match look tm x with
    | .one (.lit (.string _)) => true
    | _ => false
  | _ => false
section
variable {P : Program} {te : List (TypeId × TyI)} {cx : Cx} {tm : Tm} {ob : Obs} {nx : Nat} {ρ : Nat → Option Value} {a : Act} {w : World}
theorem light_det {o : Oper} (h : lightB tm o.op = true) (hs : StOk cx tm ob nx ρ a w) : Det P (execOp a.eval o) := by
  obtain ⟨dst, op, type, pos, after, guard⟩ := o
  simp only at h
  cases op <;> first | cases h | skip
  case move x => exact det_pure _
  case assign x => exact det_pure _
  case slice t x lo hi mx => exact det_bind (det_sliceAt _ _ _ _ _) fun _ => det_pure _
  case indexAddr t x i => exact det_bind (det_indexAt _ _ _) fun _ => det_pure _
  case extract t i => exact det_bind (det_extract _ _) fun _ => det_pure _
  case index t x i =>
    simp only [lightB] at h
    split at h
    · rename_i s e
      have hx := hs.look x
      rw [e] at hx
      have hx : a.eval x = .string s := hx
      show Det P (do pure (Next.value (← Instr.index t (a.eval x) (a.eval i))))
      rw [hx]
      exact det_bind (det_index _ _ _) fun _ => det_pure _
    · cases h
  case binOp op t x y ty =>
    simp only [lightB, Bool.and_eq_true] at h
    obtain ⟨h1, h2⟩ := h
    show Det P ((eqGuard op t x y (a.eval x) (a.eval y) >>= fun _ => Go.binOp op t (a.eval x) (a.eval y)) >>= fun v => pure (Next.value v))
    unfold lits2 at h2
    have hx := hs.look x
    have hy := hs.look y
    split at h2
    · rename_i k m k' m' e1 e2
      rw [e1] at hx
      rw [e2] at hy
      rw [show a.eval x = .int k m from hx, show a.eval y = .int k' m' from hy]
      exact det_bind (det_bind (guard_ints _ _ _ _ _ _ _ _) fun _ => det_ints _ _ _ _ _ _ h1) fun _ => det_pure _
    · rename_i s s' e1 e2
      rw [e1] at hx
      rw [e2] at hy
      rw [show a.eval x = .string s from hx, show a.eval y = .string s' from hy]
      exact det_bind (det_bind (guard_strs _ _ _ _ _ _) fun _ => det_strs _ _ _ _) fun _ => det_pure _
    · cases h2

def ordQ (cx : Cx) (K : Tm → Obs → Nat → Prop) : Exit → Act → World → Prop := fun e a w => e = .normal ∧ ∃ tm ob nx ρ, K tm ob nx ∧ StOk cx tm ob nx ρ a w
/-- In every order of what is not listed yet the region comes to an end as K says. -/
def AOrd (P : Program) (te : List (TypeId × TyI)) (N nx0 : Nat) (ops : Array Oper) (fuel : Nat) (listed : Array Bool) (tm : Tm) (ob : Obs) (nx : Nat) (K : Tm → Obs → Nat → Prop) : Prop :=
  TEok P te → ∀ cx : Cx, cx.N = N → cx.nx0 = nx0 → ∀ ρ a w, StOk cx tm ob nx ρ a w → wpAny P .any ops (ordQ cx K) fuel listed a w
variable {N nx0 : Nat} {ops : Array Oper} {fuel : Nat} {listed : Array Bool} {K : Tm → Obs → Nat → Prop}

theorem aord_done (hr : Region.ready .any ops listed = []) (h : K tm ob nx) : AOrd P te N nx0 ops fuel listed tm ob nx K :=
  fun _ _ _ _ ρ _ _ hs => wpAny_done hr ⟨rfl, tm, ob, nx, ρ, h, hs⟩ fuel
/-- The next operation, if it asks the world for nothing. -/
theorem aord_light (i : Nat) {o : Oper} (hi : ops[i]? = some o) (hg : o.guard = none) (hl : lightB tm o.op = true) (hc : (Region.noSelect ops && (Region.free .any ops listed i && (Region.ready .any ops listed).contains i)) = true)
    (h : vrK (opv te ob (look tm) o.op) fun v => put N o.dst v tm fun tm => AOrd P te N nx0 ops fuel (listed.setIfInBounds i true) tm ob nx K) : AOrd P te N nx0 ops (fuel + 1) listed tm ob nx K := by
  intro hte cx h1 h2 ρ a w hs
  subst h1 h2
  simp only [Bool.and_eq_true] at hc
  have hobl : (opv te ob (look tm) o.op).obl ∧ ((opv te ob (look tm) o.op).fact → put cx.N o.dst (opv te ob (look tm) o.op).val tm fun tm => AOrd P te cx.N cx.nx0 ops fuel (listed.setIfInBounds i true) tm ob nx K) := by
    unfold vrK at h
    split at h
    · rename_i v e; rw [e]; exact ⟨trivial, fun _ => h⟩
    · rename_i p v e; rw [e]; exact ⟨h.1, fun _ => h.2⟩
    · rename_i p v e; rw [e]; exact ⟨trivial, fun hp => h hp⟩
    · exact h.elim
  obtain ⟨⟨u, w', hrun, hb, hrep⟩, hf⟩ := opv_sound hte hobl.1 (fun x _ => hs.look x) hs.obs
  have hd := (light_det hl hs).h _ _ _ hrun
  have hw : w' = w := by have := hd w; rw [hrun] at this; cases this; rfl
  subst hw
  obtain ⟨tm', h3, h4⟩ := hs.put (hobl.2 hf) (rep_grow hs (Below.refl _ _) hrep)
  exact wpAny_take hi hc.1 hc.2.1 hc.2.2 (fun c a w hq => (by cases hq.1)) (.inl ⟨by simp [Region.wanted, hg], hd⟩) (h3 hte cx rfl rfl ρ _ _ h4)
/-- The operations that can be next, each. -/
def allR (F : Nat → Prop) : List Nat → Prop
  | [] => True
  | [i] => F i
  | i :: r => F i ∧ allR F r
theorem allR_spec {F : Nat → Prop} : ∀ {l : List Nat}, allR F l → ∀ i ∈ l, F i
  | [], _, _, h => by cases h
  | [i], h, j, hj => by rw [List.mem_singleton.1 hj]; exact h
  | i :: k :: r, h, j, hj => by
    rcases List.mem_cons.1 hj with rfl | hj
    · exact h.1
    · exact allR_spec (l := k :: r) h.2 j hj
/-- One operation, unguarded. -/
def oneR (P : Program) (te : List (TypeId × TyI)) (N nx0 : Nat) (ops : Array Oper) (fuel : Nat) (listed : Array Bool) (tm : Tm) (ob : Obs) (nx : Nat) (K : Tm → Obs → Nat → Prop) (i : Nat) : Prop :=
  match ops[i]? with
  | some o => match o.guard with
    | none => aop P te N nx0 o tm ob nx fun tm ob nx => AOrd P te N nx0 ops fuel (listed.setIfInBounds i true) tm ob nx K
    | some _ => False
  | none => False
theorem aord_all (rs : List Nat) (hr : Region.ready .any ops listed = rs) (hne : rs.isEmpty = false) (h : allR (oneR P te N nx0 ops fuel listed tm ob nx K) rs) : AOrd P te N nx0 ops (fuel + 1) listed tm ob nx K := by
  intro hte cx h1 h2 ρ a w hs
  subst h1 h2
  refine wpAny_all hr (fun e => by rw [e] at hne; cases hne) fun i hi => ?_
  have := allR_spec h i hi
  unfold oneR at this
  unfold wpOp
  split at this
  · rename_i o ho
    split at this
    · rename_i hg
      rw [ho]
      simp only
      rw [if_pos (by simp [Region.wanted, hg])]
      exact .inl (aop_sound hte this hs fun tm ob nx ρ a w hk hs => hk hte cx rfl rfl ρ a w hs)
    · exact this.elim
  · exact this.elim
theorem acode_ord {id : Nat} {Q : AQ} (hm : P.follows .mixedOrders = true) (h : AOrd P te N nx0 ops ops.size (Array.replicate ops.size false) tm ob nx (fun tm ob nx => Q .normal tm ob nx)) : ACode P te N nx0 (.region id ops true) tm ob nx Q := by
  unfold ACode
  intro hte cx e1 e2 ρ a w hs
  have hs' : StOk cx tm ob nx ρ a { w with drawn := w.drawn + 1 } := hs.below ⟨rfl, rfl, rfl, Nat.le_refl _, fun _ _ => rfl⟩
  refine Code.wp_mono ?_ (wp_region_any (id := id) hm (h hte cx e1 e2 ρ a _ hs'))
  rintro e a' w' ⟨rfl, tm', ob', nx', ρ', hk, hs'⟩
  exact ⟨tm', ob', nx', ρ', hk, hs'⟩
end
end Ab
end Go.Proofs.YthlfbpmbkcoclaaDoor
