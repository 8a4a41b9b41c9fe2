/-
  The texts of this proof, joined: abstract values, the library, the functions of the program and what they compute (part 3). No condition.
-/
import Derived.OrdersHeld
import Derived.Lib.UnsafeStr
import Derived.Laws.ResultCell
import Derived.Lib.LazyBuf
import Derived.ChangeArms
import Derived.Deep.Slices
import Derived.WideShapes
import Derived.Handed
import Derived.SizedLaws
import Derived.ProofKit
import Derived.Below
import Derived.ChangeSame
import Derived.OpenShut
import Derived.Carry
import Derived.Test.YtmaekcmknibmeaaGreatDoorK1
import Derived.Test.YtmaekcmknibmeaaGreatDoorK2
namespace Go.Proofs.YtmaekcmknibmeaaGreatDoor
open Go.RowKit
namespace Ab
def lits2 (lk : Operand → A) (x y : Operand) : Bool:=match lk x,lk y with
  | .one (.lit (.int _ _)),.one (.lit (.int _ _))=>true
  | .one (.lit (.string _)),.one (.lit (.string _))=>true
  | _,_=>false
def lenB (lk : Operand → A) (c : Call) : Bool:=match c.callee,c.args.toList,c.argTypes.toList with
  | .builtin .len,[x],[_]=>match lk x with
    | .one (.slk _ _ _)=>true
    | _=>false
  | _,_,_=>false
def zD (lk : Operand → A) (op : Op) : Bool:=match op with
  | .move _=>true
  | .assign _=>true
  | .binOp o _ x y _=>(match o with|.shl|.shr=>false|_=>true) && lits2 lk x y
  | .slice _ _ _ _ _=>true
  | .indexAddr _ _ _=>true
  | .field _ _ _=>true
  | .extract _ _=>true
  | .pick _ _ _=>true
  | .index _ x _=>match lk x with
    | .one (.lit (.string _))=>true
    | _=>false
  | .nilCheck x=>match lk x with
    | .one (.own _ _)=>true
    | .one (.adk _ _ _)=>true
    | _=>false
  | .fieldAddr _ x _=>match lk x with
    | .one (.own _ _)=>true
    | .one (.adk _ _ _)=>true
    | .one (.vel _ _ _)=>true
    | _=>false
  | .call c=>lenB lk c
  | _=>false
theorem det_len {P : Program} (t ty : TypeId) (a : Option Addr) (n c : Nat) : Det P (Builtin.len_ #[t] ty #[.slice a n c]):=by
  unfold Builtin.len_
  repeat' (first|exact yG _|exact (xG _).det|exact xZ _|(rename_i h;simp at h;done)|apply yV|intro _|split)
section
variable {P : Program} {te : List (TypeId × TyI)} {cx : Cx} {tm : Tm} {ob : Obs} {nx : Nat} {ρ : Nat → Option Value} {a : Act} {w : World}
theorem hD {te : List (TypeId × TyI)} (hte : TEok P te) {lk : Operand → A} {o : Oper} (h : zD lk o.op = true) (hobl : (opv te ob lk o.op).obl) (hlk : ∀ x ∈ o.op.operands.toList,(lk x).rep (okOf cx ρ ob) ρ w (a.eval x)) : Det P (execOp a.eval o):=by
  obtain ⟨dst,op,type,pos,after,guard⟩:=o;simp only at h hobl;cases op <;> first|cases h|skip
  case move x=>exact yG _
  case pick c x y=>exact yV (det_asBool _) fun _=>yG _
  case assign x=>exact yG _
  case slice t x lo hi mx=>exact yV (det_sliceAt _ _ _ _ _) fun _=>yG _
  case indexAddr t x i=>exact yV (det_indexAt _ _ _) fun _=>yG _
  case call c =>
    obtain ⟨callee,args,ts⟩:=c;have hL : lenB lk ⟨callee,args,ts⟩ = true:=h;clear h;unfold lenB at hL;split at hL
    · rename_i x t e0 e1 e2;have a0 : callee = .builtin .len:=e0;have a1 : args = #[x]:=by apply Array.toList_inj.1;rw [e1]
      have a2 : ts = #[t]:=by apply Array.toList_inj.1;rw [e2]
      subst a0 a1 a2;split at hL
      · rename_i e3;have hx:=hlk x (by simp [Op.operands,Call.operands]);rw [e3] at hx;obtain ⟨ad,cap,hv,_⟩:=hx;have he : execOp a.eval { dst:=dst,op:=.call { callee:=.builtin .len,args:=#[x],argTypes:=#[t] },type:=type,pos:=pos,after:=after,guard:=guard } = (do pure (.value (← Builtin.len_ #[t] type #[a.eval x]))):=by simp [execOp,resolve,invoke,builtin]
        rw [he,hv];exact yV (det_len _ _ _ _ _) fun _=>yG _
      · cases hL
    · cases hL
  case field t x f=>exact yV (det_field _ _ _) fun _=>yG _
  case extract t i=>exact yV (det_extract _ _) fun _=>yG _
  case nilCheck x =>
    simp only [zD] at h;split at h
    · rename_i id off e;have hx:=hlk x (by simp [Op.operands]);rw [e] at hx;obtain ⟨b,_,hv⟩:=hx;show Det P (match a.eval x with|.pointer none|.nilIface|.nilFunc=>_|.func (.method _) _ _=>_|_=>_);rw [hv];exact yG _
    · rename_i e;have hx:=hlk x (by simp [Op.operands]);rw [e] at hx;obtain ⟨b,off,cs,hv,_⟩:=hx;show Det P (match a.eval x with|.pointer none|.nilIface|.nilFunc=>_|.func (.method _) _ _=>_|_=>_);rw [hv];exact yG _
    · cases h
  case fieldAddr t x f =>
    simp only [zD] at h;split at h
    · rename_i id off e;have ho : (vFld te t (lk x) f).obl:=hobl;rw [e] at ho;unfold vFld at ho;split at ho
      · rename_i i hi;have hk:=(yO hte hi).kind;split at ho
        · rename_i fs hfs;rw [hfs] at hk;simp only at ho;split at ho
          · rename_i o' he;obtain ⟨ty,he⟩:=cJ he;have hx:=hlk x (by simp [Op.operands]);rw [e] at hx;obtain ⟨b,_,hv⟩:=hx;show Det P (do pure (Next.value (← Instr.fieldAt t (a.eval x) f)));rw [hv];refine yV ⟨fun u w1 w2 e1 w3=>?_⟩ fun _=>yG _
            rw [uB hk he _] at e1 ⊢;cases e1;rfl
          · exact ho.elim
        · exact ho.elim
      · exact ho.elim
    · rename_i e;have ho : (vFld te t (lk x) f).obl:=hobl;rw [e] at ho;unfold vFld at ho;split at ho
      · rename_i i hi;have hk:=(yO hte hi).kind;split at ho
        · rename_i fs hfs;rw [hfs] at hk;simp only at ho;split at ho
          · rename_i β S y he;have hx:=hlk x (by simp [Op.operands]);rw [e] at hx;obtain ⟨b,off,cs,hv,_,_,hc,hr⟩:=hx;obtain ⟨o,ty,ds,h1,_,_⟩:=aL (off:=off) he (by simpa using hc) hr;show Det P (do pure (Next.value (← Instr.fieldAt t (a.eval x) f)));rw [hv];refine yV ⟨fun u w1 w2 e1 w3=>?_⟩ fun _=>yG _
            rw [uB hk h1 _] at e1 ⊢;cases e1;rfl
          · exact ho.elim
        · exact ho.elim
      · exact ho.elim
    · rename_i id k n e;have ho : (vFld te t (lk x) f).obl:=hobl;rw [e] at ho;unfold vFld at ho;split at ho
      · rename_i i hi;have hk:=(yO hte hi).kind;split at ho
        · rename_i fs hfs;rw [hfs] at hk;simp only at ho;split at ho
          · rename_i o' he;obtain ⟨ty,he⟩:=cJ he;have hx:=hlk x (by simp [Op.operands]);rw [e] at hx;obtain ⟨b,m,cap,_,hv⟩:=hx;show Det P (do pure (Next.value (← Instr.fieldAt t (a.eval x) f)));rw [hv];refine yV ⟨fun u w1 w2 e1 w3=>?_⟩ fun _=>yG _
            rw [uB hk he _] at e1 ⊢;cases e1;rfl
          · exact ho.elim
        · exact ho.elim
      · exact ho.elim
    · cases h
  case index t x i =>
    simp only [zD] at h;split at h
    · rename_i s e;have hx:=hlk x (by simp [Op.operands]);rw [e] at hx;have hx : a.eval x = .string s:=hx;show Det P (do pure (Next.value (← Instr.index t (a.eval x) (a.eval i))));rw [hx];exact yV (det_index _ _ _) fun _=>yG _
    · cases h
  case binOp op t x y ty =>
    simp only [zD,Bool.and_eq_true] at h;obtain ⟨h1,h2⟩:=h;show Det P ((eqGuard op t x y (a.eval x) (a.eval y) >>= fun _=>Go.binOp op t (a.eval x) (a.eval y)) >>= fun v=>pure (Next.value v));unfold lits2 at h2;have hx:=hlk x (by simp [Op.operands]);have hy:=hlk y (by simp [Op.operands]);split at h2
    · rename_i k m k' m' e1 e2;rw [e1] at hx;rw [e2] at hy;rw [show a.eval x = .int k m from hx,show a.eval y = .int k' m' from hy];exact yV (yV (guard_ints _ _ _ _ _ _ _ _) fun _=>det_ints _ _ _ _ _ _ h1) fun _=>yG _
    · rename_i s s' e1 e2;rw [e1] at hx;rw [e2] at hy;rw [show a.eval x = .string s from hx,show a.eval y = .string s' from hy];exact yV (yV (guard_strs _ _ _ _ _ _) fun _=>det_strs _ _ _ _) fun _=>yG _
    · cases h2
def ordQ (cx : Cx) (K : Tm → Obs → Nat → Prop) : Exit → Act → World → Prop:=fun e a w=>e = .normal ∧ ∃ tm ob nx ρ,K tm ob nx ∧ StOk cx tm ob nx ρ a w
def AOrd (P : Program) (te : List (TypeId × TyI)) (N nx0 : Nat) (ops : Array Oper) (fuel : Nat) (listed : Array Bool) (tm : Tm) (ob : Obs) (nx : Nat) (K : Tm → Obs → Nat → Prop) : Prop :=
  TEok P te → ∀ cx : Cx,cx.N = N → cx.nx0 = nx0 → ∀ ρ a w,StOk cx tm ob nx ρ a w → wpAny P .any ops (ordQ cx K) fuel listed a w
variable {N nx0 : Nat} {ops : Array Oper} {fuel : Nat} {listed : Array Bool} {K : Tm → Obs → Nat → Prop}
theorem aord_done (hr : Region.ready .any ops listed = []) (h : K tm ob nx) : AOrd P te N nx0 ops fuel listed tm ob nx K :=
  fun _ _ _ _ ρ _ _ hs=>wpAny_done hr ⟨rfl,tm,ob,nx,ρ,h,hs⟩ fuel
theorem qU (h : K tm ob nx) (hr : Region.ready .any ops listed = []:=by kernel_rfl) : AOrd P te N nx0 ops fuel listed tm ob nx K:=aord_done hr h
theorem aord_light (i : Nat) {o : Oper} (hi : ops[i]? = some o) (hg : o.guard = none) (hl : zD (look tm) o.op = true) (hc : (Region.noSelect ops && (Region.free .any ops listed i && (Region.ready .any ops listed).contains i)) = true)
    (h : vrK (opv te ob (look tm) o.op) fun v=>put N o.dst v tm fun tm=>AOrd P te N nx0 ops fuel (listed.setIfInBounds i true) tm ob nx K) : AOrd P te N nx0 ops (fuel + 1) listed tm ob nx K:=by
  intro hte cx h1 h2 ρ a w hs;subst h1 h2;simp only [Bool.and_eq_true] at hc;have hobl : (opv te ob (look tm) o.op).obl ∧ ((opv te ob (look tm) o.op).fact → put cx.N o.dst (opv te ob (look tm) o.op).val tm fun tm=>AOrd P te cx.N cx.nx0 ops fuel (listed.setIfInBounds i true) tm ob nx K):=by
    unfold vrK at h;split at h
    · rename_i v e;rw [e];exact ⟨trivial,fun _=>h⟩
    · rename_i p v e;rw [e];exact ⟨h.1,fun _=>h.2⟩
    · rename_i p v e;rw [e];exact ⟨trivial,fun hp=>h hp⟩
    · exact h.elim
  obtain ⟨⟨u,w',hrun,hb,hrep⟩,hf⟩:=vN hte hobl.1 (fun x _=>hs.look x) hs.obs;have hd:=(hD (cx:=cx) (ρ:=ρ) (w:=w) (a:=a) hte hl hobl.1 (fun x _=>hs.look x)).h _ _ _ hrun;have hw : w' = w:=by have:=hd w;rw [hrun] at this;cases this;rfl
  subst hw;obtain ⟨tm',h3,h4⟩:=hs.put (hobl.2 hf) (vG hs (Below.refl _ _) hrep);exact wpAny_take hi hc.1 hc.2.1 hc.2.2 (fun c a w hq=>(by cases hq.1)) (.inl ⟨by simp [Region.wanted,hg],hd⟩) (h3 hte cx rfl rfl ρ _ _ h4)
theorem qO (i : Nat) {o : Oper} (hi : ops[i]? = some o) (h : vrK (opv te ob (look tm) o.op) fun v=>put N o.dst v tm fun tm=>AOrd P te N nx0 ops fuel (listed.setIfInBounds i true) tm ob nx K) (hg : o.guard = none:=by exact rfl) (hl : zD (look tm) o.op = true:=by exact rfl) (hc : (Region.noSelect ops && (Region.free .any ops listed i && (Region.ready .any ops listed).contains i)) = true:=by kernel_rfl) : AOrd P te N nx0 ops (fuel + 1) listed tm ob nx K:=aord_light i hi hg hl hc h
def allR (F : Nat → Prop) : List Nat → Prop
  | []=>True
  | [i]=>F i
  | i :: r=>F i ∧ allR F r
theorem allR_spec {F : Nat → Prop} : ∀ {l : List Nat},allR F l → ∀ i ∈ l,F i
  | [],_,_,h=>by cases h
  | [i],h,j,hj=>by rw [List.mem_singleton.1 hj];exact h
  | i :: k :: r,h,j,hj=>by
    rcases List.mem_cons.1 hj with rfl|hj
    · exact h.1
    · exact allR_spec (l:=k :: r) h.2 j hj
def oneR (P : Program) (te : List (TypeId × TyI)) (N nx0 : Nat) (ops : Array Oper) (fuel : Nat) (listed : Array Bool) (tm : Tm) (ob : Obs) (nx : Nat) (K : Tm → Obs → Nat → Prop) (i : Nat) : Prop :=
  match ops[i]? with
  | some o=>match o.guard with
    | none=>aop P te N nx0 o tm ob nx fun tm ob nx=>AOrd P te N nx0 ops fuel (listed.setIfInBounds i true) tm ob nx K
    | some (j,want)=>match dstAt ops.toList j with
      | some d=>match Nat.ble (d + 1) N,get tm d with
        | true,.one (.lit (.bool b))=>aopQ P te N nx0 o (gq want b) tm ob nx fun tm ob nx=>AOrd P te N nx0 ops fuel (listed.setIfInBounds i true) tm ob nx K
        | true,.cond p (.one (.lit (.bool b)))=>aopQ P te N nx0 o (p && gq want b) tm ob nx fun tm ob nx=>AOrd P te N nx0 ops fuel (listed.setIfInBounds i true) tm ob nx K
        | _,_=>False
      | none=>False
  | none=>False
theorem aord_all (rs : List Nat) (hr : Region.ready .any ops listed = rs) (hne : rs.isEmpty = false) (h : allR (oneR P te N nx0 ops fuel listed tm ob nx K) rs) : AOrd P te N nx0 ops (fuel + 1) listed tm ob nx K:=by
  intro hte cx h1 h2 ρ a w hs;subst h1 h2;refine wpAny_all hr (fun e=>by rw [e] at hne;cases hne) fun i hi=>?_
  have:=allR_spec h i hi;unfold oneR at this;unfold wpOp;split at this
  · rename_i o ho;split at this
    · rename_i hg;rw [ho];simp only;rw [if_pos (by simp [Region.wanted,hg])];exact .inl (zY hte this hs fun tm ob nx ρ a w hk hs=>hk hte cx rfl rfl ρ a w hs)
    · rename_i j want hg;rw [ho];simp only;have go : ∀ {q : Bool},Region.wanted o (yielded ops a.tmps) = q → aopQ P te cx.N cx.nx0 o q tm ob nx (fun tm ob nx=>AOrd P te cx.N cx.nx0 ops fuel (listed.setIfInBounds i true) tm ob nx K) → if Region.wanted o (yielded ops a.tmps) = true then o.wp P a w (wpAny P .any ops (ordQ cx K) fuel (listed.setIfInBounds i true)) (ordQ cx K) ∨ (o.asks P a w ∧ LetsOut (ordQ cx K)) else wpAny P .any ops (ordQ cx K) fuel (listed.setIfInBounds i true) (a.put o.dst undef) w:=by
        intro q hw h;obtain ⟨h3,h4⟩:=dV (Q:=ordQ cx K) (next:=wpAny P .any ops (ordQ cx K) fuel (listed.setIfInBounds i true)) hte h hs (fun tm ob nx ρ a w hk hs=>hk hte cx rfl rfl ρ a w hs);split
        · rename_i e;exact .inl (h3 (hw.symm.trans e))
        · rename_i e;exact h4 (hw.symm.trans (by simpa using e))
      split at this
      · rename_i d hd;split at this
        · rename_i b hlt hb;exact go (fM hs hg hd hlt hb) this
        · rename_i p b hlt hb;exact go (wanted_at' hs hg hd hlt hb) this
        · exact this.elim
      · exact this.elim
  · exact this.elim
theorem qK (rs : List Nat) (h : allR (oneR P te N nx0 ops fuel listed tm ob nx K) rs) (hr : Region.ready .any ops listed = rs:=by kernel_rfl) (hne : rs.isEmpty = false:=by exact rfl) : AOrd P te N nx0 ops (fuel + 1) listed tm ob nx K:=aord_all rs hr hne h
theorem yW {id : Nat} {Q : AQ} (hm : (P.follows .mixedOrders && vT ops.toList) = true) (h : AOrd P te N nx0 ops ops.size (Array.replicate ops.size false) tm ob nx (fun tm ob nx=>Q .normal tm ob nx)) : qZ P te N nx0 (.region id ops true) tm ob nx Q:=by
  unfold qZ;intro hte rd n cx _ e1 e2 ρ a w hs;rw [Bool.and_eq_true] at hm;have hs' : StOk cx tm ob nx ρ a { w with drawn:=w.drawn + 1 }:=hs.below ⟨rfl,rfl,rfl,Nat.le_refl _,fun _ _=>rfl⟩;refine wpIn_mono (region_fr (id:=id) hm.1 hm.2 (by rintro ⟨_,_,h,_⟩;cases h) (h hte cx e1 e2 ρ a _ hs')) ?_
  rintro e a' w' ⟨rfl,tm',ob',nx',ρ',hk,hs'⟩
  exact ⟨tm',ob',nx',ρ',hk,hs'⟩
end
def Gro (w w' : World) : Prop:=∀ b,b < w.heap.size → w'.heap[b]? = w.heap[b]?
theorem Gro.refl (w : World) : Gro w w:=fun _ _=>rfl
structure DetB (P : Program) (b : Nat) {α : Type} (s : Sem α) : Prop where
  h : ∀ x w w',(∃ c e f,w.heap[b]? = some (.cells c e f)) → s.run P w = .ok x w' → w' = w ∧ ∀ w2 : World,w2.heap[b]? = w.heap[b]? → s.run P w2 = .ok x w2
structure GroS (P : Program) {α : Type} (s : Sem α) : Prop where
  h : ∀ x w w',s.run P w = .ok x w' → w.heap.size ≤ w'.heap.size ∧ Gro w w'
section
variable {P : Program} {α β : Type} {b : Nat}
theorem Det.same {s : Sem α} (h : Det P s) {x : α} {w w' : World} (e : s.run P w = .ok x w') : w' = w:=by
  have:=h.h x w w' e w;rw [e] at this;cases this;rfl
theorem eZ {s : Sem α} (h : Det P s) : DetB P b s:=⟨fun x w w' _ e=>⟨h.same e,fun w2 _=>h.h x w w' e w2⟩⟩
theorem zQ {s : Sem α} {f : α → Sem β} (h : DetB P b s) (h2 : ∀ a,DetB P b (f a)) : DetB P b (s >>= f):=by
  refine ⟨fun x w w' hb e=>?_⟩;rw [Sem.run_bind] at e;cases hs : s.run P w with
  | ok a w1 =>
    rw [hs] at e;obtain ⟨rfl,g1⟩:=h.h a w w1 hb hs;obtain ⟨g2,g3⟩:=(h2 a).h x _ w' hb e;refine ⟨g2,fun w2 hw=>?_⟩;rw [Sem.run_bind,g1 w2 hw];exact g3 w2 hw
  | halt x w1=>rw [hs] at e;cases e
theorem detB_load (a : Addr) (ha : a.block = b) : DetB P b (load a):=by
  subst ha;refine ⟨fun x w w' ⟨c,e,f,hb⟩ hr=>?_⟩;have hc : ∀ w2 : World,w2.heap[a.block]? = w.heap[a.block]? → w2.cell? a = w.cell? a:=fun w2 h2=>by
    unfold World.cell?;rw [h2]
  unfold load at hr ⊢;unfold Sem.run at hr;split at hr
  · rename_i v hv;have hr : Result.ok v w = Result.ok x w':=hr;cases hr;refine ⟨rfl,fun w2 h2=>?_⟩;unfold Sem.run;rw [hc w2 h2,hv];rfl
  · unfold World.farLoad at hr;rw [hb] at hr;simp at hr
theorem detB_cells (a : Addr) (ha : a.block = b) : ∀ (n i : Nat) (acc : Array Value),DetB P b (loadCellsFrom a i n acc)
  | 0,_,_=>eZ (yG _)
  | n + 1,i,acc=>zQ (detB_load (a.add i) (by rw [← ha];unfold Addr.add;split <;> rfl)) fun _=>detB_cells a ha n (i + 1) _
theorem det_isAgg (t : TypeId) : Det P (isAgg t):=by
  unfold isAgg;refine yV (xZ _) fun x=>?_
  split <;> exact yG _
theorem detB_loadVar (t : TypeId) (a : Addr) (ha : a.block = b) : DetB P b (loadVar t a):=by
  unfold loadVar;refine zQ (eZ (det_isAgg _)) fun x=>?_
  split
  · exact zQ (eZ (vP _)) fun n=>zQ (detB_cells a ha n 0 _) fun c=>eZ (yG _)
  · exact detB_load a ha
theorem Det.grows {s : Sem α} (h : Det P s) : GroS P s:=⟨fun x w w' e=>by rw [h.same e];exact ⟨Nat.le_refl _,Gro.refl _⟩⟩
theorem dL {s : Sem α} {f : α → Sem β} (h : GroS P s) (h2 : ∀ a,GroS P (f a)) : GroS P (s >>= f):=by
  refine ⟨fun x w w' e=>?_⟩;rw [Sem.run_bind] at e;cases hs : s.run P w with
  | ok a w1 =>
    rw [hs] at e;obtain ⟨g1,g2⟩:=h.h a w w1 hs;obtain ⟨g3,g4⟩:=(h2 a).h x w1 w' e;exact ⟨Nat.le_trans g1 g3,fun k hk=>(g4 k (Nat.lt_of_lt_of_le hk g1)).trans (g2 k hk)⟩
  | halt x w1=>rw [hs] at e;cases e
theorem grows_new (o : Obj) : GroS P (newObj o):=by
  refine ⟨fun x w w' e=>?_⟩;have e : Result.ok w.heap.size (w.alloc o) = Result.ok x w':=e;cases e;have hb:=kU w o;exact ⟨hb.size,hb.block⟩
theorem det_zero (t : TypeId) : Det P (zeroValue t):=by
  unfold zeroValue;refine yV ?_ fun x=>?_
  · unfold typeInfo
    repeat' (first|exact yG _|exact (xG _).det|exact gX|apply yV|intro _|split)
  · split
    · exact yG _
    · exact (xG _).det
theorem grows_slice (t : TypeId) (n : Nat) (ps : Array (Nat × Value)) : GroS P (Instr.buildSlice t n ps):=by
  unfold Instr.buildSlice;refine dL (xZ _).grows fun x=>?_
  split
  · refine dL (vP _).grows fun sz=>?_
    dsimp only
    repeat' (first|exact (yG _).grows|exact (xG _).det.grows|exact (det_zero _).grows|exact grows_new _|(unfold newRow)|apply dL|intro _|split)
  · exact (xG _).det.grows
end
def minB (lk : Operand → A) (c : Call) : Bool:=match c.callee,c.args.toList,c.argTypes.toList with
  | .builtin .min,[x,y],[_,_]=>lits2 lk x y
  | _,_,_=>false
def calmB (ob : Obs) (lk : Operand → A) (op : Op) : Bool:=match op with
  | .load _ x=>match lk x with
    | .one (.own id _)=>match getO ob id with
      | some (.box _ _)=>true
      | _=>false
    | _=>false
  | .call c=>minB lk c
  | _=>zD lk op
section
variable {P : Program} {te : List (TypeId × TyI)} {cx : Cx} {tm : Tm} {ob : Obs} {nx : Nat} {ρ : Nat → Option Value} {a : Act} {w : World}
theorem calm_det {o : Oper} (hte : TEok P te) (h : calmB ob (look tm) o.op = true) (hobl : (opv te ob (look tm) o.op).obl) (hs : StOk cx tm ob nx ρ a w) {v : Next} {w' : World} (hr : (execOp a.eval o).run P w = .ok v w') : w' = w ∧ ∀ w2,Gro w w2 → (execOp a.eval o).run P w2 = .ok v w2:=by
  have lit : ∀ {hl : zD (look tm) o.op = true},w' = w ∧ ∀ w2,Gro w w2 → (execOp a.eval o).run P w2 = .ok v w2:=fun {hl}=>by
    have hd:=hD (cx:=cx) (ρ:=ρ) (w:=w) (a:=a) hte hl hobl (fun x _=>hs.look x);exact ⟨hd.same hr,fun w2 _=>hd.h _ _ _ hr w2⟩
  obtain ⟨dst,op,type,pos,after,guard⟩:=o;simp only at h hobl;cases op <;> first|exact lit (hl:=h)|skip
  case load t x =>
    simp only [calmB] at h;split at h
    · rename_i id off e;split at h
      · rename_i T cs hg;have hx:=hs.look x;rw [e] at hx;obtain ⟨b,hb,hv⟩:=hx;obtain ⟨b2,vs,g1,g2,_⟩:=uR hs.obs hg;rw [hb] at g1;cases g1;have hd : DetB P b (execOp a.eval { dst:=dst,op:=.load t x,type:=type,pos:=pos,after:=after,guard:=guard }):=by
          show DetB P b (do pure (Next.value (← Instr.loadAt t (a.eval x))));rw [hv];exact zQ (detB_loadVar t _ rfl) fun _=>eZ (yG _)
        obtain ⟨g3,g4⟩:=hd.h _ _ _ ⟨_,_,_,g2⟩ hr;refine ⟨g3,fun w2 hw=>g4 w2 (hw b ?_)⟩;exact (Array.getElem?_eq_some_iff.1 g2).1
      · cases h
    · cases h
  case call c =>
    obtain ⟨callee,args,ts⟩:=c;have hL : minB (look tm) ⟨callee,args,ts⟩ = true:=h;clear h;unfold minB at hL;split at hL
    · rename_i x y t t' e0 e1 e2;have a0 : callee = .builtin .min:=e0;have a1 : args = #[x,y]:=by apply Array.toList_inj.1;rw [e1]
      have a2 : ts = #[t,t']:=by apply Array.toList_inj.1;rw [e2]
      subst a0 a1 a2;have he : execOp a.eval { dst:=dst,op:=.call { callee:=.builtin .min,args:=#[x,y],argTypes:=#[t,t'] },type:=type,pos:=pos,after:=after,guard:=guard } = (do pure (.value (← Builtin.min_ #[t,t'] type #[a.eval x,a.eval y]))):=by simp [execOp,resolve,invoke,builtin]
      rw [he] at hr ⊢;have hd : Det P (do pure (Next.value (← Builtin.min_ #[t,t'] type #[a.eval x,a.eval y]))):=by
        refine yV ?_ fun _=>yG _
        unfold lits2 at hL;have hx:=hs.look x;have hy:=hs.look y;split at hL
        · rename_i e3 e4;rw [e3] at hx;rw [e4] at hy;rw [show a.eval x = _ from hx,show a.eval y = _ from hy];unfold Builtin.min_;simp only [List.foldlM,Builtin.min2]
          repeat' (first|exact yG _|exact (xG _).det|apply yV|intro _|split)
        · rename_i e3 e4;rw [e3] at hx;rw [e4] at hy;rw [show a.eval x = _ from hx,show a.eval y = _ from hy];unfold Builtin.min_;simp only [List.foldlM,Builtin.min2]
          repeat' (first|exact yG _|exact (xG _).det|apply yV|intro _|split)
        · cases hL
      exact ⟨hd.same hr,fun w2 _=>hd.h _ _ _ hr w2⟩
    · cases hL
variable {N nx0 : Nat} {ops : Array Oper} {fuel : Nat} {listed : Array Bool} {K : Tm → Obs → Nat → Prop}
def AOrd1 (P : Program) (te : List (TypeId × TyI)) (N nx0 : Nat) (ops : Array Oper) (fuel : Nat) (listed : Array Bool) (tm : Tm) (ob : Obs) (nx : Nat) (K : Tm → Obs → Nat → Prop) : Prop :=
  TEok P te → ∀ cx : Cx,cx.N = N → cx.nx0 = nx0 → ∀ ρ a w,StOk cx tm ob nx ρ a w → wpAnyH P .any ops (ordQ cx K) (Gro w) fuel listed a w
def AOrd2 (P : Program) (te : List (TypeId × TyI)) (N nx0 : Nat) (ops : Array Oper) (fuel : Nat) (listed : Array Bool) (tm : Tm) (ob : Obs) (nx : Nat) (K : Tm → Obs → Nat → Prop) : Prop :=
  TEok P te → ∀ cx : Cx,cx.N = N → cx.nx0 = nx0 → ∀ ρ a w w0,StOk cx tm ob nx ρ a w → Gro w0 w → wpAnyH P .any ops (ordQ cx K) (Gro w0) fuel listed a w
theorem acode_ordH {id : Nat} {Q : AQ} (hm : (P.follows .mixedOrders && vT ops.toList) = true) (h : AOrd1 P te N nx0 ops ops.size (Array.replicate ops.size false) tm ob nx (fun tm ob nx=>Q .normal tm ob nx)) : qZ P te N nx0 (.region id ops true) tm ob nx Q :=
  yW hm fun hte cx h1 h2 ρ a w hs=>wpAny_of_held _ _ _ _ (h hte cx h1 h2 ρ a w hs)
theorem take_parts {o : Oper} (h : vrK (opv te ob (look tm) o.op) fun v=>put N o.dst v tm fun tm=>K tm ob nx) : (opv te ob (look tm) o.op).obl ∧ ((opv te ob (look tm) o.op).fact → put N o.dst (opv te ob (look tm) o.op).val tm fun tm=>K tm ob nx):=by
  unfold vrK at h;split at h
  · rename_i v e;rw [e];exact ⟨trivial,fun _=>h⟩
  · rename_i p v e;rw [e];exact ⟨h.1,fun _=>h.2⟩
  · rename_i p v e;rw [e];exact ⟨trivial,fun hp=>h hp⟩
  · exact h.elim
theorem yS (i : Nat) {o : Oper} (hi : ops[i]? = some o) (hg : o.guard = none) (hl : calmB ob (look tm) o.op = true) (hc : (Region.noSelect ops && (Region.free .any ops listed i && (Region.ready .any ops listed).contains i)) = true)
    (h : vrK (opv te ob (look tm) o.op) fun v=>put N o.dst v tm fun tm=>AOrd1 P te N nx0 ops fuel (listed.setIfInBounds i true) tm ob nx K) : AOrd1 P te N nx0 ops (fuel + 1) listed tm ob nx K:=by
  intro hte cx h1 h2 ρ a w hs;subst h1 h2;simp only [Bool.and_eq_true] at hc;have hobl:=take_parts (K:=fun tm ob nx=>AOrd1 P te cx.N cx.nx0 ops fuel (listed.setIfInBounds i true) tm ob nx K) h;obtain ⟨⟨u,w',hrun,hb,hrep⟩,hf⟩:=vN hte hobl.1 (fun x _=>hs.look x) hs.obs;obtain ⟨rfl,hd⟩:=calm_det hte hl hobl.1 hs hrun;obtain ⟨tm',h3,h4⟩:=hs.put (hobl.2 hf) (vG hs (Below.refl _ _) hrep);exact wpAnyH_take hi hc.1 hc.2.1 hc.2.2 (fun c a w hq=>(by cases hq.1)) (.inl ⟨by simp [Region.wanted,hg],hd⟩) (Gro.refl _) (h3 hte cx rfl rfl ρ _ _ h4)
theorem aS (i : Nat) {o : Oper} (hi : ops[i]? = some o) (hg : o.guard = none) (hl : zD (look tm) o.op = true) (hc : (Region.noSelect ops && (Region.free .any ops listed i && (Region.ready .any ops listed).contains i)) = true)
    (h : vrK (opv te ob (look tm) o.op) fun v=>put N o.dst v tm fun tm=>AOrd2 P te N nx0 ops fuel (listed.setIfInBounds i true) tm ob nx K) : AOrd2 P te N nx0 ops (fuel + 1) listed tm ob nx K:=by
  intro hte cx h1 h2 ρ a w w0 hs hw0;subst h1 h2;simp only [Bool.and_eq_true] at hc;have hobl:=take_parts (K:=fun tm ob nx=>AOrd2 P te cx.N cx.nx0 ops fuel (listed.setIfInBounds i true) tm ob nx K) h;obtain ⟨⟨u,w',hrun,hb,hrep⟩,hf⟩:=vN hte hobl.1 (fun x _=>hs.look x) hs.obs;have hd:=hD (cx:=cx) (ρ:=ρ) (w:=w) (a:=a) hte hl hobl.1 (fun x _=>hs.look x);obtain rfl:=hd.same hrun;obtain ⟨tm',h3,h4⟩:=hs.put (hobl.2 hf) (vG hs (Below.refl _ _) hrep);exact wpAnyH_take hi hc.1 hc.2.1 hc.2.2 (fun c a w hq=>(by cases hq.1)) (.inl ⟨by simp [Region.wanted,hg],fun w2 _=>hd.h _ _ _ hrun w2⟩) hw0 (h3 hte cx rfl rfl ρ _ _ w0 h4 hw0)
theorem aord2_done (hr : Region.ready .any ops listed = []) (h : K tm ob nx) : AOrd2 P te N nx0 ops fuel listed tm ob nx K :=
  fun _ _ _ _ ρ _ _ _ hs _=>wpAnyH_done hr ⟨rfl,tm,ob,nx,ρ,h,hs⟩ fuel
theorem iQ (i : Nat) {o : Oper} {t : TypeId} {n : Nat} {ps : Array (Nat × Operand)} (hi : ops[i]? = some o) (hg : o.guard = none) (hop : o.op = .buildSlice t n ps) (hr : Region.ready .any ops listed = [i])
    (h : aop P te N nx0 o tm ob nx fun tm ob nx=>AOrd2 P te N nx0 ops fuel (listed.setIfInBounds i true) tm ob nx K) : AOrd1 P te N nx0 ops (fuel + 1) listed tm ob nx K:=by
  intro hte cx h1 h2 ρ a w hs;subst h1 h2;refine wpAnyH_all hr (by simp) fun j hj=>?_
  obtain rfl : j = i:=by simpa using hj
  unfold wpOp;rw [hi];simp only;rw [if_pos (by simp [Region.wanted,hg])];refine .inl ?_;have h3:=zY (Q:=ordQ cx K) (K:=fun tm ob nx=>AOrd2 P te cx.N cx.nx0 ops fuel (listed.setIfInBounds j true) tm ob nx K) (next:=fun a' w'=>∀ w0,Gro w0 w' → wpAnyH P .any ops (ordQ cx K) (Gro w0) fuel (listed.setIfInBounds j true) a' w') hte h hs (fun tm ob nx ρ a w hk hs w0 hw0=>hk hte cx rfl rfl ρ a w w0 hs hw0);obtain ⟨dst,op,type,pos,after,guard⟩:=o;simp only at hop;subst hop;have he : ∀ w,(execOp a.eval { dst:=dst,op:=.buildSlice t n ps,type:=type,pos:=pos,after:=after,guard:=guard }).run P w = ((Instr.buildSlice t n (ps.map fun (i,x)=>(i,a.eval x))).run P w).andThen fun v w=>.ok (.value v) w:=fun w=>by
    show (do pure (Next.value (← Instr.buildSlice t n (ps.map fun (i,x)=>(i,a.eval x))))).run P w = _;rw [Sem.run_bind];rfl
  unfold Oper.wp at h3 ⊢;rw [he] at h3 ⊢;cases hrun : (Instr.buildSlice t n (ps.map fun (i,x)=>(i,a.eval x))).run P w with
  | halt x w1 =>
    rw [hrun] at h3;cases x <;> exact h3
  | ok x w1 =>
    obtain ⟨_,hg1⟩:=(grows_slice t n _).h _ _ _ hrun;rw [hrun] at h3;exact ⟨hg1,h3 w hg1⟩
end
section
variable {P : Program} {te : List (TypeId × TyI)} {N nx0 : Nat} {tm : Tm} {ob : Obs} {nx : Nat} {Q : AQ}
theorem zt_len {t : TypeId} {i : TyI} (h : TyOk P t i) (n : Nat) : (Builtin.zeroCells i.zeroV.cells n).toList.length = n * i.size:=by
  rw [Array.length_toList,size_zeroCells,h.zeroCells,List.size_toArray,h.zlen]
theorem zt_list {t : TypeId} {i : TyI} (h : TyOk P t i) (n : Nat) : (Builtin.zeroCells i.zeroV.cells n).toList = (List.replicate n i.zero).flatten:=by
  have hl:=zt_len h n;have hf : ∀ c ∈ List.replicate n i.zero,c.length = i.size:=fun c hc=>by rw [(List.mem_replicate.1 hc).2,h.zlen]
  have hfl:=xO (List.replicate n i.zero) hf;rw [List.length_replicate] at hfl;apply List.ext_getElem?;intro k;rcases Nat.lt_or_ge k (n * i.size) with hk|hk
  · have hpos : 0 < i.size:=by
      rcases Nat.eq_zero_or_pos i.size with h0|h0
      · rw [h0] at hk;omega
      · exact h0
    have hkd : k / i.size < n:=Nat.div_lt_of_lt_mul (by rw [Nat.mul_comm];exact hk);have hkm : k % i.size < i.size:=Nat.mod_lt _ hpos;have e1 : (List.replicate n i.zero).flatten[k]? = i.zero[k % i.size]?:=by
      have:=uC (List.replicate n i.zero) (k / i.size) (k % i.size) hf (by simpa using hkd) hkm;rw [Nat.mul_comm,Nat.div_add_mod] at this;rw [this]
      congr 1
      rw [List.getD_eq_getElem?_getD,List.getElem?_replicate,if_pos hkd];rfl
    rw [e1];unfold Builtin.zeroCells;rw [h.zeroCells];have hz : i.zero.length = i.size:=h.zlen;rw [Array.toList_map,Array.toList_range,List.getElem?_map,List.getElem?_range (by rw [List.size_toArray,hz];exact hk)];simp only [Option.map_some,List.size_toArray,hz];rw [List.getElem?_eq_getElem (by rw [hz];exact hkm)];simp [hz,hkm]
  · rw [List.getElem?_eq_none (by rw [hl];exact hk),List.getElem?_eq_none (by rw [hfl];exact hk)]
theorem zt_one {t : TypeId} {i : TyI} (h : TyOk P t i) (n : Nat) : ∀ v ∈ (Builtin.zeroCells i.zeroV.cells n).toList,v.oneCell' = true:=by
  intro v hv;rw [zt_list h] at hv;obtain ⟨c,hc,hv⟩:=List.mem_flatten.1 hv;rw [(List.mem_replicate.1 hc).2] at hv;exact fV (h.zplain _ hv)
theorem run_clear_t {t e ty : TypeId} {ei : TyI} (ht : P.underlying t = some (.slice e)) (he : TyOk P e ei) (w : World) (b o n c : Nat) {cur : Array Value} {T : TypeId} (hb : w.heap[b]? = some (.cells cur T (0,0))) (hn : 0 < n) (hfit : o + n * ei.size ≤ cur.size) :
    (Builtin.clear_ #[t] ty #[.slice (some ⟨b,o,none⟩) n c]).run P w = .ok (.tuple #[]) (w.setRow b (cur.toList.take o ++ (Builtin.zeroCells ei.zeroV.cells n).toList ++ cur.toList.drop (o + n * ei.size)).toArray):=by
  have hst:=run_storeCells_at P b o T (Builtin.zeroCells ei.zeroV.cells n).toList 0 cur w hb (by rw [zt_len he];omega) (zt_one he n);simp only [Nat.add_zero,zt_len he] at hst;obtain ⟨m,rfl⟩ : ∃ m,n = m + 1:=⟨n - 1,by omega⟩;simp [Builtin.clear_,run_underlying ht,he.zeroValue,hst]
theorem acode_part {id : Nat} {ops : Array Oper} (l rest : List Oper) (ho : ops.toList = l ++ rest) {tm1 : Tm} {ob1 : Obs} {nx1 : Nat} (h : awp P te N nx0 ops.toList l tm ob nx (fun tm ob nx=>(tm,ob,nx) = (tm1,ob1,nx1)))
    (hr : TEok P te → ∀ (rd : Option Nat) (n : Nat) (cx : Cx),cx.N = N → cx.nx0 = nx0 → ∀ ρ a w,StOk cx tm1 ob1 nx1 ρ a w → wpListIn (FR rd) n P ops (fun e a w=>∃ tm' ob' nx' ρ',Q e tm' ob' nx' ∧ StOk cx tm' ob' nx' ρ' a w) rest a w) : qZ P te N nx0 (.region id ops false) tm ob nx Q:=by
  unfold qZ;intro hte rd n cx _ e1 e2 ρ a w hs;subst e1 e2;refine wpIn_region_list ?_;rw [ho];refine jI hte ops rest l h hs fun tm ob nx ρ a w hk hs=>?_
  cases hk;exact hr hte rd n cx rfl rfl ρ a w hs
theorem awp_last {cx : Cx} {ρ : Nat → Option Value} {a : Act} {w : World} {rd : Option Nat} {n : Nat} {ops : Array Oper} (hte : TEok P te) (e1 : cx.N = N) (e2 : cx.nx0 = nx0) (l : List Oper) {tm1 : Tm} {ob1 : Obs} {nx1 : Nat} (hs : StOk cx tm ob nx ρ a w) (h : awp P te N nx0 ops.toList l tm ob nx (fun tm ob nx=>(tm,ob,nx) = (tm1,ob1,nx1))) (hq : Q .normal tm1 ob1 nx1) :
    wpListIn (FR rd) n P ops (fun e a w=>∃ tm' ob' nx' ρ',Q e tm' ob' nx' ∧ StOk cx tm' ob' nx' ρ' a w) l a w:=by
  subst e1 e2;refine jV hte ops l h hs fun tm ob nx ρ a w hk hs=>?_
  cases hk;exact ⟨_,_,_,ρ,hq,hs⟩
variable {cx : Cx} {ρ : Nat → Option Value} {a : Act} {w : World}
theorem clear_sound {rd : Option Nat} {n : Nat} {ops : Array Oper} {F : Exit → Act → World → Prop} {t e : TypeId} {ei : TyI} {α : Type} {R : Rd α} {z : α} {xs : List α} {o2 o3 : Oper} {x k : Operand} {d i kk : Nat} (ht : P.underlying t = some (.slice e)) (he : TyOk P e ei) (hz : ofL R (litL ei.zero) = some (z,[])) (hn : R.n = ei.size)
    (g2 : o2.guard = none) (h2 : o2.op = .slice t x (some k) none none) (d2 : o2.dst = some d) (g3 : o3.guard = none) (h3 : o3.op = .call { callee:=.builtin .clear,args:=#[.tmp d],argTypes:=#[t] }) (d3 : o3.dst = none) (hd : d < cx.N)
    (hs : StOk cx tm ob nx ρ a w) (hx : look tm x = .one (.vec i)) (hk : look tm k = ii .i64 kk) (hg : getO ob i = some (.vec e R xs)) (hlt : kk < xs.length)
    (hK : ∀ a w,StOk cx ((d,.one .any) :: tm) (setO i (.vec e R (xs.take kk ++ List.replicate (xs.length - kk) z)) ob) nx ρ a w → F .normal a w) : wpListIn (FR rd) n P ops F [o2,o3] a w:=by
  obtain ⟨v,hv,css,c1,c2,hown⟩ : ∃ v,ρ i = some v ∧ uF (okOf cx ρ ob) w v e R xs:=hs.obs _ (yF hg);have hvx:=hs.look x;rw [hx] at hvx;have evx : a.eval x = v:=Option.some.inj (hvx.1.symm.trans hv);have evk : a.eval k = .int .i64 kk:=by have:=hs.look k;rw [hk] at this;exact this
  have hfl:=uP c1 c2;have hfs:=xO css hfl;rcases id hown.2 with ⟨_,h0⟩|⟨b,cap,cur,rfl,_,hb,hnc,hcm,hcs,htk⟩
  · omega
  have hnp:=R.n_pos;have hle : kk * R.n + (xs.length - kk) * R.n = xs.length * R.n:=by rw [← Nat.add_mul];congr 1;omega
  have hcap : xs.length * R.n ≤ cap * R.n:=Nat.mul_le_mul_right _ hnc;have hsl : (Instr.sliceAt t (.slice (some ⟨b,0,none⟩) xs.length cap) (some (.int .i64 kk)) none none).run P w = .ok (.slice (some ⟨b,kk * R.n,none⟩) (xs.length - kk) (cap - kk)) w:=by
    have hbd : (Instr.sliceBounds true xs.length cap (some (.int .i64 kk)) none none).run P w = .ok (kk,xs.length,cap) w:=by
      have h5 : 0 ≤ (kk : Int) ∧ (kk : Int) ≤ (xs.length : Int):=by omega
      simp only [Instr.sliceBounds,Instr.sliceBound,asIntOf,Sem.run_bind,Sem.run_pure,Result.andThen_ok,if_pos h5,if_true,Int.toNat_natCast]
    simp only [Instr.sliceAt,Instr.slice,Sem.run_bind,run_underlying ht,Result.andThen_ok,hbd,he.sizeOf,Sem.run_pure,← hn];rw [if_neg (show ¬ cap = kk by omega)];simp [Go.WideShapes.add_plain]
  refine kQ g2 (fun c e=>by rw [h2] at e;cases e) (jQ (v:=.slice (some ⟨b,kk * R.n,none⟩) (xs.length - kk) (cap - kk)) (w':=w) ?_ ?_)
  · unfold execOp;simp only [h2,evx,evk,Option.map_some,Option.map_none,Sem.run_bind,hsl,Result.andThen_ok,Sem.run_pure]
  rw [d2];have hzl:=zt_len he (xs.length - kk);have hcl:=run_clear_t (ty:=o3.type) ht he w b (kk * R.n) (xs.length - kk) (cap - kk) hb (by omega) (by rw [hcs,← hn];omega);rw [← hn] at hcl hzl;obtain ⟨cur2,hcur2⟩ : ∃ c : Array Value,(cur.toList.take (kk * R.n) ++ (Builtin.zeroCells ei.zeroV.cells (xs.length - kk)).toList ++ cur.toList.drop (kk * R.n + (xs.length - kk) * R.n)).toArray = c:=⟨_,rfl⟩;rw [hcur2] at hcl;have hcz : cur2.size = cap * R.n:=by
    rw [← hcur2];simp only [List.size_toArray,List.length_append,List.length_take,List.length_drop,Array.length_toList,hcs,hzl];omega
  have hct : cur2.toList.take (xs.length * R.n) = (css.take kk ++ List.replicate (xs.length - kk) ei.zero).flatten:=by
    have h5 : cur.toList.length = cap * R.n:=by simpa using hcs
    rw [← hcur2,zt_list he,List.flatten_append];have h6 : ((List.replicate (xs.length - kk) ei.zero).flatten).length = (xs.length - kk) * R.n:=by
      rw [← zt_list he,hzl]
    have h7:=take_mid cur.toList _ (kk * R.n) ((xs.length - kk) * R.n) (xs.length * R.n) h6 (by omega) (by omega);show ((cur.toList.take (kk * R.n) ++ (List.replicate (xs.length - kk) ei.zero).flatten) ++ _).take _ = _;rw [h7,htk];have h8 : (css.take kk).flatten = css.flatten.take (kk * R.n):=by
      have e1:=congrArg List.flatten (List.take_append_drop kk css);rw [List.flatten_append] at e1;rw [← e1,List.take_left' (by rw [xO _ fun c hc=>hfl c (List.mem_of_mem_take hc),List.length_take];congr 1;omega)]
    rw [← h8,List.drop_of_length_le (by rw [hfs,c1];omega),List.append_nil]
  have hs1 : StOk cx ((d,.one .any) :: tm) ob nx ρ (a.put (some d) (.slice (some ⟨b,kk * R.n,none⟩) (xs.length - kk) (cap - kk))) w:=by
    obtain ⟨tm',h5,h6⟩:=hs.put (d:=some d) (v:=.one .any) (u:=.slice (some ⟨b,kk * R.n,none⟩) (xs.length - kk) (cap - kk)) (K:=fun tm'=>tm' = (d,.one .any) :: tm) (by unfold Ab.put;simp only;rw [Nat.ble_eq_true_of_le hd];trivial) trivial;rw [h5] at h6;exact h6
  have hkp : xI (okOf cx ρ ob) (okOf cx ρ ob) w (w.setRow b cur2):=fun _ q hq hlt=>⟨hq,jL.block q hlt (fun e=>hq.2 _ (yF hg) (by rw [hv];exact e.symm))⟩
  obtain ⟨us,r,hu1,hu2,hu3⟩:=jZ (ok:=okOf cx ρ ob) (ρ:=ρ) (w:=w) R hz (by rw [litL_eq];exact uZ ei.zero);have hu3 : r = []:=hu3;rw [hu3,List.append_nil] at hu1;have hs2 : StOk cx ((d,.one .any) :: tm) (setO i (.vec e R (xs.take kk ++ List.replicate (xs.length - kk) z)) ob) nx ρ (a.put (some d) (.slice (some ⟨b,kk * R.n,none⟩) (xs.length - kk) (cap - kk))) (w.setRow b cur2):=by
    have hll : (xs.take kk ++ List.replicate (xs.length - kk) z).length = xs.length:=by rw [List.length_append,List.length_take,List.length_replicate];omega
    refine hs1.write hg (by rw [hv];exact jL) (by simp [World.setRow]) ⟨_,hv,css.take kk ++ List.replicate (xs.length - kk) ei.zero,by rw [List.length_append,List.length_take,List.length_replicate,hll];omega,fun j hj=>?_,?_⟩
    · rw [hll] at hj;simp only [List.getElem_append,List.length_take]
      by_cases hjk : j < kk
      · rw [dif_pos (by omega),List.getElem_take];have : (css.take kk ++ List.replicate (xs.length - kk) ei.zero).getD j [] = css.getD j []:=by
          rw [List.getD_eq_getElem?_getD,List.getElem?_append_left (by rw [List.length_take];omega),List.getElem?_take_of_lt hjk,← List.getD_eq_getElem?_getD]
        rw [this];exact R.kept hkp (c2 j hj)
      · rw [dif_neg (by omega),List.getElem_replicate];have : (css.take kk ++ List.replicate (xs.length - kk) ei.zero).getD j [] = ei.zero:=by
          rw [List.getD_eq_getElem?_getD,List.getElem?_append_right (by rw [List.length_take];omega),List.getElem?_replicate,if_pos (by rw [List.length_take];omega)];rfl
        rw [this,hu1];exact R.kept hkp hu2
    · rw [hll];refine ⟨?_,.inr ⟨b,cap,cur2,rfl,Nat.zero_le _,setRow_heap w b _ _ e _ hb,hnc,hcm,hcz,hct⟩⟩;have h9 : cur2.toList.length = cap * R.n:=by rw [Array.length_toList];exact hcz
      rw [← hct,List.length_take,h9];exact Nat.min_eq_left hcap
  refine kQ g3 (fun c e=>by rw [h3] at e;cases e) (jQ (v:=.tuple #[]) (w':=w.setRow b cur2) ?_ ?_)
  · unfold execOp;have hev : (a.put (some d) (.slice (some ⟨b,kk * R.n,none⟩) (xs.length - kk) (cap - kk))).eval (.tmp d) = .slice (some ⟨b,kk * R.n,none⟩) (xs.length - kk) (cap - kk):=by
      show ((a.tmps.setIfInBounds d _).getD d undef) = _;exact eS (by rw [hs.size];exact hd)
    simp only [h3,resolve,invoke,builtin,Sem.run_bind,Sem.run_pure,Result.andThen_ok,List.map_toArray,List.map_cons,List.map_nil,hev,hcl]
  rw [d3];exact hK _ _ hs2
theorem cut_soundE {rd : Option Nat} {n : Nat} {ops : Array Oper} {F : Exit → Act → World → Prop} {t e : TypeId} {ei : TyI} {α : Type} {R : Rd α} {xs : List α} {o2 : Oper} {rest : List Oper} {x k : Operand} {d i kk : Nat} (ht : P.underlying t = some (.slice e)) (he : TyOk P e ei) (hn : R.n = ei.size)
    (g2 : o2.guard = none) (h2 : o2.op = .slice t x none (some k) none) (d2 : o2.dst = some d) (hd : d < cx.N)
    (hs : StOk cx tm ob nx ρ a w) (hx : look tm x = .one (.vec i)) (hk : look tm k = ii .i64 kk) (hg : getO ob i = some (.vec e R xs)) (h0l : 0 < xs.length) (hlt : kk ≤ xs.length)
    (hK : ∀ ρ a,StOk cx ((d,.one (.vec i)) :: vF i .any tm) (setO i (.vec e R (xs.take kk)) (kG i .any ob)) nx ρ a w → wpListIn (FR rd) n P ops F rest a w) : wpListIn (FR rd) n P ops F (o2 :: rest) a w:=by
  obtain ⟨v,hv,css,c1,c2,hown⟩ : ∃ v,ρ i = some v ∧ uF (okOf cx ρ ob) w v e R xs:=hs.obs _ (yF hg);have hvx:=hs.look x;rw [hx] at hvx;have evx : a.eval x = v:=Option.some.inj (hvx.1.symm.trans hv);have evk : a.eval k = .int .i64 kk:=by have:=hs.look k;rw [hk] at this;exact this
  have hfl:=uP c1 c2;have hfs:=xO css hfl;rcases id hown.2 with ⟨_,h0⟩|⟨b,cap,cur,rfl,_,hb,hnc,hcm,hcs,htk⟩
  · omega
  have hnp:=R.n_pos;have hsl : (Instr.sliceAt t (.slice (some ⟨b,0,none⟩) xs.length cap) none (some (.int .i64 kk)) none).run P w = .ok (.slice (some ⟨b,0,none⟩) kk cap) w:=by
    have hbd : (Instr.sliceBounds true xs.length cap none (some (.int .i64 kk)) none).run P w = .ok (0,kk,cap) w:=by
      have h5 : 0 ≤ (kk : Int) ∧ (kk : Int) ≤ (cap : Int):=by omega
      simp only [Instr.sliceBounds,Instr.sliceBound,asIntOf,Sem.run_bind,Sem.run_pure,Result.andThen_ok,if_pos h5,if_true,Int.toNat_natCast]
    simp only [Instr.sliceAt,Instr.slice,Sem.run_bind,run_underlying ht,Result.andThen_ok,hbd,he.sizeOf,Sem.run_pure,← hn];rw [if_neg (show ¬ cap = 0 by omega)];simp [Go.WideShapes.add_plain]
  refine kQ g2 (fun c e=>by rw [h2] at e;cases e) (jQ (v:=.slice (some ⟨b,0,none⟩) kk cap) (w':=w) ?_ ?_)
  · unfold execOp;simp only [h2,evx,evk,Option.map_some,Option.map_none,Sem.run_bind,hsl,Result.andThen_ok,Sem.run_pure]
  rw [d2];have h8 : (css.take kk).flatten = css.flatten.take (kk * R.n):=by
    have e1:=congrArg List.flatten (List.take_append_drop kk css);rw [List.flatten_append] at e1;rw [← e1,List.take_left' (by rw [xO _ fun c hc=>hfl c (List.mem_of_mem_take hc),List.length_take];congr 1;omega)]
  have hll : (xs.take kk).length = kk:=by rw [List.length_take];omega
  have hkl : kk * R.n ≤ xs.length * R.n:=Nat.mul_le_mul_right _ (by omega);have hgr : Grew w w (blk (ρ i)):=⟨rfl,rfl,rfl,Nat.le_refl _,fun _ _ _=>rfl⟩;have hkp:=wT (o':=.vec e R (xs.take kk)) (v':=.slice (some ⟨b,0,none⟩) kk cap) hs hg hgr (fun q hq=>.inl (by rw [hv];exact hq));have hs1 : StOk cx (vF i .any tm) (setO i (.vec e R (xs.take kk)) (kG i .any ob)) nx (upd ρ i (.slice (some ⟨b,0,none⟩) kk cap)) a w:=by
    refine hs.swap hg hgr (fun q hq=>.inl (by rw [hv];exact hq)) ⟨_,xF,css.take kk,by rw [List.length_take,hll];omega,fun j hj=>?_,?_⟩
    · rw [hll] at hj;rw [List.getElem_take];have : (css.take kk).getD j [] = css.getD j []:=by
        rw [List.getD_eq_getElem?_getD,List.getElem?_take_of_lt hj,← List.getD_eq_getElem?_getD]
      rw [this];exact R.kept hkp (c2 j (by omega))
    · rw [hll,h8];refine ⟨by rw [List.length_take,hfs,c1];omega,.inr ⟨b,cap,cur,rfl,Nat.zero_le _,hb,by omega,hcm,hcs,?_⟩⟩;rw [← htk,List.take_take,Nat.min_eq_left hkl]
  obtain ⟨tm',h5,h6⟩:=hs1.put (d:=some d) (v:=.one (.vec i)) (u:=.slice (some ⟨b,0,none⟩) kk cap) (K:=fun tm'=>tm' = (d,.one (.vec i)) :: vF i .any tm) (by unfold Ab.put;simp only;rw [Nat.ble_eq_true_of_le hd];trivial) ⟨xF,_,_,_,rfl⟩;rw [h5] at h6;exact hK _ _ h6
theorem cut_sound {rd : Option Nat} {n : Nat} {ops : Array Oper} {F : Exit → Act → World → Prop} {t e : TypeId} {ei : TyI} {α : Type} {R : Rd α} {xs : List α} {o2 : Oper} {rest : List Oper} {x k : Operand} {d i kk : Nat} (ht : P.underlying t = some (.slice e)) (he : TyOk P e ei) (hn : R.n = ei.size)
    (g2 : o2.guard = none) (h2 : o2.op = .slice t x none (some k) none) (d2 : o2.dst = some d) (hd : d < cx.N)
    (hs : StOk cx tm ob nx ρ a w) (hx : look tm x = .one (.vec i)) (hk : look tm k = ii .i64 kk) (hg : getO ob i = some (.vec e R xs)) (hlt : kk < xs.length)
    (hK : ∀ ρ a,StOk cx ((d,.one (.vec i)) :: vF i .any tm) (setO i (.vec e R (xs.take kk)) (kG i .any ob)) nx ρ a w → wpListIn (FR rd) n P ops F rest a w) : wpListIn (FR rd) n P ops F (o2 :: rest) a w :=
  cut_soundE ht he hn g2 h2 d2 hd hs hx hk hg (Nat.lt_of_le_of_lt (Nat.zero_le _) hlt) (Nat.le_of_lt hlt) hK
end
def cellV (te : List (TypeId × TyI)) (ob : Obs) (ty : TypeId) (x : A) : Option A:=match x with
  | .one (.own id off)=>match find te ty,getO ob id with
    | some i,some (.box _ cs)=>match bN i off cs with
      | .ok v=>some v
      | _=>none
    | _,_=>none
  | _=>none
def retQC (te : List (TypeId × TyI)) (rs : List ResultVar) (r : A) : AQ:=fun e tm ob _=>match e with
  | .ret=>match rs with
    | [.cell t ty]=>match cellV te ob ty (get tm t) with
      | some v=>finA te ob v = r
      | none=>False
    | [.cell t ty,.tmp u]=>match cellV te ob ty (get tm t) with
      | some v=>.tup [jG (finA te ob v),jG (finA te ob (get tm u))] = r
      | none=>False
    | [.cell t ty,.cell u uy]=>match cellV te ob ty (get tm t),cellV te ob uy (get tm u) with
      | some v,some x=>.tup [jG (finA te ob v),jG (finA te ob x)] = r
      | _,_=>False
    | [.cell t ty,.tmp u,.tmp x]=>match cellV te ob ty (get tm t) with
      | some v=>.tup [jG (finA te ob v),jG (finA te ob (get tm u)),jG (finA te ob (get tm x))] = r
      | none=>False
    | [.cell t ty,.tmp u,.tmp x,.tmp y]=>match cellV te ob ty (get tm t) with
      | some v=>.tup [jG (finA te ob v),jG (finA te ob (get tm u)),jG (finA te ob (get tm x)),jG (finA te ob (get tm y))] = r
      | none=>False
    | _=>False
  | _=>False
theorem results_cell_3 {fn : Func} {p q r : Tmp} {ty : TypeId} (h : fn.results = #[.cell p ty,.tmp q,.tmp r]) (tmps : Array Value) (P : Program) (w : World) :
    (results fn tmps).run P w = ((asAddr (tmps.getD p undef)).run P w).andThen fun a w₁=>((loadVar ty a).run P w₁).andThen fun v w₂=>.ok (.tuple #[v,tmps.getD q undef,tmps.getD r undef]) w₂:=by
  simp only [results,h];simp [Sem.run_bind,Result.andThen]
theorem results_cell_4 {fn : Func} {p q r s : Tmp} {ty : TypeId} (h : fn.results = #[.cell p ty,.tmp q,.tmp r,.tmp s]) (tmps : Array Value) (P : Program) (w : World) :
    (results fn tmps).run P w = ((asAddr (tmps.getD p undef)).run P w).andThen fun a w₁=>((loadVar ty a).run P w₁).andThen fun v w₂=>.ok (.tuple #[v,tmps.getD q undef,tmps.getD r undef,tmps.getD s undef]) w₂:=by
  simp only [results,h];simp [Sem.run_bind,Result.andThen]
theorem results_cell {fn : Func} {p : Tmp} {ty : TypeId} (h : fn.results = #[.cell p ty]) (tmps : Array Value) (P : Program) (w : World) :
    (results fn tmps).run P w = ((asAddr (tmps.getD p undef)).run P w).andThen fun a w₁=>(loadVar ty a).run P w₁:=by
  simp only [results,h];simp [Sem.run_bind,Result.andThen]
theorem results_cell2 {fn : Func} {p q : Tmp} {ty uy : TypeId} (h : fn.results = #[.cell p ty,.cell q uy]) (tmps : Array Value) (P : Program) (w : World) :
    (results fn tmps).run P w = ((asAddr (tmps.getD p undef)).run P w).andThen fun a w₁=>((loadVar ty a).run P w₁).andThen fun v w₂=>((asAddr (tmps.getD q undef)).run P w₂).andThen fun b w₃=>((loadVar uy b).run P w₃).andThen fun u w₄=>.ok (.tuple #[v,u]) w₄:=by
  simp only [results,h];simp [Sem.run_bind,Result.andThen]
section
variable {P : Program} {te : List (TypeId × TyI)} {cx : Cx} {tm : Tm} {ob : Obs} {nx : Nat} {ρ : Nat → Option Value} {a : Act} {w : World}
theorem box_load {i : TyI} {t : TypeId} {b off : Nat} {T : TypeId} {vs : List Value} {cs : List C} (hok : TyOk P t i) (hb : w.heap[b]? = some (.cells (vs.toArray : Array Value) T (0,0))) (hcs : repL (okOf cx ρ ob) ρ w cs vs) (h : (bN i off cs).obl) :
    ∃ u,(loadVar t ⟨b,off,none⟩).run P w = .ok u w ∧ (bN i off cs).val.rep (okOf cx ρ ob) ρ w u:=by
  have hlen:=repL.len hcs;unfold bN at h ⊢;split at h
  · rename_i hle;have hle:=Nat.le_of_ble_eq_true hle;rw [jP,← hlen] at hle;have hc:=cells_box hb off i.size hle;have hrun:=vY hok hc;cases hag : i.k.agg <;> simp only [hag] at h hrun
    · have h1:=hok.size1 hag;obtain ⟨v,hv,hv'⟩:=zG off (by omega) hcs;obtain ⟨ho,hf⟩:=cI h;refine ⟨v,?_,?_⟩
      · rw [hrun,h1,nth_drop vs off v hv];rfl
      · rw [ho];exact hv'
    · split at h
      · rename_i hsz;have hsz:=Nat.eq_of_beq_eq_true hsz;rw [jP] at hsz;have h0 : off = 0:=by omega
        subst h0;refine ⟨_,hrun,vs,?_,hcs⟩;simp only [List.drop_zero,if_true];rw [List.take_of_length_le (by omega)]
      · refine ⟨_,hrun,_,rfl,?_⟩;rw [eD,eX];exact cD _ (cE _ hcs)
  · exact h.elim
theorem vQ (hte : TEok P te) {ty : TypeId} {t : Nat} {v : A} (hs : StOk cx tm ob nx ρ a w) (h : cellV te ob ty (get tm t) = some v) :
    ∃ ad u,(asAddr (a.tmps.getD t undef)).run P w = .ok ad w ∧ (loadVar ty ad).run P w = .ok u w ∧ v.rep (okOf cx ρ ob) ρ w u:=by
  have hr:=hs.tms t
  generalize get tm t = x at h hr
  unfold cellV at h;split at h
  · rename_i id off;obtain ⟨b,hρ,hv⟩:=hr;split at h
    · rename_i i T cs hi hg;obtain ⟨b',vs,hρ',hb,hcs⟩:=uR hs.obs hg;rw [hρ] at hρ';simp only [Option.some.injEq,Value.pointer.injEq,Addr.mk.injEq,and_true] at hρ';subst hρ';split at h
      · rename_i y e;cases h;obtain ⟨u,h1,h2⟩:=box_load (t:=ty) (off:=off) (yO hte hi) hb hcs (by rw [e];trivial);rw [e] at h2;exact ⟨_,u,by rw [hv];rfl,h1,h2⟩
      · cases h
    · cases h
  · cases h
theorem yT {f : FuncId} {fn : Func} {c : Code} {args : List A} {rs : List ResultVar} {r : A} (hf : P.funcs[f]? = some fn) (hb : fn.body = some c) (hname : (fn.name == "runtime.NumGoroutine") = false) (hr : fn.results = rs.toArray) (hte : TEok P te)
    (hn : Nat.ble args.length fn.ntmps = true) (h : qZ P te fn.ntmps 0 c (argT 0 args) [] 0 (retQC te rs r)) : qX P f args r:=by
  refine ⟨⟨fn,hf,by rw [hb];rfl,hname⟩,fun ok w vs hgl hvs=>callsIn_wide.1 (callsIn_of_wp_marks (F:=FR none) (n:=0) hf hb trivial ?_)⟩
  let cx : Cx:=⟨ok,yI,w,fn.ntmps,0,[],true⟩
  have hl:=yX.len hvs;have hn:=Nat.le_of_ble_eq_true hn;have hk : xI ok (okOf cx yI []) w w:=fun _ b hb _=>⟨⟨.inl hb,fun p hp=>by cases hp⟩,rfl⟩
  have hs : StOk cx (argT 0 args) [] 0 yI { tmps:=vs.toArray ++ Array.replicate (fn.ntmps - vs.toArray.size) undef,defers:=[] } w:=by
    refine ⟨?_,uL.none rfl,fun i=>?_,fun p hp=>by (cases hp),by simp,fun p hp=>by (cases hp),fun _ _=>rfl,Nat.le_refl _,fun p hp=>by (cases hp),fun p hp=>by (cases hp),⟨rfl,rfl,rfl,Nat.le_refl _,fun _ _ _ _=>rfl,fun _ _=>.rfl' rfl⟩,fun _ _ h _=>absurd h (Nat.not_lt_zero _),fun _ h=>absurd h (Nat.not_lt_zero _),hgl,.low (show (0 : Nat) < 1000000 by decide)⟩
    · show (vs.toArray ++ Array.replicate (fn.ntmps - vs.toArray.size) undef).size = fn.ntmps;simp;omega
    · rcases gL 0 i hvs with h1|h1
      · have hcell : (vs.toArray ++ Array.replicate (fn.ntmps - vs.toArray.size) undef).getD i undef = if i < 0 then undef else vs.getD (i - 0) undef:=by
          rw [if_neg (Nat.not_lt_zero _),Nat.sub_zero,Array.getD_eq_getD_getElem?,Array.getElem?_append];split
          · simp [List.getD]
          · rename_i hge;rw [Array.getElem?_replicate];simp only [List.size_toArray] at hge ⊢;rw [List.getD,List.getElem?_eq_none (by omega)];split <;> rfl
        rw [hcell];exact A.kept hk h1
      · rw [h1];trivial
  unfold qZ at h;refine Code.wpIn_mono ?_ (h hte none 0 cx (eQ rfl rfl (by show ¬ (1000000 ≤ 0);decide)) rfl rfl yI _ w hs)
  rintro e a' w0' ⟨tm',ob',nx',ρ',hq,hs0'⟩
  cases e with
  | ret =>
    refine StOk.unwind hs0' rfl rfl fun w' hs'=>?_
    have hbel : Below w.heap.size w w':=⟨hs'.keep.os,hs'.keep.tape,hs'.keep.output,hs'.keep.size,fun b hb=>hs'.keep.block b hb (fun ⟨_,h,_⟩=>absurd h (Nat.not_lt_zero _)) (fun hg=>absurd hg.1.1 (by show ¬ (1000000 ≤ 0);decide))⟩;have fin : ∀ t,(finA te ob' (get tm' t)).rep (grow ok w) yI w' (a'.tmps.getD t undef):=fun t=>vK hs' rfl (hs'.tms t)
    simp only [retQC] at hq;split at hq
    · rename_i t ty;split at hq
      · rename_i v hv;obtain ⟨ad,u,h1,h2,h3⟩:=vQ hte hs' hv;subst hq;refine ⟨u,?_,u,rfl,hbel,vK hs' rfl h3⟩;rw [results_cell hr,h1];exact h2
      · exact hq.elim
    · rename_i t ty u;split at hq
      · rename_i v hv;obtain ⟨ad,x,h1,h2,h3⟩:=vQ hte hs' hv;subst hq;refine ⟨.tuple #[x,a'.tmps.getD u undef],?_,_,rfl,hbel,[_,_],rfl,_,_,rfl,yY (vK hs' rfl h3),_,_,rfl,yY (fin u),rfl⟩;rw [results_cell_tmp hr];simp only [Result.andThen,h1,h2]
      · exact hq.elim
    · rename_i t ty u uy;split at hq
      · rename_i v x hv hx;obtain ⟨ad,y,h1,h2,h3⟩:=vQ hte hs' hv;obtain ⟨ad2,z,g1,g2,g3⟩:=vQ hte hs' hx;subst hq;refine ⟨.tuple #[y,z],?_,_,rfl,hbel,[_,_],rfl,_,_,rfl,yY (vK hs' rfl h3),_,_,rfl,yY (vK hs' rfl g3),rfl⟩;rw [results_cell2 hr];simp only [Result.andThen,h1,h2,g1,g2]
      · exact hq.elim
    · rename_i t ty u x;split at hq
      · rename_i v hv;obtain ⟨ad,y,h1,h2,h3⟩:=vQ hte hs' hv;subst hq;refine ⟨.tuple #[y,a'.tmps.getD u undef,a'.tmps.getD x undef],?_,_,rfl,hbel,[_,_,_],rfl,_,_,rfl,yY (vK hs' rfl h3),_,_,rfl,yY (fin u),_,_,rfl,yY (fin x),rfl⟩;rw [results_cell_3 hr];simp only [Result.andThen,h1,h2]
      · exact hq.elim
    · rename_i t ty u x z;split at hq
      · rename_i v hv;obtain ⟨ad,y,h1,h2,h3⟩:=vQ hte hs' hv;subst hq;refine ⟨.tuple #[y,a'.tmps.getD u undef,a'.tmps.getD x undef,a'.tmps.getD z undef],?_,_,rfl,hbel,[_,_,_,_],rfl,_,_,rfl,yY (vK hs' rfl h3),_,_,rfl,yY (fin u),_,_,rfl,yY (fin x),_,_,rfl,yY (fin z),rfl⟩;rw [results_cell_4 hr];simp only [Result.andThen,h1,h2]
      · exact hq.elim
    · exact hq.elim
  | normal=>exact (show False from hq).elim
  | exit i=>exact (show False from hq).elim
  | goto l=>exact (show False from hq).elim
  | panic ch=>exact (show False from hq).elim
  | outgrown=>exact (show False from hq).elim
end
def swN (i j k : Nat) : Nat:=match Nat.beq k i with
  | true=>j
  | false=>match Nat.beq k j with
    | true=>i
    | false=>k
def renTm (σ : Nat → Nat) : Tm → Tm
  | []=>[]
  | p :: r=>(p.1,p.2.ren σ) :: renTm σ r
theorem get_ren (σ : Nat → Nat) : ∀ (tm : Tm) (i : Nat),get (renTm σ tm) i = (get tm i).ren σ
  | [],_=>rfl
  | p :: r,i=>by
    simp only [renTm,get];split
    · rfl
    · exact get_ren σ r i
theorem bB (i j k : Nat) : swN i j k = if k = i then j else if k = j then i else k:=by
  unfold swN
  by_cases h : k = i
  · subst h;simp
  · have : Nat.beq k i = false:=by
      cases hb : Nat.beq k i
      · rfl
      · exact absurd (Nat.eq_of_beq_eq_true hb) h
    rw [this,if_neg h]
    by_cases h2 : k = j
    · subst h2;simp
    · have : Nat.beq k j = false:=by
        cases hb : Nat.beq k j
        · rfl
        · exact absurd (Nat.eq_of_beq_eq_true hb) h2
      rw [this,if_neg h2]
theorem jY (i j k : Nat) : swN i j (swN i j k) = k:=by
  rw [bB i j k]
  by_cases h : k = i
  · rw [if_pos h,bB]
    by_cases h2 : j = i
    · rw [if_pos h2,h2,h]
    · rw [if_neg h2,if_pos rfl,h]
  · rw [if_neg h]
    by_cases h2 : k = j
    · rw [if_pos h2,bB,if_pos rfl,h2]
    · rw [if_neg h2,bB,if_neg h,if_neg h2]
theorem swN_inj {i j a b : Nat} (h : swN i j a = swN i j b) : a = b:=by rw [← jY i j a,h,jY]
section
variable {P : Program} {te : List (TypeId × TyI)} {N nx0 : Nat} {tm : Tm} {ob : Obs} {nx : Nat} {Q : AQ}
theorem StOk.swapN {cx : Cx} {ρ : Nat → Option Value} {a : Act} {w : World} (i j : Nat) {α β : Type} {E E' : TypeId} {R : Rd α} {S : Rd β} {xs : List α} {ys : List β} (hi : getO ob i = some (.vec E R xs)) (hj : getO ob j = some (.vec E' S ys)) (hs : StOk cx tm ob nx ρ a w) : StOk cx (renTm (swN i j) tm) (jA (swN i j) ob) nx (fun k=>ρ (swN i j k)) a w:=by
  have hback : (fun k=>(fun k=>ρ (swN i j k)) (swN i j k)) = ρ:=funext fun k=>by simp only [jY]
  have hok : okOf cx (fun k=>ρ (swN i j k)) (jA (swN i j) ob) = okOf cx ρ ob:=by
    funext _ b
    unfold okOf
    congr 1
    apply propext
    constructor
    · intro h1 p hp;have hm : ∀ {ob : Obs},p ∈ ob → (swN i j p.1,p.2.ren (swN i j)) ∈ jA (swN i j) ob:=by
        intro ob hp
        induction ob with
        | nil=>cases hp
        | cons q r ih =>
          rcases List.mem_cons.1 hp with hp|hp
          · subst hp;exact List.mem_cons_self
          · exact List.mem_cons_of_mem _ (ih hp)
      have:=h1 _ (hm hp);simp only [jY] at this;exact this
    · intro h1 p hp;obtain ⟨q,hq,rfl⟩:=kB hp;simp only [jY];exact h1 q hq
  have slice : ∀ {id : Nat} {γ : Type} {E : TypeId} {T : Rd γ} {zs : List γ} {p : Option Addr},getO ob id = some (.vec E T zs) → ρ id ≠ some (.pointer p):=by
    intro id γ E T zs p hg e;obtain ⟨v,hv,css,_,_,h3⟩:=hs.obs _ (yF hg);have hv : ρ id = some v:=hv;rw [hv] at e;rcases h3.2 with ⟨h4,_⟩|⟨g,cap,cur,h4,_⟩ <;> (rw [h4] at e;cases e)
  have hlt : ∀ k,k < nx → swN i j k < nx:=fun k hk=>by
    rw [bB];have h1:=hs.fresh _ (yF hi);have h2:=hs.fresh _ (yF hj);simp only at h1 h2;split
    · exact h2
    · split
      · exact h1
      · exact hk
  refine ⟨hs.size,hs.defers,fun k=>?_,fun p hp=>?_,?_,fun p hp=>?_,fun k hk=>?_,hs.nx0,fun p hp q hq hne b=>?_,fun p hp b=>?_,hs.keep,hs.disj,fun k hk p e=>?_,hs.glob,hs.bags⟩
  · rw [get_ren,hok];refine A.ren_rep.2 ?_;rw [hback];exact hs.tms k
  · obtain ⟨q,hq,rfl⟩:=kB hp;rw [hok];show Ob.is (okOf cx ρ ob) (fun k=>ρ (swN i j k)) w (swN i j q.1) (Ob.ren (swN i j) q.2);refine Ob.ren_is.2 ?_;rw [hback];exact hs.obs q hq
  · rw [aE];exact List.Pairwise.map _ (fun _ _ h e=>h (swN_inj e)) hs.nd
  · obtain ⟨q,hq,rfl⟩:=kB hp;exact hlt _ (hs.fresh q hq)
  · have : ¬ swN i j k < nx:=fun h=>by
      have:=hlt _ h;rw [jY] at this;omega
    exact hs.names _ (Nat.le_of_not_lt this)
  · obtain ⟨p',hp',rfl⟩:=kB hp;obtain ⟨q',hq',rfl⟩:=kB hq;simp only [jY];exact hs.sep p' hp' q' hq' (fun e=>hne (by simp only [e])) b
  · obtain ⟨p',hp',rfl⟩:=kB hp;simp only [jY];exact hs.low p' hp' b
  · have h1:=(hs.pin k hk p e).trans e;show ρ (swN i j k) = cx.nm k;rw [bB];split
    · rename_i h2;rw [h2] at h1;exact absurd h1 (slice hi)
    · split
      · rename_i h2;rw [h2] at h1;exact absurd h1 (slice hj)
      · exact hs.pin k hk p e
theorem StOk.swapB {cx : Cx} {ρ : Nat → Option Value} {a : Act} {w : World} (i j : Nat) {o o2 : Ob} (hi : getO ob i = some o) (hj : getO ob j = some o2) (gi : cx.nx0 ≤ i) (gj : cx.nx0 ≤ j) (hs : StOk cx tm ob nx ρ a w) : StOk cx (renTm (swN i j) tm) (jA (swN i j) ob) nx (fun k=>ρ (swN i j k)) a w:=by
  have hback : (fun k=>(fun k=>ρ (swN i j k)) (swN i j k)) = ρ:=funext fun k=>by simp only [jY]
  have hok : okOf cx (fun k=>ρ (swN i j k)) (jA (swN i j) ob) = okOf cx ρ ob:=by
    funext _ b
    unfold okOf
    congr 1
    apply propext
    constructor
    · intro h1 p hp;have hm : ∀ {ob : Obs},p ∈ ob → (swN i j p.1,p.2.ren (swN i j)) ∈ jA (swN i j) ob:=by
        intro ob hp
        induction ob with
        | nil=>cases hp
        | cons q r ih =>
          rcases List.mem_cons.1 hp with hp|hp
          · subst hp;exact List.mem_cons_self
          · exact List.mem_cons_of_mem _ (ih hp)
      have:=h1 _ (hm hp);simp only [jY] at this;exact this
    · intro h1 p hp;obtain ⟨q,hq,rfl⟩:=kB hp;simp only [jY];exact h1 q hq
  have hlt : ∀ k,k < nx → swN i j k < nx:=fun k hk=>by
    rw [bB];have h1:=hs.fresh _ (yF hi);have h2:=hs.fresh _ (yF hj);simp only at h1 h2;split
    · exact h2
    · split
      · exact h1
      · exact hk
  refine ⟨hs.size,hs.defers,fun k=>?_,fun p hp=>?_,?_,fun p hp=>?_,fun k hk=>?_,hs.nx0,fun p hp q hq hne b=>?_,fun p hp b=>?_,hs.keep,hs.disj,fun k hk p e=>?_,hs.glob,hs.bags⟩
  · rw [get_ren,hok];refine A.ren_rep.2 ?_;rw [hback];exact hs.tms k
  · obtain ⟨q,hq,rfl⟩:=kB hp;rw [hok];show Ob.is (okOf cx ρ ob) (fun k=>ρ (swN i j k)) w (swN i j q.1) (Ob.ren (swN i j) q.2);refine Ob.ren_is.2 ?_;rw [hback];exact hs.obs q hq
  · rw [aE];exact List.Pairwise.map _ (fun _ _ h e=>h (swN_inj e)) hs.nd
  · obtain ⟨q,hq,rfl⟩:=kB hp;exact hlt _ (hs.fresh q hq)
  · have : ¬ swN i j k < nx:=fun h=>by
      have:=hlt _ h;rw [jY] at this;omega
    exact hs.names _ (Nat.le_of_not_lt this)
  · obtain ⟨p',hp',rfl⟩:=kB hp;obtain ⟨q',hq',rfl⟩:=kB hq;simp only [jY];exact hs.sep p' hp' q' hq' (fun e=>hne (by simp only [e])) b
  · obtain ⟨p',hp',rfl⟩:=kB hp;simp only [jY];exact hs.low p' hp' b
  · show ρ (swN i j k) = cx.nm k;rw [bB];split
    · rename_i h2;exact absurd gi (by omega)
    · split
      · rename_i h2;exact absurd gj (by omega)
      · exact hs.pin k hk p e
theorem uX {c : Code} (i j : Nat) {α β : Type} {E E' : TypeId} {R : Rd α} {S : Rd β} {xs : List α} {ys : List β} (hi : getO ob i = some (.vec E R xs)) (hj : getO ob j = some (.vec E' S ys)) (h : qZ P te N nx0 c (renTm (swN i j) tm) (jA (swN i j) ob) nx Q) : qZ P te N nx0 c tm ob nx Q:=by
  unfold qZ at h ⊢;intro hte rd n cx hnr e1 e2 ρ a w hs;exact h hte rd n cx hnr e1 e2 (fun k=>ρ (swN i j k)) a w (hs.swapN i j hi hj)
def isVec : Option Ob → Bool
  | some (.vec _ _ _)=>true
  | _=>false
theorem isVec_of {o : Option Ob} (h : isVec o = true) : ∃ (α : Type) (E : TypeId) (R : Rd α) (xs : List α),o = some (.vec E R xs):=by
  unfold isVec at h;split at h
  · exact ⟨_,_,_,_,rfl⟩
  · cases h
def mendQ (i j : Nat) (Q : AQ) : AQ:=fun e tm ob nx=>isVec (getO ob i) = true ∧ isVec (getO ob j) = true ∧ Q e (renTm (swN i j) tm) (jA (swN i j) ob) nx
theorem acode_mend {c : Code} (i j : Nat) (h : qZ P te N nx0 c tm ob nx (mendQ i j Q)) : qZ P te N nx0 c tm ob nx Q:=by
  unfold qZ at h ⊢;intro hte rd n cx hnr e1 e2 ρ a w hs;refine Code.wpIn_mono ?_ (h hte rd n cx hnr e1 e2 ρ a w hs)
  rintro e a' w' ⟨tm',ob',nx',ρ',⟨h1,h2,hq⟩,hs'⟩
  obtain ⟨_,_,_,_,h1⟩:=isVec_of h1;obtain ⟨_,_,_,_,h2⟩:=isVec_of h2;exact ⟨_,_,_,_,hq,hs'.swapN i j h1 h2⟩
end
section
variable {P : Program} {te : List (TypeId × TyI)} {N nx0 : Nat} {tm : Tm} {ob : Obs} {nx : Nat} {Q : AQ}
theorem uE {c : Code} (i : Nat) {α : Type} {E : TypeId} {R : Rd α} {xs : List α} (hg : getO ob i = some (.vec E R xs)) (h : qZ P te N nx0 c (vF i (.sl R xs) tm) ((i,.vec E R []) :: kG i (.sl R xs) (jF i ob)) nx Q) : qZ P te N nx0 c tm ob nx Q:=by
  unfold qZ at h ⊢;intro hte rd n cx hnr e1 e2 ρ a w hs;have hmem:=yF hg;obtain ⟨v,hv,hvec⟩ : ∃ v,ρ i = some v ∧ uF (okOf cx ρ ob) w v E R xs:=hs.obs _ hmem;have hsl : ∀ p,v ≠ .pointer p:=by
    intro p e;obtain ⟨css,_,_,h3⟩:=hvec;rcases h3.2 with ⟨h4,_⟩|⟨g,cap,cur,h4,_⟩ <;> (rw [h4] at e;cases e)
  let ρ' : Nat → Option Value:=upd ρ i (.slice none 0 0)
  let ob' : Obs:=(i,.vec E R []) :: kG i (.sl R xs) (jF i ob)
  have hmem' : ∀ p ∈ ob',(p.1 = i ∧ p.2 = .vec E R []) ∨ ∃ q ∈ ob,q.1 ≠ i ∧ p = (q.1,q.2.sub i (.sl R xs)):=by
    intro p hp;rcases List.mem_cons.1 hp with rfl|hp
    · exact .inl ⟨rfl,rfl⟩
    · obtain ⟨q,hq,rfl⟩:=uI hp;obtain ⟨h1,h2⟩:=xN.1 hq;exact .inr ⟨q,h1,h2,rfl⟩
  have hblk : ∀ p ∈ ob',∀ b,blk (ρ' p.1) = some b → ∃ q ∈ ob,q.1 ≠ i ∧ q.1 = p.1 ∧ blk (ρ q.1) = some b:=by
    intro p hp b e;rcases hmem' p hp with ⟨h1,_⟩|⟨q,hq,hn,rfl⟩
    · rw [h1,show ρ' i = some (.slice none 0 0) from xF] at e;cases e
    · exact ⟨q,hq,hn,rfl,by rw [show ρ' q.1 = ρ q.1 from kW hn] at e;exact e⟩
  have hok : ∀ k b,okOf cx ρ ob k b → okOf cx ρ' ob' k b:=fun k b hb=>⟨hb.1,fun p hp e=>by
    obtain ⟨q,hq,_,_,e2⟩:=hblk p hp b e;exact hb.2 q hq e2⟩
  have hkeep : xI (okOf cx ρ ob) (okOf cx ρ' ob') w w:=fun _ b hb _=>⟨hok _ b hb,rfl⟩
  have hsub : Sub i (.sl R xs) (okOf cx ρ ob) (okOf cx ρ' ob') ρ ρ' w w:=by
    refine ⟨fun u hu=>?_,fun j u hj e=>by rw [show ρ' j = ρ j from kW hj];exact e,hkeep⟩;rw [hv] at hu;obtain rfl:=Option.some.inj hu;refine vec_sl 0 hvec hok fun b hb=>⟨?_,fun p hp e=>?_⟩
    · rcases (hs.low _ hmem b (by rw [hv];exact hb)).2 with h1|h1
      · exact .inr (.inl ⟨h1,by decide⟩)
      · exact .inr (.inr ⟨by decide,h1⟩)
    · obtain ⟨q,hq,hn,_,e2⟩:=hblk p hp b e;exact hs.sep q hq _ hmem hn b e2 (by rw [hv];exact hb)
  refine h hte rd n cx hnr e1 e2 ρ' a w ⟨hs.size,hs.defers,fun k=>by rw [get_sub];exact A.sub_rep hsub (hs.tms k),fun p hp=>?_,?_,fun p hp=>?_,fun k hk=>?_,hs.nx0,fun p hp q hq hne b e3 e4=>?_,fun p hp b e3=>?_,hs.keep,hs.disj,fun k hk p e=>?_,hs.glob,hs.bags⟩
  · rcases hmem' p hp with ⟨h1,h2⟩|⟨q,hq,hn,rfl⟩
    · rw [h1,h2];exact ⟨.slice none 0 0,xF,[],rfl,fun k hk=>absurd hk (by simp),World.ownsRow_nil _ _ _ _⟩
    · exact Ob.sub_is hsub hn (fun _ _=>rfl) (hs.obs q hq)
  · have h1 : ((kG i (C.sl R xs) (jF i ob)).map (·.1)).Nodup:=by rw [wY];exact hs.nd.sublist aN
    refine List.nodup_cons.2 ⟨fun hm=>?_,h1⟩;rw [wY] at hm;obtain ⟨q,hq,e⟩:=List.mem_map.1 hm;exact (xN.1 hq).2 e
  · rcases hmem' p hp with ⟨h1,_⟩|⟨q,hq,_,rfl⟩
    · rw [h1];exact hs.fresh _ hmem
    · exact hs.fresh q hq
  · have : k ≠ i:=fun e=>by have:=hs.fresh _ hmem;simp only at this;omega
    rw [show ρ' k = ρ k from kW this];exact hs.names k hk
  · obtain ⟨p',hp',hpn,ep,e5⟩:=hblk p hp b e3;obtain ⟨q',hq',hqn,eq,e6⟩:=hblk q hq b e4;exact hs.sep p' hp' q' hq' (fun e=>hne (by rw [← ep,← eq,e])) b e5 e6
  · obtain ⟨q,hq,_,_,e4⟩:=hblk p hp b e3;exact hs.low q hq b e4
  · have h1:=(hs.pin k hk p e).trans e;have hki : k ≠ i:=fun e3=>by
      subst e3;rw [hv] at h1;exact hsl p (Option.some.inj h1)
    rw [show ρ' k = ρ k from kW hki];exact hs.pin k hk p e
end
end Ab
end Go.Proofs.YtmaekcmknibmeaaGreatDoor
namespace Go.Proofs.YtmaekcmknibmeaaGreatDoor
open Go.RowKit
namespace Ab
namespace Q
def ixOf {α : Type} (p : α → Bool) (l : List α) : Int:=if l.any p then (l.findIdx p : Int) else -1
theorem vB {α : Type} {p : α → Bool} {l : List α} (h : l.any p = false) : ixOf p l = -1:=by
  unfold ixOf;rw [h];rfl
theorem aK {α : Type} {p : α → Bool} {l : List α} {i : Nat} (d : α) (hi : i < l.length) (h : (l.take i).any p = false) (hp : p (l.getD i d) = true) : ixOf p l = i:=by
  unfold ixOf;rw [any_at d hi hp,if_pos rfl]
  congr 1
  rw [List.getD_eq_getElem?_getD,List.getElem?_eq_getElem hi] at hp;refine (List.findIdx_eq hi).2 ⟨hp,fun j hj=>?_⟩;have:=List.any_eq_false.1 h (l[j]) (by rw [List.mem_take_iff_getElem];exact ⟨j,by omega,rfl⟩)
  simpa using this
theorem ixOf_ge {α : Type} (p : α → Bool) (l : List α) : decide (0 ≤ ixOf p l) = l.any p:=by
  unfold ixOf;cases h : l.any p
  · rfl
  · simp
theorem aJ {α : Type} (p : α → Bool) (l : List α) (d : α) : (ixOf p l = -1 ∧ l.any p = false) ∨ ∃ i : Nat,i < l.length ∧ ixOf p l = i ∧ (l.take i).any p = false ∧ p (l.getD i d) = true:=by
  cases h : l.any p with
  | false=>exact .inl ⟨vB h,rfl⟩
  | true =>
    right
    have hex : ∃ x ∈ l,p x = true:=by simpa using h
    obtain ⟨x,hx,hpx⟩:=hex;have hlt : l.findIdx p < l.length:=List.findIdx_lt_length_of_exists ⟨x,hx,hpx⟩;refine ⟨l.findIdx p,hlt,by unfold ixOf;rw [if_pos h],?_,?_⟩
    · simp only [List.any_eq_false];intro y hy;obtain ⟨j,hj,rfl⟩:=List.getElem_of_mem hy;rw [List.length_take] at hj;rw [List.getElem_take];have:=List.not_of_lt_findIdx (p:=p) (xs:=l) (i:=j) (by omega)
      simpa using this
    · rw [List.getD_eq_getElem?_getD,List.getElem?_eq_getElem hlt];exact List.findIdx_getElem
end Q
end Ab
end Go.Proofs.YtmaekcmknibmeaaGreatDoor
namespace Go.Proofs.YtmaekcmknibmeaaGreatDoor
open Go.RowKit
namespace Ab
section
variable {P : Program} {te : List (TypeId × TyI)} {N nx0 : Nat} {tm : Tm} {ob : Obs} {nx : Nat} {Q : AQ}
theorem wC {q : Nat} {id : Nat} {ops : Array Oper} (pre : List Oper) (o : Oper) {x : Operand} {t e ty : TypeId} {d : Nat} {α : Type} {R : Rd α} {xs : List α} (hops : ops.toList = pre ++ [o]) (hop : o.op = .binOp .eql t x (.const (.slice none 0 0)) ty) (hd : o.dst = some d) (hg : o.guard = none)
    (hu : P.underlying t = some (.slice e)) (hN : Nat.ble (d + 1) N = true)
    (h : awp P te N nx0 ops.toList pre tm ob nx fun tm1 ob1 nx1=>look tm1 x = .one (.slk q R xs) ∧ ∀ b,(b = true → xs = []) → Q .normal ((d,ib b) :: tm1) ob1 nx1) : qZ P te N nx0 (.region id ops false) tm ob nx Q:=by
  unfold qZ;intro hte rd n cx hnr e1 e2 ρ a w hs;subst e1 e2;refine wpIn_region_list ?_;rw [hops];refine jI hte ops [o] pre h hs ?_
  rintro tm1 ob1 nx1 ρ1 a1 w1 ⟨hx,hq⟩ hs1
  have hv:=hs1.look x;rw [hx] at hv;obtain ⟨ad,cap,hv,h1,h2,hc⟩:=hv;have hrun : (execOp a1.eval o).run P w1 = .ok (.value (.bool ad.isNone)) w1:=by
    unfold execOp;rw [hop];have hc2 : a1.eval (.const (.slice none 0 0)) = .slice none 0 0:=rfl;simp only [hv,hc2];have hq2:=run_eql_slice_nil (P:=P) w1 t e ad xs.length cap hu;have hg2 : (eqGuard .eql t x (.const (.slice none 0 0)) (.slice ad xs.length cap) (.slice none 0 0)).run P w1 = .ok () w1:=rfl;simp only [Sem.run_bind,hg2,Result.andThen_ok,hq2,Sem.run_pure]
  refine kQ hg (fun c e=>by rw [hop] at e;cases e) (jQ hrun ?_);have hb : ad.isNone = true → xs = []:=fun hn=>by
    cases ad with
    | some y=>cases hn
    | none =>
      cases xs with
      | nil=>rfl
      | cons y r =>
        obtain ⟨_,_,_,hne,_⟩:=hc 0 (by simp);cases hne
  have hput : put cx.N (some d) (ib ad.isNone) tm1 (fun tm'=>tm' = (d,ib ad.isNone) :: tm1):=by
    unfold put;simp only;rw [hN];trivial
  obtain ⟨tm',e3,h3⟩:=hs1.put hput (u:=.bool ad.isNone) rfl;subst e3;rw [hd];unfold wpListIn;exact ⟨_,_,_,_,hq _ hb,h3⟩
end
section
variable {P : Program} {te : List (TypeId × TyI)} {N : Nat} {ι : Type} {Pr : Bool → Nat → ι → Prop} {J : ι → Oks → (Nat → Prop) → World → Prop} {U : Oks} {n0 : Nat}
variable {st : Bool} {k : Nat} {tm : Tm} {ob : Obs} {nx : Nat} {Q : YQ}
theorem stok_low0 {ok : Oks} {ob ob' : Obs} {ρ ρ' : Nat → Option Value} {w w' : World} {nx nz nx' : Nat} {hids : List (Nat × Obj)} {tm' : Tm} {a' : Act} (h : StOk (anew ok ob ρ w N nx hids) tm' ob' nx' ρ' a' w') (hz : nz ≤ nx) (hb : ∀ p ∈ ob,p.1 < nz) : StOk (anew ok ob ρ w N nz hids) tm' ob' nx' ρ' a' w':=by
  have hnz : xK ob ρ nz = none:=xU hb;have hnn : xK ob ρ nx = none:=xU fun p hp=>Nat.lt_of_lt_of_le (hb p hp) hz
  have hi : ∀ i b,blk (xK ob ρ i) = some b → i < nz:=fun i b e=>by
    cases e1 : xK ob ρ i with
    | none=>rw [e1] at e;cases e
    | some v =>
      obtain ⟨_,o,h2⟩:=uV e1;exact hb _ h2
  have ho : okOf (anew ok ob ρ w N nz hids) ρ' ob' = okOf (anew ok ob ρ w N nx hids) ρ' ob':=by
    funext k b
    apply propext
    constructor
    · rintro ⟨h1|h1|⟨h7,i,h1,h2⟩,h3⟩
      · exact ⟨.inl h1,h3⟩
      · exact ⟨.inr (.inl h1),h3⟩
      · exact ⟨.inr (.inr ⟨h7,i,Nat.lt_of_lt_of_le h1 hz,h2⟩),h3⟩
    · rintro ⟨h1|h1|⟨h7,i,h1,h2⟩,h3⟩
      · exact ⟨.inl h1,h3⟩
      · exact ⟨.inr (.inl h1),h3⟩
      · exact ⟨.inr (.inr ⟨h7,i,hi i b h2,h2⟩),h3⟩
  have hex : ∀ b,(∃ i,i < nx ∧ blk (xK ob ρ i) = some b) → ∃ i,i < nz ∧ blk (xK ob ρ i) = some b:=fun b ⟨i,_,e⟩=>⟨i,hi i b e,e⟩
  refine ⟨h.size,h.defers,fun i=>by rw [ho];exact h.tms i,fun p hp=>by rw [ho];exact h.obs p hp,h.nd,h.fresh,h.names,Nat.le_trans hz h.nx0,h.sep,fun p hp b e=>⟨(h.low p hp b e).1,(h.low p hp b e).2.imp id (hex b)⟩,⟨h.keep.os,h.keep.tape,h.keep.output,h.keep.size,fun b hb hn _=>h.keep.block b hb (fun hx=>hn (hex b hx)) fun hg=>wE (cx:=anew ok ob ρ w N nx hids) hnn hg.1,fun b hb=>absurd hb.1 (wE (cx:=anew ok ob ρ w N nz hids) hnz)⟩,fun i b hi=>h.disj i b (Nat.lt_of_lt_of_le hi hz),fun i hi=>h.pin i (Nat.lt_of_lt_of_le hi hz),h.glob,.none hnz⟩
def lowB (nx nz : Nat) (tm : Tm) (ob : Obs) : Bool:=match bdTm nz tm,bdOb nz ob,ndOb ob,Nat.ble nz nx with
  | true,true,true,true=>true
  | _,_,_,_=>false
theorem le_low {nz : Nat} (hl : lowB nx nz tm ob = true) : Le nz tm ob nx tm ob nz:=by
  unfold lowB at hl;split at hl
  · rename_i b1 b2 b3 b4;refine ⟨fun cx e ρ a w hs=>⟨cut nz ρ,?_⟩⟩;have hlt : ∀ p ∈ ob,p.1 < nz:=fun p hp=>(zW b2 hp).1
    have hblk : ∀ p ∈ ob,blk (cut nz ρ p.1) = blk (ρ p.1):=fun p hp=>by rw [vL (hlt p hp)]
    have hk : xI (okOf cx ρ ob) (okOf cx (cut nz ρ) ob) w w:=fun _ b hb _=>⟨⟨hb.1,fun p hp=>by rw [hblk p hp];exact hb.2 p hp⟩,rfl⟩
    refine ⟨hs.size,hs.defers,fun i=>A.cut_rep (bdTm_get i b1) (A.kept hk (hs.tms i)),fun p hp=>?_,ndOb_nd b3,hlt,fun i hi=>if_neg (by omega),by rw [e];exact Nat.le_refl _,?_,?_,hs.keep,hs.disj,fun i hi p e'=>by rw [vL (by rw [← e];exact hi)];exact hs.pin i hi p e',hs.glob,hs.bags⟩
    · exact Ob.cut_is (hlt p hp) (zW b2 hp).2 (Ob.kept hk (fun _ _=>rfl) (hs.obs p hp))
    · intro p hp q hq hne b;rw [hblk p hp,hblk q hq];exact hs.sep p hp q hq hne b
    · intro p hp b;rw [hblk p hp];exact hs.low p hp b
  · cases hl
theorem lowB_get {nz : Nat} (hl : lowB nx nz tm ob = true) : nz ≤ nx ∧ ∀ p ∈ ob,p.1 < nz:=by
  unfold lowB at hl;split at hl
  · rename_i b1 b2 b3 b4;exact ⟨Nat.le_of_ble_eq_true b4,fun p hp=>(zW b2 hp).1⟩
  · cases hl
theorem ys_low {a : Act} {w : World} {nz : Nat} (hab : vR n0 J) (hU : ∀ k b,frK k → n0 ≤ b → U k b) (hl : lowB nx nz tm ob = true) (h : YS N Pr J U n0 st k tm ob nx a w) : YS N Pr J U n0 st k tm ob nz a w:=by
  obtain ⟨ok,ρ,i,ok',own',hs,h2,hu,hn,hp,hj⟩:=h;obtain ⟨h3,h4⟩:=lowB_get hl;obtain ⟨ρ',hs'⟩:=(le_low hl).st _ rfl ρ a w (stok_low0 hs h3 h4);exact vS hab hU h2 hu hn hp hj h4 hs'
theorem bX {c : Code} (hab : vR n0 J) (hU : ∀ k b,frK k → n0 ≤ b → U k b) (h : kX P te N Pr J U n0 c st k tm ob nx (fun e st1 k1 tm1 ob1 nx1=>∃ nz,(nz = nx1 ∨ lowB nx1 nz tm1 ob1 = true) ∧ Q e st1 k1 tm1 ob1 nz)) : kX P te N Pr J U n0 c st k tm ob nx Q:=by
  intro hte n a w hs;refine Code.wpIn_mono ?_ (h hte n a w hs)
  rintro e a' w' ⟨st1,k1,tm1,ob1,nx1,⟨nz,hl,hq⟩,hs1⟩
  refine ⟨st1,k1,tm1,ob1,nz,hq,?_⟩;rcases hl with hl|hl
  · rw [hl];exact hs1
  · exact ys_low hab hU hl hs1
end
def retOC (te : List (TypeId × TyI)) (K t : Nat) (ty : TypeId) (u : Nat) (r : A) (m : Nat) (ob' : Obs) (m' : Nat) : AQ:=fun e tm ob nx=>match e with
  | .ret=>match cellV te ob ty (get tm t) with
    | some v=>retOK [K,u] r m ob' m' ((K,v) :: tm) ob nx
    | none=>False
  | _=>False
section
variable {P : Program} {te : List (TypeId × TyI)} {ob : Obs}
theorem gM {f : FuncId} {fn : Func} {c : Code} {args : List A} {t u : Nat} {ty : TypeId} {r : A} {m : Nat} {ob' : Obs} {m' : Nat} (hf : P.funcs[f]? = some fn) (hb : fn.body = some c) (hname : (fn.name == "runtime.NumGoroutine") = false)
    (hr : fn.results = #[.cell t ty,.tmp u]) (hte : TEok P te) (hu : Nat.ble (u + 1) fn.ntmps = true) (hn : Nat.ble args.length fn.ntmps = true) (h : qZ P te fn.ntmps m c (argT 0 args) ob m (retOC te fn.ntmps t ty u r m ob' m')) (hm : Nat.ble 1000000 m = false:=by rfl) : yB P f args ob m r ob' m':=by
  refine ⟨⟨fn,hf,by rw [hb];rfl,hname⟩,fun cx ρ w vs hN hnx hw hs hvs=>callsIn_wide.1 (callsIn_of_wp_marks (F:=FR none) (n:=0) hf hb trivial ?_)⟩;have hlen:=yX.len hvs;have hn:=Nat.le_of_ble_eq_true hn;have hu:=Nat.le_of_ble_eq_true hu;have hm : cx.nx0 < 1000000:=by
    rw [hnx];exact Nat.lt_of_not_le fun h=>by rw [Nat.ble_eq_true_of_le h] at hm;cases hm
  let a0 : Act:={ tmps:=vs.toArray ++ Array.replicate (fn.ntmps - vs.toArray.size) undef,defers:=[] }
  have hs0 : StOk { cx with N:=fn.ntmps } (argT 0 args) ob m ρ a0 w:=by
    refine hs.anyN ?_ (uL.none hN.2.2) fun i=>?_
    · show (vs.toArray ++ Array.replicate (fn.ntmps - vs.toArray.size) undef).size = fn.ntmps;simp;omega
    · rcases gL 0 i hvs with h1|h1
      · have hcell : (vs.toArray ++ Array.replicate (fn.ntmps - vs.toArray.size) undef).getD i undef = if i < 0 then undef else vs.getD (i - 0) undef:=by
          rw [if_neg (Nat.not_lt_zero _),Nat.sub_zero,Array.getD_eq_getD_getElem?,Array.getElem?_append];split
          · simp [List.getD]
          · rename_i hge;rw [Array.getElem?_replicate];simp only [List.size_toArray] at hge ⊢;rw [List.getD,List.getElem?_eq_none (by omega)];split <;> rfl
        show (get (argT 0 args) i).rep _ _ _ ((vs.toArray ++ Array.replicate (fn.ntmps - vs.toArray.size) undef).getD i undef);rw [hcell];exact h1
      · rw [h1];trivial
  unfold qZ at h;refine Code.wpIn_mono ?_ (h hte none 0 { cx with N:=fn.ntmps } (eQ hN.2.1 hN.2.2 (Nat.not_le.2 hm)) rfl hnx ρ a0 w hs0)
  rintro e a' w0' ⟨tm',ob1,nx',ρ',hq,hs0'⟩
  cases e with
  | ret =>
    refine StOk.unwind hs0' hN.2.1 hN.2.2 fun w' hs'=>?_
    simp only [retOC] at hq;split at hq
    · rename_i v hv;obtain ⟨ad,x,g1,g2,g3⟩:=vQ hte hs' hv;obtain ⟨h1,h2,h3⟩:=hq;have hsz : a'.tmps.size = fn.ntmps:=hs'.size;have hs4 : StOk { cx with N:=fn.ntmps + 1 } ((fn.ntmps,v) :: tm') ob1 nx' ρ' ⟨a'.tmps.push x,[]⟩ w':=by
        have:=hs'.anyN (N:=fn.ntmps + 1) (tm':=(fn.ntmps,v) :: tm') (a':=⟨a'.tmps.push x,[]⟩) (by simp [hsz]) (uL.none hN.2.2) (fun i=>by
          rw [jR];split
          · rename_i e;have e:=Nat.eq_of_beq_eq_true e;subst e;rw [show (a'.tmps.push x).getD fn.ntmps undef = x from by simp [Array.getD_eq_getD_getElem?,← hsz]];exact g3
          · rename_i e;have hne : i ≠ fn.ntmps:=fun e'=>by rw [e'] at e;simp at e
            have : (a'.tmps.push x).getD i undef = a'.tmps.getD i undef:=by
              rw [Array.getD_eq_getD_getElem?,Array.getD_eq_getD_getElem?,Array.getElem?_push,if_neg (by rw [hsz];exact hne)]
            rw [this];exact hs'.tms i)
        exact this
      obtain ⟨ρ2,hs2⟩:=(qP (nx0:=m) keepT_le h2 h3).st { cx with N:=fn.ntmps + 1 } hnx ρ' _ w' hs4;have hs3 : StOk cx [] ob' m' ρ2 ⟨#[],[]⟩ w':=by
        have:=hs2.anyN (N:=cx.N) (tm':=[]) (a':=⟨#[],[]⟩) (by rw [hN.1];rfl) (uL.none hN.2.2) (fun _=>trivial);exact this
      have r1:=hs2.tms fn.ntmps;rw [cN (by simp),jR] at r1;have r2:=hs2.tms u;rw [cN (by simp)] at r2;have e1 : (a'.tmps.push x).getD fn.ntmps undef = x:=by simp [Array.getD_eq_getD_getElem?,← hsz]
      have e2 : (a'.tmps.push x).getD u undef = a'.tmps.getD u undef:=by
        rw [Array.getD_eq_getD_getElem?,Array.getD_eq_getD_getElem?,Array.getElem?_push,if_neg (by omega)]
      have r1' : (get ((fn.ntmps,v) :: tm') fn.ntmps).rep (okOf cx ρ2 ob') ρ2 w' x:=by rw [jR,← e1];exact r1
      have r2' : (get ((fn.ntmps,v) :: tm') u).rep (okOf cx ρ2 ob') ρ2 w' (a'.tmps.getD u undef):=by rw [← e2];exact r2
      subst h1;refine ⟨.tuple #[x,a'.tmps.getD u undef],?_,_,ρ2,rfl,hs3,[_,_],rfl,_,_,rfl,yY r1',_,_,rfl,yY r2',rfl⟩;rw [results_cell_tmp hr];simp only [Result.andThen,g1,g2]
    · exact hq.elim
  | normal=>exact (show False from hq).elim
  | exit i=>exact (show False from hq).elim
  | goto l=>exact (show False from hq).elim
  | panic ch=>exact (show False from hq).elim
  | outgrown=>exact (show False from hq).elim
end
def Skips (P : Program) (f0 : FuncId) (sv : List Value) (xs : List (List A)) {ι : Type} (Pr : Bool → Nat → ι → Prop) (J : ι → Oks → (Nat → Prop) → World → Prop) (U : Oks) (n0 : Nat) : Prop :=
  ∀ (k : Nat) (i : ι) (ok ok' : Oks) (own' : Nat → Prop) (W : World),k < xs.length → k % 2 = 0 → Pr false k i → J i ok' own' W → Two ok (fun _=>False) ok' own' W → (∀ k b,ok k b → U k b) → n0 ≤ W.heap.size →
    Calls P f0 sv.toArray W fun e W'=>(∃ u,e = .returned u) ∧ zZ W W' ∧ (∀ b,b < W.heap.size → ¬ own' b → W'.heap[b]? = W.heap[b]?) ∧ ∃ j ok2 own2,Pr false (k + 1) j ∧ J j ok2 own2 W' ∧
      (∀ b,own2 b → own' b ∨ W.heap.size ≤ b) ∧ (∀ k b,ok2 k b → ok' k b ∨ ok k b ∨ (frK k ∧ (own' b ∨ W.heap.size ≤ b))) ∧ (∀ k b,ok2 k b → b < W'.heap.size) ∧ ∀ b,own2 b → b < W'.heap.size
def AIterS (P : Program) (g : FuncId) (f0 : FuncId) (sv : List Value) (caps : List A) (xs : List (List A)) : Prop :=
  FnOk P g ∧ ∀ (l : Nat) (ι : Type) (Pr : Bool → Nat → ι → Prop) (J : ι → Oks → (Nat → Prop) → World → Prop) (U : Oks) (n0 : Nat),(∀ k b,frK k → n0 ≤ b → U k b) → vR n0 J → bY P l xs Pr J U n0 → Skips P f0 sv xs Pr J U n0 →
    ∀ (i : ι) (ok ok' : Oks) (own' : Nat → Prop) (W : World) (vs : List Value),Pr false 0 i → J i ok' own' W → cA ok W → Two ok (fun _=>False) ok' own' W → (∀ k b,ok k b → U k b) → n0 = W.heap.size → yX ok yI W caps vs →
      Calls P g (.func (.yield l) #[] #[] :: vs).toArray W fun e W'=>(∃ v,e = .returned v) ∧ ∃ st k j ok2 own2,(st = false → k = xs.length) ∧ Pr st k j ∧ J j ok2 own2 W'
section
variable {P : Program} {te : List (TypeId × TyI)} {N : Nat} {l : Nat} {xs : List (List A)} {ι : Type} {Pr : Bool → Nat → ι → Prop} {J : ι → Oks → (Nat → Prop) → World → Prop} {U : Oks} {n0 : Nat}
variable {k : Nat} {tm : Tm} {ob : Obs} {nx : Nat} {Q : YQ}
theorem lits_rep {ok : Oks} {ρ : Nat → Option Value} {w : World} : ∀ {sv us : List Value},yX ok ρ w (sv.map fun v=>A.one (.lit v)) us → us = sv
  | [],_,h=>h
  | v :: r,_,h=>by
    obtain ⟨u,us',rfl,hu,hr⟩:=h;rw [show u = v from hu,lits_rep hr]
theorem fL {id : Nat} {ops : Array Oper} (pre post : List Oper) (o : Oper) {f : Operand} {args : Array Operand} {ts : Array TypeId} {f0 : FuncId} {sv : List Value} (hops : ops.toList = pre ++ o :: post) (hop : o.op = .call { callee:=.value f,args:=args,argTypes:=ts }) (hg : o.guard = none)
    (hab : vR n0 J) (hU : ∀ k b,frK k → n0 ≤ b → U k b) (hy : Skips P f0 sv xs Pr J U n0) (hk : k < xs.length) (hk2 : k % 2 = 0) (hfn : FnOk P f0)
    (h : awp P te N nx ops.toList pre tm ob nx (fun tm1 ob1 nx1=>∃ tm2 ob2 nx2,Le nx tm1 ob1 nx1 tm2 ob2 nx2 ∧ tgt (look tm2 f) = some (f0,[]) ∧ mapL (look tm2) args.toList = sv.map (fun v=>.one (.lit v)) ∧
      put N o.dst (.one .any) tm2 fun tm3=>awp P te N nx2 ops.toList post tm3 ob2 nx2 fun tm4 ob4 nx4=>∃ tm5 ob5 nx5,Le nx2 tm4 ob4 nx4 tm5 ob5 nx5 ∧ Q .normal false (k + 1) tm5 ob5 nx5)) :
    kX P te N Pr J U n0 (.region id ops false) false k tm ob nx Q:=by
  rintro hte n a w ⟨ok,ρ,i,ok',own',hs,h2,hu,hn,hp,hj⟩
  refine wpIn_region_list ?_;rw [hops];refine jI (cx:=anew ok ob ρ w N nx []) hte ops (o :: post) pre h hs ?_
  rintro tm1 ob1 nx1 ρ1 a1 w1 ⟨tm2,ob2,nx2,hle,hf,hargs,hpost⟩ hs1
  obtain ⟨ρ2,hs2⟩:=hle.st _ rfl ρ1 a1 w1 hs1;obtain ⟨ok2,ρ3,i2,ok3,own3,hs3,h3,hu3,hn3,hp3,hj3⟩:=vS hab hU h2 hu hn hp hj hs.fresh hs2;obtain ⟨cs,hfv,hcs⟩:=wL hf (hs3.look f);rw [show cs = [] from hcs] at hfv;have hvs : args.toList.map a1.eval = sv:=by
    have hr:=uN (w:=w1) (lk:=look tm2) (xs:=args.toList) (fun x _=>hs3.look x);rw [hargs] at hr;exact lits_rep hr
  have hcall:=hy k i2 ok2 ok3 own3 w1 hk hk2 hp3 hj3 ⟨h3.lt1,fun _ h=>h.elim,h3.lt3,h3.lt4,h3.ij,fun _ _ _ h=>h,fun _ h=>h.elim⟩ (fun k b h=>hu3.1 k b (.inl h)) hn3;refine kQ hg (fun c e=>by rw [hop] at e;cases e) ?_;unfold Oper.wp;rw [uS (cs:=[]) hop hfv hfn,hvs,List.append_nil];refine hcall.mono ?_
  rintro e' W' ⟨⟨u,rfl⟩,hg',hsame,j,ok4,own4,hp4,hj4,hsub,hoks,hlt4,hlt5⟩
  have hs4:=hs3.other hg' (fun b hb ho=>hsame b hb (by
    rcases ho with ⟨k,ho⟩|ho
    · exact h3.ij k b ho
    · exact h3.ss b ho)) (fun q hq=>by cases hq)
  have h4 : Two ok2 (OwnB ob2 ρ3) ok4 own4 W':=by
    refine ⟨fun k b h=>Nat.lt_of_lt_of_le (h3.lt1 k b h) hg'.size,fun b h=>Nat.lt_of_lt_of_le (h3.lt2 b h) hg'.size,hlt4,hlt5,fun k b h h'=>?_,fun k b h h'=>?_,fun b h h'=>?_⟩
    · rcases hsub b h' with h1|h1
      · exact h3.ij k b h h1
      · have:=h3.lt1 k b h;omega
    · rcases hoks k b h with h1|h1|⟨_,h1|h1⟩
      · exact h3.ji k b h1 h'
      · exact wW hs3 h1 h'
      · exact h3.ss b h' h1
      · have:=h3.lt2 b h';omega
    · rcases hsub b h' with h1|h1
      · exact h3.ss b h h1
      · have:=h3.lt2 b h;omega
  obtain ⟨tm3,hk3,hs5⟩:=hs4.put (v:=.one .any) (u:=u) hpost trivial;refine jV (cx:=anew ok2 ob2 ρ3 W' N nx2 []) hte ops post hk3 hs5 ?_
  rintro tm4 ob4 nx4 ρ4 a4 w4 ⟨tm5,ob5,nx5,hle5,hq⟩ hs6
  obtain ⟨ρ6,hs7⟩:=hle5.st _ rfl ρ4 a4 w4 hs6;exact ⟨false,k + 1,tm5,ob5,nx5,hq,vS hab hU h4 hu3 (Nat.le_trans hn3 hg'.size) hp4 hj4 hs3.fresh hs7⟩
theorem aiterS_of {g : FuncId} {fn : Func} {c : Code} {caps : List A} {f0 : FuncId} {sv : List Value} (hf : P.funcs[g]? = some fn) (hb : fn.body = some c) (hname : (fn.name == "runtime.NumGoroutine") = false) (hr : fn.results = #[]) (hte : TEok P te) (hn : Nat.ble (caps.length + 1) fn.ntmps = true)
    (h : ∀ (l : Nat) (ι : Type) (Pr : Bool → Nat → ι → Prop) (J : ι → Oks → (Nat → Prop) → World → Prop) (U : Oks) (n0 : Nat),(∀ k b,frK k → n0 ≤ b → U k b) → vR n0 J → bY P l xs Pr J U n0 → Skips P f0 sv xs Pr J U n0 →
      kX P te fn.ntmps Pr J U n0 c false 0 (argT 0 (.one (.lit (.func (.yield l) #[] #[])) :: caps)) [] 0 (fun e st k _ _ _=>(e = .ret ∨ e = .normal) ∧ (st = false → k = xs.length))) : AIterS P g f0 sv caps xs:=by
  refine ⟨⟨fn,hf,by rw [hb];rfl,hname⟩,fun l ι Pr J U n0 hU hab hy hsk i ok ok' own' W vs hp hj hgl h2 hu hn0 hvs=>callsIn_wide.1 (callsIn_of_wp_marks (F:=FR none) (n:=0) hf hb trivial ?_)⟩;have hvs' : yX ok yI W (.one (.lit (.func (.yield l) #[] #[])) :: caps) (.func (.yield l) #[] #[] :: vs):=⟨_,_,rfl,rfl,hvs⟩;have hl:=yX.len hvs';have hn:=Nat.le_of_ble_eq_true hn;have hk : xI ok (okOf (anew ok [] yI W fn.ntmps 0 []) yI []) W W:=fun _ b hb _=>⟨⟨.inl hb,fun p hp=>by cases hp⟩,rfl⟩
  have hs : StOk (anew ok [] yI W fn.ntmps 0 []) (argT 0 (.one (.lit (.func (.yield l) #[] #[])) :: caps)) [] 0 yI { tmps:=(.func (.yield l) #[] #[] :: vs).toArray ++ Array.replicate (fn.ntmps - (.func (.yield l) #[] #[] :: vs).toArray.size) undef,defers:=[] } W:=by
    refine ⟨?_,⟨⟨(fun e=>by cases e),fun _=>rfl⟩,fun q hq=>by cases hq⟩,fun i=>?_,fun p hp=>by (cases hp),by simp,fun p hp=>by (cases hp),fun _ _=>rfl,Nat.le_refl _,fun p hp=>by (cases hp),fun p hp=>by (cases hp),⟨rfl,rfl,rfl,Nat.le_refl _,fun _ _ _ _=>rfl,fun _ _=>.rfl' rfl⟩,fun _ _ h _=>absurd h (Nat.not_lt_zero _),fun _ h=>absurd h (Nat.not_lt_zero _),hgl,.none rfl⟩
    · show ((.func (.yield l) #[] #[] :: vs).toArray ++ Array.replicate (fn.ntmps - (.func (.yield l) #[] #[] :: vs).toArray.size) undef).size = fn.ntmps;simp only [Array.size_append,List.size_toArray,Array.size_replicate];rw [List.length_cons] at hl ⊢;simp only [List.length_cons] at hl;omega
    · rcases gL 0 i hvs' with h1|h1
      · have hcell : ((.func (.yield l) #[] #[] :: vs).toArray ++ Array.replicate (fn.ntmps - (.func (.yield l) #[] #[] :: vs).toArray.size) undef).getD i undef = if i < 0 then undef else (Value.func (.yield l) #[] #[] :: vs).getD (i - 0) undef:=by
          rw [if_neg (Nat.not_lt_zero _),Nat.sub_zero,Array.getD_eq_getD_getElem?,Array.getElem?_append];split
          · simp [List.getD]
          · rename_i hge;rw [Array.getElem?_replicate];simp only [List.size_toArray] at hge ⊢;rw [List.getD,List.getElem?_eq_none (by omega)];split <;> rfl
        rw [hcell];exact A.kept hk h1
      · rw [h1];trivial
  have hno : ∀ b,¬ OwnB ([] : Obs) yI b:=fun b ⟨p,hp,_⟩=>by cases hp
  refine Code.wpIn_mono ?_ (h l ι Pr J U n0 hU hab hy hsk hte 0 _ W ⟨ok,yI,i,ok',own',hs,⟨h2.lt1,fun b h=>(hno b h).elim,h2.lt3,h2.lt4,h2.ij,fun _ b _ h=>hno b h,fun b h=>(hno b h).elim⟩,⟨fun k b h=>h.elim (hu k b) (fun h=>(hno b h.2).elim),fun b h=>(hno b h).elim⟩,Nat.le_of_eq hn0,hp,hj⟩)
  rintro e a' w' ⟨st,k,tm',ob',nx',⟨he,hst⟩,ok2,ρ2,j,ok3,own3,hs',_,_,_,hp',hj'⟩
  have hd : a'.defers = []:=hs'.defers.1.2 rfl;have fin : LeavesInM (FR none) 0 P fn a'.tmps (fun e W'=>(∃ v,e = .returned v) ∧ ∃ st k j ok2 own2,(st = false → k = xs.length) ∧ Pr st k j ∧ J j ok2 own2 W') a'.defers .returning w':=by
    rw [hd];exact ⟨_,results_none hr _ _ _,⟨_,rfl⟩,st,k,j,ok3,own3,hst,hp',hj'⟩
  rcases he with rfl|rfl
  · exact fin
  · exact fin
end
theorem iH {w : World} {l : Nat} {o : Obj} (h : w.heap[l]? = some o) : w.putObj l o = w:=by
  have e : w.heap.setIfInBounds l o = w.heap:=by
    apply Array.ext_getElem?;intro i;rw [Array.getElem?_setIfInBounds];split
    · rename_i e;subst e;split
      · exact h.symm
      · rename_i h2;rw [Array.getElem?_eq_none (by omega)] at h;cases h
    · rfl
  unfold World.putObj;rw [e]
theorem pin_kept {okU : Oks} {obI ob3 : Obs} {ρ ρ4 : Nat → Option Value} {W W3 : World} {N m n3 c0 : Nat} {hids : List (Nat × Obj)} {tm3 : Tm} {a3 : Act} {p : Option Addr} (hs : StOk ⟨okU,xK obI ρ,W,N,m,hids,false⟩ tm3 ob3 n3 ρ4 a3 W3) (hde : dO obI m = true) (hc : c0 < m) (h : ρ c0 = some (.pointer p)) : ρ4 c0 = some (.pointer p):=by
  have hnm : xK obI ρ c0 = some (.pointer p):=by
    obtain ⟨o,ho⟩:=dN hde hc;unfold xK;rw [ho];exact h
  exact (hs.pin c0 hc p hnm).trans hnm
section
variable {P : Program} {te : List (TypeId × TyI)} {N nx0 nx : Nat} {tm : Tm} {ob : Obs} {Q : AQ}
variable {ι : Type} {cx : Cx} {a : Act} {tm1 : Tm} {m l D : Nat} {I : ι → Obs} {rec : LoopState → Option Code → Loop} {Xc : ι → Code} {si : Bool × ι} {ok : Oks} {own : Nat → Prop} {W : World} {ρ : Nat → Option Value}
theorem LS.abides_at (n0 : Nat) (hn : cx.w0.heap.size ≤ n0) (hbk : ∀ b,cx.bag b → b < cx.w0.heap.size) {w w' : World} (h : LS cx a tm1 m l D I rec Xc N si ok own w ρ) (hg : zZ w w') (hs : ∀ b,b < w.heap.size → b < n0 ∨ (∃ k,ok k b) ∨ own b → w'.heap[b]? = w.heap[b]?) : LS cx a tm1 m l D I rec Xc N si ok own w' ρ:=by
  have hown : ∀ b,own b → w'.heap[b]? = w.heap[b]?:=fun b hb=>hs b (h.lt hb) (.inr (.inr hb))
  refine ⟨h.st.other hg (fun b hb ho=>hs b hb (.inr (ho.imp id fun ho=>(h.own b).2 (.inl ho)))) (fun q hq=>by cases hq),h.own,(hown l ((h.own l).2 (.inr (.inl rfl)))).trans h.loop,h.defs.same fun b hb=>hown b ((h.own b).2 ?_),?_,h.low,h.okU,fun k b hb=>⟨Nat.lt_of_lt_of_le (h.okl k b hb).1 hg.size,(h.okl k b hb).2⟩,h.ownl,h.pin⟩
  · rcases List.mem_cons.1 hb with e|e
    · injection e with e _
      injection e with e
      exact .inr (.inr (.inl e))
    · exact .inr (.inr (.inr e))
  · exact ⟨hg.os.trans h.keep.os,hg.tape.trans h.keep.tape,hg.output.trans h.keep.output,Nat.le_trans h.keep.size hg.size,fun b hb ho hg=>(hs b (Nat.lt_of_lt_of_le hb h.keep.size) (.inl (Nat.lt_of_lt_of_le hb hn))).trans (h.keep.block b hb ho hg),fun b hbg=>(h.keep.shape b hbg).trans (.rfl' (hs b (Nat.lt_of_lt_of_le (hbk b hbg) h.keep.size) (.inl (Nat.lt_of_lt_of_le (hbk b hbg) hn))))⟩
theorem aU {g : Operand} {ps : List Nat} {assign body : Code} {f : FuncId} {caps : List A} {xs : List (List A)} {ι : Type} (tm1 : Tm) (m : Nat) (Pr : Bool → Nat → ι → Prop) (I : ι → Obs) (Xc : ι → Code) (i0 : ι)
    (hg : tgt (look tm1 g) = some (f,caps)) (f0 : FuncId) (c0 : Nat) (Lsk : List Nat) (sa : List A) (svf : Value → List Value) (capsf : Value → List A) (hit : ∀ pv,AIterS P f f0 (svf pv) (capsf pv) xs) (hcaps : ∀ (ok : Oks) (ρ : Nat → Option Value) (w : World) (pv : Value) (vs : List Value),ρ c0 = some pv → yX ok ρ w caps vs → yX ok yI w (capsf pv) vs)
    (hsa : ∀ (ok : Oks) (ρ : Nat → Option Value) (w : World) (b : Nat),ρ c0 = some (.pointer (some ⟨b,0,none⟩)) → yX ok ρ w (renAs (sigO m Lsk) sa) (svf (.pointer (some ⟨b,0,none⟩)))) {T0 : TypeId} {cs0 : List C} (hc0 : getO (I i0) c0 = some (.box T0 cs0))
    (hskip : ∀ k i,k < xs.length → k % 2 = 0 → Pr false k i → ∃ j obc obc' r m',Pr false (k + 1) j ∧ yB P f0 sa obc (lenN Lsk) r obc' m' ∧ gT (I i) (sigO m Lsk) 0 Lsk obc ∧ ndN Lsk = true ∧ Le m (gW (uK Lsk obc) tm1) (appO (jA (sigO m Lsk) obc') (vD Lsk (uK Lsk obc) (I i))) (m + (m' - lenN Lsk)) [] (I j) m) (hle : Le nx0 tm ob nx tm1 (I i0) m) (hp0 : Pr false 0 i0) (hps : ∀ (k : Nat) (hk : k < xs.length),(xs[k]).length = ps.length) (hpN : ps.all (fun p=>decide (p < N)) = true)
    (hra : rngs assign = false) (hrb : rngs body = false) (hI : ∀ k i,Pr false k i → dO (I i) m = true) (hcalm : gW (downN m) tm1 = tm1)
    (heven : ∀ (k : Nat) (hk : k < xs.length),k % 2 = 0 → ∀ (ok : Oks) (w : World) (vs : List Value),¬ yX ok yI w (xs[k]) vs)
    (round : ∀ (k : Nat) (i : ι) (hk : k < xs.length),k % 2 = 1 → Pr false k i → qZ P te N m assign (appT ps xs[k] tm1) (I i) m (asnQ fun tm2 ob2 nx2=>qZ P te N m body tm2 ob2 nx2 (rndQ Pr I Xc m k)))
    (done : ∀ i,Pr false xs.length i → Q .normal tm1 (I i) m) (stop : ∀ k i,Pr true k i → qZ P te N nx0 (Xc i) tm1 (I i) m Q) (hm : Nat.ble 1000000 m = false:=by rfl) : qZ P te N nx0 (.rangeFunc g ps.toArray assign body) tm ob nx Q:=by
  unfold qZ;intro hte rd n cx hnr e1 e2 ρ a w hs;obtain ⟨rfl,hfr,hh⟩ : rd = none ∧ cx.fr = true ∧ cx.hids = []:=by
    rcases hnr.2 with h|h
    · exact h
    · cases h
  obtain ⟨ρ1,hs1⟩:=hle.st cx e2 ρ a w hs;obtain ⟨b0,hpv⟩ : ∃ b0,ρ1 c0 = some (.pointer (some ⟨b0,0,none⟩)):=by
    obtain ⟨b,_,h1,_⟩:=hs1.obs _ (yF hc0);exact ⟨_,h1⟩
  have hc0m : c0 < m:=hs1.fresh _ (yF hc0);refine wpIn_rangeFunc ?_;intro fn _;obtain ⟨rec,hrec⟩ : ∃ rec : LoopState → Option Code → Loop,rec = fun st pe=>{ state:=st,pending:=pe,fn,tmps:=a.tmps,params:=ps.toArray,assign,body,defers:=w.heap.size }:=⟨_,rfl⟩
  obtain ⟨W1,hW1⟩ : ∃ W1,(w.alloc (.deferred (some []))).alloc (.loop (rec .ready none)) = W1:=⟨_,rfl⟩;have hL1 : W1.heap[w.heap.size + 1]? = some (.loop (rec .ready none)):=by
    rw [← hW1];have:=World.alloc_heap_new (w.alloc (.deferred (some []))) (.loop (rec .ready none));rwa [World.size_alloc] at this
  have hK1 : W1.heap[w.heap.size]? = some (.deferred (some [])):=by
    rw [← hW1];exact (Below.heap_alloc _ _ _ (by simp)).trans (World.alloc_heap_new w _)
  have hsz1 : W1.heap.size = w.heap.size + 2:=by rw [← hW1];simp
  have hb1 : Below w.heap.size w W1:=by
    rw [← hW1];exact ((Below.refl _ w).alloc (Nat.le_refl _) _).alloc (by simp) _
  have hs2:=hs1.below hb1;have hcell1 : ∀ b,jK W1 b → b < w.heap.size:=fun b ⟨o',e,hno'⟩=>by
    have h1:=(Array.getElem?_eq_some_iff.1 e).1;rcases Nat.lt_or_ge b w.heap.size with h2|h2
    · exact h2
    · exfalso
      rcases Nat.eq_or_lt_of_le h2 with h3|h3
      · rw [← h3,hK1] at e;cases e;exact hno' aH
      · obtain rfl : b = w.heap.size + 1:=by omega
        rw [hL1] at e;cases e;exact hno' jB
  let okS : Oks:=fun k b=>okOf cx ρ1 (I i0) k b ∧ jK W1 b
  have hs3 : StOk cx tm1 (I i0) m ρ1 ⟨a.tmps,[]⟩ W1:=by
    have:=hs2.anyD (tm':=tm1) (a':=⟨a.tmps,[]⟩) hs2.size ⟨⟨fun _=>trivial,fun _=>rfl⟩,hs2.defers.2⟩ hs2.tms;exact this
  have hsJ : StOk (anew okS (I i0) ρ1 W1 N m []) tm1 (I i0) m ρ1 ⟨a.tmps,[]⟩ W1:=by
    have:=hs3.anew (ok:=okS) (hids:=[]) (fun k b hb hc=>⟨hb,hc⟩) (fun k b hb ⟨p,hp,e⟩=>hb.1.2 p hp e) rfl (fun q hq=>by cases hq);rw [e1] at this;exact this
  have hdefs : Defs cx.mark a.defers W1:=hs2.defers.1.1 hfr;have hmark0 : ∀ b,bZ a.defers b → b < w.heap.size:=fun b hb=>(Array.getElem?_eq_some_iff.1 ((hs1.defers.1.1 hfr).mark b hb).1).1
  have L0 : LS cx a tm1 m (w.heap.size + 1) w.heap.size I rec Xc N (false,i0) okS (fun b=>OwnB (I i0) ρ1 b ∨ b = w.heap.size + 1 ∨ b = w.heap.size ∨ bZ a.defers b) W1 ρ1:=by
    refine ⟨hsJ,fun b=>Iff.rfl,hL1,⟨⟨w.heap.size,rfl,.inl hs1.keep.size,hK1,fun e he h=>?_⟩,hdefs⟩,hs2.keep,Nat.le_succ_of_le hs1.keep.size,fun k b hb=>hb.1.1,fun k b hb=>⟨by have:=hcell1 b hb.2;omega,by have:=hcell1 b hb.2;omega⟩,fun p hp b e=>(hs2.low p hp b e).2,hs2.pin⟩;subst h;have:=hmark0 w.heap.size he;omega
  obtain ⟨cs,hgv,hcs⟩:=wL hg (hsJ.look g);have hgv : a.eval g = .func (.func f) #[] cs.toArray:=by
    rw [← hgv];cases g <;> rfl
  have hcs' : yX okS yI W1 (capsf (.pointer (some ⟨b0,0,none⟩))) cs:=hcaps _ ρ1 _ _ _ hpv (hcs.kept cH);have hU : ∀ k b,frK k → W1.heap.size ≤ b → UOk cx k b:=fun k b h7 hb=>.inr (.inl ⟨Nat.le_trans (Nat.le_trans hs1.keep.size hb1.size) hb,h7⟩)
  have hyl : bY P (w.heap.size + 1) xs (fun st k (si : Bool × ι)=>si.1 = st ∧ Pr st k si.2) (fun (si : Bool × ι) ok own W=>∃ ρ,LS cx a tm1 m (w.heap.size + 1) w.heap.size I rec Xc N si ok own W ρ ∧ ρ c0 = some (.pointer (some ⟨b0,0,none⟩))) (fun k b=>UOk cx k b) W1.heap.size:=by
    rintro k ⟨s,i⟩ ok ok' own' W vs n' hk ⟨rfl,hp⟩ ⟨ρ',L,hpv'⟩ h2 hu hn hvs
    have hk1 : k % 2 = 1:=by
      rcases Nat.mod_two_eq_zero_or_one k with h|h
      · exact absurd hvs (heven k hk h _ _ _)
      · exact h
    have hl : W.heap[w.heap.size + 1]? = some (.loop (rec .ready none)):=L.loop;have hvl:=yX.len hvs;have hy:=run_yield (P:=P) (args:=vs.toArray) hl (by rw [hrec];simp [hvl,hps k hk]);rw [hrec] at hy;refine ⟨fn,_,assign,body,hy,roundIn_of_wpIn trivial ?_⟩;clear hy;have hokown : ∀ k b,ok' k b ∨ ok k b → ¬ OwnB (I i) ρ' b:=by
      rintro k b (h|h) ho
      · exact wW L.st h ho
      · exact h2.ij k b h ((L.own b).2 (.inl ho))
    have hsU:=L.st.more (ok':=fun k b=>ok' k b ∨ ok k b) (hids':=[(w.heap.size + 1,.loop (rec .ready none))]) (fun k b h=>.inl h) hokown (fun q hq=>by
      rw [List.mem_singleton.1 hq];exact ⟨hl,jB⟩)
    have hvs2 : yX (okOf (anew (fun k b=>ok' k b ∨ ok k b) (I i) ρ' W N m [(w.heap.size + 1,.loop (rec .ready none))]) ρ' (I i)) ρ' W xs[k] vs:=by
      have hk2 : xI ok (okOf (anew (fun k b=>ok' k b ∨ ok k b) (I i) ρ' W N m [(w.heap.size + 1,.loop (rec .ready none))]) ρ' (I i)) W W:=fun _ b hb _=>⟨⟨.inl (.inr hb),fun p hp e=>hokown _ b (.inr hb) ⟨p,hp,e⟩⟩,rfl⟩
      have h3:=yX.kept hk2 hvs;clear hk2 hvl hvs
      revert h3
      generalize xs[k] = as
      intro h3
      induction as generalizing vs with
      | nil=>exact h3
      | cons x as ih =>
        obtain ⟨v,r,rfl,h4,h5⟩:=h3;exact ⟨v,r,rfl,A.names jS h4,ih r h5⟩
    have hsA:=appT_st (ps:=ps) hsU rfl hpN hvs2;have hr:=round k i hk hk1 hp;unfold qZ at hr;have hrun:=hr hte (some (w.heap.size + 1)) n' _ (eP hm hra) rfl rfl ρ' _ W hsA;have hzip : (ps.toArray.zip vs.toArray).foldl (fun (tmps : Array Value) (x : Nat × Value)=>tmps.setIfInBounds x.1 x.2) a.tmps = (ps.zip vs).foldl (fun t (p,v)=>t.setIfInBounds p v) a.tmps:=by
      rw [← Array.foldl_toList];simp
    refine Code.wpIn_mono ?_ (show assign.wpIn ((FR none).inRound (w.heap.size + 1)) n' P _ { tmps:=(ps.toArray.zip vs.toArray).foldl (fun (tmps : Array Value) (x : Nat × Value)=>tmps.setIfInBounds x.1 x.2) a.tmps,defers:=[] } W by rw [hzip];exact hrun)
    rintro e a2 W2 ⟨tm2,ob2,nx2,ρ2,hq,hs4⟩
    cases e <;> simp only [asnQ,Exit.then] at hq ⊢
    have hl2 : W2.heap[w.heap.size + 1]? = some (.loop (rec .ready none)):=(hs4.defers.2 (w.heap.size + 1,.loop (rec .ready none)) (by simp)).1;have hlW2 : w.heap.size + 1 < W2.heap.size:=(Array.getElem?_eq_some_iff.1 hl2).1;refine ⟨_,run_beginRound hl2 (by rw [hrec]),?_⟩;obtain ⟨busy,hbusy⟩ : ∃ q : Loop,q = { rec .ready none with state:=.busy }:=⟨_,rfl⟩;rw [← hbusy];have hs5:=hs4.reput (h2:=[(w.heap.size + 1,.loop busy)]) (o:=.loop busy) hl jB hl2 (fun q hq=>by
      rw [List.mem_singleton.1 hq];exact ⟨World.putObj_heap_same hlW2,jB⟩)
    refine Code.wpIn_mono ?_ (hq hte (some (w.heap.size + 1)) n' _ (eP hm hrb) rfl rfl ρ2 a2 _ hs5);have fin : ∀ (s : Bool) (j : ι) (tm3 : Tm) (ob3 : Obs) (nx3 : Nat) (ρ3 : Nat → Option Value) (a3 : Act) (W3 : World) (jump : Option Code),Le m tm3 ob3 nx3 [] (I j) m → jump = (if s then some (Xc j) else none) → Pr s (k + 1) j →
        StOk ⟨fun k b=>ok' k b ∨ ok k b,xK (I i) ρ',W.putObj (w.heap.size + 1) (.loop busy),N,m,[(w.heap.size + 1,.loop busy)],false⟩ tm3 ob3 nx3 ρ3 a3 W3 →
        ∃ v w',(Instr.endRound (w.heap.size + 1) jump).run P W3 = .ok v w' ∧ zZ W w' ∧ (∀ b,b < W.heap.size → ¬ own' b → w'.heap[b]? = W.heap[b]?) ∧ ∃ (st : Bool) (j : Bool × ι) (ok2 : Oks) (own2 : Nat → Prop),Ending.returned v = .returned (.bool (!st)) ∧ (j.1 = st ∧ Pr st (k + 1) j.2) ∧ (∃ ρ,LS cx a tm1 m (w.heap.size + 1) w.heap.size I rec Xc N j ok2 own2 w' ρ ∧ ρ c0 = some (.pointer (some ⟨b0,0,none⟩))) ∧
          (∀ b,own2 b → own' b ∨ W.heap.size ≤ b) ∧ (∀ k b,ok2 k b → ok' k b ∨ ok k b ∨ (frK k ∧ (own' b ∨ W.heap.size ≤ b))) ∧ (∀ k b,ok2 k b → b < w'.heap.size) ∧ ∀ b,own2 b → b < w'.heap.size:=by
      intro s j tm3 ob3 nx3 ρ3 a3 W3 jump hle hj hpj hs6;obtain ⟨ρ4,hs7⟩:=hle.st _ rfl ρ3 a3 W3 hs6;obtain ⟨ok2,own2,LN,hsub,hoks⟩:=L.next (sj:=(s,j)) (ok1:=ok) (fun k b h=>.inl h) (fun k b h=>h) hu hs1.disj hs1.bags hs1.nx0 (hI k i hp) hcalm hs7;have hl3 : W3.heap[w.heap.size + 1]? = some (.loop busy):=(hs7.defers.2 (w.heap.size + 1,.loop busy) (by simp)).1;have hend:=run_endRound (P:=P) jump hl3;have hrec2 : Obj.loop { busy with state:=if jump.isNone then .ready else .done,pending:=jump } = .loop (if s then rec .done (some (Xc j)) else rec .ready none):=by
        rw [hbusy,hj,hrec];cases s <;> rfl
      rw [hrec2] at hend;refine ⟨_,_,hend,?_,fun b hb ho=>?_,s,(s,j),ok2,own2,?_,⟨rfl,hpj⟩,⟨ρ4,LN,pin_kept hs7 (hI k i hp) hc0m hpv'⟩,hsub,hoks,fun k b hb=>(LN.okl k b hb).1,fun b hb=>LN.lt hb⟩
      · exact (zL W _ _).trans (hs7.keep.grows.trans (zL W3 _ _))
      · have hbl : b ≠ w.heap.size + 1:=fun e=>ho ((L.own b).2 (.inr (.inl e)))
        rw [World.putObj_heap_other hbl,hs7.keep.block b (by show b < (W.putObj _ _).heap.size;rw [World.putObj_size];exact hb) (fun ⟨q,_,e⟩=>ho ((L.own b).2 (.inl (xL e)))) (fun hg=>wE (cx:=⟨fun k b=>ok' k b ∨ ok k b,xK (I i) ρ',W.putObj (w.heap.size + 1) (.loop busy),N,m,[(w.heap.size + 1,.loop busy)],false⟩) (xU L.st.fresh) hg.1)];exact World.putObj_heap_other hbl
      · rw [hj];cases s <;> rfl
    rintro e a3 W3 ⟨tm3,ob3,nx3,ρ3,hq3,hs6⟩
    cases e <;> simp only [rndQ,roundPost] at hq3 ⊢
    · obtain ⟨j,hpj,hle⟩:=hq3;exact fin false j tm3 ob3 nx3 ρ3 a3 W3 none hle rfl hpj hs6
    · obtain ⟨j,hpj,hx,hle⟩:=hq3;exact fin true j tm3 ob3 nx3 ρ3 a3 W3 _ hle (by rw [hx];rfl) hpj hs6
    · obtain ⟨j,hpj,hx,hle⟩:=hq3;exact fin true j tm3 ob3 nx3 ρ3 a3 W3 _ hle (by rw [hx];rfl) hpj hs6
  have hsk : Skips P f0 (svf (.pointer (some ⟨b0,0,none⟩))) xs (fun st k (si : Bool × ι)=>si.1 = st ∧ Pr st k si.2) (fun (si : Bool × ι) ok own W=>∃ ρ,LS cx a tm1 m (w.heap.size + 1) w.heap.size I rec Xc N si ok own W ρ ∧ ρ c0 = some (.pointer (some ⟨b0,0,none⟩))) (fun k b=>UOk cx k b) W1.heap.size:=by
    rintro k ⟨s,i⟩ ok ok' own' W hk hk2 ⟨hs0,hp⟩ ⟨ρ',L,hpv'⟩ h2 hu hn
    have hs0 : s = false:=hs0;subst hs0;have hl : W.heap[w.heap.size + 1]? = some (.loop (rec .ready none)):=L.loop;have hokown : ∀ k b,ok' k b ∨ ok k b → ¬ OwnB (I i) ρ' b:=by
      rintro k b (h|h) ho
      · exact wW L.st h ho
      · exact h2.ij k b h ((L.own b).2 (.inl ho))
    have hsU:=L.st.more (ok':=fun k b=>ok' k b ∨ ok k b) (hids':=[(w.heap.size + 1,.loop (rec .ready none))]) (fun k b h=>.inl h) hokown (fun q hq=>by
      rw [List.mem_singleton.1 hq];exact ⟨hl,jB⟩)
    obtain ⟨j,obc,obc',r,m',hpj,hc,hl0,hnd,hle0⟩:=hskip k i hk hk2 hp;refine (dI hsU hc (hsa _ ρ' W _ hpv') hl0 hnd).mono ?_
    rintro e W3 ⟨u,ρ3,rfl,hs4,_⟩
    obtain ⟨ρ4,hs7⟩:=hle0.st _ rfl ρ3 _ W3 hs4;obtain ⟨ok2,own2,LN,hsub,hoks⟩:=L.next (sj:=(false,j)) (q:=rec .ready none) (ok1:=ok) (fun k b h=>.inl h) (fun k b h=>h) hu hs1.disj hs1.bags hs1.nx0 (hI k i hp) hcalm (by rw [iH hl];exact hs7);have hl3 : W3.heap[w.heap.size + 1]? = some (.loop (rec .ready none)):=(hs7.defers.2 (w.heap.size + 1,.loop (rec .ready none)) (by simp)).1;have LN : LS cx a tm1 m (w.heap.size + 1) w.heap.size I rec Xc N (false,j) ok2 own2 (W3.putObj (w.heap.size + 1) (.loop (rec .ready none))) ρ4:=LN;rw [iH hl3] at LN;exact ⟨⟨u,rfl⟩,hs7.keep.grows,fun b hb ho=>hs7.keep.block b hb (fun ⟨q,_,e⟩=>ho ((L.own b).2 (.inl (xL e)))) (fun hg=>wE (cx:=⟨fun k b=>ok' k b ∨ ok k b,xK (I i) ρ',W,N,m,[(w.heap.size + 1,.loop (rec .ready none))],false⟩) (xU L.st.fresh) hg.1),
      (false,j),ok2,own2,⟨rfl,hpj⟩,⟨ρ4,LN,pin_kept hs7 (hI k i hp) hc0m hpv'⟩,hsub,hoks,fun k b hb=>(LN.okl k b hb).1,fun b hb=>LN.lt hb⟩
  have htwo : Two okS (fun _=>False) okS (fun b=>OwnB (I i0) ρ1 b ∨ b = w.heap.size + 1 ∨ b = w.heap.size ∨ bZ a.defers b) W1:=by
    refine ⟨fun k b h=>(L0.okl k b h).1,fun _ h=>h.elim,fun k b h=>(L0.okl k b h).1,fun b h=>L0.lt h,fun k b h h'=>?_,fun _ _ _ h=>h,fun _ h=>h.elim⟩;have hb:=hcell1 b h.2;rcases h' with ⟨p,hp,e⟩|rfl|rfl|h1
    · exact h.1.2 p hp e
    · omega
    · omega
    · exact jK.not (hdefs.mark b h1).1 aH h.2
  refine ⟨w.heap.size + 1,[{ target:=.collected w.heap.size,args:=#[] }],W1,{ target:=.fn (.func f) cs.toArray,args:=#[.func (.yield (w.heap.size + 1)) #[] #[]] },W1,f,
    #[.func (.yield (w.heap.size + 1)) #[] #[]] ++ cs.toArray,W1,?_,?_,fun _ _=>trivial,?_,zM,?_⟩
  · rw [← hW1,hrec];exact run_enterLoop_outer _ _ _ _ _
  · simp only [resolve,hgv];simp [go_sem]
  · simp [invoke,go_sem,run_func (hit (.pointer (some ⟨b0,0,none⟩))).1]
  · have hcall:=(hit (.pointer (some ⟨b0,0,none⟩))).2 (w.heap.size + 1) (Bool × ι) _ _ _ W1.heap.size hU (fun si ok own w2 w3 ⟨ρ,h,hp⟩ hg hss=>⟨ρ,LS.abides_at W1.heap.size (Nat.le_trans hs1.keep.size hb1.size) (fun b hb=>(hs1.bags b hb).1) h hg hss,hp⟩) hyl hsk (false,i0) okS okS _ W1 cs ⟨rfl,hp0⟩ ⟨ρ1,L0,hpv⟩ hsJ.glob htwo (fun k b h=>L0.okU k b h) rfl hcs';rw [show (#[.func (.yield (w.heap.size + 1)) #[] #[]] ++ cs.toArray : Array Value) = (.func (.yield (w.heap.size + 1)) #[] #[] :: cs).toArray by simp];refine calls_fr (hcall.mono ?_)
    rintro e W3 ⟨⟨v,rfl⟩,st,k,⟨s,j⟩,ok2,own2,hst,⟨rfl,hpj⟩,ρ3,LN,_⟩
    have hback:=LN.back hfr hh e1 hs1.nx0 hs1.disj hs1.glob hs1.bags;have hl3:=LN.loop;have hl3n : ¬ jK W3 (w.heap.size + 1):=jK.not hl3 jB;have hpoke : ∀ o,StOk cx tm1 (I j) m ρ3 ⟨a.tmps,{ target:=.collected w.heap.size,args:=#[] } :: a.defers⟩ (W3.putObj (w.heap.size + 1) o):=fun o =>
      hback.poke hl3n LN.low (hback.defers.kept' hl3 o)
    cases s with
    | false =>
      have:=run_endLoop (P:=P) hl3 (by rw [hrec];simp);refine ⟨_,_,this,?_⟩;rw [hrec];exact ⟨tm1,I j,m,ρ3,done j (hst rfl ▸ hpj),hpoke _⟩
    | true =>
      have:=run_endLoop (P:=P) hl3 (by rw [hrec];simp);refine ⟨_,_,this,?_⟩;rw [hrec];have hstop:=stop k j hpj;unfold qZ at hstop;exact hstop hte none n cx ⟨hnr.1,.inl ⟨rfl,hfr,hh⟩⟩ e1 e2 ρ3 _ _ (hpoke _)
end
section
variable {P : Program} {te : List (TypeId × TyI)} {cx : Cx} {tm : Tm} {ob : Obs} {nx N nx0 : Nat} {ρ : Nat → Option Value} {a : Act} {w : World} {Q : AQ}
theorem store7 {t : TypeId} {i : TyI} (hi : TyOk P t i) (hf : cx.flag) (hs : StOk cx tm ob nx ρ a w) (hth : cY tm = true) (hto : cZ ob = true) {b off n : Nat} {cs : List Value} (hok : okU (okOf cx ρ ob) w 7 b) (hlt : b < w.heap.size) (hc : xT w b off n cs) {v : Value} {ns : List C}
    (hv : repL (okOf cx ρ ob) ρ w ns v.cells.toList) (hn : vW ns = true) (hsz : ns.length = i.size) (hnn : n = i.size) (hpos : 0 < n) :
    ∃ w',(Instr.storeAt t (.pointer (some ⟨b,off,none⟩)) v).run P w = .ok () w' ∧ StOk cx tm ob nx ρ a w':=by
  obtain ⟨cur,T,hb⟩:=hok.2 (.inr rfl);have hl:=repL.len hv;have hones:=wX hn hv;have hfit : off + n ≤ cur.size:=by
    have h1:=hc.2 (n - 1) (by omega);simp only [World.cell?,hb,Option.isSome_none,Bool.false_eq_true,if_false] at h1;have hcl:=hc.1;rw [List.getElem?_eq_getElem (by omega)] at h1;have:=(Array.getElem?_eq_some_iff.1 h1).1;omega
  have hst:=run_storeCells_at P b off T v.cells.toList 0 cur w hb (by rw [Nat.add_zero];omega) hones;simp only [Nat.add_zero] at hst;obtain ⟨vs,hvs⟩ : ∃ vs,vs = v.cells.toList:=⟨_,rfl⟩;rw [← hvs] at hst hones hl;have hvl : vs.length = n:=by omega
  refine ⟨w.setRow b (cur.toList.take off ++ vs ++ cur.toList.drop (off + vs.length)).toArray,?_,?_⟩
  · simp only [Instr.storeAt,storeVar,Instr.sureAddr,Sem.run_bind,Sem.run_pure,Result.andThen_ok,hi.sizeOf];rw [if_neg (by rw [hvs] at hvl;simp only [Array.length_toList] at hvl;omega),← hvs];exact hst
  · obtain ⟨arr,harr⟩ : ∃ arr,arr = (cur.toList.take off ++ vs ++ cur.toList.drop (off + vs.length)).toArray:=⟨_,rfl⟩;rw [← harr];have hheap : (w.setRow b arr).heap[b]? = some (.cells arr T (0,0)):=setRow_heap w b cur arr T _ hb;have hother : ∀ c,c ≠ b → (w.setRow b arr).heap[c]? = w.heap[c]?:=fun c h=>setRow_other w b c arr h
    have hasz : arr.size = cur.size:=by
      rw [harr];simp only [List.size_toArray,List.length_append,List.length_take,List.length_drop,Array.length_toList];omega
    refine hs.spoil hf hth hto ⟨rfl,rfl,rfl,by simp,fun c _ hno=>hother c fun e=>hno (e ▸ hok.1),fun c=>?_,fun c o e hno=>?_⟩
    · by_cases e : c = b
      · subst e;intro cs2 T2 f2 e2;rw [hb] at e2;cases e2;refine ⟨arr,hheap,hasz,fun k u hk=>?_⟩;rw [harr,List.getElem?_toArray] at hk;rcases Nat.lt_or_ge k off with h1|h1
        · left
          rw [List.append_assoc,List.getElem?_append_left (by rw [List.length_take,Array.length_toList];omega),List.getElem?_take_of_lt h1,Array.getElem?_toList] at hk;exact hk
        · rcases Nat.lt_or_ge k (off + n) with h2|h2
          · right
            rw [List.getElem?_append_left (by simp only [List.length_append,List.length_take,Array.length_toList];omega),List.getElem?_append_right (by simp only [List.length_take,Array.length_toList];omega)] at hk;exact hones u (List.mem_of_getElem? hk)
          · left
            rw [List.getElem?_append_right (by simp only [List.length_append,List.length_take,Array.length_toList];omega),List.getElem?_drop,Array.getElem?_toList] at hk;rw [← hk]
            congr 1
            simp only [List.length_append,List.length_take,Array.length_toList];omega
      · exact .rfl' (hother c e)
    · rw [hother c fun h=>by rw [h,hb] at e;cases e;exact hno.1 _ _ _ rfl];exact e
theorem fK {id : Nat} {ops : Array Oper} (k : Nat) {post : List Oper} {o : Oper} {t : TypeId} {d x : Operand} (hk : ops.toList.drop k = o :: post) (hop : o.op = .store t d x) (hg : o.guard = none) (hn : Nat.ble 1000000 nx0 = true)
    (h : awp P te N nx0 ops.toList (ops.toList.take k) tm ob nx (fun tm1 ob1 nx1=>∃ (i : TyI) (β : Type) (R : Rd β) (y : β) (ns : List C),find te t = some i ∧ look tm1 d = .one (.adk 7 R y) ∧ wH (look tm1 x) = some ns ∧
      (match Nat.beq (lenC ns) i.size,Nat.beq R.n i.size,vW ns,cY tm1,cZ ob1 with|true,true,true,true,true=>true|_,_,_,_,_=>false) = true ∧
      put N o.dst (.one .any) tm1 fun tm2=>awp P te N nx0 ops.toList post tm2 ob1 nx1 fun tm ob nx=>Q .normal tm ob nx)) : qZ P te N nx0 (.region id ops false) tm ob nx Q:=by
  unfold qZ;intro hte rd n cx hnr e1 e2 ρ a w hs;subst e1 e2;have hf : cx.flag:=hnr.1 (Nat.le_of_ble_eq_true hn);refine wpIn_region_list ?_;have hops : ops.toList = ops.toList.take k ++ o :: post:=by rw [← hk,List.take_append_drop]
  rw [hops];refine jI hte ops (o :: post) (ops.toList.take k) h hs ?_
  rintro tm1 ob1 nx1 ρ1 a1 w1 ⟨i,β,R,y,ns,hi,hd,hns,hall,hput⟩ hs1
  split at hall
  · rename_i c1 c2 c3 c4 c5;have c1:=Nat.eq_of_beq_eq_true c1;have c2:=Nat.eq_of_beq_eq_true c2;rw [jP] at c1;have hdr:=hs1.look d;rw [hd] at hdr;obtain ⟨b,off,cs,hde,h1,h2,h3,h4⟩:=hdr;obtain ⟨w',h5,h6⟩:=store7 (yO hte hi) hf hs1 c4 c5 h1 h2 h3 (zT hs1 hns c3) c3 c1 c2 R.n_pos;obtain ⟨tm2,h7,h8⟩:=h6.put hput (u:=undef) trivial;refine kQ hg (fun c e=>by rw [hop] at e;cases e) ?_;unfold Oper.wp execOp;rw [hop];simp only [Sem.run_bind,hde,h5,Result.andThen_ok,Sem.run_pure];exact jV hte ops post h7 h8 (fun tm ob nx ρ a w hq hs=>⟨tm,ob,nx,ρ,hq,hs⟩)
  · cases hall
end
theorem acode_frzat {P : Program} {te : List (TypeId × TyI)} {N nx0 nx : Nat} {tm : Tm} {ob : Obs} {Q : AQ} {id : Nat} {ops : Array Oper} (k i q : Nat)
    (h : awp P te N nx0 ops.toList (ops.toList.take k) tm ob nx (fun tm1 ob1 nx1=>∃ (α : Type) (E : TypeId) (R : Rd α) (xs : List α),getO ob1 i = some (.vec E R xs) ∧
      awp P te N nx0 ops.toList (ops.toList.drop k) (vF i (.slk q R xs) tm1) (kG i (.slk q R xs) (jF i ob1)) nx1 fun tm ob nx=>Q .normal tm ob nx)) (hq : frK q:=by decide) : qZ P te N nx0 (.region id ops false) tm ob nx Q:=by
  unfold qZ;intro hte rd n cx hnr e1 e2 ρ a w hs;subst e1 e2;refine wpIn_region_list ?_;have hops : ops.toList = ops.toList.take k ++ ops.toList.drop k:=(List.take_append_drop _ _).symm;rw [hops];refine jI hte ops (ops.toList.drop k) (ops.toList.take k) h hs ?_
  rintro tm1 ob1 nx1 ρ1 a1 w1 ⟨α,E,R,xs,hg,h2⟩ hs1
  exact jV hte ops (ops.toList.drop k) h2 (hs1.freezek q hq hg) (fun tm ob nx ρ a w hq hs=>⟨tm,ob,nx,ρ,hq,hs⟩)
theorem aspoil_of {P : Program} {te : List (TypeId × TyI)} {f : FuncId} {fn : Func} {c : Code} (hf : P.funcs[f]? = some fn) (hb : fn.body = some c) (hname : (fn.name == "runtime.NumGoroutine") = false) (hr : fn.results = #[]) (hte : TEok P te) (hn : Nat.ble 1 fn.ntmps = true)
    (h : ∀ xs,qZ P te fn.ntmps 1000000 c [(0,.one (.slk 7 rUnk2 xs))] [] 1000000 (fun e _ _ _=>e = .ret ∨ e = .normal)) : ASpoil P f:=by
  refine ⟨⟨fn,hf,by rw [hb];rfl,hname⟩,fun ok w v xs hgl h70 hsl=>callsIn_wide.1 (callsIn_of_wp_marks (F:=FR none) (n:=0) hf hb trivial ?_)⟩;have hn:=Nat.le_of_ble_eq_true hn
  let cx : Cx:=⟨fun k b=>(k = 7 ∧ ok 7 b ∧ Unfz w b) ∨ (k ≠ 7 ∧ b < nGlob),fun i=>if i = 1000000 then some (.agg #[]) else none,w,fn.ntmps,1000000,[],true⟩
  have hfl : cx.flag:=⟨Nat.le_refl 1000000,by show (if (1000000 : Nat) = 1000000 then some (Value.agg #[]) else none) = _;rw [if_pos rfl]⟩;have hnm : ∀ i b,blk (cx.nm i) ≠ some b:=fun i b e=>by
    have e : blk (if i = 1000000 then some (.agg #[]) else none) = some b:=e
    by_cases hi : i = 1000000
    · rw [if_pos hi] at e;cases e
    · rw [if_neg hi] at e;cases e
  have hs : StOk cx [(0,.one (.slk 7 rUnk2 xs))] [] 1000000 yI { tmps:=#[v] ++ Array.replicate (fn.ntmps - (#[v] : Array Value).size) undef,defers:=[] } w:=by
    refine ⟨?_,uL.none rfl,fun i=>?_,fun p hp=>by (cases hp),List.nodup_nil,fun p hp=>by (cases hp),fun _ _=>rfl,Nat.le_refl _,fun p hp=>by (cases hp),fun p hp=>by (cases hp),⟨rfl,rfl,rfl,Nat.le_refl _,fun _ _ _ _=>rfl,fun _ _=>.rfl' rfl⟩,fun i b _ e=>absurd e (hnm i b),fun i _ p e=>?_,⟨fun g hg=>.inr ⟨by decide,hg⟩,hgl.2⟩,fun b hb=>?_⟩
    · show (#[v] ++ Array.replicate (fn.ntmps - (#[v] : Array Value).size) undef).size = fn.ntmps;simp only [Array.size_append,Array.size_replicate,List.size_toArray,List.length_singleton];omega
    · rw [jR];split
      · rename_i e;have e : (0 : Nat) = i:=Nat.eq_of_beq_eq_true e;subst e;have hv : (#[v] ++ Array.replicate (fn.ntmps - (#[v] : Array Value).size) undef).getD 0 undef = v:=by rw [Array.getD_eq_getD_getElem?,Array.getElem?_append_left (by simp)];rfl
        rw [hv];obtain ⟨ad,cap,h1,h2,h3,h4⟩:=hsl;refine ⟨ad,cap,h1,h2,h3,fun i hi=>?_⟩;obtain ⟨b,off,cs,h5,h6,h7,h8,h9⟩:=h4 i hi;exact ⟨b,off,cs,h5,⟨⟨.inl (.inl ⟨rfl,h6.1,h6.2 (.inr rfl)⟩),fun p hp=>by cases hp⟩,h6.2⟩,h7,h8,h9⟩
      · trivial
    · have e0 : (if i = 1000000 then some (.agg #[]) else none) = some (Value.pointer p):=e
      by_cases hi : i = 1000000
      · rw [if_pos hi] at e0;cases e0
      · rw [if_neg hi] at e0;cases e0
    · rcases hb.2 with ⟨_,h1,h2⟩|⟨h1,_⟩
      · refine ⟨by obtain ⟨_,_,h3⟩:=h2;exact (Array.getElem?_eq_some_iff.1 h3).1,fun k hk hkb=>?_⟩;rcases hkb with ⟨h3,_⟩|⟨_,h3⟩
        · exact hk h3
        · exact h70 b h3 h1
      · exact absurd rfl h1
  have hh:=h xs;unfold qZ at hh;refine Code.wpIn_mono ?_ (hh hte none 0 cx ⟨fun _=>hfl,.inl ⟨rfl,rfl,rfl⟩⟩ rfl rfl yI _ w hs)
  rintro e a' w0' ⟨tm',ob',nx',ρ',hq,hs0'⟩
  have fin : ∀ w',StOk cx tm' ob' nx' ρ' ⟨a'.tmps,[]⟩ w' → ∃ u,(results fn a'.tmps).run P w' = .ok u w' ∧ ∃ u2,Ending.returned u = .returned u2 ∧ Spoilt (ok 7) w w':=fun w' hs'=>by
    refine ⟨_,results_none hr _ _ _,_,rfl,hs'.keep.os,hs'.keep.tape,hs'.keep.output,hs'.keep.size,fun b hlt hno=>hs'.keep.block b hlt (fun ⟨i,_,e⟩=>hnm i b e) (fun hg=>?_),fun b=>?_,fun b o e hno=>?_⟩
    · rcases hg.2 with ⟨_,h1,_⟩|⟨h1,_⟩
      · exact hno h1
      · exact absurd rfl h1
    · by_cases hbg : cx.bag b
      · exact hs'.keep.shape b hbg
      · rcases Nat.lt_or_ge b w.heap.size with hlt|hge
        · exact .rfl' (hs'.keep.block b hlt (fun ⟨i,_,e⟩=>hnm i b e) hbg)
        · intro cs T f e;rw [Array.getElem?_eq_none hge] at e;cases e
    · have hlt:=(Array.getElem?_eq_some_iff.1 e).1
      by_cases hbg : cx.bag b
      · exfalso
        rcases hbg.2 with ⟨_,_,cs,T,h1⟩|⟨h1,_⟩
        · rw [e] at h1;cases h1;exact hno.1 _ _ _ rfl
        · exact absurd rfl h1
      · exact (hs'.keep.block b hlt (fun ⟨i,_,e⟩=>hnm i b e) hbg).trans e
  rcases hq with rfl|rfl
  · refine StOk.unwind hs0' rfl rfl fun w' hs'=>?_
    obtain ⟨u,h1,h2⟩:=fin w' hs';exact ⟨u,h1,h2⟩
  · refine StOk.unwind hs0' rfl rfl fun w' hs'=>?_
    obtain ⟨u,h1,h2⟩:=fin w' hs';exact ⟨u,h1,h2⟩
def rdKd (q : Nat) : Option (Sigma Rd) → Option (Sigma Rd)
  | some s=>some ⟨s.1,s.2.kd q⟩
  | none=>none
def TyI.kd (q : Nat) (i : TyI) : TyI:=⟨i.k,i.size,i.bytes,i.zero,rdKd q i.rd,i.eq⟩
def mapTe (q : Nat) : List (TypeId × TyI) → List (TypeId × TyI)
  | []=>[]
  | p :: r=>(p.1,p.2.kd q) :: mapTe q r
theorem gE {P : Program} {q : Nat} : ∀ {te : List (TypeId × TyI)},TEok P te → TEok P (mapTe q te)
  | [],_,p,hp=>by cases hp
  | x :: r,h,p,hp=>by
    rcases List.mem_cons.1 hp with hp|hp
    · subst hp;have h1:=h x (by simp);refine ⟨h1.info,h1.kind,h1.zlen,h1.zplain,h1.size1,fun α R e=>?_,h1.eqg⟩;have e : rdKd q x.2.rd = some ⟨α,R⟩:=e;have h2:=h1.rdn;cases hx : x.2.rd with
      | none=>rw [hx] at e;cases e
      | some s =>
        rw [hx] at e;cases e;have:=h2 s.1 s.2 (by rw [hx]);exact (Rd.kd_n _).trans this
    · exact gE (fun y hy=>h y (by simp [hy])) p hp
end Ab
end Go.Proofs.YtmaekcmknibmeaaGreatDoor
namespace Go.Proofs.YtmaekcmknibmeaaGreatDoor
open Go.RowKit
namespace Ab
set_option maxRecDepth 100000
theorem dU {P : Program} {te : List (TypeId × TyI)} {N nx0 : Nat} {ops : Array Oper} {fuel : Nat} {listed : Array Bool} {tm : Tm} {ob : Obs} {nx : Nat} {K : Tm → Obs → Nat → Prop} (i j : Nat) {o o2 : Ob} (hi : getO ob i = some o) (hj : getO ob j = some o2) (gi : Nat.ble nx0 i = true) (gj : Nat.ble nx0 j = true) (h : AOrd P te N nx0 ops fuel listed (renTm (swN i j) tm) (jA (swN i j) ob) nx K) : AOrd P te N nx0 ops fuel listed tm ob nx K:=by
  intro hte cx e1 e2 ρ a w hs;exact h hte cx e1 e2 (fun k=>ρ (swN i j k)) a w (hs.swapB i j hi hj (by rw [e2];exact Nat.le_of_ble_eq_true gi) (by rw [e2];exact Nat.le_of_ble_eq_true gj))
end Ab
end Go.Proofs.YtmaekcmknibmeaaGreatDoor
namespace Go.Proofs.YtmaekcmknibmeaaGreatDoor
open Go.RowKit
namespace Ab
abbrev AllOk : Oks:=fun _ _=>True
def vE {α : Type} (P : Program) (t : TypeId) (R : Rd α) : Prop :=
  P.cellsOf t = R.n ∧ ∀ {H : Type} (enc : TypeId × Value → H) (w : World) (base fuel : Nat) (spare : Nat → Bool) (held : Bool) (cs : List Value) (x : DataW H × List MemPlace),DataW.trod enc P w base spare held fuel t cs = some x → ∃ a,R.is AllOk w cs a
theorem opens_str {P : Program} {t : TypeId} (ht : P.underlying t = some .string) (hc : P.cellsOf t = 1) : vE P t .str :=
  ⟨hc,fun _ _ _ _ _ _ _ _ h=>by obtain ⟨s,e,_,hs⟩:=DataW.trod_string ht h;exact ⟨s,e⟩⟩
theorem opens_int {P : Program} {t : TypeId} {k : IntKind} (ht : P.underlying t = some (.int k)) (hc : P.cellsOf t = 1) : vE P t (.int k) :=
  ⟨hc,fun _ _ _ _ _ _ _ _ h=>by obtain ⟨s,e,_⟩:=DataW.trod_int ht h;exact ⟨s,e⟩⟩
theorem opens_bool {P : Program} {t : TypeId} (ht : P.underlying t = some .bool) (hc : P.cellsOf t = 1) : vE P t .bool :=
  ⟨hc,fun _ _ _ _ _ _ _ _ h=>by obtain ⟨s,e,_⟩:=DataW.trod_bool ht h;exact ⟨s,e⟩⟩
inductive FO (P : Program) : List Field → Nat → {α : Type} → Rd α → Prop
  | one {f : Field} {off : Nat} {α : Type} {R : Rd α} : f.offset = off → vE P f.type R → FO P [f] off R
  | cons {f : Field} {fs : List Field} {off : Nat} {α β : Type} {R : Rd α} {S : Rd β} : f.offset = off → vE P f.type R → FO P fs (off + R.n) S → FO P (f :: fs) off (.st R S)
theorem fo_read {P : Program} {H : Type} {enc : TypeId × Value → H} {w : World} {base n : Nat} {spare : Nat → Bool} {held : Bool} {cs : List Value} : ∀ {fs : List Field} {off : Nat} {α : Type} {R : Rd α},FO P fs off R →
    (∀ f ∈ fs,∃ x,DataW.trod enc P w base spare held n f.type ((cs.drop f.offset).take (P.cellsOf f.type)) = some x) → cs.length = off + R.n → ∃ a,R.is AllOk w (cs.drop off) a
  | _,_,_,_,.one (f:=f) (R:=R) e h,hf,hl=>by
    obtain ⟨x,hx⟩:=hf f (by simp);rw [e,h.1,List.take_of_length_le (by rw [List.length_drop];omega)] at hx;exact h.2 enc w base n spare held _ _ hx
  | _,_,_,_,.cons (f:=f) (fs:=fs) (off:=off) (R:=R) (S:=S) e h hr,hf,hl=>by
    obtain ⟨x,hx⟩:=hf f (by simp);rw [e,h.1] at hx;obtain ⟨a,ha⟩:=h.2 enc w base n spare held _ _ hx;obtain ⟨b,hb⟩:=fo_read hr (fun g hg=>hf g (by simp [hg])) (by rw [hl];show off + (R.n + S.n) = _;omega);rw [← List.drop_drop] at hb;exact ⟨(a,b),_,_,(List.take_append_drop R.n (cs.drop off)).symm,ha,hb⟩
theorem eN {P : Program} {t : TypeId} {α : Type} {R : Rd α} {fs : Array Field} (ht : P.underlying t = some (.struct fs)) (hc : P.cellsOf t = R.n) (hf : FO P fs.toList 0 R) : vE P t R :=
  ⟨hc,fun enc w base fuel spare held cs x h=>by
    obtain ⟨xs,n,_,_,hl,hxl,he⟩:=DataW.trod_struct ht h;have:=fo_read (cs:=cs) hf (fun f hm=>by
      obtain ⟨i,hi,e⟩:=List.getElem_of_mem hm;have hi' : i < xs.length:=by rw [hxl];simpa using hi
      have:=he i f (by rw [← Array.getElem?_toList,List.getElem?_eq_getElem hi,e]);rw [List.getElem?_eq_getElem hi'] at this;exact ⟨_,this⟩) (by rw [hl,hc];omega)
    rw [List.drop_zero] at this;exact this⟩
theorem eO {α : Type} {P : Program} {t e : TypeId} {R : Rd α} (hn : 0 < R.n) (ht : P.underlying t = some (.slice e)) (hc : P.cellsOf t = 1) (he : vE P e R) : vE P t (.sl R) :=
  ⟨hc,fun enc w base fuel spare held cs x h=>by
    rcases Go.Deep.open_slice ht h with ⟨rfl,_⟩|⟨a,len,cap,m,n,D,Pl,rfl,_,hl,hm,hmm,rfl,hx⟩
    · exact ⟨[],_,rfl,none,0,rfl,Nat.le_refl _,by unfold maxLen;omega,fun i h=>absurd h (by simp)⟩
    · have hlm : len ≤ m:=by rw [hmm];split <;> omega
      have each : ∀ i,i < len → ∃ q : List Value × α,w.cells? base (a.add (i * P.cellsOf e)) (P.cellsOf e) = some q.1 ∧ R.is AllOk w q.1 q.2:=by
        intro i hi;obtain ⟨cs',h1,h2⟩:=hx i (by omega);obtain ⟨y,hy⟩:=he.2 enc w base n spare held cs' _ h2;exact ⟨(cs',y),h1,hy⟩
      by_cases h0 : len = 0
      · subst h0;exact ⟨[],_,rfl,some a,cap,rfl,Nat.zero_le _,hm,fun i h=>absurd h (by simp)⟩
      · obtain ⟨q0,_⟩:=each 0 (by omega)
        haveI : Inhabited (List Value × α):=⟨q0⟩
        obtain ⟨f,hf⟩:=Go.Deep.choose_lt each;refine ⟨(List.range len).map fun i=>(f i).2,_,rfl,some a,cap,by simp,by simpa using hl,hm,fun i hi=>?_⟩;have hi' : i < len:=by simpa using hi
        obtain ⟨hc1,hr1⟩:=hf i hi';obtain ⟨_,hlen,hcell⟩:=World.cells?_some hc1;have hspot : a.spot = none:=by
          obtain ⟨hc0,hr0⟩:=hf 0 (by omega);obtain ⟨_,hlen0,hcell0⟩:=World.cells?_some hc0;have hg:=hcell0 0 (by rw [he.1];exact hn);rw [List.getElem?_eq_getElem (by rw [hlen0,he.1];exact hn)] at hg;have:=World.cell?_spot hg
          simpa [Addr.add] using this
        have hg0:=hcell 0 (by rw [he.1];exact hn);rw [List.getElem?_eq_getElem (by rw [hlen,he.1];exact hn)] at hg0;obtain ⟨u0,hg0⟩ : ∃ u,w.cell? ((a.add (i * P.cellsOf e)).add 0) = some u:=⟨_,hg0⟩;obtain ⟨b,off,spot⟩:=a;simp only at hspot;subst hspot;have hb : b < w.heap.size:=by
          rcases Nat.lt_or_ge b w.heap.size with h'|h'
          · exact h'
          · exfalso
            rw [Go.Deep.add_add,he.1,Go.WideShapes.add_plain] at hg0;simp only [World.cell?,Array.getElem?_eq_none h'] at hg0;cases hg0
        refine ⟨b,off,(f i).1,rfl,okU0 trivial,hb,⟨by rw [hlen,he.1],fun j hj=>?_⟩,by simpa using hr1⟩;have hg:=hcell j (by rw [he.1];exact hj);rw [Go.Deep.add_add,he.1,Go.WideShapes.add_plain,← Nat.add_assoc] at hg;exact hg⟩
theorem open_sl {P : Program} {α : Type} {R : Rd α} {t : TypeId} {e : TypeId} (hu : P.underlying t = some (.slice e)) (ho : vE P t (.sl R)) {H : Type} {enc : TypeId × Value → H} {W : World} {base : Nat} {v : Value} {d : DataW H} {p : List MemPlace} (hv : Value.okWide P W .any base t v)
    (h : DataW.Trod enc P W 0 (fun _=>true) true t v d p) : ∃ xs : List α,(C.sl R xs).rep AllOk yI W v:=by
  obtain ⟨a0,len,cap,rfl⟩:=Go.WideShapes.okWide_slice hu hv;obtain ⟨fuel,hf⟩:=h;obtain ⟨xs,v,hc,hs⟩:=ho.2 enc W _ _ _ _ _ _ hf;simp only [Value.cells,List.cons.injEq,and_true] at hc;subst hc;exact ⟨xs,hs⟩
theorem handed_laid {H : Type} {enc : TypeId × Value → H} {a : Assume} {C : Checked} {os : Os} {f : FuncId} {fn : Func} {s : ChangeSpec} {conds : List PathCond} {apart fresh handsOn again : Bool} {X : World → Array Value → Prop}
    (_hX : ∀ (w w' : World) (args : Array Value),w.heap = w'.heap → X w args → X w' args)
    (own : ownKnob C.prog.godebug = none) (started : os.Started) (noInit : C.prog.inits.idxOf? f = none) (hfn : C.prog.funcs[f]? = some fn)
    (witness : ∃ (w : World) (tape : Tape) (i : Input),w.os = os ∧ (w.forCall tape i).Shaped C.prog ∧ i.vars = [] ∧ Input.okWide C.prog (w.forCall tape i) .any w.heap.size f i ∧
      ((s.pre enc C.prog fn conds apart (w.forCall tape i).memory i.args ∧ X (w.forCall tape i).memory i.args) ∧ sizedMet enc C.prog fn (OpenSpec.ofChange s) apart (w.forCall tape i).memory i.args) ∧ a.holds C.prog (lone (Frame.enter C.prog f i.args .normal) [] (w.forCall tape i)))
    (contract : ∀ (W : World) (base : Nat) (args : Array Value) (ds gs : List (DataW H)) (before : List MemPlace),
      (∀ (j : Nat) t v,fn.params[j]? = some t → args[j]? = some v → Value.okWide C.prog W .any base t v) →
      DataW.Whole enc C.prog fn.params.toList s.vars apart W args.toList ds gs before → W.ShapedOpen C.prog →
      Calls C.prog f args W fun e W'=>∃ v,e = .returned v ∧ s.post enc C.prog fn apart fresh handsOn again W args v W') :
    ReturnsInHanded a C os f .any (fun w args=>(s.pre enc C.prog fn conds apart w args ∧ X w args) ∧ sizedMet enc C.prog fn (OpenSpec.ofChange s) apart w args) (s.post enc C.prog fn apart fresh handsOn again):=by
  refine returnsInHanded_of_calls own started noInit witness ?_;intro w tape i _ hsh _ hok hpre _;obtain ⟨_,_,_,g,hg,_,_,_,_,hval⟩:=hok;obtain rfl : g = fn:=Option.some.inj (hg.symm.trans hfn);obtain ⟨⟨⟨ds,gs,before,hw,_⟩,_⟩,_⟩:=hpre;refine (contract _ w.heap.size i.args ds gs before hval (DataW.Whole.of_heap (w':=w.forCall tape i) (by rfl) hw) hsh).mono fun e W' ⟨v,he,hp⟩=>?_
  subst he;exact ChangeSpec.post_blind hp
end Ab
end Go.Proofs.YtmaekcmknibmeaaGreatDoor
namespace Go.Proofs.YtmaekcmknibmeaaGreatDoor
open Go.ChangeShapes Go.WideShapes Go.ChangeAt Go.RowKit
namespace Base
section
variable {H : Type} {enc : TypeId × Value → H} {P : Program}
theorem cU (hl : laidOutB P = true) {W W' : World} (hb : Below W.heap.size W W') :
    ∀ {ts : List TypeId} {vs : List Value} {ds : List (DataW H)} {ps : List MemPlace},(∀ t ∈ ts,P.readableRec t = true ∧ t < P.types.size) →
      (∀ x ∈ ps,x.block < W.heap.size) → DataW.TrodAll enc P W 0 (fun _=>true) true ts vs ds ps →
      DataW.TrodAll enc P W' 0 (fun b=>decide (b < W.heap.size)) true ts vs ds ps
  | [],vs,ds,ps,_,_,h=>by
    cases vs <;> cases ds <;> simp_all [DataW.TrodAll]
  | t :: ts,vs,ds,ps,hr,hlt,h=>by
    obtain ⟨v,vs',d,ds',p,q,rfl,rfl,rfl,h1,h2⟩:=trodAll_cons h;refine trodAll_cons_mk (Below.trod hl (hr t (by simp)).1 (hr t (by simp)).2 h1 hb (fun x hx=>hlt x (by simp [hx]))) ?_;exact cU hl hb (fun t' ht'=>hr t' (by simp [ht'])) (fun x hx=>hlt x (by simp [hx])) h2
theorem law_post {f : Func} {s : ChangeSpec} {W W' : World} {args : Array Value} {ds gs : List (DataW H)} {before : List MemPlace} {tb : TypeId}
    (hW : DataW.Whole enc P f.params.toList s.vars false W args.toList ds gs before) (hvars : s.vars = [])
    (hlo : laidOutB P = true) (hread : ∀ t ∈ f.params.toList,P.readableRec t = true ∧ t < P.types.size)
    (hspec : ∀ ds : List (DataW H),ds.length = f.params.size → s.fn H ds = { results:=[.lit (.bool true)],args:=ds })
    (hrt : f.resultTypes = #[tb]) (hbool : P.underlying tb = some .bool) (hb : Below W.heap.size W W') :
    s.post enc P f false true false false W args (.bool true) W':=by
  have hlt : ∀ p ∈ before,p.block < W.heap.size:=fun p hp=>hW.lt p hp
  have hold : ∀ p ∈ before,(fun b=>decide (b < W.heap.size)) p.block = true:=fun p hp=>by simpa using hlt p hp
  have hW':=hW;obtain ⟨p,q,hA,hV,rfl,hz,hn⟩:=hW';rw [hvars] at hV;obtain ⟨rfl,rfl⟩:=trodVars_none hV;have hlen : ds.length = f.params.size:=by
    have : ∀ {ts : List TypeId} {vs : List Value} {ds : List (DataW H)} {ps : List MemPlace},DataW.TrodAll enc P W 0 (fun _=>true) true ts vs ds ps → ds.length = ts.length:=by
      intro ts
      induction ts with
      | nil=>intro vs ds ps h;cases vs <;> cases ds <;> simp_all [DataW.TrodAll]
      | cons t ts ih =>
        intro vs ds ps h;obtain ⟨v,vs',d,ds',p,q,rfl,rfl,rfl,h1,h2⟩:=trodAll_cons h;simp [ih h2]
    simpa using this hA
  have hs:=hspec (ds ++ []) (by simpa using hlen);have hA':=cU hlo hb hread (fun x hx=>hlt x (by simp [hx])) hA;refine ⟨ds,[],p ++ [],[],p,[],hW,?_,?_,?_,World.keptBut_mono (fun x hx=>⟨hx,Or.inr (by simpa using hx)⟩) (hb.frame (· ∈ p ++ [])),fun h=>by cases h⟩
  · rw [hs,hrt];exact trodAll_mk1 (shut_bool hbool _)
  · rw [hs]
    simpa using hA'
  · rw [hvars,hs];rfl
end
end Base
end Go.Proofs.YtmaekcmknibmeaaGreatDoor
