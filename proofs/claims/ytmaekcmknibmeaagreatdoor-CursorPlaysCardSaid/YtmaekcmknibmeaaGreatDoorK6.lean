/-
  The texts of this proof, joined: abstract values, the library, the functions of the program and what they compute (part 6). No condition.
-/
import Derived.Shelf.Vars
import Derived.KernelRfl
import Derived.Test.YtmaekcmknibmeaaGreatDoorK1
import Derived.Test.YtmaekcmknibmeaaGreatDoorK2
import Derived.Test.YtmaekcmknibmeaaGreatDoorK3
import Derived.Test.YtmaekcmknibmeaaGreatDoorK4
import Derived.Test.YtmaekcmknibmeaaGreatDoorK5
namespace Go.Proofs.YtmaekcmknibmeaaGreatDoor
open Go.RowKit
namespace Ab
set_option maxRecDepth 100000
namespace Q
namespace QQ
theorem acall_arg {P : Program} {f : FuncId} {xs ys : List A} {r : A} (h : ∀ ok ρ w vs,yX ok ρ w xs vs → yX ok ρ w ys vs) (hc : qX P f ys r) : qX P f xs r :=
  ⟨hc.1,fun ok w vs hg hv=>hc.2 ok w vs hg (h _ _ _ _ hv)⟩
theorem dR (s w : ByteArray) (n : Nat) (h : n ≤ s.size) : gK s w n = Lib.occAt (ls s) (ls w) n:=by
  unfold gK;have h1:=yC s;have h2:=yC w
  by_cases hr : n + w.size ≤ s.size
  · rw [decide_eq_true hr,Bool.true_and,Lib.occAt_iff_take _ _ _ (by unfold ls;omega)];rw [Bool.eq_iff_iff,decide_eq_true_iff,beq_iff_eq];have e : (s.extract n (n + w.size)).data.toList = ((ls s).drop n).take (ls w).length:=by
      rw [uW,Nat.add_sub_cancel_left,h2]
    rw [← e];refine ⟨fun h=>by rw [h],fun h=>?_⟩;have h5:=congrArg bytes h;rw [show bytes (s.extract n (n + w.size)).data.toList = _ from kA _,kA] at h5;exact h5
  · rw [decide_eq_false hr,Bool.false_and];refine (Bool.eq_false_iff.2 fun e=>?_).symm;rcases Lib.occAt_room e with h3|h3
    · unfold ls at h3;omega
    · unfold ls at h3;rw [h3] at h2;simp only [List.length_nil] at h2;omega
theorem iV (s w : ByteArray) : Lib.contains (ls s) (ls w) = (List.range (s.size + 1)).any (gK s w):=by
  have h1:=yC s;unfold Lib.contains;rw [Bool.eq_iff_iff,decide_eq_true_iff,List.any_eq_true];refine ⟨fun h=>?_,fun ⟨n,hn,h⟩=>?_⟩
  · rcases Lib.index_spec (ls s) (ls w) with ⟨e,_⟩|⟨i,_,h2,h3,_⟩
    · omega
    · exact ⟨i,List.mem_range.2 (by unfold ls at h2;omega),by rw [dR s w i (by unfold ls at h2;omega)];exact h3⟩
  · have hn:=List.mem_range.1 hn;rw [dR s w n (by omega)] at h;rcases Lib.index_spec (ls s) (ls w) with ⟨_,h2⟩|⟨i,h2,_⟩
    · have:=h2 n (by unfold ls;omega);rw [h] at this;cases this
    · omega
theorem ofB_okV (t : Term) (v : ByteArray) (h : bad t = false) : ofB t v = okV t v:=by
  unfold bad at h;simp only [Bool.or_eq_false_iff,decide_eq_false_iff_not] at h;have hr : t.2.2.1 = 1 ∨ t.2.2.1 = 2 ∨ t.2.2.1 = 3 ∨ t.2.2.1 = 4 ∨ t.2.2.1 = 5:=by omega
  unfold ofB okV ok0;rcases hr with h|h|h|h|h
  · simp [h]
  · simp [h]
  · have:=dR v t.2.2.2 0 (Nat.zero_le _);simp [h,this,Lib.occAt,Lib.hasPrefix]
  · have:=iV v t.2.2.2;unfold ls at this;simp [h,this]
  · simp [h]
theorem termM_eq (t : Term) (l : List Fld) : kI t l = jN t l:=by
  unfold kI jN;cases h : bad t
  · have : (fun f : Fld=>decide (f.1 = t.2.1) && ofB t f.2) = okF t:=by
      funext f;unfold okF;rw [ofB_okV t f.2 h]
    rw [this]
  · rfl
theorem selM_eq (s : List (List Term)) (l : List Fld) : selMatches s l = refAll s l:=by
  unfold selMatches refAll
  congr 1
  funext r
  rw [List.all_eq_not_any_not]
  congr 2
  funext t
  rw [termM_eq]
theorem sumF_mem {l : List Fld} {f : Fld} (h : f ∈ l) : min f.1.size 10000 + min f.2.size 10000 ≤ sumF l:=by
  induction l with
  | nil=>cases h
  | cons g l ih =>
    unfold sumF at *;rw [List.map_cons,List.sum_cons];rcases List.mem_cons.1 h with rfl|h
    · omega
    · have:=ih h;omega
theorem much_ok {l : List Fld} (h : zI l = false) : yP l:=by
  unfold zI at h;simp only [Bool.or_eq_false_iff,decide_eq_false_iff_not] at h;refine ⟨by omega,fun f hf=>?_⟩;have:=sumF_mem hf;omega
end QQ
end Q
end Ab
end Go.Proofs.YtmaekcmknibmeaaGreatDoor
namespace Go.Proofs.YtmaekcmknibmeaaGreatDoor
open Go.RowKit
namespace Ab
set_option maxRecDepth 100000
namespace Q
def idsL (p : List Fld → Bool) (l : List Stz) : List Int:=(l.filter fun x=>p x.2).map (·.1)
abbrev rSel : Rd (List (List Term)):=.sl (.sl qY)
abbrev Crs:=List (List Term) × List Stz × Int
abbrev rCur : Rd Crs:=.st rSel (.st (.sl rStz) (.int .i64))
def crsO (s : List (List Term)) (ks : List Stz) (p : Int) : Obs:=[(0,.box 95 [.sl (.sl qY) s,.sl rStz ks,.lit (.int .i64 p)])]
theorem cloneT_c {k : Nat} (l : List Term) (hl : l.length ≤ 1000000) : qX Tryz.prog 55 [.one (.slk k qY l)] (.one (.sl qY l)):=by
  refine qW (rs:=[2]) Tryz.func55 rfl rfl rfl teOk rfl ?_;refine qB ?_;refine qI ?_;refine qI ?_;refine wC (q:=k) [_] _ (R:=qY) (xs:=l) rfl rfl rfl rfl (e:=47) rfl rfl ?_;refine ⟨rfl,fun b hb=>?_⟩;refine qJ rfl (fun h4=>?_) (fun h4=>?_)
  ·have hl0:=hb h4;subst hl0;refine qB ?_;refine xE 2 47 qY rfl ?_;refine qM ?_;rfl
  ·refine qL ?_;refine qB ?_;refine zai (by first|exact qQ (show l.length ≤ 1000000000 by omega) (by decide)|exact qQ (show 0 + l.length ≤ 1000000000 by omega) (by decide)) ?_;refine qM ?_;rfl
theorem copiedS_c {κ : Nat} (s : List (List Term)) (hl : s.length ≤ 1000000) (hf : ∀ r ∈ s,r.length ≤ 1000000) : qX Tryz.prog 31 [.one (.slk κ (.sl qY) s)] (.one (.sl (.sl qY) s)):=by
  refine qW (rs:=[2]) Tryz.func31 rfl rfl rfl teOk rfl ?_;refine qB ?_;refine qB ?_;refine qI ?_;refine qI ?_;refine xE 3 45 (.sl qY) rfl ?_;refine qH ?_;intro l2_1
  try simp only [zds] at l2_1
  refine qN ?_;refine qR (fun (i : Nat)=>i ≤ s.length) (fun (i : Nat)=>[(3,.one (.vec 0)),(6,.one (.slk κ (.sl qY) s)),(7,ii .i64 s.length),(8,ii .i64 i)]) (fun (i : Nat)=>[(0,.vec 45 (.sl qY) (s.take i))]) 1 (fun (i : Nat)=>s.length - i) 0 (Nat.zero_le _) (qP ⟨rfl,rfl,rfl,rfl⟩ rfl rfl) ?_;intro i hI0;refine qB ?_;refine qI ?_;refine qJ rfl (fun h9=>?_) (fun h9=>?_)
  ·try simp only [decide_eq_true_eq] at h9
   try simp only [zds] at h9
   have hil : i < s.length:=(by omega);refine qL ?_;refine qI ?_;refine qN ?_;refine qB ?_;refine zob ?_;refine qH ?_;refine Or.inl ?_;refine zai (rfl) ?_;refine zei _ (zai (cloneT_c (s.getD i ([] : List Term)) (hf _ (yK hil ([] : List Term)))) ?_);refine zai (by exact qQ (show (s.take i).length + 1 ≤ 1000000000 by rw [List.length_take];omega) (by decide)) ?_;refine qH ?_;refine zob ?_;exact ⟨i + 1,by omega,by first|omega|(simp <;> omega),qP ⟨rfl,rfl,rfl,(qS (by omega))⟩ (qV (yE ([] : List Term) hil)) rfl⟩
  ·try simp only [decide_eq_false_iff_not,Int.not_lt] at h9
   try simp only [zds] at h9
   refine qT ?_;refine qB ?_;refine qM ?_;rw [List.take_of_length_le (by omega)];exact rfl
theorem stanzasL_o {k : Nat} (es : List Ent) (n m : Int) (hl : es.length ≤ 1000000) (hf : ∀ e ∈ es,e.1.2.2.length ≤ 1000000) : yB Tryz.prog 57 [.one (.adk k (rLst k) (es,n,m))] [] 0 (.one (.vec 1)) [(1,.vec 54 rStz (stzL es))] 2:=by
  have hll:=live_len es;refine yA (rs:=[2]) Tryz.func57 rfl rfl rfl teOk (by decide) rfl ?_;refine qB ?_;refine qB ?_;refine qI ?_;refine qB ?_;refine Or.inl ?_;refine zai (rfl) ?_;refine zei _ (zai (all_c (es,n,m)) ?_);refine qN ?_;refine yM 0 0 54 rStz rfl rfl rfl ?_;refine iT (caps:=[.one (.ref (.adk k (rLst k) (es,n,m)))]) (xs:=itEs es) [(3,.one (.own 0 0)),(6,.one (.clo 110 (.ref (.adk k (rLst k) (es,n,m)))))] 2 (fun st j (i : Nat)=>st = false ∧ i = j) (fun i=>[(0,.box 41 [.vec 1]),(1,.vec 54 rStz (stT es i))]) (fun _=>.ret) 0 rfl rfl (all_iter es n m) (qP ⟨rfl,rfl⟩ ⟨rfl,rfl⟩ rfl) ⟨rfl,rfl⟩ (fun j hj=>by simp [itEs]) rfl rfl rfl (fun _ _ _=>rfl) rfl ?_ ?_ ?_
  ·intro j i hk hp;obtain ⟨_,rfl⟩:=hp;obtain ⟨e,he,hg,hi,hx⟩:=itEs_get es hk;rw [hx];have hsn:=stT_snoc hi;rw [hg] at hsn;have hsl:=@stT_len es i;refine qH ?_;refine qN ?_;refine yW rfl ?_;refine qO 1 rfl ?_;refine qO 3 rfl ?_;refine qO 4 rfl ?_;refine qK [0,2,5] ?_;refine zai ?_ ?_
   ·refine qK [2,5] ?_;refine zai ?_ ?_
    ·refine qK [5] ?_;refine qK [6] ?_;refine Or.inl ?_;refine zai (rfl) ?_;refine zei _ (zai (uA e.1.2.2 (hf e he)) ?_);refine qK [7] ?_;refine qK [8] ?_;refine qK [9] ?_;refine zai (by exact qQ (show (stT es i).length + 1 ≤ 1000000000 by omega) (by decide)) ?_;refine qK [10] ?_;refine qU ?_;exact ⟨i + 1,⟨rfl,rfl⟩,qP trivial ⟨rfl,qV (by rw [hsn];exact rfl)⟩ rfl⟩
    ·refine qK [2,6] ?_;refine zai ?_ ?_
     ·refine qK [6] ?_;refine Or.inl ?_;refine zai (rfl) ?_;refine zei _ (zai (uA e.1.2.2 (hf e he)) ?_);refine qK [7] ?_;refine qK [8] ?_;refine qK [9] ?_;refine zai (by exact qQ (show (stT es i).length + 1 ≤ 1000000000 by omega) (by decide)) ?_;refine qK [10] ?_;refine qU ?_;exact ⟨i + 1,⟨rfl,rfl⟩,qP trivial ⟨rfl,qV (by rw [hsn];exact rfl)⟩ rfl⟩
     ·refine Or.inl ?_;refine zai (rfl) ?_;refine zei _ (zai (uA e.1.2.2 (hf e he)) ?_);refine qK [2] ?_;refine qK [7] ?_;refine qK [8] ?_;refine qK [9] ?_;refine zai (by exact qQ (show (stT es i).length + 1 ≤ 1000000000 by omega) (by decide)) ?_;refine qK [10] ?_;refine qU ?_;exact ⟨i + 1,⟨rfl,rfl⟩,qP trivial ⟨rfl,qV (by rw [hsn];exact rfl)⟩ rfl⟩
   refine zai ?_ ?_
   ·refine qK [0,5] ?_;refine zai ?_ ?_
    ·refine qK [5] ?_;refine qK [6] ?_;refine Or.inl ?_;refine zai (rfl) ?_;refine zei _ (zai (uA e.1.2.2 (hf e he)) ?_);refine qK [7] ?_;refine qK [8] ?_;refine qK [9] ?_;refine zai (by exact qQ (show (stT es i).length + 1 ≤ 1000000000 by omega) (by decide)) ?_;refine qK [10] ?_;refine qU ?_;exact ⟨i + 1,⟨rfl,rfl⟩,qP trivial ⟨rfl,qV (by rw [hsn];exact rfl)⟩ rfl⟩
    ·refine qK [0,6] ?_;refine zai ?_ ?_
     ·refine qK [6] ?_;refine Or.inl ?_;refine zai (rfl) ?_;refine zei _ (zai (uA e.1.2.2 (hf e he)) ?_);refine qK [7] ?_;refine qK [8] ?_;refine qK [9] ?_;refine zai (by exact qQ (show (stT es i).length + 1 ≤ 1000000000 by omega) (by decide)) ?_;refine qK [10] ?_;refine qU ?_;exact ⟨i + 1,⟨rfl,rfl⟩,qP trivial ⟨rfl,qV (by rw [hsn];exact rfl)⟩ rfl⟩
     ·refine Or.inl ?_;refine zai (rfl) ?_;refine zei _ (zai (uA e.1.2.2 (hf e he)) ?_);refine qK [0,7] ?_;refine zai ?_ ?_
      ·refine qK [7] ?_;refine qK [8] ?_;refine qK [9] ?_;refine zai (by exact qQ (show (stT es i).length + 1 ≤ 1000000000 by omega) (by decide)) ?_;refine qK [10] ?_;refine qU ?_;exact ⟨i + 1,⟨rfl,rfl⟩,qP trivial ⟨rfl,qV (by rw [hsn];exact rfl)⟩ rfl⟩
      ·refine qK [0,8] ?_;refine zai ?_ ?_
       ·refine qK [8] ?_;refine qK [9] ?_;refine zai (by exact qQ (show (stT es i).length + 1 ≤ 1000000000 by omega) (by decide)) ?_;refine qK [10] ?_;refine qU ?_;exact ⟨i + 1,⟨rfl,rfl⟩,qP trivial ⟨rfl,qV (by rw [hsn];exact rfl)⟩ rfl⟩
       ·refine qK [0] ?_;refine qK [9] ?_;refine zai (by exact qQ (show (stT es i).length + 1 ≤ 1000000000 by omega) (by decide)) ?_;refine qK [10] ?_;refine qU ?_;exact ⟨i + 1,⟨rfl,rfl⟩,qP trivial ⟨rfl,qV (by rw [hsn];exact rfl)⟩ rfl⟩
   ·refine qK [0,2,6] ?_;refine zai ?_ ?_
    ·refine qK [2,6] ?_;refine zai ?_ ?_
     ·refine qK [6] ?_;refine Or.inl ?_;refine zai (rfl) ?_;refine zei _ (zai (uA e.1.2.2 (hf e he)) ?_);refine qK [7] ?_;refine qK [8] ?_;refine qK [9] ?_;refine zai (by exact qQ (show (stT es i).length + 1 ≤ 1000000000 by omega) (by decide)) ?_;refine qK [10] ?_;refine qU ?_;exact ⟨i + 1,⟨rfl,rfl⟩,qP trivial ⟨rfl,qV (by rw [hsn];exact rfl)⟩ rfl⟩
     ·refine Or.inl ?_;refine zai (rfl) ?_;refine zei _ (zai (uA e.1.2.2 (hf e he)) ?_);refine qK [2] ?_;refine qK [7] ?_;refine qK [8] ?_;refine qK [9] ?_;refine zai (by exact qQ (show (stT es i).length + 1 ≤ 1000000000 by omega) (by decide)) ?_;refine qK [10] ?_;refine qU ?_;exact ⟨i + 1,⟨rfl,rfl⟩,qP trivial ⟨rfl,qV (by rw [hsn];exact rfl)⟩ rfl⟩
    refine zai ?_ ?_
    ·refine qK [0,6] ?_;refine zai ?_ ?_
     ·refine qK [6] ?_;refine Or.inl ?_;refine zai (rfl) ?_;refine zei _ (zai (uA e.1.2.2 (hf e he)) ?_);refine qK [7] ?_;refine qK [8] ?_;refine qK [9] ?_;refine zai (by exact qQ (show (stT es i).length + 1 ≤ 1000000000 by omega) (by decide)) ?_;refine qK [10] ?_;refine qU ?_;exact ⟨i + 1,⟨rfl,rfl⟩,qP trivial ⟨rfl,qV (by rw [hsn];exact rfl)⟩ rfl⟩
     ·refine Or.inl ?_;refine zai (rfl) ?_;refine zei _ (zai (uA e.1.2.2 (hf e he)) ?_);refine qK [0,7] ?_;refine zai ?_ ?_
      ·refine qK [7] ?_;refine qK [8] ?_;refine qK [9] ?_;refine zai (by exact qQ (show (stT es i).length + 1 ≤ 1000000000 by omega) (by decide)) ?_;refine qK [10] ?_;refine qU ?_;exact ⟨i + 1,⟨rfl,rfl⟩,qP trivial ⟨rfl,qV (by rw [hsn];exact rfl)⟩ rfl⟩
      ·refine qK [0,8] ?_;refine zai ?_ ?_
       ·refine qK [8] ?_;refine qK [9] ?_;refine zai (by exact qQ (show (stT es i).length + 1 ≤ 1000000000 by omega) (by decide)) ?_;refine qK [10] ?_;refine qU ?_;exact ⟨i + 1,⟨rfl,rfl⟩,qP trivial ⟨rfl,qV (by rw [hsn];exact rfl)⟩ rfl⟩
       ·refine qK [0] ?_;refine qK [9] ?_;refine zai (by exact qQ (show (stT es i).length + 1 ≤ 1000000000 by omega) (by decide)) ?_;refine qK [10] ?_;refine qU ?_;exact ⟨i + 1,⟨rfl,rfl⟩,qP trivial ⟨rfl,qV (by rw [hsn];exact rfl)⟩ rfl⟩
    ·refine Or.inl ?_;refine zai (rfl) ?_;refine zei _ (zai (uA e.1.2.2 (hf e he)) ?_);refine qK [0,2] ?_;refine zai ?_ ?_
     ·refine qK [2] ?_;refine qK [7] ?_;refine qK [8] ?_;refine qK [9] ?_;refine zai (by exact qQ (show (stT es i).length + 1 ≤ 1000000000 by omega) (by decide)) ?_;refine qK [10] ?_;refine qU ?_;exact ⟨i + 1,⟨rfl,rfl⟩,qP trivial ⟨rfl,qV (by rw [hsn];exact rfl)⟩ rfl⟩
     ·refine qK [0,7] ?_;refine zai ?_ ?_
      ·refine qK [7] ?_;refine qK [8] ?_;refine qK [9] ?_;refine zai (by exact qQ (show (stT es i).length + 1 ≤ 1000000000 by omega) (by decide)) ?_;refine qK [10] ?_;refine qU ?_;exact ⟨i + 1,⟨rfl,rfl⟩,qP trivial ⟨rfl,qV (by rw [hsn];exact rfl)⟩ rfl⟩
      ·refine qK [0,8] ?_;refine zai ?_ ?_
       ·refine qK [8] ?_;refine qK [9] ?_;refine zai (by exact qQ (show (stT es i).length + 1 ≤ 1000000000 by omega) (by decide)) ?_;refine qK [10] ?_;refine qU ?_;exact ⟨i + 1,⟨rfl,rfl⟩,qP trivial ⟨rfl,qV (by rw [hsn];exact rfl)⟩ rfl⟩
       ·refine qK [0] ?_;refine qK [9] ?_;refine zai (by exact qQ (show (stT es i).length + 1 ≤ 1000000000 by omega) (by decide)) ?_;refine qK [10] ?_;refine qU ?_;exact ⟨i + 1,⟨rfl,rfl⟩,qP trivial ⟨rfl,qV (by rw [hsn];exact rfl)⟩ rfl⟩
  ·intro i hp;obtain ⟨_,rfl⟩:=hp;refine qB ?_;refine qM ?_;rw [show stT es (itEs es).length = stzL es from by unfold stT stzL;rw [itEs_len,List.take_length]];exact ⟨rfl,rfl,rfl⟩
  ·intro j i hp;exact absurd hp.1 (by decide)
def missS (s : List (List Term)) (x : Stz) : Bool:=!(QQ.selMatches s x.2)
theorem found1_c {κ : Nat} (s : List (List Term)) (x : Stz) (hx : yP x.2) : qX Tryz.prog 58 [.agg (toL rStz x),.one (.adk κ rSel s)] (ib (missS s x)):=by
  refine qW (rs:=[3]) Tryz.func58 rfl rfl rfl teOk rfl ?_;refine qB ?_;refine qB ?_;refine Or.inl ?_;refine zai (rfl) ?_;refine zei _ (zai (QQ.selMatches_c s x.2 hx) ?_);refine qM ?_;rfl
def fndS (s : List (List Term)) (es : List Ent) : List Stz:=jM (missS s) (stzL es)
theorem bC {es : List Ent} (h : ∀ e ∈ es,yP e.1.2.2) : ∀ x ∈ stzL es,yP x.2:=by
  intro x hx;obtain ⟨e,he,rfl⟩:=List.mem_map.1 hx;exact h e (List.mem_filter.1 he).1
theorem found_c {k : Nat} (s : List (List Term)) (es : List Ent) (n m : Int) (hl : es.length ≤ 1000000) (hf : ∀ e ∈ es,yP e.1.2.2) : qX Tryz.prog 32 [.one (.adk k (rLst k) (es,n,m)),.one (.sl (.sl qY) s)] (.one (.sl rStz (fndS s es))):=by
  have hsl:=stzL_le es;have hst:=bC hf;have hso:=stanzasL_o (k:=k) es n m hl (fun e he=>Nat.le_trans (hf e he).1 (by decide));have hdl:=(deleteS_o 58 (κ:=1) rSel s (stzL es) (missS s) (fun x hx=>found1_c s x (hst x hx)) (by omega)).x;refine qW (rs:=[4]) Tryz.func32 rfl rfl rfl teOk rfl ?_;refine qB ?_;refine qB ?_;refine Or.inr (Or.inl (zei [] (zei [] (zei _ (zei _ (zei _ (zei _ (zei _ (zai (hso) (zai rfl (zai True.intro (zai rfl ?_))))))))))));refine Or.inr (Or.inr (Or.inr (zei [2] (zei [] (zei _ (zei _ (zei _ (zei _ (zei _ (zai (hdl) (zai rfl (zai (zai (zai rfl rfl) True.intro) (zai rfl ?_)))))))))))));refine qM ?_;rfl
theorem new_o {k κ : Nat} (s : List (List Term)) (es : List Ent) (n m : Int) (hl : es.length ≤ 1000000) (hf : ∀ e ∈ es,yP e.1.2.2) (hs : s.length ≤ 1000000) (hsr : ∀ r ∈ s,r.length ≤ 1000000) : yB Tryz.prog 9 [.one (.adk k (rLst k) (es,n,m)),.one (.slk κ (.sl qY) s)] [] 0 (.one (.own 0 0)) (crsO s (fndS s es) 0) 1:=by
  refine yA (rs:=[4]) Tryz.func9 rfl rfl rfl teOk (by decide) rfl ?_;refine qB ?_;refine qB ?_;refine Or.inl ?_;refine zai (rfl) ?_;refine zei _ (zai (copiedS_c s hs hsr) ?_);refine qB ?_;refine Or.inl ?_;refine zai (rfl) ?_;refine zei _ (zai (found_c s es n m hl hf) ?_);refine qM ?_;exact ⟨rfl,rfl,rfl⟩
theorem fC {k : Nat} (s : List (List Term)) (ks : List Stz) (p : Int) : qX Tryz.prog 26 [.one (.adk k rCur (s,ks,p))] (ii .i64 ks.length):=by
  refine qW (rs:=[2]) Tryz.func26 rfl rfl rfl teOk rfl ?_;refine qB ?_;refine qI ?_;refine qB ?_;refine qJ rfl (fun h4=>?_) (fun h4=>?_)
  ·try simp only [zbq] at h4
   try simp only [zds] at h4
   simp at h4
  ·skip
   refine qL ?_;refine qB ?_;intro l3_4;refine qM ?_;rfl
theorem aO {k : Nat} (s : List (List Term)) (ks : List Stz) (p : Int) : qX Tryz.prog 25 [.one (.adk k rCur (s,ks,p))] (ii .i64 p):=by
  refine qW (rs:=[2]) Tryz.func25 rfl rfl rfl teOk rfl ?_;refine qB ?_;refine qI ?_;refine qB ?_;refine qJ rfl (fun h4=>?_) (fun h4=>?_)
  ·try simp only [zbq] at h4
   try simp only [zds] at h4
   simp at h4
  ·skip
   refine qL ?_;refine qB ?_;refine qM ?_;rfl
def xP (p len n : Int) : Int:=if 0 - p < (if len - p < n then len - p else n) then (if len - p < n then len - p else n) else 0 - p
theorem skip_o (s : List (List Term)) (ks : List Stz) (p n r : Int) (hr : xP p ks.length n = r) (hp : 0 ≤ p ∧ p ≤ ks.length) (hl : ks.length ≤ 1000000) (hn : -9223372036854775808 ≤ n ∧ n ≤ 9223372036854775807) : yB Tryz.prog 14 [.one (.own 0 0),ii .i64 n] (crsO s ks p) 1 (ii .i64 r) (crsO s ks (p + r)) 1:=by
  subst hr;refine yA (rs:=[4]) Tryz.func14 rfl rfl rfl teOk (by decide) rfl ?_;refine qB ?_;refine qI ?_;refine qB ?_;refine qJ rfl (fun h6=>?_) (fun h6=>?_)
  ·try simp only [zbq] at h6
   try simp only [zds] at h6
   simp at h6
  ·skip
   refine qL ?_;refine qI ?_;refine kF rfl (by kernel_rfl) ?_;refine zob ?_;refine zob ?_;have hb : -1000000 ≤ xP p ks.length n ∧ xP p ks.length n ≤ 1000000:=(by unfold xP;split <;> split <;> omega);refine qB ?_;refine zob ?_;refine qB ?_;refine qM ?_;exact ⟨rfl,rfl,rfl⟩
theorem curAt_c {k : Nat} (s : List (List Term)) (ks : List Stz) (p : Int) (i : Nat) (hi : i < ks.length) (hf : ∀ x ∈ ks,yP x.2) : qX Tryz.prog 34 [.one (.adk k rCur (s,ks,p)),ii .i64 i] (.agg (toL rStz (ks.getD i ((0 : Int),([] : List Fld))))):=by
  have hfi:=(hf _ (yK hi ((0 : Int),([] : List Fld)))).1;refine yT (rs:=[.cell 4 54]) Tryz.func34 rfl rfl rfl teOk rfl ?_;refine qB ?_;refine qB ?_;refine zai (by first|omega|assumption|decide|(simp only [];omega)|(simp <;> omega)) ?_;refine qB ?_;refine Or.inl ?_;refine zai (rfl) ?_;refine zei _ (zai (uA (ks.getD i ((0 : Int),([] : List Fld))).2 (by omega)) ?_);refine qB ?_;refine qM ?_;exact rfl
theorem next_yes (s : List (List Term)) (ks : List Stz) (p : Nat) (hp : p < ks.length) (hl : ks.length ≤ 1000000) (hf : ∀ x ∈ ks,yP x.2) : yB Tryz.prog 12 [.one (.own 0 0)] (crsO s ks p) 1 (.tup [(true,toL rStz (ks.getD p ((0 : Int),([] : List Fld)))),(false,[.lit (.bool true)])]) (crsO s ks ((p : Int) + 1)) 1:=by
  have hsk:=skip_o s ks p 1 1 (by unfold xP;split <;> split <;> omega) (by omega) hl (by omega);have hat:=curAt_c (k:=1) s ks ((p : Int) + 1) p hp hf;refine gM (t:=2) (ty:=54) (u:=3) Tryz.func12 rfl rfl rfl teOk rfl rfl ?_;refine qB ?_;refine qI ?_;refine qB ?_;refine Or.inr (Or.inl (zei [] (zei [0] (zei _ (zei _ (zei _ (zei _ (zei _ (zai (hsk) (zai rfl (zai (zai (zai rfl rfl) True.intro) (zai rfl ?_))))))))))));refine qJ rfl (fun h6=>?_) (fun h6=>?_)
  ·try simp only [decide_eq_true_eq] at h6
   try simp only [zds] at h6
   simp at h6
  ·try simp only [decide_eq_false_iff_not] at h6
   try simp only [zds] at h6
   refine qL ?_;refine qB ?_;refine zob ?_;refine Or.inr (Or.inr (Or.inl ?_));refine zai rfl ?_;refine zei _ (zai ((by rw [show (p : Int) + 1 - 1 = (p : Int) by omega];exact hat)) ?_);refine qM ?_;exact ⟨rfl,rfl,rfl⟩
theorem next_no (s : List (List Term)) (ks : List Stz) (hl : ks.length ≤ 1000000) : yB Tryz.prog 12 [.one (.own 0 0)] (crsO s ks (ks.length : Int)) 1 (.tup [(true,[.lit (.int .i64 0),.lit (.slice none 0 0)]),(false,[.lit (.bool false)])]) (crsO s ks ((ks.length : Int) + 0)) 1:=by
  have hsk:=skip_o s ks ks.length 1 0 (by unfold xP;split <;> split <;> omega) (by omega) hl (by omega);refine gM (t:=2) (ty:=54) (u:=3) Tryz.func12 rfl rfl rfl teOk rfl rfl ?_;refine qB ?_;refine qI ?_;refine qB ?_;refine Or.inr (Or.inl (zei [] (zei [0] (zei _ (zei _ (zei _ (zei _ (zei _ (zai (hsk) (zai rfl (zai (zai (zai rfl rfl) True.intro) (zai rfl ?_))))))))))));refine qJ rfl (fun h6=>?_) (fun h6=>?_)
  ·try simp only [decide_eq_true_eq] at h6
   try simp only [zds] at h6
   refine qB ?_;refine qM ?_;exact ⟨rfl,rfl,rfl⟩
  ·try simp only [decide_eq_false_iff_not] at h6
   try simp only [zds] at h6
   simp at h6
theorem prev_no (s : List (List Term)) (ks : List Stz) (hl : ks.length ≤ 1000000) : yB Tryz.prog 11 [.one (.own 0 0)] (crsO s ks 0) 1 (.tup [(true,[.lit (.int .i64 0),.lit (.slice none 0 0)]),(false,[.lit (.bool false)])]) (crsO s ks (0 + 0)) 1:=by
  have hsk:=skip_o s ks 0 (-1) 0 (by unfold xP;split <;> split <;> omega) (by omega) hl (by omega);refine gM (t:=2) (ty:=54) (u:=3) Tryz.func11 rfl rfl rfl teOk rfl rfl ?_;refine qB ?_;refine qI ?_;refine qB ?_;refine Or.inr (Or.inl (zei [] (zei [0] (zei _ (zei _ (zei _ (zei _ (zei _ (zai (hsk) (zai rfl (zai (zai (zai rfl rfl) True.intro) (zai rfl ?_))))))))))));refine qJ rfl (fun h6=>?_) (fun h6=>?_)
  ·try simp only [decide_eq_true_eq] at h6
   try simp only [zds] at h6
   refine qB ?_;refine qM ?_;exact ⟨rfl,rfl,rfl⟩
  ·try simp only [decide_eq_false_iff_not] at h6
   try simp only [zds] at h6
   simp at h6
def isId (id : Int) (x : Stz) : Bool:=decide (x.1 = id)
theorem index1_c {κ : Nat} (id : Int) (x : Stz) : qX Tryz.prog 64 [.agg (toL rStz x),.one (.adk κ (.int .i64) id)] (ib (isId id x)):=by
  refine qW (rs:=[3]) Tryz.func64 rfl rfl rfl teOk rfl ?_;refine qB ?_;refine qB ?_;refine qM ?_;rfl
theorem curIndex_c {k : Nat} (s : List (List Term)) (ks : List Stz) (p id : Int) : qX Tryz.prog 36 [.one (.adk k rCur (s,ks,p)),ii .i64 id] (ii .i64 (ixOf (isId id) ks)):=by
  refine qW (rs:=[4]) Tryz.func36 rfl rfl rfl teOk rfl ?_;refine qB ?_;refine qB ?_;refine Or.inl ?_;refine zai (rfl) ?_;refine zei _ (zai (indexS_c _ (κ:=0) (.int .i64) id ks (isId id) (fun x _=>index1_c id x)) ?_);refine qM ?_;rfl
theorem seek_no (s : List (List Term)) (ks : List Stz) (p id : Int) (h : ixOf (isId id) ks < 0) : yB Tryz.prog 16 [.one (.own 0 0),ii .i64 id] (crsO s ks p) 1 (ib false) (crsO s ks p) 1:=by
  refine yA (rs:=[4]) Tryz.func16 rfl rfl rfl teOk (by decide) rfl ?_;refine qB ?_;refine qI ?_;refine qB ?_;refine qJ rfl (fun h7=>?_) (fun h7=>?_)
  ·try simp only [zbq] at h7
   try simp only [zds] at h7
   simp at h7
  ·skip
   refine qL ?_;refine qB ?_;refine Or.inr (Or.inr (Or.inl ?_));refine zai rfl ?_;refine zei _ (zai (curIndex_c (k:=1) s ks p id) ?_);refine qI ?_;refine qB ?_;refine qJ rfl (fun h12=>?_) (fun h12=>?_)
   ·try simp only [decide_eq_true_eq] at h12
    try simp only [zds] at h12
    refine qB ?_;refine qM ?_;exact ⟨rfl,rfl,rfl⟩
   ·try simp only [decide_eq_false_iff_not,Int.not_lt] at h12
    try simp only [zds] at h12
    omega
theorem seek_yes (s : List (List Term)) (ks : List Stz) (p id q : Int) (h : ixOf (isId id) ks = q) (hq : 0 ≤ q) : yB Tryz.prog 16 [.one (.own 0 0),ii .i64 id] (crsO s ks p) 1 (ib true) (crsO s ks q) 1:=by
  subst h;refine yA (rs:=[4]) Tryz.func16 rfl rfl rfl teOk (by decide) rfl ?_;refine qB ?_;refine qI ?_;refine qB ?_;refine qJ rfl (fun h7=>?_) (fun h7=>?_)
  ·try simp only [zbq] at h7
   try simp only [zds] at h7
   simp at h7
  ·skip
   refine qL ?_;refine qB ?_;refine Or.inr (Or.inr (Or.inl ?_));refine zai rfl ?_;refine zei _ (zai (curIndex_c (k:=1) s ks p id) ?_);refine qI ?_;refine qB ?_;refine qJ rfl (fun h12=>?_) (fun h12=>?_)
   ·try simp only [decide_eq_true_eq] at h12
    try simp only [zds] at h12
    omega
   ·try simp only [decide_eq_false_iff_not,Int.not_lt] at h12
    try simp only [zds] at h12
    refine qL ?_;refine qB ?_;refine qB ?_;refine qM ?_;exact ⟨rfl,rfl,rfl⟩
def movP (ks : List Stz) : List Stz → Int
  | []=>ks.length
  | x :: r=>if ixOf (isId x.1) ks < 0 then movP ks r else ixOf (isId x.1) ks
theorem fY (ks : List Stz) : ∀ (l : List Stz) (i : Nat),i ≤ l.length → (∀ x ∈ l.take i,ixOf (isId x.1) ks < 0) → movP ks l = movP ks (l.drop i)
  | _,0,_,_=>rfl
  | [],i + 1,h,_=>by simp at h
  | x :: r,i + 1,h,hx=>by
    have h0:=hx x (by simp);show (if ixOf (isId x.1) ks < 0 then movP ks r else _) = movP ks (r.drop i);rw [if_pos h0];exact fY ks r i (by simpa using h) (fun y hy=>hx y (by simp [hy]))
theorem movP_hit (ks l : List Stz) (i : Nat) (hi : i < l.length) (h : ∀ x ∈ l.take i,ixOf (isId x.1) ks < 0) (hx : ¬ ixOf (isId (l.getD i ((0 : Int),([] : List Fld))).1) ks < 0) : movP ks l = ixOf (isId (l.getD i ((0 : Int),([] : List Fld))).1) ks:=by
  rw [fY ks l i (by omega) h,List.drop_eq_getElem_cons hi,vJ hi ((0 : Int),([] : List Fld))];show (if _ < 0 then _ else _) = _;rw [if_neg hx]
theorem move_o {k : Nat} (s : List (List Term)) (ks : List Stz) (p : Nat) (hp : p ≤ ks.length) (es : List Ent) (n m : Int) (hl : es.length ≤ 1000000) (hf : ∀ e ∈ es,yP e.1.2.2) (hk : ks.length ≤ 1000000) : yB Tryz.prog 22 [.one (.own 0 0),.one (.adk k (rLst k) (es,n,m))] (crsO s ks p) 1 (.tup []) (crsO s (fndS s es) (movP (fndS s es) (ks.drop p))) 1:=by
  have hfd:=found_c (k:=k) s es n m hl hf;refine yA (rs:=[]) Tryz.func22 rfl rfl rfl teOk (by decide) rfl ?_;refine qI ?_;refine qB ?_;refine qJ rfl (fun h8=>?_) (fun h8=>?_)
  ·try simp only [zbq] at h8
   try simp only [zds] at h8
   simp at h8
  ·skip
   refine qL ?_;refine qI ?_;refine kF rfl (by kernel_rfl) ?_;refine zob ?_;refine qB ?_;refine Or.inl ?_;refine zai (rfl) ?_;refine zei _ (zai (hfd) ?_);refine qB ?_;intro l3_5
   try simp only [zds] at l3_5
   refine qB ?_;intro l4_1
   try simp only [Int.toNat_natCast] at l4_1
   refine qN ?_;refine qR (fun (i : Nat)=>i ≤ (ks.drop p).length ∧ ∀ x ∈ (ks.drop p).take i,ixOf (isId x.1) (fndS s es) < 0) (fun (i : Nat)=>[(0,.one (.own 0 0)),(35,.one (.sl rStz (ks.drop p))),(36,ii .i64 (ks.drop p).length),(37,ii .i64 i)]) (fun (i : Nat)=>[(0,.box 95 [.sl (.sl qY) s,.sl rStz (fndS s es),.lit (.int .i64 (fndS s es).length)])]) 1 (fun (i : Nat)=>(ks.drop p).length - i) 0 (⟨Nat.zero_le _,by simp⟩) (qP ⟨rfl,rfl,rfl,rfl⟩ rfl rfl) ?_;intro i hI0;obtain ⟨hi,hall⟩:=hI0;refine qB ?_;refine qI ?_;refine qJ rfl (fun h38=>?_) (fun h38=>?_)
   ·try simp only [decide_eq_true_eq] at h38
    try simp only [zds] at h38
    have hil : i < (ks.drop p).length:=(by omega);have hts:=yE ((0 : Int),([] : List Fld)) hil;refine qL ?_;refine qI ?_;refine qN ?_;refine qB ?_;refine zob ?_;refine qI ?_;rcases Int.lt_or_le (ixOf (isId ((ks.drop p).getD i ((0 : Int),([] : List Fld))).1) (fndS s es)) 0 with hx|hx
    ·refine qH ?_;refine Or.inr (Or.inl (zei [] (zei [0] (zei _ (zei _ (zei _ (zei _ (zei _ (zai (seek_no s (fndS s es) (fndS s es).length ((ks.drop p).getD i ((0 : Int),([] : List Fld))).1 hx) (zai rfl (zai (zai (zai rfl rfl) True.intro) (zai rfl ?_))))))))))));refine qJ rfl (fun h44=>?_) (fun h44=>?_)
     ·try simp only [zbq] at h44
      try simp only [zds] at h44
      simp at h44
     ·skip
      refine qL ?_;refine qH ?_;refine zob ?_;exact ⟨i + 1,⟨by omega,by rw [← hts];intro x hx2;rcases List.mem_append.1 hx2 with h|h;exact hall x h;rw [List.mem_singleton.1 h];exact hx⟩,by first|omega|(simp <;> omega),qP ⟨rfl,rfl,rfl,(qS (by omega))⟩ rfl rfl⟩
    ·refine qH ?_;refine Or.inr (Or.inl (zei [] (zei [0] (zei _ (zei _ (zei _ (zei _ (zei _ (zai (seek_yes s (fndS s es) (fndS s es).length ((ks.drop p).getD i ((0 : Int),([] : List Fld))).1 _ rfl hx) (zai rfl (zai (zai (zai rfl rfl) True.intro) (zai rfl ?_))))))))))));refine qJ rfl (fun h44=>?_) (fun h44=>?_)
     ·skip
      skip
      refine qM ?_;rw [movP_hit _ _ i hil hall (by omega)];exact ⟨rfl,rfl,rfl⟩
     ·try simp only [zbq] at h44
      try simp only [zds] at h44
      simp at h44
   ·try simp only [decide_eq_false_iff_not,Int.not_lt] at h38
    try simp only [zds] at h38
    refine qT ?_;rw [fY _ _ i hi hall,show (ks.drop p).drop i = [] from List.drop_of_length_le (by omega)];exact ⟨rfl,rfl,rfl⟩
theorem numI_mem : ∀ (l : List Itm) (n : Int) (e : Ent),e ∈ numI n l → e.1 ∈ l
  | [],_,_,h=>by cases h
  | x :: r,n,e,h=>by
    unfold numI at h;split at h
    · rcases List.mem_cons.1 h with h|h
      · rw [h];exact List.mem_cons_self
      · exact List.mem_cons_of_mem _ (numI_mem r _ e h)
    · rcases List.mem_cons.1 h with h|h
      · rw [h];exact List.mem_cons_self
      · exact List.mem_cons_of_mem _ (numI_mem r _ e h)
theorem num_small {s : ByteArray} {l : List Itm} (hp : kC s = .inr l) : ∀ e ∈ numI 1 l,SmallF e.1.2.2 ∧ e.1.2.2.length ≤ 40:=fun e he=>bO hp _ (numI_mem l 1 e he)
def bigR9 (r : List Term) : Bool:=decide (8 < r.length) || r.any QQ.bigT
def big9 (t : ByteArray) (s : List (List Term)) : Bool:=decide (2000 < t.size) || (decide (8 < s.length) || s.any bigR9)
theorem big9_ok {t : ByteArray} {s : List (List Term)} (h : big9 t s = false) : t.size ≤ 2000 ∧ QQ.SelOk s:=by
  unfold big9 at h;simp only [Bool.or_eq_false_iff,decide_eq_false_iff_not] at h;refine ⟨by omega,by omega,fun r hr=>?_⟩;have h1:=List.any_eq_false.1 h.2.2 r hr;unfold bigR9 at h1;simp only [Bool.or_eq_true,decide_eq_true_eq,not_or,Bool.not_eq_true] at h1;refine ⟨by omega,fun x hx=>?_⟩;have h2:=List.any_eq_false.1 h1.2 x hx;unfold QQ.bigT at h2;simp only [Bool.or_eq_true,decide_eq_true_eq] at h2;show QQ.TermOk x;unfold QQ.TermOk;omega
def al9T : List Itm:=[(3,⟨#[65,58,32,49,10]⟩,[(⟨#[65]⟩,⟨#[49]⟩)]),(1,⟨#[10]⟩,[]),(3,⟨#[65,58,32,50,10]⟩,[(⟨#[65]⟩,⟨#[50]⟩)]),(1,⟨#[10]⟩,[]),(3,⟨#[65,58,32,51,10]⟩,[(⟨#[65]⟩,⟨#[51]⟩)])]
theorem iE : kC ⟨#[65,58,32,49,10,10,65,58,32,50,10,10,65,58,32,51,10]⟩ = .inr al9T:=by decide +kernel
def al9E : List Ent:=numI 1 al9T
def al9S : List Stz:=[(1,[(⟨#[65]⟩,⟨#[49]⟩)]),(2,[(⟨#[65]⟩,⟨#[50]⟩)]),(3,[(⟨#[65]⟩,⟨#[51]⟩)])]
def al9D : List Ent:=delE al9E 2
def al9R : List Stz:=[(1,[(⟨#[65]⟩,⟨#[49]⟩)]),(3,[(⟨#[65]⟩,⟨#[51]⟩)])]
theorem al9_flds : ∀ e ∈ al9E,yP e.1.2.2:=fun e he=>fldsOk_of (num_small iE e he).1 (num_small iE e he).2
theorem al9_sf : ∀ x ∈ al9S,yP x.2:=by
  intro x hx;have:=bC al9_flds x;rw [show stzL al9E = al9S from by decide +kernel] at this;exact this hx
theorem al9_rf : ∀ x ∈ al9R,yP x.2:=fun x hx=>al9_sf x (by
  unfold al9R at hx;unfold al9S;simp only [List.mem_cons,List.not_mem_nil,or_false] at hx ⊢;rcases hx with rfl|rfl <;> simp)
theorem alive9_c : qX Tryz.prog 4 [] (ib true):=by
  have hof:=of_ok _ (by decide) iE;rw [show ofT al9T = (al9E,4,3) from rfl] at hof;have hnw:=(new_o (k:=1) (κ:=1) [[]] al9E 4 3 (by decide) al9_flds (by decide) (by simp)).x;rw [show fndS [[]] al9E = al9S from by decide +kernel] at hnw;have hn1:=next_yes [[]] al9S 0 (by decide) (by decide) al9_sf;have hdl:=lDel_ok al9E 4 3 2 2 (by decide) (by decide +kernel) ⟨by decide,by decide⟩ (by decide);have hmv:=(move_o (k:=1) [[]] al9S 1 (by decide) al9D 4 2 (by decide) (fun e he=>al9_flds e (mem_del he)) (by decide)).x;rw [show fndS [[]] al9D = al9R from by decide +kernel,show movP al9R (al9S.drop 1) = ((1 : Nat) : Int) from by decide +kernel] at hmv;have hn2:=next_yes [[]] al9R 1 (by decide) (by decide) al9_rf;refine qW (rs:=[0]) Tryz.func4 rfl rfl rfl teOk rfl ?_;refine qB ?_;refine qB ?_;refine Or.inr (Or.inl (zei [] (zei [] (zei _ (zei _ (zei _ (zei _ (zei _ (zai (hof) (zai rfl (zai True.intro (zai rfl ?_))))))))))));refine qI ?_;refine qB ?_;refine zai (fun h=>trivial) ?_;refine zai (fun h=>⟨⟨h,trivial⟩,trivial⟩) ?_;refine zai (by first|(intro h;rw [h];rfl)|(intro h;cases h)) ?_;refine qJ rfl (fun h15=>?_) (fun h15=>?_)
  ·try simp only [Bool.not_eq_true',Bool.or_eq_true] at h15
   try simp only [zds] at h15
   simp at h15
  ·try simp only [Bool.not_eq_false',Bool.or_eq_false_iff] at h15
   try simp only [zds] at h15
   refine qL ?_;refine qB ?_;refine Or.inr (Or.inr (Or.inr (zei [] (zei [] (zei _ (zei _ (zei _ (zei _ (zei _ (zai (hnw) (zai rfl (zai True.intro (zai rfl ?_)))))))))))));refine qB ?_;refine Or.inr (Or.inl (zei [] (zei [3] (zei _ (zei _ (zei _ (zei _ (zei _ (zai (hn1) (zai rfl (zai (zai (zai rfl rfl) True.intro) (zai rfl ?_))))))))))));refine qI ?_;refine qB ?_;refine zai (fun h=>trivial) ?_;refine zai (fun h=>⟨⟨h,trivial⟩,trivial⟩) ?_;refine zai (fun h=>⟨⟨h,trivial⟩,trivial⟩) ?_;refine zai (by first|(intro h;rw [h];rfl)|(intro h;cases h)) ?_;refine zai (fun h=>trivial) ?_;refine Or.inr (zai (by first|rfl|decide|simp) (zai (by repeat' (first|exact True.intro|apply zai|rfl|decide|simp)) ?_));refine Or.inr (Or.inl (zei [] (zei [0,1] (zei _ (zei _ (zei _ (zei _ (zei _ (zai (hdl) (zai rfl (zai (zai (zai rfl rfl) (zai (zai rfl rfl) True.intro)) (zai rfl ?_))))))))))));refine zai (fun h=>trivial) ?_;refine zai (by first|(intro h;rw [h];rfl)|(intro h;cases h)) ?_;refine qJ rfl (fun h35=>?_) (fun h35=>?_)
   ·try simp only [decide_eq_false_iff_not,Bool.not_eq_true',Bool.or_eq_true] at h35
    try simp only [zds] at h35
    first|(simp at h35;done)|(exact absurd h35 (by decide))
   ·try simp only [decide_eq_true_eq,Bool.not_eq_false',Bool.or_eq_false_iff] at h35
    try simp only [zds] at h35
    refine qL ?_;refine qB ?_;refine Or.inr (Or.inr (Or.inr (zei [3] (zei [] (zei _ (zei _ (zei _ (zei _ (zei _ (zai (hmv) (zai rfl (zai (zai (zai rfl rfl) True.intro) (zai rfl ?_)))))))))))));refine qB ?_;refine Or.inr (Or.inl (zei [] (zei [3] (zei _ (zei _ (zei _ (zei _ (zei _ (zai (hn2) (zai rfl (zai (zai (zai rfl rfl) True.intro) (zai rfl ?_))))))))))));refine qB ?_;refine zai (fun h=>trivial) ?_;refine zai (fun h=>⟨⟨h,trivial⟩,trivial⟩) ?_;refine zai (fun h=>⟨⟨h,trivial⟩,trivial⟩) ?_;refine zai (by exact fun h=>h) ?_;refine zai (fun h=>trivial) ?_;refine Or.inl ?_;refine zai (rfl) ?_;refine zei _ (zai (fun h=>⟨⟨⟨h,trivial⟩,trivial⟩,aO [[]] al9R _⟩) ?_);refine zai (fun h=>⟨⟨h,trivial⟩,trivial⟩) ?_;refine zai (by exact fun h=>h) ?_;refine zai (fun h=>trivial) ?_;refine Or.inl ?_;refine zai (rfl) ?_;refine zei _ (zai (fun h=>⟨⟨⟨h,trivial⟩,trivial⟩,fC [[]] al9R _⟩) ?_);refine zai (fun h=>⟨⟨h,trivial⟩,trivial⟩) ?_;refine zai (by exact fun h=>h) ?_;refine qM ?_
    first|rfl|exact xH (by decide)
theorem crs_eq {s : List (List Term)} {ks : List Stz} {a b : Int} (h : a = b) : some (Ob.box 95 [.sl (.sl qY) s,.sl rStz ks,.lit (.int .i64 a)]) = some (Ob.box 95 [.sl (.sl qY) s,.sl rStz ks,.lit (.int .i64 b)]):=by rw [h]
abbrev Act9:=Int × Int × Edt
abbrev rAct : Rd Act9:=.st (.int .i64) (.st (.int .i64) rEdt)
def actB (a : Act9) : Bool:=heavyB [a.2.2]
def bigA (t : ByteArray) (s : List (List Term)) (sc : List Act9) : Bool:=big9 t s || (decide (40 < sc.length) || sc.any actB)
theorem largeA_c (t : ByteArray) (s : List (List Term)) (sc : List Act9) : qX Tryz.prog 5 [is t,.one (.sl (.sl qY) s),.one (.sl rAct sc)] (ib (bigA t s sc)):=by
  refine qW (rs:=[6]) Tryz.func5 rfl rfl rfl teOk rfl ?_;refine qB ?_;refine qI ?_;refine qB ?_;refine zai (fun h=>trivial) ?_;refine zai (fun h=>⟨⟨h,trivial⟩,trivial⟩) ?_;refine zai (fun h=>⟨⟨h,trivial⟩,trivial⟩) ?_;refine zai (by first|(intro h;rw [h];rfl)|(intro h;cases h)) ?_;refine zai (fun h=>trivial) ?_;refine zai (fun h=>⟨⟨h,trivial⟩,trivial⟩) ?_;refine zai (fun h=>⟨⟨h,trivial⟩,trivial⟩) ?_;refine zai (by first|(intro h;rw [h];rfl)|(intro h;cases h)) ?_;refine qJ rfl (fun h25=>?_) (fun h25=>?_)
  ·try simp only [decide_eq_true_eq,Bool.or_eq_true] at h25
   try simp only [zds] at h25
   refine qB ?_;refine qM ?_;refine xH ?_;unfold bigA big9;rcases h25 with (h|h)|h
   ·rw [decide_eq_true (show 2000 < t.size by omega)];rfl
   ·rw [decide_eq_true (show 8 < s.length by omega)];simp
   ·rw [decide_eq_true (show 40 < sc.length by omega)];simp
  ·try simp only [decide_eq_false_iff_not,Bool.or_eq_false_iff,Int.not_lt] at h25
   try simp only [zds] at h25
   have ht2 : ¬ 2000 < t.size:=(by omega);have hs8 : ¬ 8 < s.length:=(by omega);have h40 : ¬ 40 < sc.length:=(by omega);refine qL ?_;refine qI ?_;refine qB ?_;intro l3_1
   try simp only [zds] at l3_1
   refine qN ?_;refine qR (fun (i : Nat)=>i ≤ s.length ∧ (s.take i).any bigR9 = false) (fun (i : Nat)=>[(2,.one (.sl rAct sc)),(26,.one (.sl (.sl qY) s)),(27,ii .i64 s.length),(28,ii .i64 i)]) (fun (i : Nat)=>[]) 0 (fun (i : Nat)=>s.length - i) 0 (⟨Nat.zero_le _,rfl⟩) (qP ⟨rfl,rfl,rfl,rfl⟩ trivial rfl) ?_;intro i hI0;obtain ⟨hi,hn⟩:=hI0;refine qB ?_;refine qI ?_;refine qJ rfl (fun h29=>?_) (fun h29=>?_)
   ·try simp only [decide_eq_true_eq] at h29
    try simp only [zds] at h29
    refine qL ?_;refine qI ?_;refine qN ?_;refine qB ?_;refine zob ?_;refine qI ?_;refine qB ?_;intro l6_1
    try simp only [Int.toNat_natCast,qG] at l6_1
    refine qJ rfl (fun h34=>?_) (fun h34=>?_)
    ·try simp only [decide_eq_true_eq] at h34
     try simp only [Int.toNat_natCast,qG] at h34
     refine qB ?_;refine qM ?_;refine xH ?_;unfold bigA big9;rw [any_at (p:=bigR9) [] (show i < s.length by omega) (by unfold bigR9;rw [decide_eq_true (by omega)];rfl),Bool.or_true,Bool.or_true,Bool.true_or]
    ·try simp only [decide_eq_false_iff_not,Int.not_lt] at h34
     try simp only [Int.toNat_natCast,qG] at h34
     refine qL ?_;refine qB ?_;intro l8_1
     try simp only [Int.toNat_natCast,qG] at l8_1
     refine qN ?_;refine qR (fun (j : Nat)=>j ≤ (s.getD i []).length ∧ ((s.getD i []).take j).any QQ.bigT = false) (fun (j : Nat)=>[(2,.one (.sl rAct sc)),(26,.one (.sl (.sl qY) s)),(27,ii .i64 s.length),(28,ii .i64 i),(35,.one (.sl qY (s.getD i []))),(36,ii .i64 (s.getD i []).length),(37,ii .i64 j)]) (fun (j : Nat)=>[]) 0 (fun (j : Nat)=>(s.getD i []).length - j) 0 (⟨Nat.zero_le _,rfl⟩) (qP ⟨rfl,rfl,rfl,rfl,rfl,rfl,rfl⟩ trivial rfl) ?_;intro j hI2;obtain ⟨hj,hm⟩:=hI2;refine qB ?_;refine qI ?_;refine qJ rfl (fun h38=>?_) (fun h38=>?_)
     ·try simp only [decide_eq_true_eq] at h38
      try simp only [zds] at h38
      refine qL ?_;refine qI ?_;refine qN ?_;refine qB ?_;refine zob ?_;refine qB ?_;refine zai (fun h=>trivial) ?_;refine zai (fun h=>⟨⟨h,trivial⟩,trivial⟩) ?_;refine zai (fun h=>⟨⟨h,trivial⟩,trivial⟩) ?_;refine zai (fun h=>⟨⟨h,trivial⟩,trivial⟩) ?_;refine zai (by first|(intro h;rw [h];rfl)|(intro h;cases h)) ?_;refine qJ rfl (fun h50=>?_) (fun h50=>?_)
      ·try simp only [decide_eq_true_eq,Bool.or_eq_true] at h50
       try simp only [Int.toNat_natCast,qF,qE,qD,qC] at h50
       refine qB ?_;refine qM ?_;refine xH ?_;unfold bigA big9;rw [any_at (p:=bigR9) [] (show i < s.length by omega) (by unfold bigR9;rw [any_at (p:=QQ.bigT) (false,ByteArray.empty,(0 : Int),ByteArray.empty) (show j < (s.getD i []).length by omega) (by unfold QQ.bigT;rcases h50 with h|h;(rw [decide_eq_true (by omega)];rfl);(rw [decide_eq_true (show 500 < _ by omega),Bool.or_true])),Bool.or_true]),Bool.or_true,Bool.or_true,Bool.true_or]
      ·try simp only [decide_eq_false_iff_not,Bool.or_eq_false_iff,Int.not_lt] at h50
       try simp only [Int.toNat_natCast,qF,qE,qD,qC] at h50
       have h50' : QQ.bigT ((s.getD i []).getD j (false,ByteArray.empty,(0 : Int),ByteArray.empty)) = false:=by (unfold QQ.bigT;rw [decide_eq_false (by omega),decide_eq_false (by omega)];rfl)
       refine qL ?_;refine qH ?_;refine zob ?_;exact ⟨j + 1,⟨by omega,by rw [kY _ _ (false,ByteArray.empty,(0 : Int),ByteArray.empty) j (by omega),hm,h50'];rfl⟩,by first|omega|(simp <;> omega),qP ⟨rfl,rfl,rfl,rfl,rfl,rfl,(qS (by omega))⟩ trivial rfl⟩
     ·try simp only [decide_eq_false_iff_not,Int.not_lt] at h38
      try simp only [zds] at h38
      refine qT ?_;have e2 : j = (s.getD i []).length:=by omega
      subst e2;rw [List.take_length] at hm;refine qH ?_;refine zob ?_;exact ⟨i + 1,⟨by omega,by rw [kY _ _ [] i (by omega),hn,show bigR9 (s.getD i []) = false by (unfold bigR9;rw [hm,decide_eq_false (by omega)];rfl)];rfl⟩,by first|omega|(simp <;> omega),qP ⟨rfl,rfl,rfl,(qS (by omega))⟩ trivial rfl⟩
   ·try simp only [decide_eq_false_iff_not,Int.not_lt] at h29
    try simp only [zds] at h29
    refine qT ?_;refine qI ?_;refine qB ?_;intro l15_1
    try simp only [zds] at l15_1
    refine qN ?_;refine qR (fun (q : Nat)=>q ≤ sc.length ∧ (sc.take q).any actB = false) (fun (q : Nat)=>[(53,.one (.sl rAct sc)),(54,ii .i64 sc.length),(55,ii .i64 q)]) (fun (q : Nat)=>[]) 0 (fun (q : Nat)=>sc.length - q) 0 (⟨Nat.zero_le _,rfl⟩) (qP ⟨rfl,rfl,rfl⟩ trivial rfl) ?_;intro q hI4;obtain ⟨hq,hk⟩:=hI4;refine qB ?_;refine qI ?_;refine qJ rfl (fun h56=>?_) (fun h56=>?_)
    ·try simp only [decide_eq_true_eq] at h56
     try simp only [zds] at h56
     refine qL ?_;refine qI ?_;refine qN ?_;refine qB ?_;refine zob ?_;refine qB ?_;refine Or.inl ?_;refine zai (rfl) ?_;refine zei _ (zai (heavy_c [(sc.getD q ((0 : Int),(0 : Int),((0 : Int),(0 : Int),([] : List Fld)))).2.2]) ?_);refine qJ rfl (fun h62=>?_) (fun h62=>?_)
     ·try simp only [zbq] at h62
      try simp only [zds] at h62
      refine qB ?_;refine qM ?_;refine xH ?_;unfold bigA;rw [any_at (p:=actB) ((0 : Int),(0 : Int),((0 : Int),(0 : Int),([] : List Fld))) (show q < sc.length by omega) h62,Bool.or_true,Bool.or_true]
     ·try simp only [zbq] at h62
      try simp only [zds] at h62
      refine qL ?_;refine qH ?_;refine zob ?_;exact ⟨q + 1,⟨by omega,by rw [kY _ _ ((0 : Int),(0 : Int),((0 : Int),(0 : Int),([] : List Fld))) q (by omega),hk,show actB (sc.getD q ((0 : Int),(0 : Int),((0 : Int),(0 : Int),([] : List Fld)))) = false from h62];rfl⟩,by first|omega|(simp <;> omega),qP ⟨rfl,rfl,(qS (by omega))⟩ trivial rfl⟩
    ·try simp only [decide_eq_false_iff_not,Int.not_lt] at h56
     try simp only [zds] at h56
     refine qT ?_;refine qB ?_;refine qM ?_;refine xH ?_;have e : i = s.length:=by omega
     subst e;rw [List.take_length] at hn;have e3 : q = sc.length:=by omega
     subst e3;rw [List.take_length] at hk;unfold bigA big9;rw [hn,hk,decide_eq_false ht2,decide_eq_false hs8,decide_eq_false h40];rfl
theorem bigA_ok {t : ByteArray} {s : List (List Term)} {sc : List Act9} (h : bigA t s sc = false) : t.size ≤ 2000 ∧ QQ.SelOk s ∧ sc.length ≤ 40 ∧ ∀ a ∈ sc,zI a.2.2.2.2 = false:=by
  unfold bigA at h;simp only [Bool.or_eq_false_iff,decide_eq_false_iff_not] at h;obtain ⟨h1,h2⟩:=big9_ok h.1;refine ⟨h1,h2,by omega,fun a ha=>?_⟩;have h3:=List.any_eq_false.1 h.2.2 a ha;unfold actB heavyB at h3
  simpa using h3
abbrev CSt:=Lst × List Stz × Nat
def restN (q : CSt) (n : Int) : Nat:=if 1 ≤ n ∧ n ≤ (q.2.1.length : Int) - q.2.2 then n.toNat else q.2.1.length - q.2.2
def cstA (s : List (List Term)) (q : CSt) (a : Act9) : CSt :=
  if a.1 = 1 then (q.1,q.2.1,if q.2.2 < q.2.1.length then q.2.2 + 1 else q.2.2)
  else if a.1 = 2 then (q.1,q.2.1,q.2.2 - 1)
  else if a.1 = 3 then (q.1,q.2.1,((q.2.2 : Int) + xP q.2.2 q.2.1.length a.2.1).toNat)
  else if a.1 = 4 then (q.1,q.2.1,if ixOf (isId a.2.1) q.2.1 < 0 then q.2.2 else (ixOf (isId a.2.1) q.2.1).toNat)
  else if a.1 = 5 then (q.1,q.2.1,q.2.2 + restN q a.2.1)
  else if a.1 = 6 then (doL q.1 a.2.2,fndS s (doL q.1 a.2.2).1,(movP (fndS s (doL q.1 a.2.2).1) (q.2.1.drop q.2.2)).toNat)
  else q
def cstR (s : List (List Term)) (q : CSt) (sc : List Act9) (i : Nat) : CSt:=(sc.take i).foldl (cstA s) q
theorem zR (s : List (List Term)) (q : CSt) {sc : List Act9} {i : Nat} (h : i < sc.length) : cstR s q sc (i + 1) = cstA s (cstR s q sc i) (sc.getD i ((0 : Int),(0 : Int),((0 : Int),(0 : Int),([] : List Fld)))):=by
  unfold cstR;rw [List.take_add_one,List.foldl_append,List.getD_eq_getElem?_getD,List.getElem?_eq_getElem h];rfl
theorem ix_lt (p : Stz → Bool) (l : List Stz) : ixOf p l < (l.length : Int):=by
  rcases aJ p l ((0 : Int),([] : List Fld)) with ⟨h1,_⟩|⟨i,h1,h2,_⟩ <;> omega
theorem movP_rng (ks : List Stz) : ∀ l : List Stz,0 ≤ movP ks l ∧ movP ks l ≤ (ks.length : Int)
  | []=>⟨by show (0 : Int) ≤ ks.length;omega,Int.le_refl _⟩
  | x :: r=>by
    unfold movP;have h1:=ix_lt (isId x.1) ks;split
    · exact movP_rng ks r
    · omega
theorem skip_rng (p len n : Int) (h : 0 ≤ p ∧ p ≤ len) : 0 ≤ p + xP p len n ∧ p + xP p len n ≤ len:=by
  unfold xP;split <;> split <;> omega
structure CInv (c : Nat) (q : CSt) : Prop where
  lok : LOk c q.1
  plc : q.2.2 ≤ q.2.1.length
  len : q.2.1.length ≤ c
  flds : ∀ x ∈ q.2.1,yP x.2
theorem fnd_len (s : List (List Term)) (es : List Ent) : (fndS s es).length ≤ es.length:=by
  unfold fndS jM stzL;refine Nat.le_trans (List.length_filter_le _ _) ?_;rw [List.length_map];exact List.length_filter_le _ _
theorem CInv.start {c : Nat} {L : Lst} (h : LOk c L) (s : List (List Term)) : CInv c (L,fndS s L.1,0) :=
  ⟨h,Nat.zero_le _,Nat.le_trans (fnd_len s L.1) h.len,fun x hx=>bC h.flds x (List.mem_filter.1 hx).1⟩
theorem CInv.step {c : Nat} {q : CSt} (h : CInv c q) (s : List (List Term)) {a : Act9} (hf : yP a.2.2.2.2) : CInv (c + 1) (cstA s q a):=by
  have h0 : ∀ p',p' ≤ q.2.1.length → CInv (c + 1) (q.1,q.2.1,p'):=fun p' hp=>⟨⟨h.lok.flds,h.lok.ids,h.lok.nd,h.lok.many,⟨h.lok.next.1,Int.le_trans h.lok.next.2 (by omega)⟩,Nat.le_succ_of_le h.lok.len⟩,hp,Nat.le_succ_of_le h.len,h.flds⟩
  have hp:=h.plc;unfold cstA;split
  · exact h0 _ (by split <;> omega)
  · split
    · exact h0 _ (by omega)
    · split
      · have:=skip_rng q.2.2 q.2.1.length a.2.1 ⟨by omega,by omega⟩;exact h0 _ (by omega)
      · split
        · have:=ix_lt (isId a.2.1) q.2.1;exact h0 _ (by split <;> omega)
        · split
          · refine h0 _ ?_;unfold restN;split <;> omega
          · split
            · have hL:=doL_ok h.lok hf;have hm:=movP_rng (fndS s (doL q.1 a.2.2).1) (q.2.1.drop q.2.2);refine ⟨hL,?_,?_,fun x hx=>bC hL.flds x (List.mem_filter.1 hx).1⟩
              · show (movP (fndS s (doL q.1 a.2.2).1) (q.2.1.drop q.2.2)).toNat ≤ (fndS s (doL q.1 a.2.2).1).length;omega
              · show (fndS s (doL q.1 a.2.2).1).length ≤ c + 1;exact Nat.le_trans (fnd_len s _) hL.len
            · exact h0 _ hp
theorem CInv.run {c : Nat} {q : CSt} (h : CInv c q) (s : List (List Term)) {sc : List Act9} (hf : ∀ a ∈ sc,yP a.2.2.2.2) : ∀ i,i ≤ sc.length → CInv (c + i) (cstR s q sc i)
  | 0,_=>h
  | i + 1,hi=>by
    rw [zR s q (by omega)];refine (h.run s hf i (by omega)).step s (hf _ ?_);exact yK (by omega) ((0 : Int),(0 : Int),((0 : Int),(0 : Int),([] : List Fld)))
def evL : List Stz → List (List A)
  | []=>[]
  | x :: r=>[.one (.fx 0 (.bool true))] :: [.agg (toL rStz x)] :: evL r
theorem aM : ∀ l : List Stz,(evL l).length = 2 * l.length
  | []=>rfl
  | x :: r=>by simp only [evL,List.length_cons,aM r];omega
theorem evL_odd : ∀ (l : List Stz) (i : Nat) (h : i < l.length),∃ hk : 2 * i + 1 < (evL l).length,(evL l)[2 * i + 1] = [A.agg (toL rStz (l.getD i ((0 : Int),([] : List Fld))))]
  | x :: r,0,_=>⟨by simp only [evL,List.length_cons];omega,rfl⟩
  | x :: r,i + 1,h=>by
    obtain ⟨hk,e⟩:=evL_odd r i (by simpa using h);refine ⟨by simp only [evL,List.length_cons];omega,?_⟩;have e2 : 2 * (i + 1) + 1 = (2 * i + 1) + 1 + 1:=by omega
    simp only [evL,e2,List.getElem_cons_succ,e,List.getD_cons_succ]
theorem evL_even : ∀ (l : List Stz) (i : Nat) (h : i < (evL l).length),i % 2 = 0 → (evL l)[i] = [.one (.fx 0 (.bool true))]
  | x :: r,0,_,_=>rfl
  | x :: r,1,_,h=>by omega
  | x :: r,i + 2,h,he=>by
    have h2 : i < (evL r).length:=by simp only [evL,List.length_cons] at h;omega
    simp only [evL,List.getElem_cons_succ];exact evL_even r i h2 (by omega)
theorem evL_one (l : List Stz) (i : Nat) (h : i < (evL l).length) : ((evL l)[i]).length = 1:=by
  rcases Nat.mod_two_eq_zero_or_one i with h0|h1
  · rw [evL_even l i h h0];rfl
  · obtain ⟨j,rfl⟩ : ∃ j,i = 2 * j + 1:=⟨i / 2,by omega⟩;rw [aM] at h;obtain ⟨_,e⟩:=evL_odd l j (by omega);rw [e];rfl
theorem skipFn : FnOk Tryz.prog 14:=⟨_,Tryz.func14,rfl,rfl⟩
theorem rest_iterS (ks : List Stz) (hf : ∀ x ∈ ks,x.2.length ≤ 1000000) (pv : Value) : AIterS Tryz.prog 66 14 [pv,.int .i64 1] [.one (.addr (.sl rStz) ks),.one (.ref (.lit pv))] (evL ks):=by
  refine aiterS_of Tryz.func66 rfl rfl rfl teOk rfl ?_;intro l ι Pr J U n0 hU hab hy hsk;refine yL ?_;refine xC hab hU rfl ?_;refine qH ?_;intro hln;have hln : ks.length ≤ 9223372036854775807:=hln;refine ⟨_,_,_,le_refl,?_⟩;refine kV ?_;refine gZ (κ:=Nat) (fun i=>i ≤ ks.length) (fun i=>2 * i) (fun i=>[(0,.one (.lit (.func (.yield l) #[] #[]))),(2,.one (.ref (.lit pv))),(6,.one (.sl rStz ks)),(7,ii .i64 ks.length),(8,ii .i64 i)]) (fun _=>[]) 0 (fun i=>ks.length - i) 0 (Nat.zero_le _) hab hU (qP ⟨rfl,rfl,rfl,rfl,rfl⟩ trivial rfl) rfl ?_;intro i hi;have hi : i ≤ ks.length:=hi;refine bX hab hU ?_;refine yL ?_;refine xC hab hU rfl ?_;refine qH ?_;refine ⟨_,_,_,le_refl,?_⟩;refine yL ?_;refine kK rfl (fun h9=>?_) (fun h9=>?_)
  · simp only [decide_eq_true_eq] at h9;have hlt : i < ks.length:=by omega
    obtain ⟨hk,hx⟩:=evL_odd ks i hlt;have hfl:=hf _ (yK hlt ((0 : Int),([] : List Fld)));refine kJ ?_;refine yL ?_;refine kV ?_;refine yL ?_;refine xC hab hU rfl ?_;refine qH ?_;refine zai (by omega) ?_;refine ⟨_,_,_,le_refl,?_⟩;refine yL ?_;refine xC hab hU rfl ?_;refine qH ?_;refine Or.inl ?_;refine zai rfl ?_;refine zei _ (zai (uA (ks.getD i ((0 : Int),([] : List Fld))).2 hfl) ?_);refine ⟨_,_,_,le_refl,?_⟩;refine yL ?_;refine fL (pre:=[_]) (post:=[]) _ rfl rfl rfl hab hU hsk (by omega) (by omega) skipFn ?_;refine ⟨_,_,_,le_refl,rfl,rfl,?_⟩;refine ⟨_,_,_,le_refl,?_⟩;refine yL ?_;refine aV (pre:=[_,_]) (post:=[_]) _ rfl rfl rfl hab hU hy hk ?_;refine ⟨_,_,_,le_refl,rfl,hx.symm,by rw [hx];rfl,fun st=>?_⟩;refine ⟨_,_,_,le_refl,?_⟩;refine kK rfl (fun h21=>?_) (fun h21=>?_)
    · have h21 : (!!st) = true:=h21;rw [Bool.not_not] at h21;subst h21;refine aW ?_;exact ⟨_,.inl rfl,.inl rfl,fun e=>by cases e⟩
    · have h21 : (!!st) = false:=h21;rw [Bool.not_not] at h21;subst h21;refine kJ ?_;refine xC hab hU rfl ?_;refine qH ?_;refine zai (by omega) ?_;refine ⟨_,_,_,qP (tm':=[(0,.one (.lit (.func (.yield l) #[] #[]))),(2,.one (.ref (.lit pv))),(6,.one (.sl rStz ks)),(7,ii .i64 ks.length),(8,ii .i64 (i + 1 : Nat))]) (ob':=[]) (nx':=1) ⟨rfl,rfl,rfl,rfl,qS (by omega)⟩ trivial rfl,0,.inr rfl,⟨i + 1,hlt,by omega,rfl,by omega,rfl,rfl,rfl⟩⟩
  · simp only [decide_eq_false_iff_not] at h9;refine zA ?_;refine ⟨_,.inl rfl,.inr rfl,fun _=>?_⟩;rw [aM];omega
theorem zS {k : Nat} (l : List Stz) (hl : l.length ≤ 1000000) : qX Tryz.prog 65 [.one (.slk k rStz l)] (.one (.sl rStz l)):=by
  refine qW (rs:=[2]) Tryz.func65 rfl rfl rfl teOk rfl ?_;refine qB ?_;refine qI ?_;refine qI ?_;refine wC (q:=k) [_] _ (R:=rStz) (xs:=l) rfl rfl rfl rfl (e:=54) rfl rfl ?_;refine ⟨rfl,fun b hb=>?_⟩;refine qJ rfl (fun h4=>?_) (fun h4=>?_)
  ·have hl0:=hb h4;subst hl0;refine qB ?_;refine xE 2 54 rStz rfl ?_;refine qM ?_;rfl
  ·refine qL ?_;refine qB ?_;refine zai (by first|exact qQ (show l.length ≤ 1000000000 by omega) (by decide)|exact qQ (show 0 + l.length ≤ 1000000000 by omega) (by decide)) ?_;refine qM ?_;rfl
theorem restS_o (s : List (List Term)) (ks : List Stz) (p : Nat) (hp : p ≤ ks.length) (hl : ks.length ≤ 1000000) : yB Tryz.prog 37 [.one (.own 0 0)] (crsO s ks p) 1 (.one (.clo2 66 (.addr (.sl rStz) (ks.drop p)) (.ref (.own 0 0)))) (crsO s ks p) 1:=by
  refine yA (rs:=[2]) Tryz.func37 rfl rfl rfl teOk (by decide) rfl ?_;refine qB ?_;refine qB ?_;refine qI ?_;refine qB ?_;refine qJ rfl (fun h5=>?_) (fun h5=>?_)
  ·skip
   refine yW rfl ?_;refine qK [0,4] ?_;refine zai ?_ ?_
   ·refine qO 1 rfl ?_;refine qO 2 rfl ?_;refine qK [3,4] ?_;refine zai ?_ ?_
    ·refine qK [4] ?_;refine qO 5 rfl ?_;refine qO 6 rfl ?_;refine qK [7] ?_;refine qO 8 rfl ?_;refine zob ?_;refine qK [9] ?_;refine Or.inl ?_;refine zai (rfl) ?_;refine zei _ (zai (zS _ (by simp;omega)) ?_);refine qK [10] ?_;refine qU ?_;refine qB ?_;refine yD [1,2] ?_;refine qM ?_;exact ⟨rfl,rfl,rfl⟩
    ·refine qO 5 rfl ?_;refine qO 6 rfl ?_;refine qK [3,7] ?_;refine zai ?_ ?_
     ·refine qK [7] ?_;refine qO 8 rfl ?_;refine zob ?_;refine qK [9] ?_;refine Or.inl ?_;refine zai (rfl) ?_;refine zei _ (zai (zS _ (by simp;omega)) ?_);refine qK [10] ?_;refine qU ?_;refine qB ?_;refine yD [1,2] ?_;refine qM ?_;exact ⟨rfl,rfl,rfl⟩
     ·refine qK [3] ?_;refine qO 8 rfl ?_;refine zob ?_;refine qK [9] ?_;refine Or.inl ?_;refine zai (rfl) ?_;refine zei _ (zai (zS _ (by simp;omega)) ?_);refine qK [10] ?_;refine qU ?_;refine qB ?_;refine yD [1,2] ?_;refine qM ?_;exact ⟨rfl,rfl,rfl⟩
   ·refine qO 5 rfl ?_;refine qO 6 rfl ?_;refine qK [0,7] ?_;refine zai ?_ ?_
    ·refine qO 1 rfl ?_;refine qO 2 rfl ?_;refine qK [3,7] ?_;refine zai ?_ ?_
     ·refine qK [7] ?_;refine qO 8 rfl ?_;refine zob ?_;refine qK [9] ?_;refine Or.inl ?_;refine zai (rfl) ?_;refine zei _ (zai (zS _ (by simp;omega)) ?_);refine qK [10] ?_;refine qU ?_;refine qB ?_;refine yD [1,2] ?_;refine qM ?_;exact ⟨rfl,rfl,rfl⟩
     ·refine qK [3] ?_;refine qO 8 rfl ?_;refine zob ?_;refine qK [9] ?_;refine Or.inl ?_;refine zai (rfl) ?_;refine zei _ (zai (zS _ (by simp;omega)) ?_);refine qK [10] ?_;refine qU ?_;refine qB ?_;refine yD [1,2] ?_;refine qM ?_;exact ⟨rfl,rfl,rfl⟩
    ·refine qK [0] ?_;refine qO 1 rfl ?_;refine qO 2 rfl ?_;refine qK [3] ?_;refine qO 8 rfl ?_;refine zob ?_;refine qK [9] ?_;refine Or.inl ?_;refine zai (rfl) ?_;refine zei _ (zai (zS _ (by simp;omega)) ?_);refine qK [10] ?_;refine qU ?_;refine qB ?_;refine yD [1,2] ?_;refine qM ?_;exact ⟨rfl,rfl,rfl⟩
  ·try simp only [zbq] at h5
   try simp only [zds] at h5
   simp at h5
abbrev restC (l : List Stz) : List A:=[.one (.addr (.sl rStz) l),.one (.ref (.own 0 0))]
theorem rest_caps (l : List Stz) (ok : Oks) (ρ : Nat → Option Value) (w : World) (pv : Value) (vs : List Value) (h0 : ρ 0 = some pv) (h : yX ok ρ w (restC l) vs) : yX ok yI w [.one (.addr (.sl rStz) l),.one (.ref (.lit pv))] vs:=by
  obtain ⟨v,t,rfl,hv,v2,t2,rfl,⟨b,off,u,e1,e2,e3,e4,b2,e5,e6⟩,ht⟩:=h;refine ⟨v,_,rfl,hv,v2,_,rfl,⟨b,off,u,e1,e2,e3,e4,?_⟩,ht⟩;rw [e5] at h0;exact e6.trans (Option.some.inj h0)
theorem rest_sa (m : Nat) (ok : Oks) (ρ : Nat → Option Value) (w : World) (b : Nat) (h : ρ 0 = some (.pointer (some ⟨b,0,none⟩))) : yX ok ρ w (renAs (sigO m [0]) [.one (.own 0 0),ii .i64 1]) [.pointer (some ⟨b,0,none⟩),.int .i64 1] :=
  ⟨_,_,rfl,⟨b,h,rfl⟩,_,_,rfl,rfl,rfl⟩
theorem evL_no (l : List Stz) (k : Nat) (hk : k < (evL l).length) (h : k % 2 = 0) (ok : Oks) (w : World) (vs : List Value) : ¬ yX ok yI w ((evL l)[k]) vs:=by
  rw [evL_even l k hk h]
  rintro ⟨v,t,_,h2,_⟩
  cases h2
theorem skip_1 (len p : Int) (h : p < len) (hp : 0 ≤ p) : xP p len 1 = 1:=by unfold xP;split <;> split <;> omega
def restI (s : List (List Term)) (ks : List Stz) (p : Nat) (most : Int) (i : Nat) : Obs:=[(0,.box 95 [.sl (.sl qY) s,.sl rStz ks,.lit (.int .i64 ((p + (i + 1) / 2 : Nat) : Int))]),(1,.box 3 [.lit (.int .i64 most)]),(3,.box 41 [.vec 2]),(2,.vec 54 rStz ((ks.drop p).take (i / 2)))]
abbrev restT (ks : List Stz) (p : Nat) : Tm:=[(3,.one (.own 1 0)),(5,.one (.own 3 0)),(9,.one (.clo2 66 (.addr (.sl rStz) (ks.drop p)) (.ref (.own 0 0))))]
theorem rest_skip (s : List (List Term)) (ks : List Stz) (p : Nat) (hp : p ≤ ks.length) (hl : ks.length ≤ 1000000) (most : Int) (k : Nat) (hk : k < (evL (ks.drop p)).length) (h2 : k % 2 = 0) :
    ∃ obc obc' r m',yB Tryz.prog 14 [.one (.own 0 0),ii .i64 1] obc (lenN [0]) r obc' m' ∧ gT (restI s ks p most k) (sigO 4 [0]) 0 [0] obc ∧ ndN [0] = true ∧
      Le 4 (gW (uK [0] obc) (restT ks p)) (appO (jA (sigO 4 [0]) obc') (vD [0] (uK [0] obc) (restI s ks p most k))) (4 + (m' - lenN [0])) [] (restI s ks p most (k + 1)) 4:=by
  rw [aM,List.length_drop] at hk;have hc:=skip_o s ks ((p + (k + 1) / 2 : Nat) : Int) 1 1 (skip_1 _ _ (by omega) (by omega)) (by omega) hl (by decide);refine ⟨_,_,_,_,hc,⟨⟨rfl,rfl⟩,trivial⟩,rfl,qP trivial ⟨crs_eq (by omega),rfl,rfl,qV ?_⟩ rfl⟩;rw [show (k + 1) / 2 = k / 2 by omega]
theorem eK (s : List (List Term)) (ks : List Stz) (p : Nat) (hp : p ≤ ks.length) (hl : ks.length ≤ 1000000) (hf : ∀ x ∈ ks,x.2.length ≤ 1000000) (most : Int) (hm : ¬ (1 ≤ most ∧ most ≤ (ks.length : Int) - p)) :
    yB Tryz.prog 17 [.one (.own 0 0),ii .i64 most] (crsO s ks p) 1 (.one (.sl rStz (ks.drop p))) (crsO s ks (ks.length : Int)) 1:=by
  have hro:=restS_o s ks p hp hl;have hdl : (ks.drop p).length = ks.length - p:=List.length_drop;refine yA (rs:=[4]) Tryz.func17 rfl rfl rfl teOk (by decide) rfl ?_;refine qB ?_;refine qB ?_;refine qI ?_;refine qB ?_;refine Or.inr (Or.inl (zei [] (zei [0] (zei _ (zei _ (zei _ (zei _ (zei _ (zai (hro) (zai rfl (zai (zai (zai rfl rfl) True.intro) (zai rfl ?_))))))))))));refine qN ?_;refine aU (caps:=restC (ks.drop p)) (xs:=evL (ks.drop p)) (restT ks p) 4 (fun st j (i : Nat)=>st = false ∧ i = j) (fun i=>restI s ks p most i) (fun _=>.ret) 0 rfl 14 0 [0] [.one (.own 0 0),ii .i64 1] (fun pv=>[pv,.int .i64 1]) (fun pv=>[.one (.addr (.sl rStz) (ks.drop p)),.one (.ref (.lit pv))]) (fun pv=>rest_iterS _ (fun x hx=>hf x (List.mem_of_mem_drop hx)) pv) (rest_caps _) (rest_sa 4) rfl (fun k i hk h2 hi=>by obtain ⟨_,rfl⟩:=hi;obtain ⟨obc,obc',r,m',h⟩:=rest_skip s ks p hp hl most i hk h2;exact ⟨i + 1,obc,obc',r,m',⟨rfl,rfl⟩,h⟩) (qP ⟨rfl,rfl,rfl⟩ ⟨rfl,rfl,rfl,rfl⟩ rfl) ⟨rfl,rfl⟩ (fun k hk=>evL_one _ k hk) rfl rfl rfl (fun _ _ _=>rfl) rfl (evL_no _) ?_ ?_ ?_
  ·intro j i hk hodd hp2;obtain ⟨_,rfl⟩:=hp2;obtain ⟨q,rfl⟩ : ∃ q,i = 2 * q + 1:=⟨i / 2,by omega⟩;have hk2:=hk;rw [aM] at hk2;obtain ⟨_,hx⟩:=evL_odd (ks.drop p) q (by omega);rw [hx];have e1 : (2 * q + 1) / 2 = q:=(by omega);have hqd : q < (ks.drop p).length:=(by omega);refine qH ?_;refine qN ?_;refine qB ?_;refine zai (by exact qQ (show ((ks.drop p).take ((2 * q + 1) / 2)).length + 1 ≤ 1000000000 by rw [List.length_take];omega) (by decide)) ?_;refine qB ?_;intro l5_1
   try simp only [zds] at l5_1
   refine qJ rfl (fun h18=>?_) (fun h18=>?_)
   ·try simp only [decide_eq_true_eq] at h18
    try simp only [zds] at h18
    exfalso
    have h19 : (((ks.drop p).take ((2 * q + 1) / 2) ++ [(ks.drop p).getD q ((0 : Int),([] : List Fld))]).length : Int) = most:=h18;rw [List.length_append,List.length_take] at h19;simp only [List.length_cons,List.length_nil] at h19;omega
   ·try simp only [decide_eq_false_iff_not] at h18
    try simp only [zds] at h18
    refine qL ?_;exact ⟨2 * q + 1 + 1,⟨rfl,rfl⟩,qP trivial ⟨crs_eq (by omega),rfl,rfl,qV (by rw [e1,show (2 * q + 1 + 1) / 2 = q + 1 by omega,← yE ((0 : Int),([] : List Fld)) hqd];exact rfl)⟩ rfl⟩
  ·intro i hp2;obtain ⟨_,rfl⟩:=hp2;refine qB ?_;refine yD [2] ?_;refine qM ?_;refine ⟨by rw [aM,show 2 * (ks.drop p).length / 2 = (ks.drop p).length by omega,List.take_length];exact rfl,crs_eq (by rw [aM];omega),rfl⟩
  ·intro j i hp2;exact absurd hp2.1 (by decide)
def zC (s : List (List Term)) (x : Stz) : Bool:=QQ.refAll s x.2
def rFnd (s : List (List Term)) (es : List Ent) : List Stz:=(stzL es).filter (zC s)
theorem hit_snoc (s : List (List Term)) {l : List Stz} {i : Nat} (h : i < l.length) : (l.take (i + 1)).filter (zC s) = (l.take i).filter (zC s) ++ if zC s (l.getD i ((0 : Int),([] : List Fld))) = true then [l.getD i ((0 : Int),([] : List Fld))] else []:=by
  rw [← yE ((0 : Int),([] : List Fld)) h,List.filter_append,List.filter_cons,List.filter_nil]
theorem foundR_c (s : List (List Term)) (hs : QQ.SelOk s) (es : List Ent) (n : Int) (hl : es.length ≤ 1000000) (hf : ∀ e ∈ es,yP e.1.2.2) : qX Tryz.prog 33 [.agg (toL rRL (es,n)),.one (.sl (.sl qY) s)] (.one (.sl rStz (rFnd s es))):=by
  have hsf:=bC hf;have hll:=stzL_le es;refine qW (rs:=[4]) Tryz.func33 rfl rfl rfl teOk rfl ?_;refine qB ?_;refine qB ?_;refine qI ?_;refine xE 5 54 rStz rfl ?_;refine qH ?_;refine Or.inl ?_;refine zai (rfl) ?_;refine zei _ (zai (refStz_c es n hl) ?_);refine qI ?_;refine qB ?_;refine qN ?_;refine qR (fun (i : Nat)=>i ≤ (stzL es).length) (fun (i : Nat)=>[(1,.one (.sl (.sl qY) s)),(5,.one (.vec 1)),(6,.one (.sl rStz (stzL es))),(7,ii .i64 i)]) (fun (i : Nat)=>[(1,.vec 54 rStz (((stzL es).take i).filter (zC s)))]) 2 (fun (i : Nat)=>(stzL es).length - i) 0 (Nat.zero_le _) (qP ⟨rfl,rfl,rfl,rfl⟩ rfl rfl) ?_;intro i hI0;refine qI ?_;refine qB ?_;intro l4_2
  try simp only [zds] at l4_2
  refine qJ rfl (fun h13=>?_) (fun h13=>?_)
  ·try simp only [decide_eq_true_eq] at h13
   try simp only [zds] at h13
   have hil : i < (stzL es).length:=(by omega);have hsn:=hit_snoc s hil;have hle:=List.length_filter_le (zC s) ((stzL es).take i);rw [List.length_take] at hle;refine qL ?_;refine qI ?_;refine qN ?_;refine qB ?_;refine zob ?_;refine Or.inl ?_;refine zai (rfl) ?_;refine zei _ (zai (QQ.all_c s ((stzL es).getD i ((0 : Int),([] : List Fld))).2 hs (hsf _ (yK hil ((0 : Int),([] : List Fld))))) ?_);refine qJ rfl (fun h22=>?_) (fun h22=>?_)
   ·try simp only [zbq] at h22
    try simp only [zds] at h22
    refine qH ?_;refine zob ?_;refine zai (by exact qQ (show (((stzL es).take i).filter (zC s)).length + 1 ≤ 1000000000 by omega) (by decide)) ?_;refine qH ?_;refine zob ?_;exact ⟨i + 1,by omega,by first|omega|(simp <;> omega),qP ⟨rfl,rfl,rfl,(qS (by omega))⟩ (qV (by rw [hsn,if_pos (show zC s ((stzL es).getD i ((0 : Int),([] : List Fld))) = true from h22)];try exact rfl)) rfl⟩
   ·try simp only [zbq] at h22
    try simp only [zds] at h22
    refine qL ?_;refine qH ?_;refine zob ?_;exact ⟨i + 1,by omega,by first|omega|(simp <;> omega),qP ⟨rfl,rfl,rfl,(qS (by omega))⟩ (qV (by rw [hsn,if_neg (by rw [show zC s ((stzL es).getD i ((0 : Int),([] : List Fld))) = false from h22];decide),List.append_nil])) rfl⟩
  ·try simp only [decide_eq_false_iff_not,Int.not_lt] at h13
   try simp only [zds] at h13
   refine qT ?_;refine qB ?_;refine qM ?_;rw [List.take_of_length_le (by omega)];exact rfl
theorem newR_c (s : List (List Term)) (hs : QQ.SelOk s) (es : List Ent) (n : Int) (hl : es.length ≤ 1000000) (hf : ∀ e ∈ es,yP e.1.2.2) : qX Tryz.prog 10 [.agg (toL rRL (es,n)),.one (.sl (.sl qY) s)] (.agg (toL rCur (s,rFnd s es,0))):=by
  have hfd:=foundR_c s hs es n hl hf;refine yT (rs:=[.cell 4 43]) Tryz.func10 rfl rfl rfl teOk rfl ?_;refine qB ?_;refine qB ?_;refine Or.inl ?_;refine zai (rfl) ?_;refine zei _ (zai (hfd) ?_);refine qM ?_;rfl
theorem atR_c (ks : List Stz) (id : Int) (hl : ks.length ≤ 1000000) : qX Tryz.prog 35 [.one (.sl rStz ks),ii .i64 id] (ii .i64 (ixOf (isId id) ks)):=by
  refine qW (rs:=[4]) Tryz.func35 rfl rfl rfl teOk rfl ?_;refine qB ?_;refine qI ?_;refine qB ?_;refine qN ?_;refine qR (fun (i : Nat)=>i ≤ ks.length ∧ (ks.take i).any (isId id) = false) (fun (i : Nat)=>[(0,.one (.sl rStz ks)),(1,ii .i64 id),(5,ii .i64 i)]) (fun (i : Nat)=>[]) 0 (fun (i : Nat)=>ks.length - i) 0 (⟨Nat.zero_le _,rfl⟩) (qP ⟨rfl,rfl,rfl⟩ trivial rfl) ?_;intro i hI0;obtain ⟨hi,hn⟩:=hI0;refine qI ?_;refine qB ?_;intro l2_2
  try simp only [zds] at l2_2
  refine qJ rfl (fun h9=>?_) (fun h9=>?_)
  ·try simp only [decide_eq_true_eq] at h9
   try simp only [zds] at h9
   have hil : i < ks.length:=(by omega);refine qL ?_;refine qI ?_;refine qN ?_;refine qB ?_;refine zob ?_;refine qJ rfl (fun h18=>?_) (fun h18=>?_)
   ·try simp only [decide_eq_true_eq] at h18
    try simp only [Int.toNat_natCast,qG,qF,qD] at h18
    have hh : isId id (ks.getD i ((0 : Int),([] : List Fld))) = true:=decide_eq_true h18;refine qB ?_;refine qM ?_;exact qS (aK ((0 : Int),([] : List Fld)) (by omega) hn hh).symm
   ·try simp only [decide_eq_false_iff_not] at h18
    try simp only [Int.toNat_natCast,qG,qF,qD] at h18
    have hh : isId id (ks.getD i ((0 : Int),([] : List Fld))) = false:=decide_eq_false h18;refine qL ?_;refine qH ?_;refine zob ?_;exact ⟨i + 1,⟨by omega,by rw [kY _ (isId id) ((0 : Int),([] : List Fld)) i (by omega),hn,hh];rfl⟩,by first|omega|(simp <;> omega),qP ⟨rfl,rfl,(qS (by omega))⟩ trivial rfl⟩
  ·try simp only [decide_eq_false_iff_not,Int.not_lt] at h9
   try simp only [zds] at h9
   refine qT ?_;refine qB ?_;refine qM ?_;rw [show i = ks.length by omega,List.take_length] at hn;rw [show ixOf (isId id) ks = -1 from vB hn];exact rfl
theorem seekR_no (s : List (List Term)) (ks : List Stz) (p id : Int) (hl : ks.length ≤ 1000000) (h : ixOf (isId id) ks < 0) : qX Tryz.prog 15 [.agg (toL rCur (s,ks,p)),ii .i64 id] (.tup [(true,toL rCur (s,ks,p)),(false,[.lit (.bool false)])]):=by
  refine yT (rs:=[.cell 4 43,.tmp 5]) Tryz.func15 rfl rfl rfl teOk rfl ?_;refine qB ?_;refine qB ?_;refine Or.inl ?_;refine zai (rfl) ?_;refine zei _ (zai (atR_c ks id hl) ?_);refine qI ?_;refine qB ?_;refine qJ rfl (fun h12=>?_) (fun h12=>?_)
  ·try simp only [decide_eq_true_eq] at h12
   try simp only [zds] at h12
   refine qB ?_;refine qM ?_;rfl
  ·try simp only [decide_eq_false_iff_not,Int.not_lt] at h12
   try simp only [zds] at h12
   omega
theorem seekR_yes (s : List (List Term)) (ks : List Stz) (p id : Int) (hl : ks.length ≤ 1000000) (h : 0 ≤ ixOf (isId id) ks) : qX Tryz.prog 15 [.agg (toL rCur (s,ks,p)),ii .i64 id] (.tup [(true,toL rCur (s,ks,ixOf (isId id) ks)),(false,[.lit (.bool true)])]):=by
  refine yT (rs:=[.cell 4 43,.tmp 5]) Tryz.func15 rfl rfl rfl teOk rfl ?_;refine qB ?_;refine qB ?_;refine Or.inl ?_;refine zai (rfl) ?_;refine zei _ (zai (atR_c ks id hl) ?_);refine qI ?_;refine qB ?_;refine qJ rfl (fun h12=>?_) (fun h12=>?_)
  ·try simp only [decide_eq_true_eq] at h12
   try simp only [zds] at h12
   omega
  ·try simp only [decide_eq_false_iff_not,Int.not_lt] at h12
   try simp only [zds] at h12
   refine qL ?_;refine qB ?_;refine qB ?_;refine qM ?_;rfl
theorem cur_eq {T : TypeId} {s : List (List Term)} {ks : List Stz} {a b : Int} (h : a = b) : some (Ob.box T [.sl (.sl qY) s,.sl rStz ks,.lit (.int .i64 a)]) = some (Ob.box T [.sl (.sl qY) s,.sl rStz ks,.lit (.int .i64 b)]):=by rw [h]
theorem skipR_up (s : List (List Term)) (ks : List Stz) (p : Nat) (n : Int) (hp : p ≤ ks.length) (hl : ks.length ≤ 1000000) (hn : 0 ≤ n) : qX Tryz.prog 13 [.agg (toL rCur (s,ks,(p : Int))),ii .i64 n] (.tup [(true,toL rCur (s,ks,(p : Int) + xP p ks.length n)),(false,[.lit (.int .i64 (xP p ks.length n))])]):=by
  have e : xP p ks.length n = (if (ks.length : Int) - p < n then (ks.length : Int) - p else n):=by unfold xP;split <;> split <;> omega
  rw [e];refine yT (rs:=[.cell 4 43,.tmp 5]) Tryz.func13 rfl rfl rfl teOk rfl ?_;refine qB ?_;refine qB ?_;refine qI ?_;refine qN ?_;refine qR (fun (i : Nat)=>(i : Int) ≤ n ∧ p + i ≤ ks.length) (fun (i : Nat)=>[(1,ii .i64 n),(2,.one (.own 0 0)),(4,.one (.own 1 0)),(6,ii .i64 i)]) (fun (i : Nat)=>[(0,.box 43 [.sl (.sl qY) s,.sl rStz ks,.lit (.int .i64 ((p + i : Nat) : Int))]),(1,.box 43 [.lit (.slice none 0 0),.lit (.slice none 0 0),.lit (.int .i64 0)])]) 2 (fun (i : Nat)=>ks.length - i) 0 (⟨by omega,by omega⟩) (qP ⟨rfl,rfl,rfl,rfl⟩ ⟨rfl,rfl⟩ rfl) ?_;intro i hI0;obtain ⟨hi,hpi⟩:=hI0;refine qI ?_;refine qB ?_;refine zai (fun h=>trivial) ?_;refine zai (fun h=>⟨⟨h,trivial⟩,trivial⟩) ?_;refine zai (fun h=>trivial) ?_;refine zai (fun h=>⟨⟨h,trivial⟩,trivial⟩) ?_;refine zai (fun h=>⟨⟨h,trivial⟩,trivial⟩) ?_;refine zai (fun h=>⟨⟨h,trivial⟩,⟨h,trivial⟩,trivial⟩) ?_;refine zai (by exact fun h=>h) ?_;refine qJ rfl (fun h17=>?_) (fun h17=>?_)
  ·try simp only [decide_eq_true_eq,Bool.and_eq_true] at h17
   try simp only [zds] at h17
   refine qL ?_;refine qN ?_;refine qB ?_;refine zob ?_;refine qH ?_;refine zob ?_;exact ⟨i + 1,⟨by omega,by omega⟩,by first|omega|(simp <;> omega),qP ⟨rfl,rfl,rfl,(qS (by omega))⟩ ⟨(cur_eq (by omega)),rfl⟩ rfl⟩
  ·try simp only [decide_eq_false_iff_not,Bool.and_eq_false_iff,Int.not_lt] at h17
   try simp only [zds] at h17
   refine qT ?_;refine qI ?_;refine qN ?_;refine qR (fun (u : Unit)=>True) (fun (u : Unit)=>[(1,ii .i64 n),(2,.one (.own 0 0)),(4,.one (.own 1 0)),(6,ii .i64 i)]) (fun (u : Unit)=>[(0,.box 43 [.sl (.sl qY) s,.sl rStz ks,.lit (.int .i64 ((p + i : Nat) : Int))]),(1,.box 43 [.lit (.slice none 0 0),.lit (.slice none 0 0),.lit (.int .i64 0)])]) 2 (fun (u : Unit)=>0) () (trivial) (qP ⟨rfl,rfl,rfl,rfl⟩ ⟨rfl,rfl⟩ rfl) ?_;intro u hI2;refine qI ?_;refine qB ?_;refine zai (fun h=>trivial) ?_;refine zai (fun h=>⟨⟨h,trivial⟩,trivial⟩) ?_;refine zai (fun h=>⟨⟨h,trivial⟩,trivial⟩) ?_;refine zai (by exact fun h=>h) ?_;refine zai (fun h=>trivial) ?_;refine zai (fun h=>⟨⟨h,trivial⟩,trivial⟩) ?_;refine zai (by exact fun h=>h) ?_;refine qJ rfl (fun h35=>?_) (fun h35=>?_)
   ·try simp only [decide_eq_true_eq,Bool.and_eq_true] at h35
    try simp only [zds] at h35
    exfalso
    omega
   ·try simp only [decide_eq_false_iff_not,Bool.and_eq_false_iff,Int.not_lt] at h35
    try simp only [zds] at h35
    refine qT ?_;refine qB ?_;refine qM ?_;rw [show (if (ks.length : Int) - p < n then (ks.length : Int) - p else n) = i by split <;> omega];exact rfl
theorem skipR_dn (s : List (List Term)) (ks : List Stz) (p : Nat) (n : Int) (hp : p ≤ ks.length) (hl : ks.length ≤ 1000000) (hn : n < 0) : qX Tryz.prog 13 [.agg (toL rCur (s,ks,(p : Int))),ii .i64 n] (.tup [(true,toL rCur (s,ks,(p : Int) + xP p ks.length n)),(false,[.lit (.int .i64 (xP p ks.length n))])]):=by
  have e : xP p ks.length n = (if 0 - (p : Int) < n then n else 0 - (p : Int)):=by unfold xP;split <;> split <;> omega
  rw [e];refine yT (rs:=[.cell 4 43,.tmp 5]) Tryz.func13 rfl rfl rfl teOk rfl ?_;refine qB ?_;refine qB ?_;refine qI ?_;refine qN ?_;refine qR (fun (u : Unit)=>True) (fun (u : Unit)=>[(1,ii .i64 n),(2,.one (.own 0 0)),(4,.one (.own 1 0)),(6,ii .i64 0)]) (fun (u : Unit)=>[(0,.box 43 [.sl (.sl qY) s,.sl rStz ks,.lit (.int .i64 p)]),(1,.box 43 [.lit (.slice none 0 0),.lit (.slice none 0 0),.lit (.int .i64 0)])]) 2 (fun (u : Unit)=>0) () (trivial) (qP ⟨rfl,rfl,rfl,rfl⟩ ⟨rfl,rfl⟩ rfl) ?_;intro u hI0;refine qI ?_;refine qB ?_;refine zai (fun h=>trivial) ?_;refine zai (fun h=>⟨⟨h,trivial⟩,trivial⟩) ?_;refine zai (fun h=>trivial) ?_;refine zai (fun h=>⟨⟨h,trivial⟩,trivial⟩) ?_;refine zai (fun h=>⟨⟨h,trivial⟩,trivial⟩) ?_;refine zai (fun h=>⟨⟨h,trivial⟩,⟨h,trivial⟩,trivial⟩) ?_;refine zai (by exact fun h=>h) ?_;refine qJ rfl (fun h17=>?_) (fun h17=>?_)
  ·try simp only [decide_eq_true_eq,Bool.and_eq_true] at h17
   try simp only [zds] at h17
   exfalso
   omega
  ·try simp only [decide_eq_false_iff_not,Bool.and_eq_false_iff,Int.not_lt] at h17
   try simp only [zds] at h17
   refine qT ?_;refine qI ?_;refine qN ?_;refine qR (fun (i : Nat)=>n ≤ -(i : Int) ∧ i ≤ p) (fun (i : Nat)=>[(1,ii .i64 n),(2,.one (.own 0 0)),(4,.one (.own 1 0)),(6,ii .i64 (-(i : Int)))]) (fun (i : Nat)=>[(0,.box 43 [.sl (.sl qY) s,.sl rStz ks,.lit (.int .i64 ((p - i : Nat) : Int))]),(1,.box 43 [.lit (.slice none 0 0),.lit (.slice none 0 0),.lit (.int .i64 0)])]) 2 (fun (i : Nat)=>p - i) 0 (⟨by omega,by omega⟩) (qP ⟨rfl,rfl,rfl,rfl⟩ ⟨rfl,rfl⟩ rfl) ?_;intro i hI2;obtain ⟨hi,hpi⟩:=hI2;refine qI ?_;refine qB ?_;refine zai (fun h=>trivial) ?_;refine zai (fun h=>⟨⟨h,trivial⟩,trivial⟩) ?_;refine zai (fun h=>⟨⟨h,trivial⟩,trivial⟩) ?_;refine zai (by exact fun h=>h) ?_;refine zai (fun h=>trivial) ?_;refine zai (fun h=>⟨⟨h,trivial⟩,trivial⟩) ?_;refine zai (by exact fun h=>h) ?_;refine qJ rfl (fun h35=>?_) (fun h35=>?_)
   ·try simp only [decide_eq_true_eq,Bool.and_eq_true] at h35
    try simp only [zds] at h35
    refine qL ?_;refine qN ?_;refine qB ?_;refine zob ?_;refine qH ?_;refine zob ?_;exact ⟨i + 1,⟨by omega,by omega⟩,by first|omega|(simp <;> omega),qP ⟨rfl,rfl,rfl,(qS (by omega))⟩ ⟨(cur_eq (by omega)),rfl⟩ rfl⟩
   ·try simp only [decide_eq_false_iff_not,Bool.and_eq_false_iff,Int.not_lt] at h35
    try simp only [zds] at h35
    refine qT ?_;refine qB ?_;refine qM ?_;rw [show (if 0 - (p : Int) < n then n else 0 - (p : Int)) = -(i : Int) by split <;> omega,show (p : Int) + -(i : Int) = ((p - i : Nat) : Int) by omega];exact rfl
theorem movP_cons (ks' : List Stz) {ks : List Stz} {i : Nat} (h : i < ks.length) : movP ks' (ks.drop i) = if ixOf (isId (ks.getD i ((0 : Int),([] : List Fld))).1) ks' < 0 then movP ks' (ks.drop (i + 1)) else ixOf (isId (ks.getD i ((0 : Int),([] : List Fld))).1) ks':=by
  rw [List.drop_eq_getElem_cons h,List.getD_eq_getElem?_getD,List.getElem?_eq_getElem h];rfl
theorem moveR_c (s : List (List Term)) (hs : QQ.SelOk s) (ks : List Stz) (p : Nat) (hp : p ≤ ks.length) (hk : ks.length ≤ 1000000) (es : List Ent) (n : Int) (hl : es.length ≤ 1000000) (hf : ∀ e ∈ es,yP e.1.2.2) : qX Tryz.prog 23 [.agg (toL rCur (s,ks,(p : Int))),.agg (toL rRL (es,n))] (.agg (toL rCur (s,rFnd s es,movP (rFnd s es) (ks.drop p)))):=by
  have hnw:=newR_c s hs es n hl hf;have hrl : (rFnd s es).length ≤ 1000000:=Nat.le_trans (List.length_filter_le _ _) (Nat.le_trans (stzL_le es) hl);refine yT (rs:=[.cell 4 43]) Tryz.func23 rfl rfl rfl teOk rfl ?_;refine qB ?_;refine qB ?_;refine Or.inl ?_;refine zai (rfl) ?_;refine zei _ (zai (hnw) ?_);refine qB ?_;intro l2_2;refine qI ?_;refine qB ?_;intro l3_2;refine zai (by first|omega|assumption|decide|(simp only [];omega)|(simp <;> omega)) ?_;refine qN ?_;refine qR (fun (i : Nat)=>p ≤ i ∧ i ≤ ks.length) (fun (i : Nat)=>[(2,.one (.own 0 0)),(4,.one (.own 2 0)),(5,.one (.own 3 0)),(6,ii .i64 ((i : Int) - 1))]) (fun (i : Nat)=>[(0,.box 43 [.sl (.sl qY) s,.sl rStz ks,.lit (.int .i64 p)]),(2,.box 43 [.lit (.slice none 0 0),.lit (.slice none 0 0),.lit (.int .i64 0)]),(3,.box 43 [.sl (.sl qY) s,.sl rStz (rFnd s es),.lit (.int .i64 (movP (rFnd s es) (ks.drop i)))])]) 4 (fun (i : Nat)=>i) ks.length (⟨hp,Nat.le_refl _⟩) (qP ⟨rfl,rfl,rfl,rfl⟩ ⟨rfl,rfl,(cur_eq (by rw [List.drop_length];exact rfl))⟩ rfl) ?_;intro i hI0;obtain ⟨hi1,hi2⟩:=hI0;refine qI ?_;refine qB ?_;refine qJ rfl (fun h23=>?_) (fun h23=>?_)
  ·try simp only [decide_eq_true_eq] at h23
   try simp only [zds] at h23
   obtain ⟨j,rfl⟩ : ∃ j,i = j + 1:=⟨i - 1,by omega⟩;have hjl : j < ks.length:=(by omega);have e1 : (((j + 1 : Nat) : Int) - 1).toNat = j:=(by omega);have hmc:=movP_cons (rFnd s es) hjl;have hat:=atR_c (rFnd s es) (ks.getD j ((0 : Int),([] : List Fld))).1 hrl;have hge:=aJ (isId (ks.getD j ((0 : Int),([] : List Fld))).1) (rFnd s es) ((0 : Int),([] : List Fld));refine qL ?_;refine qI ?_;refine qN ?_;refine qI ?_;refine kF rfl (by kernel_rfl) ?_;refine zob ?_;refine zai (rfl) ?_;refine zei _ (zai ((by first|(rw [e1];exact hat)|exact hat)) ?_);refine qB ?_;refine qJ rfl (fun h36=>?_) (fun h36=>?_)
   ·try simp only [decide_eq_true_eq] at h36
    try simp only [zds] at h36
    refine qH ?_;refine qH ?_;refine zob ?_;exact ⟨j,⟨by omega,by omega⟩,by first|omega|(simp <;> omega),qP ⟨rfl,rfl,rfl,(qS (by omega))⟩ ⟨rfl,rfl,(cur_eq (by rw [hmc,if_neg (by omega)]))⟩ rfl⟩
   ·try simp only [decide_eq_false_iff_not,Int.not_le] at h36
    try simp only [zds] at h36
    refine qL ?_;refine qH ?_;refine zob ?_;exact ⟨j,⟨by omega,by omega⟩,by first|omega|(simp <;> omega),qP ⟨rfl,rfl,rfl,(qS (by omega))⟩ ⟨rfl,rfl,(cur_eq (by rw [hmc,if_pos (by omega)]))⟩ rfl⟩
  ·try simp only [decide_eq_false_iff_not,Int.not_le] at h23
   try simp only [zds] at h23
   refine qT ?_;refine qB ?_;refine qM ?_;rw [show i = p by omega];exact rfl
theorem rfnd_eq (s : List (List Term)) (es : List Ent) : rFnd s es = fndS s es:=by
  unfold rFnd fndS jM;refine List.filter_congr fun x _=>?_
  unfold zC missS;rw [Bool.not_not,QQ.selM_eq]
theorem skipD_c (s : List (List Term)) (ks : List Stz) (p : Nat) (n : Int) (hp : p ≤ ks.length) (hl : ks.length ≤ 1000000) : qX Tryz.prog 13 [.agg (toL rCur (s,ks,(p : Int))),ii .i64 n] (.tup [(true,toL rCur (s,ks,(p : Int) + xP p ks.length n)),(false,[.lit (.int .i64 (xP p ks.length n))])]):=by
  by_cases hn : 0 ≤ n
  · exact skipR_up s ks p n hp hl hn
  · exact skipR_dn s ks p n hp hl (by omega)
end Q
end Ab
end Go.Proofs.YtmaekcmknibmeaaGreatDoor
namespace Go.Proofs.YtmaekcmknibmeaaGreatDoor
open Go.RowKit
namespace Ab
set_option maxRecDepth 100000
abbrev rTmk (κ : Nat) : Rd (List Term):=.slk κ qY
namespace Q
theorem program3_o (s : List (List Term)) (hs : QQ.SelOk s) : yB Tryz.prog 8 [.one (.slk 9 (.slk 9 qY) s)] [] 0 (.one (.vec 0)) [(0,.vec 45 (rTmk 3) s)] 1:=by
  refine yA (rs:=[2]) Tryz.func8 rfl rfl rfl (gE (q:=3) teOk) (by decide) rfl ?_;refine qB ?_;refine qB ?_;refine qI ?_;refine qB ?_;intro l2_1
  try simp only [zds] at l2_1
  refine qN ?_;refine qR (fun (i : Nat)=>i ≤ s.length) (fun (i : Nat)=>[(3,.one (.vec 0)),(10,.one (.slk 9 (.slk 9 qY) s)),(11,ii .i64 s.length),(12,ii .i64 i)]) (fun (i : Nat)=>[(0,.vec 45 (rTmk 3) (s.take i))]) 1 (fun (i : Nat)=>s.length - i) 0 (Nat.zero_le _) (qP ⟨rfl,rfl,rfl,rfl⟩ rfl rfl) ?_;intro i hI0;refine qB ?_;refine qI ?_;refine qJ rfl (fun h13=>?_) (fun h13=>?_)
  ·try simp only [decide_eq_true_eq] at h13
   try simp only [zds] at h13
   have hr:=hs.2 _ (yK (show i < s.length by omega) []);have hs1:=hs.1;refine qL ?_;refine qI ?_;refine qN ?_;refine qB ?_;refine zob ?_;refine qB ?_;refine qI ?_;refine qB ?_;intro l6_1
   try simp only [Int.toNat_natCast] at l6_1
   refine qN ?_;refine qR (fun (j : Nat)=>j ≤ (s.getD i []).length) (fun (j : Nat)=>[(3,.one (.vec 0)),(10,.one (.slk 9 (.slk 9 qY) s)),(11,ii .i64 s.length),(12,ii .i64 i),(6,.one (.vec 1)),(17,.one (.slk 9 qY (s.getD i []))),(18,ii .i64 (s.getD i []).length),(19,ii .i64 j)]) (fun (j : Nat)=>[(0,.vec 45 (rTmk 3) (s.take i)),(1,.vec 47 qY ((s.getD i []).take j))]) 2 (fun (j : Nat)=>(s.getD i []).length - j) 0 (Nat.zero_le _) (qP ⟨rfl,rfl,rfl,rfl,rfl,rfl,rfl,rfl⟩ ⟨rfl,rfl⟩ rfl) ?_;intro j hI2;refine qB ?_;refine qI ?_;refine qJ rfl (fun h20=>?_) (fun h20=>?_)
   ·try simp only [decide_eq_true_eq] at h20
    try simp only [zds] at h20
    refine qL ?_;refine qI ?_;refine qN ?_;refine qB ?_;refine zob ?_;refine qH ?_;refine zai (by show (((s.getD i []).take j).length + 1) * 48 ≤ 140737488355328;rw [List.length_take];omega) ?_;refine qH ?_;refine zob ?_;exact ⟨j + 1,by omega,by first|omega|(simp <;> omega),qP ⟨rfl,rfl,rfl,rfl,rfl,rfl,rfl,rfl⟩ ⟨rfl,(qV (yE (false,ByteArray.empty,(0 : Int),ByteArray.empty) (by omega)))⟩ rfl⟩
   ·try simp only [decide_eq_false_iff_not,Int.not_lt] at h20
    try simp only [zds] at h20
    refine qT ?_;have e2 : j = (s.getD i []).length:=by omega
    subst e2;show qZ _ _ _ _ _ _ _ _ _;refine acode_frzat 1 1 3 ?_;refine zei _ (zei _ (zei _ (zei _ (zai rfl ?_))));refine zai (by show ((s.take i).length + 1) * 24 ≤ 140737488355328;rw [List.length_take];omega) ?_;refine qH ?_;refine zob ?_;exact ⟨i + 1,by omega,by first|omega|(simp <;> omega),qP ⟨rfl,rfl,rfl,rfl⟩ (qV ((congrArg (s.take i ++ [·]) (List.take_length)).trans (yE [] (by omega)))) rfl⟩
  ·try simp only [decide_eq_false_iff_not,Int.not_lt] at h13
   try simp only [zds] at h13
   refine qT ?_;refine qB ?_;refine qM ?_;exact ⟨rfl,qV (by rw [show i = s.length by omega,List.take_length]),rfl⟩
theorem copiedk_c {κ κ' : Nat} (s : List (List Term)) (hl : s.length ≤ 1000000) (hf : ∀ r ∈ s,r.length ≤ 1000000) : qX Tryz.prog 31 [.one (.slk κ (rTmk κ') s)] (.one (.sl (.sl qY) s)):=by
  refine qW (rs:=[2]) Tryz.func31 rfl rfl rfl teOk rfl ?_;refine qB ?_;refine qB ?_;refine qI ?_;refine qI ?_;refine xE 3 45 (.sl qY) rfl ?_;refine qH ?_;intro l2_1
  try simp only [zds] at l2_1
  refine qN ?_;refine qR (fun (i : Nat)=>i ≤ s.length) (fun (i : Nat)=>[(3,.one (.vec 0)),(6,.one (.slk κ (rTmk κ') s)),(7,ii .i64 s.length),(8,ii .i64 i)]) (fun (i : Nat)=>[(0,.vec 45 (.sl qY) (s.take i))]) 1 (fun (i : Nat)=>s.length - i) 0 (Nat.zero_le _) (qP ⟨rfl,rfl,rfl,rfl⟩ rfl rfl) ?_;intro i hI0;refine qB ?_;refine qI ?_;refine qJ rfl (fun h9=>?_) (fun h9=>?_)
  ·try simp only [decide_eq_true_eq] at h9
   try simp only [zds] at h9
   have hil : i < s.length:=(by omega);refine qL ?_;refine qI ?_;refine qN ?_;refine qB ?_;refine zob ?_;refine qH ?_;refine Or.inl ?_;refine zai (rfl) ?_;refine zei _ (zai (cloneT_c (k:=κ') (s.getD i ([] : List Term)) (hf _ (yK hil ([] : List Term)))) ?_);refine zai (by exact qQ (show (s.take i).length + 1 ≤ 1000000000 by rw [List.length_take];omega) (by decide)) ?_;refine qH ?_;refine zob ?_;exact ⟨i + 1,by omega,by first|omega|(simp <;> omega),qP ⟨rfl,rfl,rfl,(qS (by omega))⟩ (qV (yE ([] : List Term) hil)) rfl⟩
  ·try simp only [decide_eq_false_iff_not,Int.not_lt] at h9
   try simp only [zds] at h9
   refine qT ?_;refine qB ?_;refine qM ?_;rw [List.take_of_length_le (by omega)];exact rfl
theorem newk_o {k κ κ' : Nat} (s : List (List Term)) (es : List Ent) (n m : Int) (hl : es.length ≤ 1000000) (hf : ∀ e ∈ es,yP e.1.2.2) (hs : s.length ≤ 1000000) (hsr : ∀ r ∈ s,r.length ≤ 1000000) : yB Tryz.prog 9 [.one (.adk k (rLst k) (es,n,m)),.one (.slk κ (rTmk κ') s)] [] 0 (.one (.own 0 0)) (crsO s (fndS s es) 0) 1:=by
  refine yA (rs:=[4]) Tryz.func9 rfl rfl rfl teOk (by decide) rfl ?_;refine qB ?_;refine qB ?_;refine Or.inl ?_;refine zai (rfl) ?_;refine zei _ (zai (copiedk_c s hs hsr) ?_);refine qB ?_;refine Or.inl ?_;refine zai (rfl) ?_;refine zei _ (zai (found_c s es n m hl hf) ?_);refine qM ?_;exact ⟨rfl,rfl,rfl⟩
end Q
end Ab
end Go.Proofs.YtmaekcmknibmeaaGreatDoor
namespace Go.Proofs.YtmaekcmknibmeaaGreatDoor
open Go.RowKit
namespace Ab
set_option maxRecDepth 100000
namespace Q
abbrev rSt9 : Rd Stz:=.st (.int .i64) (.slk 9 rFld)
abbrev rSt3 : Rd Stz:=.st (.int .i64) (.slk 3 rFld)
abbrev rTm9 : Rd (List Term):=.slk 9 qY
abbrev rCur9 : Rd Crs:=.st (.slk 9 rTm9) (.st (.slk 9 rSt9) (.int .i64))
def crs9 (s : List (List Term)) (ks : List Stz) (p : Int) : Obs:=[(0,.box 95 [.slk 9 rTm9 s,.slk 9 rSt9 ks,.lit (.int .i64 p)])]
theorem cloneh3_c {k : Nat} (l : List Fld) (hl : l.length ≤ 1000000) : qX Tryz.prog 62 [.one (.slk k rFld l)] (.one (.slk 3 rFld l)):=by
  refine qW (rs:=[2]) Tryz.func62 rfl rfl rfl teOk rfl ?_;refine qB ?_;refine qI ?_;refine qI ?_;refine wC (q:=k) [_] _ (R:=rFld) (xs:=l) rfl rfl rfl rfl (e:=114) rfl rfl ?_;refine ⟨rfl,fun b hb=>?_⟩;refine qJ rfl (fun h4=>?_) (fun h4=>?_)
  ·have hl0:=hb h4;subst hl0;refine qB ?_;refine xE 2 114 rFld rfl ?_;refine acode_frzk 0 3 rfl ?_;refine qM ?_;rfl
  ·refine qL ?_;refine qB ?_;refine zai (by first|exact qQ (show l.length ≤ 1000000000 by omega) (by decide)|exact qQ (show 0 + l.length ≤ 1000000000 by omega) (by decide)) ?_;refine acode_frzk 0 3 rfl ?_;refine qM ?_;rfl
theorem skip9_o (s : List (List Term)) (ks : List Stz) (p n r : Int) (hr : xP p ks.length n = r) (hp : 0 ≤ p ∧ p ≤ ks.length) (hl : ks.length ≤ 1000000) (hn : -9223372036854775808 ≤ n ∧ n ≤ 9223372036854775807) : yB Tryz.prog 14 [.one (.own 0 0),ii .i64 n] (crs9 s ks p) 1 (ii .i64 r) (crs9 s ks (p + r)) 1:=by
  subst hr;refine yA (rs:=[4]) Tryz.func14 rfl rfl rfl teOk (by decide) rfl ?_;refine qB ?_;refine qI ?_;refine qB ?_;refine qJ rfl (fun h6=>?_) (fun h6=>?_)
  ·try simp only [zbq] at h6
   try simp only [zds] at h6
   simp at h6
  ·skip
   refine qL ?_;refine qI ?_;refine kF rfl (by kernel_rfl) ?_;refine zob ?_;refine zob ?_;have hb : -1000000 ≤ xP p ks.length n ∧ xP p ks.length n ≤ 1000000:=(by unfold xP;split <;> split <;> omega);refine qB ?_;refine zob ?_;refine qB ?_;refine qM ?_;exact ⟨rfl,rfl,rfl⟩
theorem curAt9_c {k : Nat} (s : List (List Term)) (ks : List Stz) (p : Int) (i : Nat) (hi : i < ks.length) (hf : ∀ x ∈ ks,yP x.2) : qX Tryz.prog 34 [.one (.adk k rCur9 (s,ks,p)),ii .i64 i] (.agg (toL rSt3 (ks.getD i ((0 : Int),([] : List Fld))))):=by
  have hfi:=(hf _ (yK hi ((0 : Int),([] : List Fld)))).1;refine yT (rs:=[.cell 4 54]) Tryz.func34 rfl rfl rfl teOk rfl ?_;refine qB ?_;refine qB ?_;refine zai (by first|omega|assumption|decide|(simp only [];omega)|(simp <;> omega)) ?_;refine qB ?_;refine Or.inl ?_;refine zai (rfl) ?_;refine zei _ (zai (cloneh3_c (k:=9) (ks.getD i ((0 : Int),([] : List Fld))).2 (by omega)) ?_);refine qB ?_;refine qM ?_;exact rfl
theorem next9_yes (s : List (List Term)) (ks : List Stz) (p : Nat) (hp : p < ks.length) (hl : ks.length ≤ 1000000) (hf : ∀ x ∈ ks,yP x.2) : yB Tryz.prog 12 [.one (.own 0 0)] (crs9 s ks p) 1 (.tup [(true,toL rSt3 (ks.getD p ((0 : Int),([] : List Fld)))),(false,[.lit (.bool true)])]) (crs9 s ks ((p : Int) + 1)) 1:=by
  have hsk:=skip9_o s ks p 1 1 (by unfold xP;split <;> split <;> omega) (by omega) hl (by omega);have hat:=curAt9_c (k:=1) s ks ((p : Int) + 1) p hp hf;refine gM (t:=2) (ty:=54) (u:=3) Tryz.func12 rfl rfl rfl (gE (q:=9) teOk) rfl rfl ?_;refine qB ?_;refine qI ?_;refine qB ?_;refine Or.inr (Or.inl (zei [] (zei [0] (zei _ (zei _ (zei _ (zei _ (zei _ (zai (hsk) (zai rfl (zai (zai (zai rfl rfl) True.intro) (zai rfl ?_))))))))))));refine qJ rfl (fun h6=>?_) (fun h6=>?_)
  ·try simp only [decide_eq_true_eq] at h6
   try simp only [zds] at h6
   simp at h6
  ·try simp only [decide_eq_false_iff_not] at h6
   try simp only [zds] at h6
   refine qL ?_;refine qB ?_;refine zob ?_;refine Or.inr (Or.inr (Or.inl ?_));refine zai rfl ?_;refine zei _ (zai ((by rw [show (p : Int) + 1 - 1 = (p : Int) by omega];exact hat)) ?_);refine qM ?_;exact ⟨rfl,rfl,rfl⟩
theorem prev9_yes (s : List (List Term)) (ks : List Stz) (p : Nat) (hp : p < ks.length) (hl : ks.length ≤ 1000000) (hf : ∀ x ∈ ks,yP x.2) : yB Tryz.prog 11 [.one (.own 0 0)] (crs9 s ks ((p : Int) + 1)) 1 (.tup [(true,toL rSt3 (ks.getD p ((0 : Int),([] : List Fld)))),(false,[.lit (.bool true)])]) (crs9 s ks p) 1:=by
  have hsk:=skip9_o s ks ((p : Int) + 1) (-1) (-1) (by unfold xP;split <;> split <;> omega) (by omega) hl (by omega);rw [show (p : Int) + 1 + -1 = (p : Int) by omega] at hsk;have hat:=curAt9_c (k:=1) s ks p p hp hf;refine gM (t:=2) (ty:=54) (u:=3) Tryz.func11 rfl rfl rfl (gE (q:=9) teOk) rfl rfl ?_;refine qB ?_;refine qI ?_;refine qB ?_;refine Or.inr (Or.inl (zei [] (zei [0] (zei _ (zei _ (zei _ (zei _ (zei _ (zai (hsk) (zai rfl (zai (zai (zai rfl rfl) True.intro) (zai rfl ?_))))))))))));refine qJ rfl (fun h6=>?_) (fun h6=>?_)
  ·try simp only [decide_eq_true_eq] at h6
   try simp only [zds] at h6
   simp at h6
  ·try simp only [decide_eq_false_iff_not] at h6
   try simp only [zds] at h6
   refine qL ?_;refine qB ?_;refine Or.inr (Or.inr (Or.inl ?_));refine zai rfl ?_;refine zei _ (zai (hat) ?_);refine qM ?_;exact ⟨rfl,rfl,rfl⟩
theorem cP {s : List (List Term)} {ks : List Stz} {a b : Int} (h : a = b) : some (Ob.box 95 [.slk 9 rTm9 s,.slk 9 rSt9 ks,.lit (.int .i64 a)]) = some (Ob.box 95 [.slk 9 rTm9 s,.slk 9 rSt9 ks,.lit (.int .i64 b)]):=by rw [h]
def ev9 : List Stz → List (List A)
  | []=>[]
  | x :: r=>[.one (.fx 0 (.bool true))] :: [.agg (toL rSt3 x)] :: ev9 r
theorem wO : ∀ l : List Stz,(ev9 l).length = 2 * l.length
  | []=>rfl
  | x :: r=>by simp only [ev9,List.length_cons,wO r];omega
theorem eU : ∀ (l : List Stz) (i : Nat) (h : i < l.length),∃ hk : 2 * i + 1 < (ev9 l).length,(ev9 l)[2 * i + 1] = [A.agg (toL rSt3 (l.getD i ((0 : Int),([] : List Fld))))]
  | x :: r,0,_=>⟨by simp only [ev9,List.length_cons];omega,rfl⟩
  | x :: r,i + 1,h=>by
    obtain ⟨hk,e⟩:=eU r i (by simpa using h);refine ⟨by simp only [ev9,List.length_cons];omega,?_⟩;have e2 : 2 * (i + 1) + 1 = (2 * i + 1) + 1 + 1:=by omega
    simp only [ev9,e2,List.getElem_cons_succ,e,List.getD_cons_succ]
theorem ev9_even : ∀ (l : List Stz) (i : Nat) (h : i < (ev9 l).length),i % 2 = 0 → (ev9 l)[i] = [.one (.fx 0 (.bool true))]
  | x :: r,0,_,_=>rfl
  | x :: r,1,_,h=>by omega
  | x :: r,i + 2,h,he=>by
    have h2 : i < (ev9 r).length:=by simp only [ev9,List.length_cons] at h;omega
    simp only [ev9,List.getElem_cons_succ];exact ev9_even r i h2 (by omega)
theorem ev9_one (l : List Stz) (i : Nat) (h : i < (ev9 l).length) : ((ev9 l)[i]).length = 1:=by
  rcases Nat.mod_two_eq_zero_or_one i with h0|h1
  · rw [ev9_even l i h h0];rfl
  · obtain ⟨j,rfl⟩ : ∃ j,i = 2 * j + 1:=⟨i / 2,by omega⟩;rw [wO] at h;obtain ⟨_,e⟩:=eU l j (by omega);rw [e];rfl
theorem skip9Fn : FnOk Tryz.prog 14:=⟨_,Tryz.func14,rfl,rfl⟩
theorem rest_iter9 (ks : List Stz) (hf : ∀ x ∈ ks,x.2.length ≤ 1000000) (pv : Value) : AIterS Tryz.prog 66 14 [pv,.int .i64 1] [.one (.ref (.sl rSt9 ks)),.one (.ref (.lit pv))] (ev9 ks):=by
  refine aiterS_of Tryz.func66 rfl rfl rfl teOk rfl ?_;intro l ι Pr J U n0 hU hab hy hsk;refine yL ?_;refine xC hab hU rfl ?_;refine qH ?_;intro hln;have hln : ks.length ≤ 9223372036854775807:=hln;refine ⟨_,_,_,le_refl,?_⟩;refine kV ?_;refine gZ (κ:=Nat) (fun i=>i ≤ ks.length) (fun i=>2 * i) (fun i=>[(0,.one (.lit (.func (.yield l) #[] #[]))),(2,.one (.ref (.lit pv))),(6,.one (.sl rSt9 ks)),(7,ii .i64 ks.length),(8,ii .i64 i)]) (fun _=>[]) 0 (fun i=>ks.length - i) 0 (Nat.zero_le _) hab hU (qP ⟨rfl,rfl,rfl,rfl,rfl⟩ trivial rfl) rfl ?_;intro i hi;have hi : i ≤ ks.length:=hi;refine bX hab hU ?_;refine yL ?_;refine xC hab hU rfl ?_;refine qH ?_;refine ⟨_,_,_,le_refl,?_⟩;refine yL ?_;refine kK rfl (fun h9=>?_) (fun h9=>?_)
  · simp only [decide_eq_true_eq] at h9;have hlt : i < ks.length:=by omega
    obtain ⟨hk,hx⟩:=eU ks i hlt;have hfl:=hf _ (yK hlt ((0 : Int),([] : List Fld)));refine kJ ?_;refine yL ?_;refine kV ?_;refine yL ?_;refine xC hab hU rfl ?_;refine qH ?_;refine zai (by omega) ?_;refine ⟨_,_,_,le_refl,?_⟩;refine yL ?_;refine xC hab hU rfl ?_;refine qH ?_;refine Or.inl ?_;refine zai rfl ?_;refine zei _ (zai (cloneh3_c (k:=9) (ks.getD i ((0 : Int),([] : List Fld))).2 hfl) ?_);refine ⟨_,_,_,le_refl,?_⟩;refine yL ?_;refine fL (pre:=[_]) (post:=[]) _ rfl rfl rfl hab hU hsk (by omega) (by omega) skip9Fn ?_;refine ⟨_,_,_,le_refl,rfl,rfl,?_⟩;refine ⟨_,_,_,le_refl,?_⟩;refine yL ?_;refine aV (pre:=[_,_]) (post:=[_]) _ rfl rfl rfl hab hU hy hk ?_;refine ⟨_,_,_,le_refl,rfl,hx.symm,by rw [hx];rfl,fun st=>?_⟩;refine ⟨_,_,_,le_refl,?_⟩;refine kK rfl (fun h21=>?_) (fun h21=>?_)
    · have h21 : (!!st) = true:=h21;rw [Bool.not_not] at h21;subst h21;refine aW ?_;exact ⟨_,.inl rfl,.inl rfl,fun e=>by cases e⟩
    · have h21 : (!!st) = false:=h21;rw [Bool.not_not] at h21;subst h21;refine kJ ?_;refine xC hab hU rfl ?_;refine qH ?_;refine zai (by omega) ?_;refine ⟨_,_,_,qP (tm':=[(0,.one (.lit (.func (.yield l) #[] #[]))),(2,.one (.ref (.lit pv))),(6,.one (.sl rSt9 ks)),(7,ii .i64 ks.length),(8,ii .i64 (i + 1 : Nat))]) (ob':=[]) (nx':=1) ⟨rfl,rfl,rfl,rfl,qS (by omega)⟩ trivial rfl,0,.inr rfl,⟨i + 1,hlt,by omega,rfl,by omega,rfl,rfl,rfl⟩⟩
  · simp only [decide_eq_false_iff_not] at h9;refine zA ?_;refine ⟨_,.inl rfl,.inr rfl,fun _=>?_⟩;rw [wO];omega
theorem wV {k : Nat} (l : List Stz) (hl : l.length ≤ 1000000) : qX Tryz.prog 65 [.one (.slk k rSt9 l)] (.one (.sl rSt9 l)):=by
  refine qW (rs:=[2]) Tryz.func65 rfl rfl rfl (gE (q:=9) teOk) rfl ?_;refine qB ?_;refine qI ?_;refine qI ?_;refine wC (q:=k) [_] _ (R:=rSt9) (xs:=l) rfl rfl rfl rfl (e:=54) rfl rfl ?_;refine ⟨rfl,fun b hb=>?_⟩;refine qJ rfl (fun h4=>?_) (fun h4=>?_)
  ·have hl0:=hb h4;subst hl0;refine qB ?_;refine xE 2 54 rSt9 rfl ?_;refine qM ?_;rfl
  ·refine qL ?_;refine qB ?_;refine zai (by first|exact qQ (show l.length ≤ 1000000000 by omega) (by decide)|exact qQ (show 0 + l.length ≤ 1000000000 by omega) (by decide)) ?_;refine qM ?_;rfl
theorem rest9S_o (s : List (List Term)) (ks : List Stz) (p : Nat) (hp : p ≤ ks.length) (hl : ks.length ≤ 1000000) : yB Tryz.prog 37 [.one (.own 0 0)] (crs9 s ks p) 1 (.one (.clo2 66 (.ref (.sl rSt9 (ks.drop p))) (.ref (.own 0 0)))) (crs9 s ks p) 1:=by
  refine yA (rs:=[2]) Tryz.func37 rfl rfl rfl teOk (by decide) rfl ?_;refine qB ?_;refine qB ?_;refine qI ?_;refine qB ?_;refine qJ rfl (fun h5=>?_) (fun h5=>?_)
  ·skip
   refine yW rfl ?_;refine qK [0,4] ?_;refine zai ?_ ?_
   ·refine qO 1 rfl ?_;refine qO 2 rfl ?_;refine qK [3,4] ?_;refine zai ?_ ?_
    ·refine qK [4] ?_;refine qO 5 rfl ?_;refine qO 6 rfl ?_;refine qK [7] ?_;refine qO 8 rfl ?_;refine zob ?_;refine qK [9] ?_;refine Or.inl ?_;refine zai (rfl) ?_;refine zei _ (zai (wV (k:=9) _ (by simp;omega)) ?_);refine qK [10] ?_;refine qU ?_;refine qB ?_;refine yD [1,2] ?_;refine qM ?_;exact ⟨rfl,rfl,rfl⟩
    ·refine qO 5 rfl ?_;refine qO 6 rfl ?_;refine qK [3,7] ?_;refine zai ?_ ?_
     ·refine qK [7] ?_;refine qO 8 rfl ?_;refine zob ?_;refine qK [9] ?_;refine Or.inl ?_;refine zai (rfl) ?_;refine zei _ (zai (wV (k:=9) _ (by simp;omega)) ?_);refine qK [10] ?_;refine qU ?_;refine qB ?_;refine yD [1,2] ?_;refine qM ?_;exact ⟨rfl,rfl,rfl⟩
     ·refine qK [3] ?_;refine qO 8 rfl ?_;refine zob ?_;refine qK [9] ?_;refine Or.inl ?_;refine zai (rfl) ?_;refine zei _ (zai (wV (k:=9) _ (by simp;omega)) ?_);refine qK [10] ?_;refine qU ?_;refine qB ?_;refine yD [1,2] ?_;refine qM ?_;exact ⟨rfl,rfl,rfl⟩
   ·refine qO 5 rfl ?_;refine qO 6 rfl ?_;refine qK [0,7] ?_;refine zai ?_ ?_
    ·refine qO 1 rfl ?_;refine qO 2 rfl ?_;refine qK [3,7] ?_;refine zai ?_ ?_
     ·refine qK [7] ?_;refine qO 8 rfl ?_;refine zob ?_;refine qK [9] ?_;refine Or.inl ?_;refine zai (rfl) ?_;refine zei _ (zai (wV (k:=9) _ (by simp;omega)) ?_);refine qK [10] ?_;refine qU ?_;refine qB ?_;refine yD [1,2] ?_;refine qM ?_;exact ⟨rfl,rfl,rfl⟩
     ·refine qK [3] ?_;refine qO 8 rfl ?_;refine zob ?_;refine qK [9] ?_;refine Or.inl ?_;refine zai (rfl) ?_;refine zei _ (zai (wV (k:=9) _ (by simp;omega)) ?_);refine qK [10] ?_;refine qU ?_;refine qB ?_;refine yD [1,2] ?_;refine qM ?_;exact ⟨rfl,rfl,rfl⟩
    ·refine qK [0] ?_;refine qO 1 rfl ?_;refine qO 2 rfl ?_;refine qK [3] ?_;refine qO 8 rfl ?_;refine zob ?_;refine qK [9] ?_;refine Or.inl ?_;refine zai (rfl) ?_;refine zei _ (zai (wV (k:=9) _ (by simp;omega)) ?_);refine qK [10] ?_;refine qU ?_;refine qB ?_;refine yD [1,2] ?_;refine qM ?_;exact ⟨rfl,rfl,rfl⟩
  ·try simp only [zbq] at h5
   try simp only [zds] at h5
   simp at h5
abbrev rest9C (l : List Stz) : List A:=[.one (.ref (.sl rSt9 l)),.one (.ref (.own 0 0))]
theorem rest9_caps (l : List Stz) (ok : Oks) (ρ : Nat → Option Value) (w : World) (pv : Value) (vs : List Value) (h0 : ρ 0 = some pv) (h : yX ok ρ w (rest9C l) vs) : yX ok yI w [.one (.ref (.sl rSt9 l)),.one (.ref (.lit pv))] vs:=by
  obtain ⟨v,t,rfl,hv,v2,t2,rfl,⟨b,off,u,e1,e2,e3,e4,b2,e5,e6⟩,ht⟩:=h;refine ⟨v,_,rfl,hv,v2,_,rfl,⟨b,off,u,e1,e2,e3,e4,?_⟩,ht⟩;rw [e5] at h0;exact e6.trans (Option.some.inj h0)
theorem rest9_sa (m : Nat) (ok : Oks) (ρ : Nat → Option Value) (w : World) (b : Nat) (h : ρ 0 = some (.pointer (some ⟨b,0,none⟩))) : yX ok ρ w (renAs (sigO m [0]) [.one (.own 0 0),ii .i64 1]) [.pointer (some ⟨b,0,none⟩),.int .i64 1] :=
  ⟨_,_,rfl,⟨b,h,rfl⟩,_,_,rfl,rfl,rfl⟩
theorem ev9_no (l : List Stz) (k : Nat) (hk : k < (ev9 l).length) (h : k % 2 = 0) (ok : Oks) (w : World) (vs : List Value) : ¬ yX ok yI w ((ev9 l)[k]) vs:=by
  rw [ev9_even l k hk h]
  rintro ⟨v,t,_,h2,_⟩
  cases h2
theorem skip9_1 (len p : Int) (h : p < len) (hp : 0 ≤ p) : xP p len 1 = 1:=by unfold xP;split <;> split <;> omega
def rest9I (s : List (List Term)) (ks : List Stz) (p : Nat) (most : Int) (i : Nat) : Obs:=[(0,.box 95 [.slk 9 rTm9 s,.slk 9 rSt9 ks,.lit (.int .i64 ((p + (i + 1) / 2 : Nat) : Int))]),(1,.box 3 [.lit (.int .i64 most)]),(3,.box 41 [.vec 2]),(2,.vec 54 rSt3 ((ks.drop p).take (i / 2)))]
abbrev rest9T (ks : List Stz) (p : Nat) : Tm:=[(3,.one (.own 1 0)),(5,.one (.own 3 0)),(9,.one (.clo2 66 (.ref (.sl rSt9 (ks.drop p))) (.ref (.own 0 0))))]
theorem rest9_skip (s : List (List Term)) (ks : List Stz) (p : Nat) (hp : p ≤ ks.length) (hl : ks.length ≤ 1000000) (most : Int) (k : Nat) (hk : k < (ev9 (ks.drop p)).length) (h2 : k % 2 = 0) :
    ∃ obc obc' r m',yB Tryz.prog 14 [.one (.own 0 0),ii .i64 1] obc (lenN [0]) r obc' m' ∧ gT (rest9I s ks p most k) (sigO 4 [0]) 0 [0] obc ∧ ndN [0] = true ∧
      Le 4 (gW (uK [0] obc) (rest9T ks p)) (appO (jA (sigO 4 [0]) obc') (vD [0] (uK [0] obc) (rest9I s ks p most k))) (4 + (m' - lenN [0])) [] (rest9I s ks p most (k + 1)) 4:=by
  rw [wO,List.length_drop] at hk;have hc:=skip9_o s ks ((p + (k + 1) / 2 : Nat) : Int) 1 1 (skip9_1 _ _ (by omega) (by omega)) (by omega) hl (by decide);refine ⟨_,_,_,_,hc,⟨⟨rfl,rfl⟩,trivial⟩,rfl,qP trivial ⟨cP (by omega),rfl,rfl,qV ?_⟩ rfl⟩;rw [show (k + 1) / 2 = k / 2 by omega]
theorem restA9_o (s : List (List Term)) (ks : List Stz) (p : Nat) (hp : p ≤ ks.length) (hl : ks.length ≤ 1000000) (hf : ∀ x ∈ ks,x.2.length ≤ 1000000) (most : Int) (hm : ¬ (1 ≤ most ∧ most ≤ (ks.length : Int) - p)) :
    yB Tryz.prog 17 [.one (.own 0 0),ii .i64 most] (crs9 s ks p) 1 (.one (.vec 2)) (crs9 s ks (ks.length : Int) ++ [(2,.vec 54 rSt3 (ks.drop p))]) 4:=by
  have hro:=rest9S_o s ks p hp hl;have hdl : (ks.drop p).length = ks.length - p:=List.length_drop;refine yA (rs:=[4]) Tryz.func17 rfl rfl rfl (gE (q:=3) teOk) (by decide) rfl ?_;refine qB ?_;refine qB ?_;refine qI ?_;refine qB ?_;refine Or.inr (Or.inl (zei [] (zei [0] (zei _ (zei _ (zei _ (zei _ (zei _ (zai (hro) (zai rfl (zai (zai (zai rfl rfl) True.intro) (zai rfl ?_))))))))))));refine qN ?_;refine aU (caps:=rest9C (ks.drop p)) (xs:=ev9 (ks.drop p)) (rest9T ks p) 4 (fun st j (i : Nat)=>st = false ∧ i = j) (fun i=>rest9I s ks p most i) (fun _=>.ret) 0 rfl 14 0 [0] [.one (.own 0 0),ii .i64 1] (fun pv=>[pv,.int .i64 1]) (fun pv=>[.one (.ref (.sl rSt9 (ks.drop p))),.one (.ref (.lit pv))]) (fun pv=>rest_iter9 _ (fun x hx=>hf x (List.mem_of_mem_drop hx)) pv) (rest9_caps _) (rest9_sa 4) rfl (fun k i hk h2 hi=>by obtain ⟨_,rfl⟩:=hi;obtain ⟨obc,obc',r,m',h⟩:=rest9_skip s ks p hp hl most i hk h2;exact ⟨i + 1,obc,obc',r,m',⟨rfl,rfl⟩,h⟩) (qP ⟨rfl,rfl,rfl⟩ ⟨rfl,rfl,rfl,rfl⟩ rfl) ⟨rfl,rfl⟩ (fun k hk=>ev9_one _ k hk) rfl rfl rfl (fun _ _ _=>rfl) rfl (ev9_no _) ?_ ?_ ?_
  ·intro j i hk hodd hp2;obtain ⟨_,rfl⟩:=hp2;obtain ⟨q,rfl⟩ : ∃ q,i = 2 * q + 1:=⟨i / 2,by omega⟩;have hk2:=hk;rw [wO] at hk2;obtain ⟨_,hx⟩:=eU (ks.drop p) q (by omega);rw [hx];have e1 : (2 * q + 1) / 2 = q:=(by omega);have hqd : q < (ks.drop p).length:=(by omega);refine qH ?_;refine qN ?_;refine qB ?_;refine zai (by exact qQ (show ((ks.drop p).take ((2 * q + 1) / 2)).length + 1 ≤ 1000000000 by rw [List.length_take];omega) (by decide)) ?_;refine qB ?_;intro l5_1;refine qJ rfl (fun h18=>?_) (fun h18=>?_)
   ·try simp only [decide_eq_true_eq] at h18
    try simp only [zds] at h18
    exfalso
    have h19 : (((ks.drop p).take ((2 * q + 1) / 2) ++ [(ks.drop p).getD q ((0 : Int),([] : List Fld))]).length : Int) = most:=h18;rw [List.length_append,List.length_take] at h19;simp only [List.length_cons,List.length_nil] at h19;omega
   ·try simp only [decide_eq_false_iff_not] at h18
    try simp only [zds] at h18
    refine qL ?_;exact ⟨2 * q + 1 + 1,⟨rfl,rfl⟩,qP trivial ⟨cP (by omega),rfl,rfl,qV (by rw [e1,show (2 * q + 1 + 1) / 2 = q + 1 by omega,← yE ((0 : Int),([] : List Fld)) hqd];exact rfl)⟩ rfl⟩
  ·intro i hp2;obtain ⟨_,rfl⟩:=hp2;refine qB ?_;refine qM ?_;exact ⟨rfl,⟨cP (by rw [wO];omega),qV (by rw [wO,show 2 * (ks.drop p).length / 2 = (ks.drop p).length by omega,List.take_length])⟩,rfl⟩
  ·intro j i hp2;exact absurd hp2.1 (by decide)
theorem restB9_o (s : List (List Term)) (ks : List Stz) (p : Nat) (hp : p ≤ ks.length) (hl : ks.length ≤ 1000000) (hf : ∀ x ∈ ks,x.2.length ≤ 1000000) (mo : Nat) (hm : 1 ≤ mo ∧ mo ≤ ks.length - p) :
    yB Tryz.prog 17 [.one (.own 0 0),ii .i64 mo] (crs9 s ks p) 1 (.one (.vec 2)) (crs9 s ks ((p + mo : Nat) : Int) ++ [(2,.vec 54 rSt3 ((ks.drop p).take mo))]) 4:=by
  have hro:=rest9S_o s ks p hp hl;have hdl : (ks.drop p).length = ks.length - p:=List.length_drop;refine yA (rs:=[4]) Tryz.func17 rfl rfl rfl (gE (q:=3) teOk) (by decide) rfl ?_;refine qB ?_;refine qB ?_;refine qI ?_;refine qB ?_;refine Or.inr (Or.inl (zei [] (zei [0] (zei _ (zei _ (zei _ (zei _ (zei _ (zai (hro) (zai rfl (zai (zai (zai rfl rfl) True.intro) (zai rfl ?_))))))))))));refine qN ?_;refine aU (caps:=rest9C (ks.drop p)) (xs:=ev9 (ks.drop p)) (rest9T ks p) 4 (fun st j (i : Nat)=>(st = false ∧ i = j ∧ j / 2 < mo) ∨ (st = true ∧ i = 2 * mo)) (fun i=>rest9I s ks p mo i) (fun _=>.exit 0) 0 rfl 14 0 [0] [.one (.own 0 0),ii .i64 1] (fun pv=>[pv,.int .i64 1]) (fun pv=>[.one (.ref (.sl rSt9 (ks.drop p))),.one (.ref (.lit pv))]) (fun pv=>rest_iter9 _ (fun x hx=>hf x (List.mem_of_mem_drop hx)) pv) (rest9_caps _) (rest9_sa 4) rfl (fun k i hk h2 hi=>by rcases hi with ⟨_,rfl,h3⟩|⟨h3,_⟩;obtain ⟨obc,obc',r,m',h⟩:=rest9_skip s ks p hp hl mo i hk h2;exact ⟨i + 1,obc,obc',r,m',.inl ⟨rfl,rfl,by omega⟩,h⟩;cases h3) (qP ⟨rfl,rfl,rfl⟩ ⟨rfl,rfl,rfl,rfl⟩ rfl) (.inl ⟨rfl,rfl,by omega⟩) (fun k hk=>ev9_one _ k hk) rfl rfl rfl (fun k i hi=>rfl) rfl (ev9_no _) ?_ ?_ ?_
  ·intro j i hk hodd hp2;obtain ⟨rfl,h9⟩ : i = j ∧ j / 2 < mo:=(by rcases hp2 with ⟨_,h3,h4⟩|⟨h3,_⟩;exact ⟨h3,h4⟩;cases h3);obtain ⟨q,rfl⟩ : ∃ q,i = 2 * q + 1:=⟨i / 2,by omega⟩;have hk2:=hk;rw [wO] at hk2;obtain ⟨_,hx⟩:=eU (ks.drop p) q (by omega);rw [hx];have e1 : (2 * q + 1) / 2 = q:=(by omega);have hqd : q < (ks.drop p).length:=(by omega);refine qH ?_;refine qN ?_;refine qB ?_;refine zai (by exact qQ (show ((ks.drop p).take ((2 * q + 1) / 2)).length + 1 ≤ 1000000000 by rw [List.length_take];omega) (by decide)) ?_;refine qB ?_;intro l5_1;refine qJ rfl (fun h18=>?_) (fun h18=>?_)
   ·try simp only [decide_eq_true_eq] at h18
    try simp only [zds] at h18
    have h19 : (((ks.drop p).take ((2 * q + 1) / 2) ++ [(ks.drop p).getD q ((0 : Int),([] : List Fld))]).length : Int) = mo:=h18;rw [List.length_append,List.length_take] at h19;simp only [List.length_cons,List.length_nil] at h19;refine qT ?_;exact ⟨2 * mo,.inr ⟨rfl,rfl⟩,rfl,qP trivial ⟨cP (by omega),rfl,rfl,qV (by rw [e1,show 2 * mo / 2 = q + 1 by omega,← yE ((0 : Int),([] : List Fld)) hqd];exact rfl)⟩ rfl⟩
   ·try simp only [decide_eq_false_iff_not] at h18
    try simp only [zds] at h18
    have h19 : ¬ (((ks.drop p).take ((2 * q + 1) / 2) ++ [(ks.drop p).getD q ((0 : Int),([] : List Fld))]).length : Int) = mo:=h18;rw [List.length_append,List.length_take] at h19;simp only [List.length_cons,List.length_nil] at h19;refine qL ?_;exact ⟨2 * q + 1 + 1,.inl ⟨rfl,rfl,by omega⟩,qP trivial ⟨cP (by omega),rfl,rfl,qV (by rw [e1,show (2 * q + 1 + 1) / 2 = q + 1 by omega,← yE ((0 : Int),([] : List Fld)) hqd];exact rfl)⟩ rfl⟩
  ·intro i hp2;exact absurd hp2 (fun hp2=>by rcases hp2 with ⟨_,_,h4⟩|⟨h3,_⟩;(rw [wO] at h4;omega);cases h3)
  ·intro j i hp2;obtain rfl : i = 2 * mo:=(by rcases hp2 with ⟨h3,_⟩|⟨_,h3⟩;cases h3;exact h3);refine qT ?_;refine qB ?_;refine qM ?_;exact ⟨rfl,⟨cP (by omega),qV (by rw [show 2 * mo / 2 = mo by omega])⟩,rfl⟩
theorem Plays_big (t : ByteArray) (s : List (List Term)) (sc : List Act9) (h : bigA t s sc = true) : qX Tryz.prog 3 [is t,.one (.sl (.sl qY) s),.one (.sl rAct sc)] (ib true):=by
  have hb:=largeA_c t s sc;rw [h] at hb;refine qW (rs:=[6]) Tryz.func3 rfl rfl rfl teOk rfl ?_;refine qB ?_;refine qI ?_;refine qB ?_;refine Or.inl ?_;refine zai (rfl) ?_;refine zei _ (zai (alive9_c) ?_);refine qJ rfl (fun h39=>?_) (fun h39=>?_)
  ·try simp only [Bool.not_eq_true'] at h39
   try simp only [zds] at h39
   simp at h39
  ·try simp only [Bool.not_eq_false'] at h39
   try simp only [zds] at h39
   refine qL ?_;refine qI ?_;refine qB ?_;refine Or.inl ?_;refine zai (rfl) ?_;refine zei _ (zai (hb) ?_);refine qJ rfl (fun h43=>?_) (fun h43=>?_)
   ·skip
    refine qB ?_;refine qM ?_;rfl
   ·try simp only [zbq] at h43
    try simp only [zds] at h43
    simp at h43
theorem Plays_err (t : ByteArray) (s : List (List Term)) (sc : List Act9) (h : bigA t s sc = false) {e : Int × Int} (hp : kC t = .inl e) : qX Tryz.prog 3 [is t,.one (.sl (.sl qY) s),.one (.sl rAct sc)] (ib true):=by
  have hb:=largeA_c t s sc;rw [h] at hb;have hsz:=(bigA_ok h).1;have hl:=of_err t (by omega) (at_:=e.1) (n:=e.2) hp;have hrf:=refOf_err t (by omega) (at_:=e.1) (n:=e.2) hp;have hne:=parse_ne (at_:=e.1) hp;refine qW (rs:=[6]) Tryz.func3 rfl rfl rfl teOk rfl ?_;refine qB ?_;refine qI ?_;refine qB ?_;refine Or.inl ?_;refine zai (rfl) ?_;refine zei _ (zai (alive9_c) ?_);refine qJ rfl (fun h39=>?_) (fun h39=>?_)
  ·try simp only [Bool.not_eq_true'] at h39
   try simp only [zds] at h39
   simp at h39
  ·try simp only [Bool.not_eq_false'] at h39
   try simp only [zds] at h39
   refine qL ?_;refine qI ?_;refine qB ?_;refine Or.inl ?_;refine zai (rfl) ?_;refine zei _ (zai (hb) ?_);refine qJ rfl (fun h43=>?_) (fun h43=>?_)
   ·try simp only [zbq] at h43
    try simp only [zds] at h43
    simp at h43
   ·skip
    refine qL ?_;refine qB ?_;refine Or.inl ?_;refine zai (rfl) ?_;refine zei _ (zai (hl) ?_);refine qB ?_;refine Or.inl ?_;refine zai (rfl) ?_;refine zei _ (zai (hrf) ?_);refine qI ?_;refine qB ?_;refine zai (fun h=>trivial) ?_;refine zai (fun h=>⟨⟨h,trivial⟩,trivial⟩) ?_;refine zai (by first|(intro h;rw [h];rfl)|(intro h;cases h)) ?_;refine qJ rfl (fun h60=>?_) (fun h60=>?_)
    ·try simp only [decide_eq_false_iff_not,Bool.not_eq_true',Bool.or_eq_true] at h60
     try simp only [zds] at h60
     refine qB ?_;refine zai (fun h=>trivial) ?_;refine zai (fun h=>⟨⟨h,trivial⟩,trivial⟩) ?_;refine zai (by exact fun h=>h) ?_;refine qM ?_
     first|rfl|exact xH (by simp [hne])|exact xH (by simpa using hne)
    ·try simp only [decide_eq_true_eq,Bool.not_eq_false',Bool.or_eq_false_iff] at h60
     try simp only [zds] at h60
     simp at h60
def oneN (L : Lst) (e : Edt) : Int :=
  if e.1 = 1 then (if atE L.1 e.2.1 < 0 then 7 else (chkR e.2.2).2)
  else if e.1 = 2 then (if atE L.1 e.2.1 < 0 then 7 else 0)
  else if atE L.1 e.2.1 < 0 ∧ e.2.1 ≠ 0 then 7 else if (chkR e.2.2).2 ≠ 0 then (chkR e.2.2).2 else if 400 ≤ L.2.2 then 11 else 0
def newN (L : Lst) (e : Edt) : Int:=if e.1 = 1 ∨ e.1 = 2 then 0 else if oneN L e = 0 then L.2.1 else 0
theorem doL_no {L : Lst} {e : Edt} (h : oneN L e ≠ 0) : doL L e = L:=by
  unfold oneN at h;unfold doL;split
  · rename_i h1;rw [if_pos h1] at h;split
    · rfl
    · rename_i h2;rw [if_neg h2] at h;rw [if_pos h]
  · rename_i h1;rw [if_neg h1] at h;split
    · rename_i h2;rw [if_pos h2] at h;split
      · rfl
      · rename_i h3;rw [if_neg h3] at h;exact absurd rfl h
    · rename_i h2;rw [if_neg h2] at h;split
      · rfl
      · rename_i h3;rw [if_neg h3] at h;split
        · rfl
        · rename_i h4;rw [if_neg h4] at h;split
          · rfl
          · rename_i h5;rw [if_neg h5] at h;exact absurd rfl h
theorem ref_one {c : Nat} {L : Lst} (h : LOk c L) (e : Edt) :
    (e.1 = 1 → (dD (L.1,L.2.1) e.2.1 e.2.2).2.2 = oneN L e ∧ ((dD (L.1,L.2.1) e.2.1 e.2.2).1 = ((doL L e).1,(doL L e).2.1))) ∧
    (e.1 = 2 → (refDel (L.1,L.2.1) e.2.1).2 = oneN L e ∧ ((refDel (L.1,L.2.1) e.2.1).1 = ((doL L e).1,(doL L e).2.1))) ∧
    (e.1 ≠ 1 → e.1 ≠ 2 → (aG (L.1,L.2.1) e.2.1 e.2.2).2.2.2 = oneN L e ∧ (aG (L.1,L.2.1) e.2.1 e.2.2).2.1 = newN L e ∧ ((aG (L.1,L.2.1) e.2.1 e.2.2).1 = ((doL L e).1,(doL L e).2.1))):=by
  have hmany:=h.many;have hids:=ids_len L.1;refine ⟨fun h1=>?_,fun h2=>?_,fun h1 h2=>?_⟩
  · unfold dD oneN doL;simp only [if_pos h1]
    by_cases h3 : atE L.1 e.2.1 < 0
    · simp [h3]
    · by_cases h4 : (chkR e.2.2).2 ≠ 0
      · simp [h3,h4]
      · simp only [if_neg h3,if_neg h4];exact ⟨(Classical.not_not.1 h4).symm,trivial⟩
  · unfold refDel oneN doL;simp only [h2,if_neg (show ¬ (2 : Int) = 1 by decide),if_pos]
    by_cases h3 : atE L.1 e.2.1 < 0
    · simp [h3]
    · simp [h3]
  · unfold aG newN oneN doL;simp only [if_neg h1,if_neg h2,if_neg (show ¬ (e.1 = 1 ∨ e.1 = 2) from fun h=>h.elim h1 h2)]
    by_cases h3 : atE L.1 e.2.1 < 0 ∧ e.2.1 ≠ 0
    · simp only [if_pos h3];simp
    · by_cases h4 : (chkR e.2.2).2 ≠ 0
      · simp only [if_neg h3,if_pos h4];simp [h4]
      · by_cases h5 : 400 ≤ L.2.2
        · have h6 : 400 ≤ ((L.1.filter live).length : Int):=by omega
          simp only [if_neg h3,if_neg h4,if_pos h5,if_pos h6];simp
        · have h6 : ¬ 400 ≤ ((L.1.filter live).length : Int):=by omega
          simp only [if_neg h3,if_neg h4,if_neg h5,if_neg h6];simp
theorem refOne_c {c : Nat} (L : Lst) (h : LOk c L) (hc : c ≤ 200000) (e : Edt) (hf : yP e.2.2) : qX Tryz.prog 18 [.agg (toL rRL (L.1,L.2.1)),.agg (toL rEdt e)] (.tup [(true,toL rRL ((doL L e).1,(doL L e).2.1)),(false,[.lit (.int .i64 (newN L e))]),(false,[.lit (.int .i64 (oneN L e))])]):=by
  have hln:=h.len;have hnx:=h.next;obtain ⟨g1,g2,g3⟩:=ref_one h e;have hr1:=refRep_c L.1 L.2.1 e.2.1 e.2.2 hf (by omega);have hr2:=refDel_c L.1 L.2.1 e.2.1 (by omega);have hr3:=refIns_c L.1 L.2.1 e.2.1 e.2.2 hf (by omega) (by omega);refine yT (rs:=[.cell 4 33,.tmp 5,.tmp 6]) Tryz.func18 rfl rfl rfl teOk rfl ?_;refine qB ?_;refine qI ?_;refine qB ?_;refine qJ rfl (fun h18=>?_) (fun h18=>?_)
  ·try simp only [decide_eq_true_eq] at h18
   try simp only [zds] at h18
   refine qB ?_;refine Or.inl ?_;refine zai (rfl) ?_;refine zei _ (zai (hr1) ?_);refine qB ?_;refine qM ?_;rw [← (g1 h18).1,← (g1 h18).2,show newN L e = 0 from by unfold newN;rw [if_pos (.inl h18)]];exact rfl
  ·try simp only [decide_eq_false_iff_not] at h18
   try simp only [zds] at h18
   refine qL ?_;refine qI ?_;refine qB ?_;refine qJ rfl (fun h33=>?_) (fun h33=>?_)
   ·try simp only [decide_eq_true_eq] at h33
    try simp only [zds] at h33
    refine qB ?_;refine Or.inl ?_;refine zai (rfl) ?_;refine zei _ (zai (hr2) ?_);refine qB ?_;refine qM ?_;rw [← (g2 h33).1,← (g2 h33).2,show newN L e = 0 from by unfold newN;rw [if_pos (.inr h33)]];exact rfl
   ·try simp only [decide_eq_false_iff_not] at h33
    try simp only [zds] at h33
    refine qL ?_;refine qB ?_;refine Or.inl ?_;refine zai (rfl) ?_;refine zei _ (zai (hr3) ?_);refine qB ?_;refine qM ?_;rw [← (g3 h18 h33).1,← (g3 h18 h33).2.1,← (g3 h18 h33).2.2];exact rfl
theorem spoil7_c : ASpoil Tryz.prog 27:=by
  refine aspoil_of Tryz.func27 rfl rfl rfl teOk rfl (fun xs=>?_);refine qB ?_;intro l0_1
  try simp only [zds] at l0_1
  refine qN ?_;refine qR (fun (i : Nat)=>i ≤ xs.length) (fun (i : Nat)=>[(0,.one (.slk 7 rUnk2 xs)),(4,ii .i64 xs.length),(5,ii .i64 i)]) (fun (i : Nat)=>[]) 1000000 (fun (i : Nat)=>xs.length - i) 0 (Nat.zero_le _) (qP ⟨rfl,rfl,rfl⟩ trivial rfl) ?_;intro i hI0;refine qB ?_;refine qI ?_;refine qJ rfl (fun h6=>?_) (fun h6=>?_)
  · try simp only [decide_eq_true_eq] at h6
    try simp only [zds] at h6
    refine qL ?_;refine qI ?_;refine qN ?_;refine qB ?_;show qZ _ _ _ _ _ _ _ _ _;refine fK 4 rfl rfl rfl (by rfl) ?_;refine zob ?_;refine zei _ (zei _ (zei _ (zei _ (zei _ (zai rfl (zai rfl (zai rfl (zai rfl ?_))))))));refine qH ?_;refine zob ?_;exact ⟨i + 1,by omega,by first|omega|(simp <;> omega),qP ⟨rfl,rfl,(qS (by omega))⟩ trivial rfl⟩
  · try simp only [decide_eq_false_iff_not,Int.not_lt] at h6
    try simp only [zds] at h6
    refine qT ?_;exact Or.inr rfl
theorem aA {κ κ' : Nat} (a b : List Stz) : qX Tryz.prog 24 [.one (.slk κ (rStz.kd κ') a),.one (.sl rStz b)] (ib (decide (a = b))):=by
  refine qW (rs:=[4]) Tryz.func24 rfl rfl rfl teOk rfl ?_;refine qB ?_;refine qI ?_;refine qB ?_;intro l1_1
  try simp only [zds] at l1_1
  intro l1_3
  try simp only [zds] at l1_3
  refine qJ rfl (fun h10=>?_) (fun h10=>?_)
  ·try simp only [decide_eq_false_iff_not,Bool.not_eq_true'] at h10
   try simp only [zds] at h10
   refine qB ?_;refine qM ?_;exact xH (decide_eq_false (fun e=>by rw [e] at h10;omega)).symm
  ·try simp only [decide_eq_true_eq,Bool.not_eq_false'] at h10
   try simp only [zds] at h10
   refine qL ?_;refine qI ?_;refine qB ?_;intro l3_1
   try simp only [zds] at l3_1
   refine qN ?_;refine qR (fun (i : Nat)=>i ≤ a.length ∧ a.take i = b.take i) (fun (i : Nat)=>[(0,.one (.slk κ (rStz.kd κ') a)),(1,.one (.sl rStz b)),(12,ii .i64 a.length),(13,ii .i64 i)]) (fun (i : Nat)=>[]) 0 (fun (i : Nat)=>a.length - i) 0 (⟨Nat.zero_le _,by simp⟩) (qP ⟨rfl,rfl,rfl,rfl⟩ trivial rfl) ?_;intro i hI0;obtain ⟨hi,ht⟩:=hI0;refine qB ?_;refine qI ?_;refine qJ rfl (fun h14=>?_) (fun h14=>?_)
   ·try simp only [decide_eq_true_eq] at h14
    try simp only [zds] at h14
    have hla : i < a.length:=by omega
    have hlb : i < b.length:=by omega
    refine qL ?_;refine qI ?_;refine qN ?_;refine qB ?_;refine qI ?_;refine kF rfl (by kernel_rfl) ?_;refine zob ?_;refine zob ?_;refine zai (fun h=>trivial) ?_;refine zai (fun h=>trivial) ?_;refine zai (fun h=>⟨⟨⟨h,trivial⟩,⟨h,trivial⟩,trivial⟩,by first|omega|decide|(simp only [zds];omega)|(have h9:=of_decide_eq_true h;omega)|(simp [gq] at h;omega)⟩) ?_;refine zai (fun h=>⟨⟨h,trivial⟩,trivial⟩) ?_;refine zai (fun h=>⟨⟨h,trivial⟩,trivial⟩) ?_;refine zai (fun h=>trivial) ?_;refine zai (fun h=>trivial) ?_;refine zai (fun h=>⟨⟨⟨h,trivial⟩,⟨h,trivial⟩,trivial⟩,by first|omega|decide|(simp only [zds];omega)|(have h9:=of_decide_eq_true h;omega)|(simp [gq] at h;omega)⟩) ?_;refine zai (fun h=>⟨⟨h,trivial⟩,trivial⟩) ?_;refine zai (fun h=>⟨⟨h,trivial⟩,trivial⟩) ?_;refine zai (rfl) ?_;refine zei _ (zai (fun h=>⟨⟨⟨h,trivial⟩,⟨h,trivial⟩,trivial⟩,fieldsk_c (κ:=κ') (a.getD i ((0 : Int),([] : List Fld))).2 (b.getD i ((0 : Int),([] : List Fld))).2⟩) ?_);refine zai (fun h=>⟨⟨h,trivial⟩,trivial⟩) ?_;refine zai (by first|(intro h;rw [h];rfl)|(intro h;cases h)) ?_;refine qJ rfl (fun h40=>?_) (fun h40=>?_)
    ·try simp only [decide_eq_false_iff_not,Bool.not_eq_true',Bool.or_eq_true] at h40
     try simp only [Int.toNat_natCast,qG,qF,qD] at h40
     refine qB ?_;refine qM ?_;exact xH (decide_eq_false (ne_at (i:=i) ((0 : Int),([] : List Fld)) (fun e=>h40.elim (fun h=>h (congrArg Prod.fst e)) (fun h=>h (congrArg Prod.snd e))))).symm
    ·try simp only [decide_eq_true_eq,Bool.not_eq_false',Bool.or_eq_false_iff] at h40
     try simp only [Int.toNat_natCast,qG,qF,qD] at h40
     refine qL ?_;refine qH ?_;refine zob ?_;exact ⟨i + 1,⟨by omega,cV ((0 : Int),([] : List Fld)) hla hlb ht (Prod.ext h40.1 h40.2)⟩,by first|omega|(simp <;> omega),qP ⟨rfl,rfl,rfl,(qS (by omega))⟩ trivial rfl⟩
   ·try simp only [decide_eq_false_iff_not,Int.not_lt] at h14
    try simp only [zds] at h14
    refine qT ?_;refine qB ?_;refine qM ?_;exact xH (decide_eq_true (by rw [List.take_of_length_le (by omega),List.take_of_length_le (by omega)] at ht;exact ht)).symm
theorem fld_unk {ok : Oks} {w : World} {cs : List Value} {f : Fld} (h : rFld.is ok w cs f) : rUnk2.is ok w cs ((),()) :=
  cC rUnk2 rfl (rFld.len h) (rFld.ones h)
theorem row_unk {ok : Oks} {w : World} {cs : List Value} {r : List Fld} (h : (Rd.slk 7 rFld).is ok w cs r) : (Rd.slk 7 rUnk2).is ok w cs (r.map fun _=>((),())):=by
  obtain ⟨v,e,a,cap,h1,h2,h3,h4⟩:=h;refine ⟨v,e,a,cap,by rw [List.length_map];exact h1,by rw [List.length_map];exact h2,h3,fun i hi=>?_⟩;rw [List.length_map] at hi;obtain ⟨b,off,cs,h5,h6,h7,h8,h9⟩:=h4 i hi;exact ⟨b,off,cs,h5,h6,h7,h8,fld_unk h9⟩
abbrev rStzU : Rd (Int × List (Unit × Unit)):=.st (.int .i64) (.slk 7 rUnk2)
def unkS (l : List Stz) : List (Int × List (Unit × Unit)):=l.map fun x=>(x.1,x.2.map fun _=>((),()))
theorem stz_unk {ok : Oks} {w : World} {cs : List Value} {x : Stz} (h : (rStz.kd 7).is ok w cs x) : rStzU.is ok w cs (x.1,x.2.map fun _=>((),())):=by
  obtain ⟨c,d,e,h1,h2⟩:=h;exact ⟨c,d,e,h1,row_unk h2⟩
theorem rep_cases {κ c : Nat} {L : Lst} (h : LOk c L) (hc : c ≤ 200000) (e : Edt) (hf : yP e.2.2) (h1 : e.1 = 1) :
    (oneN L e = 0 ∧ yB Tryz.prog 19 [.one (.own 0 0),ii .i64 e.2.1,.one (.slk κ rFld e.2.2)] (lsO L) 2 (.one (.lit .nilIface)) (lsO (doL L e)) 2) ∨
    (∃ k9,oneN L e ≠ 0 ∧ doL L e = L ∧ yB Tryz.prog 19 [.one (.own 0 0),ii .i64 e.2.1,.one (.slk κ rFld e.2.2)] (lsO L) 2 (.one (errN k9)) (lsO L) 2) ∨
    (∃ a9 k9,oneN L e ≠ 0 ∧ doL L e = L ∧ yB Tryz.prog 19 [.one (.own 0 0),ii .i64 e.2.1,.one (.slk κ rFld e.2.2)] (lsO L) 2 (.one (errF a9 k9)) (lsO L) 2):=by
  have hno:=@doL_no L e;obtain ⟨es,n,m⟩:=L;obtain ⟨k,id,f⟩:=e;simp only at h1 hf;subst h1;have hln:=h.len;simp only at hln;unfold oneN at hno ⊢;simp only [if_pos] at hno ⊢
  by_cases h0 : atE es id < 0
  · rw [if_pos h0] at hno ⊢;exact .inr (.inl ⟨7,by decide,hno (by decide),lRep_no es n m id f h0⟩)
  · rw [if_neg h0] at hno ⊢
    by_cases hck : (chkR f).2 ≠ 0
    · have hb:=lRep_bad (κ:=κ) es n m id f (by omega) hf hck;rcases chk_shape hck with ⟨k9,g1,g2,g3,g4⟩|⟨a9,k9,g1,g2,g3,g4⟩
      · rw [g1] at hb;exact .inr (.inl ⟨k9,hck,hno hck,hb⟩)
      · rw [g1] at hb;exact .inr (.inr ⟨a9,k9,hck,hno hck,hb⟩)
    · have hck' : (chkR f).2 = 0:=Classical.not_not.1 hck;obtain ⟨i,hi,he,_,_⟩:=at_lt h0;have e1 : doL (es,n,m) (1,id,f) = (uJ es i (kM f),n,m):=by
        unfold doL;rw [if_pos rfl,if_neg h0,if_neg hck];show (uJ es (atE es id).toNat _,_) = _;rw [he,Int.toNat_natCast]
      rw [e1];exact .inl ⟨hck',lRep_ok es n m id f i hi he hf hck'⟩
theorem del_cases {c : Nat} {L : Lst} (h : LOk c L) (hc : c ≤ 200000) (e : Edt) (h2 : e.1 = 2) :
    (oneN L e = 0 ∧ yB Tryz.prog 20 [.one (.own 0 0),ii .i64 e.2.1] (lsO L) 2 (.one (.lit .nilIface)) (lsO (doL L e)) 2) ∨
    (oneN L e ≠ 0 ∧ doL L e = L ∧ yB Tryz.prog 20 [.one (.own 0 0),ii .i64 e.2.1] (lsO L) 2 (.one (errN 7)) (lsO L) 2):=by
  have hno:=@doL_no L e;have hmany:=h.many;have hln:=h.len;have hids:=ids_len L.1;have hil:=List.length_filter_le live L.1;obtain ⟨es,n,m⟩:=L;obtain ⟨k,id,f⟩:=e;simp only at h2 hln hmany hids hil;subst h2;unfold oneN at hno ⊢;simp only [if_neg (show ¬ (2 : Int) = 1 by decide),if_pos] at hno ⊢
  by_cases h0 : atE es id < 0
  · rw [if_pos h0] at hno ⊢;exact .inr ⟨by decide,hno (by decide),lDel_no es n m id h0⟩
  · rw [if_neg h0] at hno ⊢;obtain ⟨i,hi,he,_,_⟩:=at_lt h0;have e1 : doL (es,n,m) (2,id,f) = (delE es i,n,m - 1):=by
      unfold doL;rw [if_neg (show ¬ (2 : Int) = 1 by decide),if_pos rfl,if_neg h0];show (delE es (atE es id).toNat,_) = _;rw [he,Int.toNat_natCast]
    rw [e1];exact .inl ⟨rfl,lDel_ok es n m id i hi he (by omega) (by omega)⟩
theorem ins_cases9 {κ c : Nat} {L : Lst} (h : LOk c L) (hc : c ≤ 200000) (e : Edt) (hf : yP e.2.2) (h1 : ¬ e.1 = 1) (h2 : ¬ e.1 = 2) :
    (oneN L e = 0 ∧ yB Tryz.prog 21 [.one (.own 0 0),ii .i64 e.2.1,.one (.slk κ rFld e.2.2)] (lsO L) 2 (.tup [(false,[.lit (.int .i64 L.2.1)]),(false,[.lit .nilIface])]) (lsO (doL L e)) 2) ∨
    (∃ k9,oneN L e ≠ 0 ∧ doL L e = L ∧ yB Tryz.prog 21 [.one (.own 0 0),ii .i64 e.2.1,.one (.slk κ rFld e.2.2)] (lsO L) 2 (.tup [(false,[.lit (.int .i64 0)]),(false,[errN k9])]) (lsO L) 2) ∨
    (∃ a9 k9,oneN L e ≠ 0 ∧ doL L e = L ∧ yB Tryz.prog 21 [.one (.own 0 0),ii .i64 e.2.1,.one (.slk κ rFld e.2.2)] (lsO L) 2 (.tup [(false,[.lit (.int .i64 0)]),(false,[errF a9 k9])]) (lsO L) 2):=by
  have hno:=@doL_no L e;have hmany:=h.many;have hnx:=h.next;have hln:=h.len;have hids:=ids_len L.1;have hil:=List.length_filter_le live L.1;obtain ⟨es,n,m⟩:=L;obtain ⟨k,id,f⟩:=e;simp only at h1 h2 hln hmany hids hil hf hnx;unfold oneN at hno ⊢;simp only [if_neg h1,if_neg h2] at hno ⊢
  by_cases h0 : atE es id < 0 ∧ id ≠ 0
  · rw [if_pos h0] at hno ⊢;exact .inr (.inl ⟨7,by decide,hno (by decide),lIns_no es n m id f h0.1 h0.2⟩)
  · rw [if_neg h0] at hno ⊢
    by_cases hck : (chkR f).2 ≠ 0
    · rw [if_pos hck] at hno ⊢;have hb:=lIns_bad (κ:=κ) es n m id f h0 hf hck;rcases chk_shape hck with ⟨k9,g1,g2,g3,g4⟩|⟨a9,k9,g1,g2,g3,g4⟩
      · rw [g1] at hb;exact .inr (.inl ⟨k9,hck,hno hck,hb⟩)
      · rw [g1] at hb;exact .inr (.inr ⟨a9,k9,hck,hno hck,hb⟩)
    · have hck' : (chkR f).2 = 0:=Classical.not_not.1 hck;rw [if_neg hck] at hno ⊢
      by_cases hfull : 400 ≤ m
      · rw [if_pos hfull] at hno ⊢;exact .inr (.inl ⟨11,by decide,hno (by decide),lIns_full es n m id f h0 hf hck' hfull⟩)
      · rw [if_neg hfull] at hno ⊢;have hge:=fI es id;obtain ⟨j,hj,ha⟩ : ∃ j : Nat,j ≤ es.length ∧ atE es id + 1 = (j : Int):=by
          by_cases h3 : atE es id < 0
          · rcases hge with ⟨g,_⟩|⟨i,_,g,_⟩
            · exact ⟨0,Nat.zero_le _,by omega⟩
            · omega
          · obtain ⟨i,hi,he,_,_⟩:=at_lt h3;exact ⟨i + 1,hi,by omega⟩
        have e1 : doL (es,n,m) (k,id,f) = (insE es j (kM f,n),n + 1,m + 1):=by
          unfold doL;rw [if_neg h1,if_neg h2,if_neg h0,if_neg hck,if_neg hfull];show (insE es (atE es id + 1).toNat _,_) = _;rw [ha,Int.toNat_natCast]
        rw [e1];exact .inl ⟨rfl,lIns_ok es n m id f j hj h0 ha hf hck' (by omega) (by omega) (by omega)⟩
theorem nil_slk {k : Nat} {α : Type} {R : Rd α} {ok : Oks} {ρ : Nat → Option Value} {w : World} {v : Value} (h : (C.lit (.slice none 0 0)).rep ok ρ w v) : (C.slk k R []).rep ok ρ w v :=
  ⟨none,0,h,Nat.le_refl _,Nat.zero_le _,fun i hi=>absurd hi (by simp)⟩
theorem stzNN_c : qX Tryz.prog 24 [.one (.lit (.slice none 0 0)),.one (.lit (.slice none 0 0))] (ib true):=by
  refine acall_arg (fun ok ρ w vs h=>?_) (aA (κ:=0) (κ':=0) [] []);obtain ⟨v,r,rfl,h1,v2,r2,rfl,h2,h3⟩:=h;exact ⟨v,_,rfl,nil_slk h1,v2,_,rfl,nil_slk h2,h3⟩
abbrev rUnk4 : Rd (Unit × Unit × Unit × Unit):=.st .unk (.st .unk (.st .unk .unk))
abbrev rTmU : Rd (List (Unit × Unit × Unit × Unit)):=.slk 7 rUnk4
def unkT (s : List (List Term)) : List (List (Unit × Unit × Unit × Unit)):=s.map fun r=>r.map fun _=>((),(),(),())
theorem trm_unk {ok : Oks} {w : World} {cs : List Value} {r : List Term} (h : (rTmk 7).is ok w cs r) : rTmU.is ok w cs (r.map fun _=>((),(),(),())):=by
  obtain ⟨v,e,a,cap,h1,h2,h3,h4⟩:=h;refine ⟨v,e,a,cap,by rw [List.length_map];exact h1,by rw [List.length_map];exact h2,h3,fun i hi=>?_⟩;rw [List.length_map] at hi;obtain ⟨b,off,cs,h5,h6,h7,h8,h9⟩:=h4 i hi;exact ⟨b,off,cs,h5,h6,h7,h8,cC rUnk4 rfl (qY.len h9) (qY.ones h9)⟩
def errC9 (z : Nat × Int × Int) : C:=match z.1 with
  | 0=>.lit .nilIface
  | 1=>errN z.2.2
  | _=>errF z.2.1 z.2.2
theorem cstA_1 (s : List (List Term)) (q : CSt) {a : Act9} (h : a.1 = 1) : cstA s q a = (q.1,q.2.1,if q.2.2 < q.2.1.length then q.2.2 + 1 else q.2.2):=by unfold cstA;rw [if_pos h]
theorem cstA_2 (s : List (List Term)) (q : CSt) {a : Act9} (h : a.1 = 2) : cstA s q a = (q.1,q.2.1,q.2.2 - 1):=by unfold cstA;rw [if_neg (by omega),if_pos h]
theorem cstA_3 (s : List (List Term)) (q : CSt) {a : Act9} (h : a.1 = 3) : cstA s q a = (q.1,q.2.1,((q.2.2 : Int) + xP q.2.2 q.2.1.length a.2.1).toNat):=by unfold cstA;rw [if_neg (by omega),if_neg (by omega),if_pos h]
theorem cstA_4 (s : List (List Term)) (q : CSt) {a : Act9} (h : a.1 = 4) : cstA s q a = (q.1,q.2.1,if ixOf (isId a.2.1) q.2.1 < 0 then q.2.2 else (ixOf (isId a.2.1) q.2.1).toNat):=by unfold cstA;rw [if_neg (by omega),if_neg (by omega),if_neg (by omega),if_pos h]
theorem cstA_5 (s : List (List Term)) (q : CSt) {a : Act9} (h : a.1 = 5) : cstA s q a = (q.1,q.2.1,q.2.2 + restN q a.2.1):=by unfold cstA;rw [if_neg (by omega),if_neg (by omega),if_neg (by omega),if_neg (by omega),if_pos h]
theorem cstA_6 (s : List (List Term)) (q : CSt) {a : Act9} (h : a.1 = 6) : cstA s q a = (doL q.1 a.2.2,fndS s (doL q.1 a.2.2).1,(movP (fndS s (doL q.1 a.2.2).1) (q.2.1.drop q.2.2)).toNat):=by unfold cstA;rw [if_neg (by omega),if_neg (by omega),if_neg (by omega),if_neg (by omega),if_neg (by omega),if_pos h]
theorem cstA_0 (s : List (List Term)) (q : CSt) {a : Act9} (h1 : ¬ a.1 = 1) (h2 : ¬ a.1 = 2) (h3 : ¬ a.1 = 3) (h4 : ¬ a.1 = 4) (h5 : ¬ a.1 = 5) (h6 : ¬ a.1 = 6) : cstA s q a = q:=by unfold cstA;rw [if_neg h1,if_neg h2,if_neg h3,if_neg h4,if_neg h5,if_neg h6]
theorem zbox {q : CSt} {L : Lst} {K : List Stz} {p : Nat} (h : q = (L,K,p)) : some (Ob.box 83 [.vec 1,.lit (.int .i64 L.2.1),.lit (.int .i64 L.2.2)]) = some (Ob.box 83 [.vec 1,.lit (.int .i64 q.1.2.1),.lit (.int .i64 q.1.2.2)]):=by rw [h]
theorem zvec {q : CSt} {L : Lst} {K : List Stz} {p : Nat} (h : q = (L,K,p)) : some (Ob.vec 87 rEnt L.1) = some (Ob.vec 87 rEnt q.1.1):=by rw [h]
theorem zref {q : CSt} {L : Lst} {K : List Stz} {p : Nat} (h : q = (L,K,p)) : some (Ob.box 33 [.sl rEnt L.1,.lit (.int .i64 L.2.1)]) = some (Ob.box 33 [.sl rEnt q.1.1,.lit (.int .i64 q.1.2.1)]):=by rw [h]
theorem zcrs {T : TypeId} {s : List (List Term)} {q : CSt} {L : Lst} {K : List Stz} {p : Nat} {p' : Int} (h : q = (L,K,p)) (hp : p' = (p : Int)) : some (Ob.box T [.sl (.sl qY) s,.sl rStz K,.lit (.int .i64 p')]) = some (Ob.box T [.sl (.sl qY) s,.sl rStz q.2.1,.lit (.int .i64 (q.2.2 : Int))]):=by rw [h,hp]
theorem skipA_o (s : List (List Term)) (ks : List Stz) (p n : Int) (hp : 0 ≤ p ∧ p ≤ ks.length) (hl : ks.length ≤ 1000000) : yB Tryz.prog 14 [.one (.own 0 0),ii .i64 n] (crsO s ks p) 1 (ii .i64 (xP p ks.length n)) (crsO s ks (p + xP p ks.length n)) 1:=by
  refine yA (rs:=[4]) Tryz.func14 rfl rfl rfl teOk (by decide) rfl ?_;refine qB ?_;refine qI ?_;refine qB ?_;refine qJ rfl (fun h6=>?_) (fun h6=>?_)
  ·try simp only [zbq] at h6
   try simp only [zds] at h6
   simp at h6
  ·skip
   refine qL ?_;refine qI ?_;refine kF rfl (by kernel_rfl) ?_;refine zob ?_;refine zob ?_;have hb : -1000000 ≤ xP p ks.length n ∧ xP p ks.length n ≤ 1000000:=(by unfold xP;split <;> split <;> omega);refine qB ?_;refine zob ?_;refine qB ?_;refine qM ?_;exact ⟨rfl,rfl,rfl⟩
theorem next0_end (s : List (List Term)) (ks : List Stz) (p : Nat) (h : p = ks.length) (hl : ks.length ≤ 1000000) : yB Tryz.prog 12 [.one (.own 0 0)] (crsO s ks p) 1 (.tup [(true,[.lit (.int .i64 0),.lit (.slice none 0 0)]),(false,[.lit (.bool false)])]) (crsO s ks ((p : Int) + 0)) 1:=by
  subst h;exact next_no s ks hl
theorem prev0_start (s : List (List Term)) (ks : List Stz) (p : Nat) (h : p = 0) (hl : ks.length ≤ 1000000) : yB Tryz.prog 11 [.one (.own 0 0)] (crsO s ks p) 1 (.tup [(true,[.lit (.int .i64 0),.lit (.slice none 0 0)]),(false,[.lit (.bool false)])]) (crsO s ks ((p : Int) + 0)) 1:=by
  subst h;exact prev_no s ks hl
theorem prev9_at (s : List (List Term)) (ks : List Stz) (p : Nat) (h : 1 ≤ p) (hp : p ≤ ks.length) (hl : ks.length ≤ 1000000) (hf : ∀ x ∈ ks,yP x.2) : yB Tryz.prog 11 [.one (.own 0 0)] (crs9 s ks p) 1 (.tup [(true,toL rSt3 (ks.getD (p - 1) ((0 : Int),([] : List Fld)))),(false,[.lit (.bool true)])]) (crs9 s ks ((p : Int) + -1)) 1:=by
  have h1:=prev9_yes s ks (p - 1) (by omega) hl hf;rw [show ((p - 1 : Nat) : Int) + 1 = (p : Int) by omega,show ((p - 1 : Nat) : Int) = (p : Int) + -1 by omega] at h1;exact h1
theorem gA (s : List (List Term)) (ks : List Stz) (p : Nat) (n r : Int) (hp : p ≤ ks.length) (hl : ks.length ≤ 1000000) (h : xP p ks.length n = r) : qX Tryz.prog 13 [.agg (toL rCur (s,ks,(p : Int))),ii .i64 n] (.tup [(true,toL rCur (s,ks,(p : Int) + r)),(false,[.lit (.int .i64 r)])]):=by
  subst h;exact skipD_c s ks p n hp hl
theorem wZ {p : Nat} {len : Nat} {n : Int} {r : Int} (hp : p ≤ len) (h1 : r ≤ (len : Int) - p) (h2 : 0 - (p : Int) ≤ r) (h : n = r ∨ (r = (len : Int) - p ∧ r ≤ n) ∨ (r = 0 - (p : Int) ∧ n ≤ r)) : xP p len n = r:=by
  unfold xP;split <;> split <;> omega
theorem want_one {K : List Stz} {p : Nat} (h : p < K.length) : (K.take (p + 1)).drop p = [K.getD p ((0 : Int),([] : List Fld))]:=by
  rw [← yE ((0 : Int),([] : List Fld)) h,List.drop_append];simp [Nat.min_eq_left (Nat.le_of_lt h)]
abbrev tmX (sc : List Act9) (i : Nat) : Tm:=[(7,.one (.own 0 0)),(9,.one (.own 2 0)),(13,.one (.own 1000004 0)),(14,.one (.own 1000005 0)),(92,.one (.sl rAct sc)),(93,ii .i64 sc.length),(94,ii .i64 i)]
abbrev obX (s : List (List Term)) (L : Lst) (K : List Stz) (p : Nat) : Obs:=[(0,.box 83 [.vec 1,.lit (.int .i64 L.2.1),.lit (.int .i64 L.2.2)]),(1,.vec 87 rEnt L.1),(2,.box 33 [.sl rEnt L.1,.lit (.int .i64 L.2.1)]),(1000004,.box 95 [.sl (.sl qY) s,.sl rStz K,.lit (.int .i64 (p : Int))]),(1000005,.box 43 [.sl (.sl qY) s,.sl rStz K,.lit (.int .i64 (p : Int))])]
abbrev rdX (s : List (List Term)) (sc : List Act9) (q0 : CSt) (i : Nat) (Q : AQ) : AQ:=jX (fun tm ob nx=>∃ j,j ≤ sc.length ∧ sc.length - j < sc.length - i ∧ Le 0 tm ob nx (tmX sc j) (obX s (cstR s q0 sc j).1 (cstR s q0 sc j).2.1 (cstR s q0 sc j).2.2) 1000006) Q
theorem aP {c : Nat} {L : Lst} {K : List Stz} {p : Nat} (hin : CInv c (L,K,p)) (hc : c ≤ 20000) : LOk c L ∧ p ≤ K.length ∧ K.length ≤ 1000000 ∧ (∀ x ∈ K,yP x.2) ∧ (∀ x ∈ K,x.2.length ≤ 1000000) ∧ (K.drop p).length = K.length - p :=
  ⟨hin.lok,hin.plc,Nat.le_trans hin.len (by omega),hin.flds,fun x hx=>Nat.le_trans (hin.flds x hx).1 (by decide),List.length_drop⟩
noncomputable abbrev cdX : Code:=roundOf Tryz.f3 [false,false,false,false,false,false,false,false,false,true,false]
noncomputable abbrev cdT : Code:=seqAt [false,false,false] (blkOf (seqAt [false,false,true] cdX))
abbrev RoundX (s : List (List Term)) (sc : List Act9) (q0 : CSt) (i : Nat) (L : Lst) (K : List Stz) (p : Nat) : Prop:=∀ Q : AQ,qZ Tryz.prog te Tryz.f3.ntmps 0 cdX (tmX sc i) (obX s L K p) 1000006 (rdX s sc q0 i Q)
theorem uH (s : List (List Term)) (sc : List Act9) (i : Nat) (L : Lst) (K : List Stz) (pl pd : Int) (h : pl = pd) (Q : AQ) (hQ : Q .normal [(299,ib (decide ((0 : Int) < 0))),(7,.one (.own 0 0)),(9,.one (.own 2 0)),(13,.one (.own 1000004 0)),(14,.one (.own 1000005 0)),(92,.one (.sl rAct sc)),(93,ii .i64 sc.length),(94,ii .i64 i),(296,.one (.vec 1000006)),(297,ii .i64 0),(298,ii .i64 0)] [(0,.box 83 [.vec 1,.lit (.int .i64 L.2.1),.lit (.int .i64 L.2.2)]),(1,.vec 87 rEnt L.1),(2,.box 33 [.sl rEnt L.1,.lit (.int .i64 L.2.1)]),(1000004,.box 95 [.sl (.sl qY) s,.sl rStz K,.lit (.int .i64 (pl))]),(1000005,.box 43 [.sl (.sl qY) s,.sl rStz K,.lit (.int .i64 (pd))]),(1000006,.vec 54 rStz [])] 1000007) :
    qZ Tryz.prog te Tryz.f3.ntmps 0 cdT [(7,.one (.own 0 0)),(9,.one (.own 2 0)),(13,.one (.own 1000004 0)),(14,.one (.own 1000005 0)),(92,.one (.sl rAct sc)),(93,ii .i64 sc.length),(94,ii .i64 i),(20,.one (.lit (.slice none 0 0))),(21,.one (.lit (.slice none 0 0)))] [(0,.box 83 [.vec 1,.lit (.int .i64 L.2.1),.lit (.int .i64 L.2.2)]),(1,.vec 87 rEnt L.1),(2,.box 33 [.sl rEnt L.1,.lit (.int .i64 L.2.1)]),(1000004,.box 95 [.sl (.sl qY) s,.sl rStz K,.lit (.int .i64 (pl))]),(1000005,.box 43 [.sl (.sl qY) s,.sl rStz K,.lit (.int .i64 (pd))])] 1000006 Q:=by
  refine qI ?_;refine qI ?_;refine kF rfl (by kernel_rfl) ?_;refine zai (rfl) ?_;refine zei _ (zai (stzNN_c) ?_);refine zai (fun h=>trivial) ?_;refine zai (rfl) ?_;refine zei _ (zai (fun h=>⟨⟨⟨h,trivial⟩,trivial⟩,aO s K _⟩) ?_);refine zai (fun h=>trivial) ?_;refine zai (fun h=>⟨⟨h,trivial⟩,trivial⟩) ?_;refine zai (fun h=>⟨⟨h,trivial⟩,⟨h,trivial⟩,trivial⟩) ?_;refine zai (by first|(intro h;rw [h];rfl)|(intro h;cases h)) ?_;refine zai (fun h=>trivial) ?_;refine zai (rfl) ?_;refine zei _ (zai (fun h=>⟨⟨⟨h,trivial⟩,trivial⟩,fC s K _⟩) ?_);refine zai (fun h=>trivial) ?_;refine zai (fun h=>⟨⟨h,trivial⟩,trivial⟩) ?_;refine zai (fun h=>⟨⟨h,trivial⟩,trivial⟩) ?_;refine zai (fun h=>⟨⟨h,trivial⟩,⟨h,trivial⟩,trivial⟩) ?_;refine zai (by first|(intro h;rw [h];rfl)|(intro h;cases h)) ?_;refine qJ rfl (fun h295=>?_) (fun h295=>?_)
  · try simp only [decide_eq_false_iff_not,Bool.not_eq_true',Bool.or_eq_true] at h295
    try simp only [zds] at h295
    exfalso
    simp [h] at h295
  · try simp only [decide_eq_true_eq,Bool.not_eq_false',Bool.or_eq_false_iff] at h295
    try simp only [zds] at h295
    refine qL ?_;refine qI ?_;refine xE 20 54 rStz rfl ?_;refine qH ?_;intro l72_1
    try simp only [zds] at l72_1
    refine qN ?_;refine qR (fun (u : Unit)=>True) (fun (u : Unit)=>[(7,.one (.own 0 0)),(9,.one (.own 2 0)),(13,.one (.own 1000004 0)),(14,.one (.own 1000005 0)),(92,.one (.sl rAct sc)),(93,ii .i64 sc.length),(94,ii .i64 i),(296,.one (.vec 1000006)),(297,ii .i64 0),(298,ii .i64 0)]) (fun (u : Unit)=>[(0,.box 83 [.vec 1,.lit (.int .i64 L.2.1),.lit (.int .i64 L.2.2)]),(1,.vec 87 rEnt L.1),(2,.box 33 [.sl rEnt L.1,.lit (.int .i64 L.2.1)]),(1000004,.box 95 [.sl (.sl qY) s,.sl rStz K,.lit (.int .i64 (pl))]),(1000005,.box 43 [.sl (.sl qY) s,.sl rStz K,.lit (.int .i64 (pd))]),(1000006,.vec 54 rStz [])]) 1000007 (fun (u : Unit)=>0) () (trivial) (qP ⟨rfl,rfl,rfl,rfl,rfl,rfl,rfl,rfl,rfl,rfl⟩ ⟨rfl,rfl,rfl,rfl,rfl,rfl⟩ rfl) ?_;intro u hI8;refine qB ?_;refine qI ?_;refine qJ rfl (fun h299=>?_) (fun h299=>?_)
    · try simp only [decide_eq_true_eq] at h299
      try simp only [zds] at h299
      simp at h299
    · try simp only [decide_eq_false_iff_not,Int.not_lt] at h299
      try simp only [zds] at h299
      refine qT ?_;exact hQ
theorem tail_one (s : List (List Term)) (sc : List Act9) (i : Nat) (L : Lst) (K : List Stz) (pl pd : Int) (h : pl = pd) (X Y : List Stz) (hX : X = Y) (Q : AQ) (hQ : Q .normal [(299,ib (decide (((unkS X).length : Int) < (unkS X).length))),(7,.one (.own 0 0)),(9,.one (.own 2 0)),(13,.one (.own 1000004 0)),(14,.one (.own 1000005 0)),(92,.one (.sl rAct sc)),(93,ii .i64 sc.length),(94,ii .i64 i),(296,.one (.vec 2000009)),(297,ii .i64 (unkS X).length),(298,ii .i64 (unkS X).length)] [(0,.box 83 [.vec 1,.lit (.int .i64 L.2.1),.lit (.int .i64 L.2.2)]),(1,.vec 87 rEnt L.1),(2,.box 33 [.sl rEnt L.1,.lit (.int .i64 L.2.1)]),(1000004,.box 95 [.sl (.sl qY) s,.sl rStz K,.lit (.int .i64 (pl))]),(1000005,.box 43 [.sl (.sl qY) s,.sl rStz K,.lit (.int .i64 (pd))]),(2000009,.vec 54 rStzU (unkS X))] 2000010) :
    qZ Tryz.prog te Tryz.f3.ntmps 2000008 cdT [(7,.one (.own 0 0)),(9,.one (.own 2 0)),(13,.one (.own 1000004 0)),(14,.one (.own 1000005 0)),(92,.one (.sl rAct sc)),(93,ii .i64 sc.length),(94,ii .i64 i),(20,.one (.vec 2000009)),(21,.one (.sl rStz Y))] [(0,.box 83 [.vec 1,.lit (.int .i64 L.2.1),.lit (.int .i64 L.2.2)]),(1,.vec 87 rEnt L.1),(2,.box 33 [.sl rEnt L.1,.lit (.int .i64 L.2.1)]),(1000004,.box 95 [.sl (.sl qY) s,.sl rStz K,.lit (.int .i64 (pl))]),(1000005,.box 43 [.sl (.sl qY) s,.sl rStz K,.lit (.int .i64 (pd))]),(2000009,.vec 54 (rStz.kd 7) X)] 2000010 Q:=by
  refine qI ?_;refine qI ?_;refine kF rfl (by kernel_rfl) ?_;refine zai (rfl) ?_;refine zei _ (zai (aA (κ:=1) (κ':=7) _ _) ?_);refine zai (fun h=>trivial) ?_;refine zai (rfl) ?_;refine zei _ (zai (fun h=>⟨⟨⟨h,trivial⟩,trivial⟩,aO s K _⟩) ?_);refine zai (fun h=>trivial) ?_;refine zai (fun h=>⟨⟨h,trivial⟩,trivial⟩) ?_;refine zai (fun h=>⟨⟨h,trivial⟩,⟨h,trivial⟩,trivial⟩) ?_;refine zai (by first|(intro h;rw [h];rfl)|(intro h;cases h)) ?_;refine zai (fun h=>trivial) ?_;refine zai (rfl) ?_;refine zei _ (zai (fun h=>⟨⟨⟨h,trivial⟩,trivial⟩,fC s K _⟩) ?_);refine zai (fun h=>trivial) ?_;refine zai (fun h=>⟨⟨h,trivial⟩,trivial⟩) ?_;refine zai (fun h=>⟨⟨h,trivial⟩,trivial⟩) ?_;refine zai (fun h=>⟨⟨h,trivial⟩,⟨h,trivial⟩,trivial⟩) ?_;refine zai (by first|(intro h;rw [h];rfl)|(intro h;cases h)) ?_;refine qJ rfl (fun h295=>?_) (fun h295=>?_)
  · try simp only [decide_eq_false_iff_not,Bool.not_eq_true',Bool.or_eq_true] at h295
    try simp only [zds] at h295
    exfalso
    simp [h,hX] at h295
  · try simp only [decide_eq_true_eq,Bool.not_eq_false',Bool.or_eq_false_iff] at h295
    try simp only [zds] at h295
    refine qL ?_;refine qI ?_;refine zF 2000009 (S:=rStzU) (ys:=unkS X) rfl rfl (by simp [unkS]) (fun ok w cs j hj hj' h=>by rw [show (unkS X)[j] = ((X[j]).1,(X[j]).2.map fun _=>((),())) from List.getElem_map ..];exact stz_unk h) ?_;refine qH ?_;intro l72_1
    try simp only [zds] at l72_1
    refine qN ?_;refine qR (fun (j : Nat)=>j ≤ (unkS X).length) (fun (j : Nat)=>[(7,.one (.own 0 0)),(9,.one (.own 2 0)),(13,.one (.own 1000004 0)),(14,.one (.own 1000005 0)),(92,.one (.sl rAct sc)),(93,ii .i64 sc.length),(94,ii .i64 i),(296,.one (.vec 2000009)),(297,ii .i64 (unkS X).length),(298,ii .i64 j)]) (fun (j : Nat)=>[(0,.box 83 [.vec 1,.lit (.int .i64 L.2.1),.lit (.int .i64 L.2.2)]),(1,.vec 87 rEnt L.1),(2,.box 33 [.sl rEnt L.1,.lit (.int .i64 L.2.1)]),(1000004,.box 95 [.sl (.sl qY) s,.sl rStz K,.lit (.int .i64 (pl))]),(1000005,.box 43 [.sl (.sl qY) s,.sl rStz K,.lit (.int .i64 (pd))]),(2000009,.vec 54 rStzU (unkS X))]) 2000010 (fun (j : Nat)=>(unkS X).length - j) 0 (Nat.zero_le _) (qP ⟨rfl,rfl,rfl,rfl,rfl,rfl,rfl,rfl,rfl,rfl⟩ ⟨rfl,rfl,rfl,rfl,rfl,rfl⟩ rfl) ?_;intro j hI8;refine qB ?_;refine qI ?_;refine qJ rfl (fun h299=>?_) (fun h299=>?_)
    · try simp only [decide_eq_true_eq] at h299
      try simp only [zds] at h299
      refine qL ?_;refine qI ?_;refine qN ?_;refine qB ?_;refine zob ?_;refine zai (by omega) ?_;show qZ _ _ _ _ _ _ _ _ _;refine iS 2 rfl rfl rfl (by rfl) ?_;refine zei _ (zei _ (zai rfl (zai (spoil7_c) (zai rfl (zai rfl (zai rfl ?_))))));refine qH ?_;refine zob ?_;exact ⟨j + 1,by omega,by first|omega|(simp <;> omega),qP ⟨rfl,rfl,rfl,rfl,rfl,rfl,rfl,rfl,rfl,(qS (by omega))⟩ ⟨rfl,rfl,rfl,rfl,rfl,rfl⟩ rfl⟩
    · try simp only [decide_eq_false_iff_not,Int.not_lt] at h299
      try simp only [zds] at h299
      refine qT ?_;have hje : j = (unkS X).length:=(by omega);subst hje;exact hQ
theorem fP (s : List (List Term)) (sc : List Act9) (i : Nat) (L : Lst) (K : List Stz) (pl pd : Int) (h : pl = pd) (X Y : List Stz) (hX : X = Y) (Q : AQ) (hQ : Q .normal [(299,ib (decide (((unkS X).length : Int) < (unkS X).length))),(7,.one (.own 0 0)),(9,.one (.own 2 0)),(13,.one (.own 1000004 0)),(14,.one (.own 1000005 0)),(92,.one (.sl rAct sc)),(93,ii .i64 sc.length),(94,ii .i64 i),(296,.one (.vec 1000008)),(297,ii .i64 (unkS X).length),(298,ii .i64 (unkS X).length)] [(0,.box 83 [.vec 1,.lit (.int .i64 L.2.1),.lit (.int .i64 L.2.2)]),(1,.vec 87 rEnt L.1),(2,.box 33 [.sl rEnt L.1,.lit (.int .i64 L.2.1)]),(1000004,.box 95 [.sl (.sl qY) s,.sl rStz K,.lit (.int .i64 (pl))]),(1000005,.box 43 [.sl (.sl qY) s,.sl rStz K,.lit (.int .i64 (pd))]),(1000008,.vec 54 rStzU (unkS X))] 2000010) :
    qZ Tryz.prog te Tryz.f3.ntmps 2000010 cdT [(7,.one (.own 0 0)),(9,.one (.own 2 0)),(13,.one (.own 1000004 0)),(14,.one (.own 1000005 0)),(92,.one (.sl rAct sc)),(93,ii .i64 sc.length),(94,ii .i64 i),(20,.one (.vec 1000008)),(21,.one (.sl rStz Y))] [(0,.box 83 [.vec 1,.lit (.int .i64 L.2.1),.lit (.int .i64 L.2.2)]),(1,.vec 87 rEnt L.1),(2,.box 33 [.sl rEnt L.1,.lit (.int .i64 L.2.1)]),(1000004,.box 95 [.sl (.sl qY) s,.sl rStz K,.lit (.int .i64 (pl))]),(1000005,.box 43 [.sl (.sl qY) s,.sl rStz K,.lit (.int .i64 (pd))]),(1000008,.vec 54 (rStz.kd 7) X)] 2000010 Q:=by
  refine qI ?_;refine qI ?_;refine kF rfl (by kernel_rfl) ?_;refine zai (rfl) ?_;refine zei _ (zai (aA (κ:=1) (κ':=7) _ _) ?_);refine zai (fun h=>trivial) ?_;refine zai (rfl) ?_;refine zei _ (zai (fun h=>⟨⟨⟨h,trivial⟩,trivial⟩,aO s K _⟩) ?_);refine zai (fun h=>trivial) ?_;refine zai (fun h=>⟨⟨h,trivial⟩,trivial⟩) ?_;refine zai (fun h=>⟨⟨h,trivial⟩,⟨h,trivial⟩,trivial⟩) ?_;refine zai (by first|(intro h;rw [h];rfl)|(intro h;cases h)) ?_;refine zai (fun h=>trivial) ?_;refine zai (rfl) ?_;refine zei _ (zai (fun h=>⟨⟨⟨h,trivial⟩,trivial⟩,fC s K _⟩) ?_);refine zai (fun h=>trivial) ?_;refine zai (fun h=>⟨⟨h,trivial⟩,trivial⟩) ?_;refine zai (fun h=>⟨⟨h,trivial⟩,trivial⟩) ?_;refine zai (fun h=>⟨⟨h,trivial⟩,⟨h,trivial⟩,trivial⟩) ?_;refine zai (by first|(intro h;rw [h];rfl)|(intro h;cases h)) ?_;refine qJ rfl (fun h295=>?_) (fun h295=>?_)
  · try simp only [decide_eq_false_iff_not,Bool.not_eq_true',Bool.or_eq_true] at h295
    try simp only [zds] at h295
    exfalso
    simp [h,hX] at h295
  · try simp only [decide_eq_true_eq,Bool.not_eq_false',Bool.or_eq_false_iff] at h295
    try simp only [zds] at h295
    refine qL ?_;refine qI ?_;refine zF 1000008 (S:=rStzU) (ys:=unkS X) rfl rfl (by simp [unkS]) (fun ok w cs j hj hj' h=>by rw [show (unkS X)[j] = ((X[j]).1,(X[j]).2.map fun _=>((),())) from List.getElem_map ..];exact stz_unk h) ?_;refine qH ?_;intro l72_1
    try simp only [zds] at l72_1
    refine qN ?_;refine qR (fun (j : Nat)=>j ≤ (unkS X).length) (fun (j : Nat)=>[(7,.one (.own 0 0)),(9,.one (.own 2 0)),(13,.one (.own 1000004 0)),(14,.one (.own 1000005 0)),(92,.one (.sl rAct sc)),(93,ii .i64 sc.length),(94,ii .i64 i),(296,.one (.vec 1000008)),(297,ii .i64 (unkS X).length),(298,ii .i64 j)]) (fun (j : Nat)=>[(0,.box 83 [.vec 1,.lit (.int .i64 L.2.1),.lit (.int .i64 L.2.2)]),(1,.vec 87 rEnt L.1),(2,.box 33 [.sl rEnt L.1,.lit (.int .i64 L.2.1)]),(1000004,.box 95 [.sl (.sl qY) s,.sl rStz K,.lit (.int .i64 (pl))]),(1000005,.box 43 [.sl (.sl qY) s,.sl rStz K,.lit (.int .i64 (pd))]),(1000008,.vec 54 rStzU (unkS X))]) 2000010 (fun (j : Nat)=>(unkS X).length - j) 0 (Nat.zero_le _) (qP ⟨rfl,rfl,rfl,rfl,rfl,rfl,rfl,rfl,rfl,rfl⟩ ⟨rfl,rfl,rfl,rfl,rfl,rfl⟩ rfl) ?_;intro j hI8;refine qB ?_;refine qI ?_;refine qJ rfl (fun h299=>?_) (fun h299=>?_)
    · try simp only [decide_eq_true_eq] at h299
      try simp only [zds] at h299
      refine qL ?_;refine qI ?_;refine qN ?_;refine qB ?_;refine zob ?_;refine zai (by omega) ?_;show qZ _ _ _ _ _ _ _ _ _;refine iS 2 rfl rfl rfl (by rfl) ?_;refine zei _ (zei _ (zai rfl (zai (spoil7_c) (zai rfl (zai rfl (zai rfl ?_))))));refine qH ?_;refine zob ?_;exact ⟨j + 1,by omega,by first|omega|(simp <;> omega),qP ⟨rfl,rfl,rfl,rfl,rfl,rfl,rfl,rfl,rfl,(qS (by omega))⟩ ⟨rfl,rfl,rfl,rfl,rfl,rfl⟩ rfl⟩
    · try simp only [decide_eq_false_iff_not,Int.not_lt] at h299
      try simp only [zds] at h299
      refine qT ?_;have hje : j = (unkS X).length:=(by omega);subst hje;exact hQ
theorem round_move (s : List (List Term)) (hso : QQ.SelOk s) (sc : List Act9) (q0 : CSt) (i c : Nat) (hil : i < sc.length) (h40 : sc.length ≤ 40) (hc : c ≤ 20000) (L : Lst) (K : List Stz) (p : Nat) (hq : cstR s q0 sc i = (L,K,p)) (hin : CInv c (L,K,p)) (hfe : yP (sc.getD i ((0 : Int),(0 : Int),((0 : Int),(0 : Int),([] : List Fld)))).2.2.2.2) (h5 : ¬ (sc.getD i ((0 : Int),(0 : Int),((0 : Int),(0 : Int),([] : List Fld)))).1 = 5) (h6 : ¬ (sc.getD i ((0 : Int),(0 : Int),((0 : Int),(0 : Int),([] : List Fld)))).1 = 6) : RoundX s sc q0 i L K p:=by
  intro Q;have hsn:=zR s q0 hil;rw [hq] at hsn;obtain ⟨hlz,hplc,hKl,hfl,hf1,hdl⟩:=aP hin hc;have hz1 : ∀ p',(sc.getD i ((0 : Int),(0 : Int),((0 : Int),(0 : Int),([] : List Fld)))).1 = 1 → p' = (if p < K.length then p + 1 else p) → cstR s q0 sc (i + 1) = (L,K,p'):=fun p' hk e=>by rw [hsn,cstA_1 s _ hk,e]
  have hz2 : (sc.getD i ((0 : Int),(0 : Int),((0 : Int),(0 : Int),([] : List Fld)))).1 = 2 → cstR s q0 sc (i + 1) = (L,K,p - 1):=fun hk=>by rw [hsn,cstA_2 s _ hk]
  have hz3 : (sc.getD i ((0 : Int),(0 : Int),((0 : Int),(0 : Int),([] : List Fld)))).1 = 3 → cstR s q0 sc (i + 1) = (L,K,((p : Int) + xP p K.length (sc.getD i ((0 : Int),(0 : Int),((0 : Int),(0 : Int),([] : List Fld)))).2.1).toNat):=fun hk=>by rw [hsn,cstA_3 s _ hk]
  have hz4 : ∀ p',(sc.getD i ((0 : Int),(0 : Int),((0 : Int),(0 : Int),([] : List Fld)))).1 = 4 → p' = (if ixOf (isId (sc.getD i ((0 : Int),(0 : Int),((0 : Int),(0 : Int),([] : List Fld)))).2.1) K < 0 then p else (ixOf (isId (sc.getD i ((0 : Int),(0 : Int),((0 : Int),(0 : Int),([] : List Fld)))).2.1) K).toNat) → cstR s q0 sc (i + 1) = (L,K,p'):=fun p' hk e=>by rw [hsn,cstA_4 s _ hk,e]
  refine qB ?_;refine qI ?_;refine qJ rfl (fun h95=>?_) (fun h95=>?_)
  · try simp only [decide_eq_true_eq] at h95
    try simp only [zds] at h95
    refine qL ?_;refine qI ?_;refine qN ?_;refine qB ?_;refine zob ?_;refine qB ?_;show qZ _ _ _ _ _ _ _ _ _;refine aT [7,9,13,14,92,93,94] [0,1,2,1000004,1000005] rfl (by kernel_rfl) ?_;refine yZ (by kernel_rfl) ?_;refine xA ?_;refine qH ?_;refine aX ?_;refine yZ (by kernel_rfl) ?_;refine xA ?_;refine qB ?_;refine qJ rfl (fun h100=>?_) (fun h100=>?_)
    · try simp only [decide_eq_true_eq] at h100
      try simp only [Int.toNat_natCast,qG,qF,qD] at h100
      refine qL ?_;refine xW rfl (fun h100=>?_) (fun h100=>?_)
      · try simp only [decide_eq_true_eq] at h100
        try simp only [Int.toNat_natCast,qG,qF,qD] at h100
        refine yZ (by kernel_rfl) ?_;refine xA ?_;refine qH ?_;refine yZ (by kernel_rfl) ?_;refine xA ?_;refine qH ?_;refine yZ (by kernel_rfl) ?_;refine yZ (by kernel_rfl) ?_;refine xA ?_;refine qH ?_;refine xW rfl (fun h106=>?_) (fun h106=>?_)
        · try simp only [decide_eq_true_eq] at h106
          try simp only [Int.toNat_natCast,qG,qF,qD] at h106
          exfalso
          omega
        · try simp only [decide_eq_false_iff_not] at h106
          try simp only [Int.toNat_natCast,qG,qF,qD] at h106
          rcases Nat.lt_or_ge p K.length with hpl|hpl
          · refine wD 1 rfl rfl rfl rfl ?_;refine zei [1000004] (zei _ (zei _ (zei _ (zei _ (zei _ (zai (next9_yes s K p hpl hKl hfl) (zai rfl (zai (zai (zai rfl rfl) True.intro) (zai rfl ?_)))))))));refine qB ?_;refine qB ?_;refine Or.inl ?_;refine zai (rfl) ?_;refine zei _ (zai (gA s K p (1) (1) hplc hKl (wZ hplc (by omega) (by omega) (by omega))) ?_);refine qB ?_;refine qI ?_;refine qB ?_;refine zai (fun h=>trivial) ?_;refine zai (fun h=>⟨⟨h,trivial⟩,trivial⟩) ?_;refine zai (fun h=>⟨⟨h,trivial⟩,trivial⟩) ?_;refine zai (fun h=>trivial) ?_;refine zai (fun h=>⟨⟨h,trivial⟩,trivial⟩) ?_;refine zai (fun h=>⟨⟨h,trivial⟩,trivial⟩) ?_;refine zai (fun h=>⟨⟨h,trivial⟩,trivial⟩) ?_;refine zai (fun h=>trivial) ?_;refine zai (fun h=>⟨⟨h,trivial⟩,trivial⟩) ?_;refine zai (fun h=>⟨⟨h,trivial⟩,trivial⟩) ?_;refine zai (fun h=>⟨⟨h,trivial⟩,trivial⟩) ?_;refine zai (fun h=>⟨⟨⟨h,trivial⟩,trivial⟩,by first|exact fun h2=>h2|(intro h2;rw [h,h2];rfl)|(intro h2;cases h2)|(intro h2;simp_all [gq])⟩) ?_;refine zai (fun h=>⟨⟨⟨h,trivial⟩,trivial⟩,by first|exact fun h2=>h2|(intro h2;rw [h,h2];rfl)|(intro h2;cases h2)|(intro h2;simp_all [gq])⟩) ?_;refine zai (by first|(intro h;rw [h];rfl)|(intro h;cases h)) ?_;refine qJ rfl (fun h144=>?_) (fun h144=>?_)
            · try simp only [decide_eq_false_iff_not,Bool.and_eq_true,Bool.not_eq_true',Bool.or_eq_true] at h144
              try simp only [zds] at h144
              simp at h144
            · try simp only [decide_eq_true_eq,Bool.not_eq_false',Bool.or_eq_false_iff,Bool.and_eq_false_iff] at h144
              try simp only [zds] at h144
              refine qL ?_;refine qB ?_;refine qJ rfl (fun h145=>?_) (fun h145=>?_)
              · skip
                refine acode_ordH rfl ?_;refine yS 0 rfl rfl rfl (by kernel_rfl) ?_;refine yS 2 rfl rfl rfl (by kernel_rfl) ?_;refine yS 3 rfl rfl rfl (by kernel_rfl) ?_;refine yS 4 rfl rfl rfl (by kernel_rfl) ?_;refine yS 5 rfl rfl rfl (by kernel_rfl) ?_;refine yS 6 rfl rfl rfl (by kernel_rfl) ?_;refine yS 7 rfl rfl rfl (by kernel_rfl) ?_;refine yS 8 rfl rfl rfl (by kernel_rfl) ?_;refine yS 9 rfl rfl rfl (by kernel_rfl) ?_;refine yS 10 rfl rfl rfl (by kernel_rfl) ?_;refine yS 11 rfl rfl rfl (by kernel_rfl) ?_;refine yS 12 rfl rfl rfl (by kernel_rfl) ?_;refine zai (by first|omega|assumption|decide|(simp only [];omega)|(simp <;> omega)) ?_;refine yS 13 rfl rfl rfl (by kernel_rfl) ?_;refine zai (by first|omega|assumption|decide|(simp only [];omega)|(simp <;> omega)) ?_;refine iQ 1 rfl rfl rfl (by kernel_rfl) ?_;refine aS 14 rfl rfl rfl (by kernel_rfl) ?_;refine aS 15 rfl rfl rfl (by kernel_rfl) ?_;refine aord2_done (by kernel_rfl) ?_;refine xR (tm':=[(7,.one (.own 0 0)),(9,.one (.own 2 0)),(13,.one (.own 1000004 0)),(14,.one (.own 1000005 0)),(92,.one (.sl rAct sc)),(93,ii .i64 sc.length),(94,ii .i64 i),(20,.one (.vec 2000009)),(21,.one (.sl rStz ([K.getD p ((0 : Int),([] : List Fld))])))]) (ob':=[(0,.box 83 [.vec 1,.lit (.int .i64 L.2.1),.lit (.int .i64 L.2.2)]),(1,.vec 87 rEnt L.1),(2,.box 33 [.sl rEnt L.1,.lit (.int .i64 L.2.1)]),(1000004,.box 95 [.sl (.sl qY) s,.sl rStz K,.lit (.int .i64 ((p : Int) + 1))]),(1000005,.box 43 [.sl (.sl qY) s,.sl rStz K,.lit (.int .i64 ((p : Int) + 1))]),(2000009,.vec 54 (rStz.kd 7) ([K.getD p ((0 : Int),([] : List Fld))]))]) (nx':=2000010) (qP ⟨rfl,rfl,rfl,rfl,rfl,rfl,rfl,rfl,(sl_eq (by show List.drop (if (p : Int) + 1 < p then (p : Int) + 1 else p).toNat (List.take ((if (p : Int) + 1 < p then (p : Int) + 1 else p) + 1).toNat K) = _;rw [if_neg (by omega),show ((p : Int) + 1).toNat = p + 1 by omega,Int.toNat_natCast];exact want_one hpl))⟩ ⟨rfl,rfl,rfl,rfl,rfl,rfl⟩ rfl) ?_;refine tail_one s sc i L K _ _ (rfl) ([K.getD p ((0 : Int),([] : List Fld))]) ([K.getD p ((0 : Int),([] : List Fld))]) rfl _ ?_;refine qH ?_;refine zob ?_;exact ⟨i + 1,by omega,by first|omega|(simp <;> omega),qP ⟨rfl,rfl,rfl,rfl,rfl,rfl,(qS (by omega))⟩ ⟨(zbox (hz1 (p + 1) h100 (if_pos hpl).symm)),(zvec (hz1 (p + 1) h100 (if_pos hpl).symm)),(zref (hz1 (p + 1) h100 (if_pos hpl).symm)),(zcrs (hz1 (p + 1) h100 (if_pos hpl).symm) (rfl)),(zcrs (hz1 (p + 1) h100 (if_pos hpl).symm) (rfl))⟩ rfl⟩
              · try simp only [zbq] at h145
                try simp only [zds] at h145
                simp at h145
          · refine xA ?_;refine qH ?_;refine Or.inr (Or.inl (zei [] (zei [1000004] (zei _ (zei _ (zei _ (zei _ (zei _ (zai (next0_end s K p (by omega) hKl) (zai rfl (zai (zai (zai rfl rfl) True.intro) (zai rfl ?_))))))))))));refine xA ?_;refine qB ?_;refine qB ?_;refine Or.inl ?_;refine zai (rfl) ?_;refine zei _ (zai (gA s K p (1) (0) hplc hKl (wZ hplc (by omega) (by omega) (by omega))) ?_);refine qB ?_;refine qI ?_;refine qB ?_;refine zai (fun h=>trivial) ?_;refine zai (fun h=>⟨⟨h,trivial⟩,trivial⟩) ?_;refine zai (fun h=>⟨⟨h,trivial⟩,trivial⟩) ?_;refine zai (fun h=>trivial) ?_;refine zai (fun h=>⟨⟨h,trivial⟩,trivial⟩) ?_;refine zai (fun h=>⟨⟨h,trivial⟩,trivial⟩) ?_;refine zai (fun h=>⟨⟨h,trivial⟩,trivial⟩) ?_;refine zai (fun h=>trivial) ?_;refine zai (fun h=>⟨⟨h,trivial⟩,trivial⟩) ?_;refine zai (fun h=>⟨⟨h,trivial⟩,trivial⟩) ?_;refine zai (fun h=>⟨⟨h,trivial⟩,trivial⟩) ?_;refine zai (fun h=>⟨⟨⟨h,trivial⟩,trivial⟩,by first|exact fun h2=>h2|(intro h2;rw [h,h2];rfl)|(intro h2;cases h2)|(intro h2;simp_all [gq])⟩) ?_;refine zai (fun h=>⟨⟨⟨h,trivial⟩,trivial⟩,by first|exact fun h2=>h2|(intro h2;rw [h,h2];rfl)|(intro h2;cases h2)|(intro h2;simp_all [gq])⟩) ?_;refine zai (by first|(intro h;rw [h];rfl)|(intro h;cases h)) ?_;refine qJ rfl (fun h144=>?_) (fun h144=>?_)
            · try simp only [decide_eq_false_iff_not,Bool.and_eq_true,Bool.not_eq_true',Bool.or_eq_true] at h144
              try simp only [zds] at h144
              simp at h144
            · try simp only [decide_eq_true_eq,Bool.not_eq_false',Bool.or_eq_false_iff,Bool.and_eq_false_iff] at h144
              try simp only [zds] at h144
              refine qL ?_;refine qB ?_;refine qJ rfl (fun h145=>?_) (fun h145=>?_)
              · try simp only [zbq] at h145
                try simp only [zds] at h145
                simp at h145
              · skip
                refine qL ?_;refine xR (tm':=[(7,.one (.own 0 0)),(9,.one (.own 2 0)),(13,.one (.own 1000004 0)),(14,.one (.own 1000005 0)),(92,.one (.sl rAct sc)),(93,ii .i64 sc.length),(94,ii .i64 i),(20,.one (.lit (.slice none 0 0))),(21,.one (.lit (.slice none 0 0)))]) (ob':=[(0,.box 83 [.vec 1,.lit (.int .i64 L.2.1),.lit (.int .i64 L.2.2)]),(1,.vec 87 rEnt L.1),(2,.box 33 [.sl rEnt L.1,.lit (.int .i64 L.2.1)]),(1000004,.box 95 [.sl (.sl qY) s,.sl rStz K,.lit (.int .i64 ((p : Int) + 0))]),(1000005,.box 43 [.sl (.sl qY) s,.sl rStz K,.lit (.int .i64 ((p : Int) + 0))])]) (nx':=1000006) (qP ⟨rfl,rfl,rfl,rfl,rfl,rfl,rfl,rfl,rfl⟩ ⟨rfl,rfl,rfl,rfl,rfl⟩ rfl) ?_;refine uH s sc i L K _ _ (rfl) _ ?_;refine qH ?_;refine zob ?_;exact ⟨i + 1,by omega,by first|omega|(simp <;> omega),qP ⟨rfl,rfl,rfl,rfl,rfl,rfl,(qS (by omega))⟩ ⟨(zbox (hz1 p h100 (if_neg (by omega)).symm)),(zvec (hz1 p h100 (if_neg (by omega)).symm)),(zref (hz1 p h100 (if_neg (by omega)).symm)),(zcrs (hz1 p h100 (if_neg (by omega)).symm) (by omega)),(zcrs (hz1 p h100 (if_neg (by omega)).symm) (by omega))⟩ rfl⟩
      · try simp only [decide_eq_false_iff_not] at h100
        try simp only [Int.toNat_natCast,qG,qF,qD] at h100
        exact absurd (by assumption) h100
    · try simp only [decide_eq_false_iff_not] at h100
      try simp only [Int.toNat_natCast,qG,qF,qD] at h100
      refine qH ?_;refine xW rfl (fun h100=>?_) (fun h100=>?_)
      · try simp only [decide_eq_true_eq] at h100
        try simp only [Int.toNat_natCast,qG,qF,qD] at h100
        refine yZ (by kernel_rfl) ?_;refine xA ?_;refine qH ?_;refine yZ (by kernel_rfl) ?_;refine xA ?_;refine qH ?_;refine yZ (by kernel_rfl) ?_;refine yZ (by kernel_rfl) ?_;refine xA ?_;refine qH ?_;refine xW rfl (fun h106=>?_) (fun h106=>?_)
        · try simp only [decide_eq_true_eq] at h106
          try simp only [Int.toNat_natCast,qG,qF,qD] at h106
          refine yZ (by kernel_rfl) ?_;refine xA ?_;refine qH ?_;rcases Nat.lt_or_ge 0 p with hpl|hpl
          · refine wD 1 rfl rfl rfl rfl ?_;refine zei [1000004] (zei _ (zei _ (zei _ (zei _ (zei _ (zai (prev9_at s K p hpl hplc hKl hfl) (zai rfl (zai (zai (zai rfl rfl) True.intro) (zai rfl ?_)))))))));refine qB ?_;refine qB ?_;refine Or.inl ?_;refine zai (rfl) ?_;refine zei _ (zai (gA s K p (-1) (-1) hplc hKl (wZ hplc (by omega) (by omega) (by omega))) ?_);refine qB ?_;refine qI ?_;refine qB ?_;refine zai (fun h=>trivial) ?_;refine zai (fun h=>⟨⟨h,trivial⟩,trivial⟩) ?_;refine zai (fun h=>⟨⟨h,trivial⟩,trivial⟩) ?_;refine zai (fun h=>trivial) ?_;refine zai (fun h=>⟨⟨h,trivial⟩,trivial⟩) ?_;refine zai (fun h=>⟨⟨h,trivial⟩,trivial⟩) ?_;refine zai (fun h=>⟨⟨h,trivial⟩,trivial⟩) ?_;refine zai (fun h=>trivial) ?_;refine zai (fun h=>⟨⟨h,trivial⟩,trivial⟩) ?_;refine zai (fun h=>⟨⟨h,trivial⟩,trivial⟩) ?_;refine zai (fun h=>⟨⟨h,trivial⟩,trivial⟩) ?_;refine zai (fun h=>⟨⟨⟨h,trivial⟩,trivial⟩,by first|exact fun h2=>h2|(intro h2;rw [h,h2];rfl)|(intro h2;cases h2)|(intro h2;simp_all [gq])⟩) ?_;refine zai (fun h=>⟨⟨⟨h,trivial⟩,trivial⟩,by first|exact fun h2=>h2|(intro h2;rw [h,h2];rfl)|(intro h2;cases h2)|(intro h2;simp_all [gq])⟩) ?_;refine zai (by first|(intro h;rw [h];rfl)|(intro h;cases h)) ?_;refine qJ rfl (fun h144=>?_) (fun h144=>?_)
            · try simp only [decide_eq_false_iff_not,Bool.and_eq_true,Bool.not_eq_true',Bool.or_eq_true] at h144
              try simp only [zds] at h144
              simp at h144
            · try simp only [decide_eq_true_eq,Bool.not_eq_false',Bool.or_eq_false_iff,Bool.and_eq_false_iff] at h144
              try simp only [zds] at h144
              refine qL ?_;refine qB ?_;refine qJ rfl (fun h145=>?_) (fun h145=>?_)
              · skip
                refine acode_ordH rfl ?_;refine yS 0 rfl rfl rfl (by kernel_rfl) ?_;refine yS 2 rfl rfl rfl (by kernel_rfl) ?_;refine yS 3 rfl rfl rfl (by kernel_rfl) ?_;refine yS 4 rfl rfl rfl (by kernel_rfl) ?_;refine yS 5 rfl rfl rfl (by kernel_rfl) ?_;refine yS 6 rfl rfl rfl (by kernel_rfl) ?_;refine yS 7 rfl rfl rfl (by kernel_rfl) ?_;refine yS 8 rfl rfl rfl (by kernel_rfl) ?_;refine yS 9 rfl rfl rfl (by kernel_rfl) ?_;refine yS 10 rfl rfl rfl (by kernel_rfl) ?_;refine yS 11 rfl rfl rfl (by kernel_rfl) ?_;refine yS 12 rfl rfl rfl (by kernel_rfl) ?_;refine zai (by first|omega|assumption|decide|(simp only [];omega)|(simp <;> omega)) ?_;refine yS 13 rfl rfl rfl (by kernel_rfl) ?_;refine zai (by first|omega|assumption|decide|(simp only [];omega)|(simp <;> omega)) ?_;refine iQ 1 rfl rfl rfl (by kernel_rfl) ?_;refine aS 14 rfl rfl rfl (by kernel_rfl) ?_;refine aS 15 rfl rfl rfl (by kernel_rfl) ?_;refine aord2_done (by kernel_rfl) ?_;refine xR (tm':=[(7,.one (.own 0 0)),(9,.one (.own 2 0)),(13,.one (.own 1000004 0)),(14,.one (.own 1000005 0)),(92,.one (.sl rAct sc)),(93,ii .i64 sc.length),(94,ii .i64 i),(20,.one (.vec 2000009)),(21,.one (.sl rStz ([K.getD (p - 1) ((0 : Int),([] : List Fld))])))]) (ob':=[(0,.box 83 [.vec 1,.lit (.int .i64 L.2.1),.lit (.int .i64 L.2.2)]),(1,.vec 87 rEnt L.1),(2,.box 33 [.sl rEnt L.1,.lit (.int .i64 L.2.1)]),(1000004,.box 95 [.sl (.sl qY) s,.sl rStz K,.lit (.int .i64 ((p : Int) + -1))]),(1000005,.box 43 [.sl (.sl qY) s,.sl rStz K,.lit (.int .i64 ((p : Int) + -1))]),(2000009,.vec 54 (rStz.kd 7) ([K.getD (p - 1) ((0 : Int),([] : List Fld))]))]) (nx':=2000010) (qP ⟨rfl,rfl,rfl,rfl,rfl,rfl,rfl,rfl,(sl_eq (by show List.drop (if (p : Int) + -1 < p then (p : Int) + -1 else p).toNat (List.take ((if (p : Int) + -1 < p then (p : Int) + -1 else p) + 1).toNat K) = _;rw [if_pos (by omega),show ((p : Int) + -1 + 1).toNat = p - 1 + 1 by omega,show ((p : Int) + -1).toNat = p - 1 by omega];exact want_one (by omega)))⟩ ⟨rfl,rfl,rfl,rfl,rfl,rfl⟩ rfl) ?_;refine tail_one s sc i L K _ _ (rfl) ([K.getD (p - 1) ((0 : Int),([] : List Fld))]) ([K.getD (p - 1) ((0 : Int),([] : List Fld))]) rfl _ ?_;refine qH ?_;refine zob ?_;exact ⟨i + 1,by omega,by first|omega|(simp <;> omega),qP ⟨rfl,rfl,rfl,rfl,rfl,rfl,(qS (by omega))⟩ ⟨(zbox (hz2 h100)),(zvec (hz2 h100)),(zref (hz2 h100)),(zcrs (hz2 h100) (by omega)),(zcrs (hz2 h100) (by omega))⟩ rfl⟩
              · try simp only [zbq] at h145
                try simp only [zds] at h145
                simp at h145
          · refine xA ?_;refine qH ?_;refine Or.inr (Or.inl (zei [] (zei [1000004] (zei _ (zei _ (zei _ (zei _ (zei _ (zai (prev0_start s K p (by omega) hKl) (zai rfl (zai (zai (zai rfl rfl) True.intro) (zai rfl ?_))))))))))));refine xA ?_;refine qB ?_;refine qB ?_;refine Or.inl ?_;refine zai (rfl) ?_;refine zei _ (zai (gA s K p (-1) (0) hplc hKl (wZ hplc (by omega) (by omega) (by omega))) ?_);refine qB ?_;refine qI ?_;refine qB ?_;refine zai (fun h=>trivial) ?_;refine zai (fun h=>⟨⟨h,trivial⟩,trivial⟩) ?_;refine zai (fun h=>⟨⟨h,trivial⟩,trivial⟩) ?_;refine zai (fun h=>trivial) ?_;refine zai (fun h=>⟨⟨h,trivial⟩,trivial⟩) ?_;refine zai (fun h=>⟨⟨h,trivial⟩,trivial⟩) ?_;refine zai (fun h=>⟨⟨h,trivial⟩,trivial⟩) ?_;refine zai (fun h=>trivial) ?_;refine zai (fun h=>⟨⟨h,trivial⟩,trivial⟩) ?_;refine zai (fun h=>⟨⟨h,trivial⟩,trivial⟩) ?_;refine zai (fun h=>⟨⟨h,trivial⟩,trivial⟩) ?_;refine zai (fun h=>⟨⟨⟨h,trivial⟩,trivial⟩,by first|exact fun h2=>h2|(intro h2;rw [h,h2];rfl)|(intro h2;cases h2)|(intro h2;simp_all [gq])⟩) ?_;refine zai (fun h=>⟨⟨⟨h,trivial⟩,trivial⟩,by first|exact fun h2=>h2|(intro h2;rw [h,h2];rfl)|(intro h2;cases h2)|(intro h2;simp_all [gq])⟩) ?_;refine zai (by first|(intro h;rw [h];rfl)|(intro h;cases h)) ?_;refine qJ rfl (fun h144=>?_) (fun h144=>?_)
            · try simp only [decide_eq_false_iff_not,Bool.and_eq_true,Bool.not_eq_true',Bool.or_eq_true] at h144
              try simp only [zds] at h144
              simp at h144
            · try simp only [decide_eq_true_eq,Bool.not_eq_false',Bool.or_eq_false_iff,Bool.and_eq_false_iff] at h144
              try simp only [zds] at h144
              refine qL ?_;refine qB ?_;refine qJ rfl (fun h145=>?_) (fun h145=>?_)
              · try simp only [zbq] at h145
                try simp only [zds] at h145
                simp at h145
              · skip
                refine qL ?_;refine xR (tm':=[(7,.one (.own 0 0)),(9,.one (.own 2 0)),(13,.one (.own 1000004 0)),(14,.one (.own 1000005 0)),(92,.one (.sl rAct sc)),(93,ii .i64 sc.length),(94,ii .i64 i),(20,.one (.lit (.slice none 0 0))),(21,.one (.lit (.slice none 0 0)))]) (ob':=[(0,.box 83 [.vec 1,.lit (.int .i64 L.2.1),.lit (.int .i64 L.2.2)]),(1,.vec 87 rEnt L.1),(2,.box 33 [.sl rEnt L.1,.lit (.int .i64 L.2.1)]),(1000004,.box 95 [.sl (.sl qY) s,.sl rStz K,.lit (.int .i64 ((p : Int) + 0))]),(1000005,.box 43 [.sl (.sl qY) s,.sl rStz K,.lit (.int .i64 ((p : Int) + 0))])]) (nx':=1000006) (qP ⟨rfl,rfl,rfl,rfl,rfl,rfl,rfl,rfl,rfl⟩ ⟨rfl,rfl,rfl,rfl,rfl⟩ rfl) ?_;refine uH s sc i L K _ _ (rfl) _ ?_;refine qH ?_;refine zob ?_;exact ⟨i + 1,by omega,by first|omega|(simp <;> omega),qP ⟨rfl,rfl,rfl,rfl,rfl,rfl,(qS (by omega))⟩ ⟨(zbox (hz2 h100)),(zvec (hz2 h100)),(zref (hz2 h100)),(zcrs (hz2 h100) (by omega)),(zcrs (hz2 h100) (by omega))⟩ rfl⟩
        · try simp only [decide_eq_false_iff_not] at h106
          try simp only [Int.toNat_natCast,qG,qF,qD] at h106
          exfalso
          omega
      · try simp only [decide_eq_false_iff_not] at h100
        try simp only [Int.toNat_natCast,qG,qF,qD] at h100
        refine xA ?_;refine qB ?_;refine qJ rfl (fun h160=>?_) (fun h160=>?_)
        · try simp only [decide_eq_true_eq] at h160
          try simp only [Int.toNat_natCast,qG,qF,qD] at h160
          refine qB ?_;refine Or.inl ?_;refine zai (rfl) ?_;refine zei _ (zai (skipD_c s K p (sc.getD i ((0 : Int),(0 : Int),((0 : Int),(0 : Int),([] : List Fld)))).2.1 hplc hKl) ?_);refine qB ?_;refine qB ?_;refine Or.inr (Or.inl (zei [] (zei [1000004] (zei _ (zei _ (zei _ (zei _ (zei _ (zai (skipA_o s K p (sc.getD i ((0 : Int),(0 : Int),((0 : Int),(0 : Int),([] : List Fld)))).2.1 (by omega) hKl) (zai rfl (zai (zai (zai rfl rfl) True.intro) (zai rfl ?_))))))))))));refine qJ rfl (fun h175=>?_) (fun h175=>?_)
          · try simp only [decide_eq_false_iff_not,Bool.not_eq_true'] at h175
            try simp only [zds] at h175
            simp at h175
          · try simp only [decide_eq_true_eq,Bool.not_eq_false'] at h175
            try simp only [zds] at h175
            refine qL ?_;refine xR (tm':=[(7,.one (.own 0 0)),(9,.one (.own 2 0)),(13,.one (.own 1000004 0)),(14,.one (.own 1000005 0)),(92,.one (.sl rAct sc)),(93,ii .i64 sc.length),(94,ii .i64 i),(20,.one (.lit (.slice none 0 0))),(21,.one (.lit (.slice none 0 0)))]) (ob':=[(0,.box 83 [.vec 1,.lit (.int .i64 L.2.1),.lit (.int .i64 L.2.2)]),(1,.vec 87 rEnt L.1),(2,.box 33 [.sl rEnt L.1,.lit (.int .i64 L.2.1)]),(1000004,.box 95 [.sl (.sl qY) s,.sl rStz K,.lit (.int .i64 ((p : Int) + xP p K.length (sc.getD i ((0 : Int),(0 : Int),((0 : Int),(0 : Int),([] : List Fld)))).2.1))]),(1000005,.box 43 [.sl (.sl qY) s,.sl rStz K,.lit (.int .i64 ((p : Int) + xP p K.length (sc.getD i ((0 : Int),(0 : Int),((0 : Int),(0 : Int),([] : List Fld)))).2.1))])]) (nx':=1000006) (qP ⟨rfl,rfl,rfl,rfl,rfl,rfl,rfl,rfl,rfl⟩ ⟨rfl,rfl,rfl,rfl,rfl⟩ rfl) ?_;refine uH s sc i L K _ _ (rfl) _ ?_;refine qH ?_;refine zob ?_;exact ⟨i + 1,by omega,by first|omega|(simp <;> omega),qP ⟨rfl,rfl,rfl,rfl,rfl,rfl,(qS (by omega))⟩ ⟨(zbox (hz3 h160)),(zvec (hz3 h160)),(zref (hz3 h160)),(zcrs (hz3 h160) (by have:=skip_rng p K.length (sc.getD i ((0 : Int),(0 : Int),((0 : Int),(0 : Int),([] : List Fld)))).2.1 ⟨by omega,by omega⟩;omega)),(zcrs (hz3 h160) (by have:=skip_rng p K.length (sc.getD i ((0 : Int),(0 : Int),((0 : Int),(0 : Int),([] : List Fld)))).2.1 ⟨by omega,by omega⟩;omega))⟩ rfl⟩
        · try simp only [decide_eq_false_iff_not] at h160
          try simp only [Int.toNat_natCast,qG,qF,qD] at h160
          refine qB ?_;refine qJ rfl (fun h176=>?_) (fun h176=>?_)
          · try simp only [decide_eq_true_eq] at h176
            try simp only [Int.toNat_natCast,qG,qF,qD] at h176
            refine qI ?_;rcases (show ixOf (isId (sc.getD i ((0 : Int),(0 : Int),((0 : Int),(0 : Int),([] : List Fld)))).2.1) K < 0 ∨ 0 ≤ ixOf (isId (sc.getD i ((0 : Int),(0 : Int),((0 : Int),(0 : Int),([] : List Fld)))).2.1) K by omega) with hsx|hsx
            · refine qH ?_;refine Or.inl ?_;refine zai (rfl) ?_;refine zei _ (zai (seekR_no s K p (sc.getD i ((0 : Int),(0 : Int),((0 : Int),(0 : Int),([] : List Fld)))).2.1 hKl hsx) ?_);refine qB ?_;refine qB ?_;refine Or.inr (Or.inl (zei [] (zei [1000004] (zei _ (zei _ (zei _ (zei _ (zei _ (zai (seek_no s K p (sc.getD i ((0 : Int),(0 : Int),((0 : Int),(0 : Int),([] : List Fld)))).2.1 hsx) (zai rfl (zai (zai (zai rfl rfl) True.intro) (zai rfl ?_))))))))))));refine qJ rfl (fun h191=>?_) (fun h191=>?_)
              · try simp only [Bool.not_eq_true'] at h191
                try simp only [zds] at h191
                simp at h191
              · try simp only [Bool.not_eq_false'] at h191
                try simp only [zds] at h191
                refine qL ?_;refine xR (tm':=[(7,.one (.own 0 0)),(9,.one (.own 2 0)),(13,.one (.own 1000004 0)),(14,.one (.own 1000005 0)),(92,.one (.sl rAct sc)),(93,ii .i64 sc.length),(94,ii .i64 i),(20,.one (.lit (.slice none 0 0))),(21,.one (.lit (.slice none 0 0)))]) (ob':=[(0,.box 83 [.vec 1,.lit (.int .i64 L.2.1),.lit (.int .i64 L.2.2)]),(1,.vec 87 rEnt L.1),(2,.box 33 [.sl rEnt L.1,.lit (.int .i64 L.2.1)]),(1000004,.box 95 [.sl (.sl qY) s,.sl rStz K,.lit (.int .i64 ((p : Int)))]),(1000005,.box 43 [.sl (.sl qY) s,.sl rStz K,.lit (.int .i64 ((p : Int)))])]) (nx':=1000006) (qP ⟨rfl,rfl,rfl,rfl,rfl,rfl,rfl,rfl,rfl⟩ ⟨rfl,rfl,rfl,rfl,rfl⟩ rfl) ?_;refine uH s sc i L K _ _ (rfl) _ ?_;refine qH ?_;refine zob ?_;exact ⟨i + 1,by omega,by first|omega|(simp <;> omega),qP ⟨rfl,rfl,rfl,rfl,rfl,rfl,(qS (by omega))⟩ ⟨(zbox (hz4 p h176 (if_pos hsx).symm)),(zvec (hz4 p h176 (if_pos hsx).symm)),(zref (hz4 p h176 (if_pos hsx).symm)),(zcrs (hz4 p h176 (if_pos hsx).symm) (rfl)),(zcrs (hz4 p h176 (if_pos hsx).symm) (rfl))⟩ rfl⟩
            · refine qH ?_;refine Or.inl ?_;refine zai (rfl) ?_;refine zei _ (zai (seekR_yes s K p (sc.getD i ((0 : Int),(0 : Int),((0 : Int),(0 : Int),([] : List Fld)))).2.1 hKl hsx) ?_);refine qB ?_;refine qB ?_;refine Or.inr (Or.inl (zei [] (zei [1000004] (zei _ (zei _ (zei _ (zei _ (zei _ (zai (seek_yes s K p (sc.getD i ((0 : Int),(0 : Int),((0 : Int),(0 : Int),([] : List Fld)))).2.1 _ rfl hsx) (zai rfl (zai (zai (zai rfl rfl) True.intro) (zai rfl ?_))))))))))));refine qJ rfl (fun h191=>?_) (fun h191=>?_)
              · try simp only [Bool.not_eq_true'] at h191
                try simp only [zds] at h191
                simp at h191
              · try simp only [Bool.not_eq_false'] at h191
                try simp only [zds] at h191
                refine qL ?_;refine xR (tm':=[(7,.one (.own 0 0)),(9,.one (.own 2 0)),(13,.one (.own 1000004 0)),(14,.one (.own 1000005 0)),(92,.one (.sl rAct sc)),(93,ii .i64 sc.length),(94,ii .i64 i),(20,.one (.lit (.slice none 0 0))),(21,.one (.lit (.slice none 0 0)))]) (ob':=[(0,.box 83 [.vec 1,.lit (.int .i64 L.2.1),.lit (.int .i64 L.2.2)]),(1,.vec 87 rEnt L.1),(2,.box 33 [.sl rEnt L.1,.lit (.int .i64 L.2.1)]),(1000004,.box 95 [.sl (.sl qY) s,.sl rStz K,.lit (.int .i64 (ixOf (isId (sc.getD i ((0 : Int),(0 : Int),((0 : Int),(0 : Int),([] : List Fld)))).2.1) K))]),(1000005,.box 43 [.sl (.sl qY) s,.sl rStz K,.lit (.int .i64 (ixOf (isId (sc.getD i ((0 : Int),(0 : Int),((0 : Int),(0 : Int),([] : List Fld)))).2.1) K))])]) (nx':=1000006) (qP ⟨rfl,rfl,rfl,rfl,rfl,rfl,rfl,rfl,rfl⟩ ⟨rfl,rfl,rfl,rfl,rfl⟩ rfl) ?_;refine uH s sc i L K _ _ (rfl) _ ?_;refine qH ?_;refine zob ?_;exact ⟨i + 1,by omega,by first|omega|(simp <;> omega),qP ⟨rfl,rfl,rfl,rfl,rfl,rfl,(qS (by omega))⟩ ⟨(zbox (hz4 _ h176 (if_neg (by omega)).symm)),(zvec (hz4 _ h176 (if_neg (by omega)).symm)),(zref (hz4 _ h176 (if_neg (by omega)).symm)),(zcrs (hz4 _ h176 (if_neg (by omega)).symm) (by omega)),(zcrs (hz4 _ h176 (if_neg (by omega)).symm) (by omega))⟩ rfl⟩
          · try simp only [decide_eq_false_iff_not] at h176
            try simp only [Int.toNat_natCast,qG,qF,qD] at h176
            refine qB ?_;refine qJ rfl (fun h192=>?_) (fun h192=>?_)
            · try simp only [decide_eq_true_eq] at h192
              try simp only [Int.toNat_natCast,qG,qF,qD] at h192
              exact absurd h192 h5
            · try simp only [decide_eq_false_iff_not] at h192
              try simp only [Int.toNat_natCast,qG,qF,qD] at h192
              refine qB ?_;refine qJ rfl (fun h224=>?_) (fun h224=>?_)
              · try simp only [decide_eq_true_eq] at h224
                try simp only [Int.toNat_natCast,qG,qF,qD] at h224
                exact absurd h224 h6
              · try simp only [decide_eq_false_iff_not] at h224
                try simp only [Int.toNat_natCast,qG,qF,qD] at h224
                refine qL ?_;refine xR (tm':=[(7,.one (.own 0 0)),(9,.one (.own 2 0)),(13,.one (.own 1000004 0)),(14,.one (.own 1000005 0)),(92,.one (.sl rAct sc)),(93,ii .i64 sc.length),(94,ii .i64 i),(20,.one (.lit (.slice none 0 0))),(21,.one (.lit (.slice none 0 0)))]) (ob':=[(0,.box 83 [.vec 1,.lit (.int .i64 L.2.1),.lit (.int .i64 L.2.2)]),(1,.vec 87 rEnt L.1),(2,.box 33 [.sl rEnt L.1,.lit (.int .i64 L.2.1)]),(1000004,.box 95 [.sl (.sl qY) s,.sl rStz K,.lit (.int .i64 ((p : Int)))]),(1000005,.box 43 [.sl (.sl qY) s,.sl rStz K,.lit (.int .i64 ((p : Int)))])]) (nx':=1000006) (qP ⟨rfl,rfl,rfl,rfl,rfl,rfl,rfl,rfl,rfl⟩ ⟨rfl,rfl,rfl,rfl,rfl⟩ rfl) ?_;refine uH s sc i L K _ _ (rfl) _ ?_;refine qH ?_;refine zob ?_;exact ⟨i + 1,by omega,by first|omega|(simp <;> omega),qP ⟨rfl,rfl,rfl,rfl,rfl,rfl,(qS (by omega))⟩ ⟨(zbox (hsn.trans (cstA_0 s _ (by omega) (by omega) (by omega) (by omega) (by omega) (by omega)))),(zvec (hsn.trans (cstA_0 s _ (by omega) (by omega) (by omega) (by omega) (by omega) (by omega)))),(zref (hsn.trans (cstA_0 s _ (by omega) (by omega) (by omega) (by omega) (by omega) (by omega)))),(zcrs (hsn.trans (cstA_0 s _ (by omega) (by omega) (by omega) (by omega) (by omega) (by omega))) (rfl)),(zcrs (hsn.trans (cstA_0 s _ (by omega) (by omega) (by omega) (by omega) (by omega) (by omega))) (rfl))⟩ rfl⟩
  · try simp only [decide_eq_false_iff_not,Int.not_lt] at h95
    try simp only [zds] at h95
    exfalso
    omega
theorem round_rest (s : List (List Term)) (hso : QQ.SelOk s) (sc : List Act9) (q0 : CSt) (i c : Nat) (hil : i < sc.length) (h40 : sc.length ≤ 40) (hc : c ≤ 20000) (L : Lst) (K : List Stz) (p : Nat) (hq : cstR s q0 sc i = (L,K,p)) (hin : CInv c (L,K,p)) (hfe : yP (sc.getD i ((0 : Int),(0 : Int),((0 : Int),(0 : Int),([] : List Fld)))).2.2.2.2) (hk : (sc.getD i ((0 : Int),(0 : Int),((0 : Int),(0 : Int),([] : List Fld)))).1 = 5) (hm : 1 ≤ (sc.getD i ((0 : Int),(0 : Int),((0 : Int),(0 : Int),([] : List Fld)))).2.1 ∧ (sc.getD i ((0 : Int),(0 : Int),((0 : Int),(0 : Int),([] : List Fld)))).2.1 ≤ (K.length : Int) - p) (mo : Nat) (hmo : (sc.getD i ((0 : Int),(0 : Int),((0 : Int),(0 : Int),([] : List Fld)))).2.1 = (mo : Int)) : RoundX s sc q0 i L K p:=by
  intro Q;have hsn:=zR s q0 hil;rw [hq] at hsn;obtain ⟨hlz,hplc,hKl,hfl,hf1,hdl⟩:=aP hin hc;have hz : cstR s q0 sc (i + 1) = (L,K,p + mo):=by
    rw [hsn,cstA_5 s _ hk];unfold restN;simp only [if_pos hm];rw [hmo,Int.toNat_natCast]
  have hrb:=restB9_o s K p hplc hKl hf1 mo (by omega);rw [← hmo] at hrb;have hmt : (sc.getD i ((0 : Int),(0 : Int),((0 : Int),(0 : Int),([] : List Fld)))).2.1.toNat = mo:=by omega
  refine qB ?_;refine qI ?_;refine qJ rfl (fun h95=>?_) (fun h95=>?_)
  · try simp only [decide_eq_true_eq] at h95
    try simp only [zds] at h95
    refine qL ?_;refine qI ?_;refine qN ?_;refine qB ?_;refine zob ?_;refine qB ?_;show qZ _ _ _ _ _ _ _ _ _;refine aT [7,9,13,14,92,93,94] [0,1,2,1000004,1000005] rfl (by kernel_rfl) ?_;refine yZ (by kernel_rfl) ?_;refine xA ?_;refine qH ?_;refine aX ?_;refine yZ (by kernel_rfl) ?_;refine xA ?_;refine qB ?_;refine qJ rfl (fun h100=>?_) (fun h100=>?_)
    · try simp only [decide_eq_true_eq] at h100
      try simp only [Int.toNat_natCast,qG,qF,qD] at h100
      exfalso
      omega
    · try simp only [decide_eq_false_iff_not] at h100
      try simp only [Int.toNat_natCast,qG,qF,qD] at h100
      refine qH ?_;refine xW rfl (fun h100=>?_) (fun h100=>?_)
      · try simp only [decide_eq_true_eq] at h100
        try simp only [Int.toNat_natCast,qG,qF,qD] at h100
        exfalso
        omega
      · try simp only [decide_eq_false_iff_not] at h100
        try simp only [Int.toNat_natCast,qG,qF,qD] at h100
        refine yZ (by kernel_rfl) ?_;refine xA ?_;refine qH ?_;refine xW rfl (fun h160=>?_) (fun h160=>?_)
        · try simp only [decide_eq_true_eq] at h160
          try simp only [Int.toNat_natCast,qG,qF,qD] at h160
          exfalso
          omega
        · try simp only [decide_eq_false_iff_not] at h160
          try simp only [Int.toNat_natCast,qG,qF,qD] at h160
          refine yZ (by kernel_rfl) ?_;refine xA ?_;refine qH ?_;refine xW rfl (fun h176=>?_) (fun h176=>?_)
          · try simp only [decide_eq_true_eq] at h176
            try simp only [Int.toNat_natCast,qG,qF,qD] at h176
            exfalso
            omega
          · try simp only [decide_eq_false_iff_not] at h176
            try simp only [Int.toNat_natCast,qG,qF,qD] at h176
            refine yZ (by kernel_rfl) ?_;refine xA ?_;refine qH ?_;refine xW rfl (fun h192=>?_) (fun h192=>?_)
            · try simp only [decide_eq_true_eq] at h192
              try simp only [Int.toNat_natCast,qG,qF,qD] at h192
              refine yZ (by kernel_rfl) ?_;refine wD 3 rfl rfl rfl rfl ?_;refine zei [1000004] (zei _ (zei _ (zei _ (zei _ (zei _ (zai (hrb) (zai rfl (zai (zai (zai rfl rfl) True.intro) (zai rfl ?_)))))))));refine qB ?_;refine zob ?_;refine qI ?_;refine qB ?_;refine zai (fun h=>trivial) ?_;refine zai (fun h=>⟨⟨h,trivial⟩,trivial⟩) ?_;refine zai (fun h=>trivial) ?_;refine zai (fun h=>⟨⟨h,trivial⟩,trivial⟩) ?_;refine zai (fun h=>⟨⟨h,trivial⟩,⟨h,trivial⟩,trivial⟩) ?_;refine zai (by exact fun h=>h) ?_;refine qJ rfl (fun h212=>?_) (fun h212=>?_)
              · try simp only [decide_eq_true_eq,Bool.and_eq_true] at h212
                try simp only [Int.toNat_natCast,qG,qF,qD] at h212
                refine qH ?_;refine zai (by first|omega|assumption|decide|(simp only [Int.toNat_natCast,qG,qF,qD];omega)|(simp <;> omega)) ?_;refine qH ?_;intro l55_2
                try simp only [Int.toNat_natCast,qG,qF,qD] at l55_2
                refine Or.inl ?_;refine zai (rfl) ?_;refine zei _ (zai (gA s K p _ mo hplc hKl (wZ hplc (by omega) (by omega) (.inl (by simp only [Int.toNat_natCast,List.length_take,List.length_drop,show rAct.dflt = ((0 : Int),(0 : Int),((0 : Int),(0 : Int),([] : List Fld))) from rfl];omega)))) ?_);refine xR (tm':=[(7,.one (.own 0 0)),(9,.one (.own 2 0)),(13,.one (.own 1000004 0)),(14,.one (.own 1000005 0)),(92,.one (.sl rAct sc)),(93,ii .i64 sc.length),(94,ii .i64 i),(20,.one (.vec 1000008)),(21,.one (.sl rStz ((K.drop p).take mo)))]) (ob':=[(0,.box 83 [.vec 1,.lit (.int .i64 L.2.1),.lit (.int .i64 L.2.2)]),(1,.vec 87 rEnt L.1),(2,.box 33 [.sl rEnt L.1,.lit (.int .i64 L.2.1)]),(1000004,.box 95 [.sl (.sl qY) s,.sl rStz K,.lit (.int .i64 (((p + mo : Nat) : Int)))]),(1000005,.box 43 [.sl (.sl qY) s,.sl rStz K,.lit (.int .i64 ((p : Int) + mo))]),(1000008,.vec 54 (rStz.kd 7) ((K.drop p).take mo))]) (nx':=2000010) (qP ⟨rfl,rfl,rfl,rfl,rfl,rfl,rfl,rfl,(sl_eq (by first|(show (K.drop (p : Int).toNat).take (sc.getD i ((0 : Int),(0 : Int),((0 : Int),(0 : Int),([] : List Fld)))).2.1.toNat = _;rw [hmt];rfl)|exact (show (K.drop p).take mo = K.drop p from List.take_of_length_le (by omega)).symm))⟩ ⟨rfl,rfl,rfl,rfl,rfl,rfl⟩ rfl) ?_;refine fP s sc i L K _ _ (by omega) ((K.drop p).take mo) ((K.drop p).take mo) rfl _ ?_;refine qH ?_;refine zob ?_;exact ⟨i + 1,by omega,by first|omega|(simp <;> omega),qP ⟨rfl,rfl,rfl,rfl,rfl,rfl,(qS (by omega))⟩ ⟨(zbox hz),(zvec hz),(zref hz),(zcrs hz (rfl)),(zcrs hz (by omega))⟩ rfl⟩
              · try simp only [decide_eq_false_iff_not,Bool.and_eq_false_iff,Int.not_lt] at h212
                try simp only [Int.toNat_natCast,qG,qF,qD] at h212
                refine qL ?_;refine qH ?_;intro l55_2
                try simp only [Int.toNat_natCast] at l55_2
                refine Or.inl ?_;refine zai (rfl) ?_;refine zei _ (zai (gA s K p _ mo hplc hKl (wZ hplc (by omega) (by omega) (.inl (by simp only [Int.toNat_natCast,List.length_drop];omega)))) ?_);refine xR (tm':=[(7,.one (.own 0 0)),(9,.one (.own 2 0)),(13,.one (.own 1000004 0)),(14,.one (.own 1000005 0)),(92,.one (.sl rAct sc)),(93,ii .i64 sc.length),(94,ii .i64 i),(20,.one (.vec 1000008)),(21,.one (.sl rStz ((K.drop p).take mo)))]) (ob':=[(0,.box 83 [.vec 1,.lit (.int .i64 L.2.1),.lit (.int .i64 L.2.2)]),(1,.vec 87 rEnt L.1),(2,.box 33 [.sl rEnt L.1,.lit (.int .i64 L.2.1)]),(1000004,.box 95 [.sl (.sl qY) s,.sl rStz K,.lit (.int .i64 (((p + mo : Nat) : Int)))]),(1000005,.box 43 [.sl (.sl qY) s,.sl rStz K,.lit (.int .i64 ((p : Int) + mo))]),(1000008,.vec 54 (rStz.kd 7) ((K.drop p).take mo))]) (nx':=2000010) (qP ⟨rfl,rfl,rfl,rfl,rfl,rfl,rfl,rfl,(sl_eq (by first|(show (K.drop (p : Int).toNat).take (sc.getD i ((0 : Int),(0 : Int),((0 : Int),(0 : Int),([] : List Fld)))).2.1.toNat = _;rw [hmt];rfl)|exact (show (K.drop p).take mo = K.drop p from List.take_of_length_le (by omega)).symm))⟩ ⟨rfl,rfl,rfl,rfl,rfl,rfl⟩ rfl) ?_;refine fP s sc i L K _ _ (by omega) ((K.drop p).take mo) ((K.drop p).take mo) rfl _ ?_;refine qH ?_;refine zob ?_;exact ⟨i + 1,by omega,by first|omega|(simp <;> omega),qP ⟨rfl,rfl,rfl,rfl,rfl,rfl,(qS (by omega))⟩ ⟨(zbox hz),(zvec hz),(zref hz),(zcrs hz (rfl)),(zcrs hz (by omega))⟩ rfl⟩
            · try simp only [decide_eq_false_iff_not] at h192
              try simp only [Int.toNat_natCast,qG,qF,qD] at h192
              exfalso
              omega
  · try simp only [decide_eq_false_iff_not,Int.not_lt] at h95
    try simp only [zds] at h95
    exfalso
    omega
theorem round_rest0 (s : List (List Term)) (hso : QQ.SelOk s) (sc : List Act9) (q0 : CSt) (i c : Nat) (hil : i < sc.length) (h40 : sc.length ≤ 40) (hc : c ≤ 20000) (L : Lst) (K : List Stz) (p : Nat) (hq : cstR s q0 sc i = (L,K,p)) (hin : CInv c (L,K,p)) (hfe : yP (sc.getD i ((0 : Int),(0 : Int),((0 : Int),(0 : Int),([] : List Fld)))).2.2.2.2) (hk : (sc.getD i ((0 : Int),(0 : Int),((0 : Int),(0 : Int),([] : List Fld)))).1 = 5) (hm : ¬ (1 ≤ (sc.getD i ((0 : Int),(0 : Int),((0 : Int),(0 : Int),([] : List Fld)))).2.1 ∧ (sc.getD i ((0 : Int),(0 : Int),((0 : Int),(0 : Int),([] : List Fld)))).2.1 ≤ (K.length : Int) - p)) : RoundX s sc q0 i L K p:=by
  intro Q;have hsn:=zR s q0 hil;rw [hq] at hsn;obtain ⟨hlz,hplc,hKl,hfl,hf1,hdl⟩:=aP hin hc;have hz : cstR s q0 sc (i + 1) = (L,K,p + (K.length - p)):=by
    rw [hsn,cstA_5 s _ hk];unfold restN;simp only [if_neg hm]
  refine qB ?_;refine qI ?_;refine qJ rfl (fun h95=>?_) (fun h95=>?_)
  · try simp only [decide_eq_true_eq] at h95
    try simp only [zds] at h95
    refine qL ?_;refine qI ?_;refine qN ?_;refine qB ?_;refine zob ?_;refine qB ?_;show qZ _ _ _ _ _ _ _ _ _;refine aT [7,9,13,14,92,93,94] [0,1,2,1000004,1000005] rfl (by kernel_rfl) ?_;refine yZ (by kernel_rfl) ?_;refine xA ?_;refine qH ?_;refine aX ?_;refine yZ (by kernel_rfl) ?_;refine xA ?_;refine qB ?_;refine qJ rfl (fun h100=>?_) (fun h100=>?_)
    · try simp only [decide_eq_true_eq] at h100
      try simp only [Int.toNat_natCast,qG,qF,qD] at h100
      exfalso
      omega
    · try simp only [decide_eq_false_iff_not] at h100
      try simp only [Int.toNat_natCast,qG,qF,qD] at h100
      refine qH ?_;refine xW rfl (fun h100=>?_) (fun h100=>?_)
      · try simp only [decide_eq_true_eq] at h100
        try simp only [Int.toNat_natCast,qG,qF,qD] at h100
        exfalso
        omega
      · try simp only [decide_eq_false_iff_not] at h100
        try simp only [Int.toNat_natCast,qG,qF,qD] at h100
        refine yZ (by kernel_rfl) ?_;refine xA ?_;refine qH ?_;refine xW rfl (fun h160=>?_) (fun h160=>?_)
        · try simp only [decide_eq_true_eq] at h160
          try simp only [Int.toNat_natCast,qG,qF,qD] at h160
          exfalso
          omega
        · try simp only [decide_eq_false_iff_not] at h160
          try simp only [Int.toNat_natCast,qG,qF,qD] at h160
          refine yZ (by kernel_rfl) ?_;refine xA ?_;refine qH ?_;refine xW rfl (fun h176=>?_) (fun h176=>?_)
          · try simp only [decide_eq_true_eq] at h176
            try simp only [Int.toNat_natCast,qG,qF,qD] at h176
            exfalso
            omega
          · try simp only [decide_eq_false_iff_not] at h176
            try simp only [Int.toNat_natCast,qG,qF,qD] at h176
            refine yZ (by kernel_rfl) ?_;refine xA ?_;refine qH ?_;refine xW rfl (fun h192=>?_) (fun h192=>?_)
            · try simp only [decide_eq_true_eq] at h192
              try simp only [Int.toNat_natCast,qG,qF,qD] at h192
              refine yZ (by kernel_rfl) ?_;refine wD 3 rfl rfl rfl rfl ?_;refine zei [1000004] (zei _ (zei _ (zei _ (zei _ (zei _ (zai (restA9_o s K p hplc hKl hf1 (sc.getD i ((0 : Int),(0 : Int),((0 : Int),(0 : Int),([] : List Fld)))).2.1 hm) (zai rfl (zai (zai (zai rfl rfl) True.intro) (zai rfl ?_)))))))));refine qB ?_;refine zob ?_;refine qI ?_;refine qB ?_;refine zai (fun h=>trivial) ?_;refine zai (fun h=>⟨⟨h,trivial⟩,trivial⟩) ?_;refine zai (fun h=>trivial) ?_;refine zai (fun h=>⟨⟨h,trivial⟩,trivial⟩) ?_;refine zai (fun h=>⟨⟨h,trivial⟩,⟨h,trivial⟩,trivial⟩) ?_;refine zai (by exact fun h=>h) ?_;refine qJ rfl (fun h212=>?_) (fun h212=>?_)
              · try simp only [decide_eq_true_eq,Bool.and_eq_true] at h212
                try simp only [Int.toNat_natCast,qG,qF,qD] at h212
                exfalso
                omega
              · try simp only [decide_eq_false_iff_not,Bool.and_eq_false_iff,Int.not_lt] at h212
                try simp only [Int.toNat_natCast,qG,qF,qD] at h212
                refine qL ?_;refine qH ?_;intro l55_2
                try simp only [Int.toNat_natCast] at l55_2
                refine Or.inl ?_;refine zai (rfl) ?_;refine zei _ (zai (gA s K p _ ((K.length : Int) - p) hplc hKl (wZ hplc (by omega) (by omega) (.inl (by simp only [Int.toNat_natCast,List.length_drop];omega)))) ?_);refine xR (tm':=[(7,.one (.own 0 0)),(9,.one (.own 2 0)),(13,.one (.own 1000004 0)),(14,.one (.own 1000005 0)),(92,.one (.sl rAct sc)),(93,ii .i64 sc.length),(94,ii .i64 i),(20,.one (.vec 1000008)),(21,.one (.sl rStz (K.drop p)))]) (ob':=[(0,.box 83 [.vec 1,.lit (.int .i64 L.2.1),.lit (.int .i64 L.2.2)]),(1,.vec 87 rEnt L.1),(2,.box 33 [.sl rEnt L.1,.lit (.int .i64 L.2.1)]),(1000004,.box 95 [.sl (.sl qY) s,.sl rStz K,.lit (.int .i64 ((K.length : Int)))]),(1000005,.box 43 [.sl (.sl qY) s,.sl rStz K,.lit (.int .i64 ((p : Int) + ((K.length : Int) - p)))]),(1000008,.vec 54 (rStz.kd 7) (K.drop p))]) (nx':=2000010) (qP ⟨rfl,rfl,rfl,rfl,rfl,rfl,rfl,rfl,(rfl)⟩ ⟨rfl,rfl,rfl,rfl,rfl,rfl⟩ rfl) ?_;refine fP s sc i L K _ _ (by omega) (K.drop p) (K.drop p) rfl _ ?_;refine qH ?_;refine zob ?_;exact ⟨i + 1,by omega,by first|omega|(simp <;> omega),qP ⟨rfl,rfl,rfl,rfl,rfl,rfl,(qS (by omega))⟩ ⟨(zbox hz),(zvec hz),(zref hz),(zcrs hz (by omega)),(zcrs hz (by omega))⟩ rfl⟩
            · try simp only [decide_eq_false_iff_not] at h192
              try simp only [Int.toNat_natCast,qG,qF,qD] at h192
              exfalso
              omega
  · try simp only [decide_eq_false_iff_not,Int.not_lt] at h95
    try simp only [zds] at h95
    exfalso
    omega
theorem round_edit (s : List (List Term)) (hso : QQ.SelOk s) (sc : List Act9) (q0 : CSt) (i c : Nat) (hil : i < sc.length) (h40 : sc.length ≤ 40) (hc : c ≤ 20000) (L : Lst) (K : List Stz) (p : Nat) (hq : cstR s q0 sc i = (L,K,p)) (hin : CInv c (L,K,p)) (hfe : yP (sc.getD i ((0 : Int),(0 : Int),((0 : Int),(0 : Int),([] : List Fld)))).2.2.2.2) (hk : (sc.getD i ((0 : Int),(0 : Int),((0 : Int),(0 : Int),([] : List Fld)))).1 = 6) (M : Lst) (hM : doL L (sc.getD i ((0 : Int),(0 : Int),((0 : Int),(0 : Int),([] : List Fld)))).2.2 = M) (K2 : List Stz) (hK2 : fndS s M.1 = K2) (p2 : Int) (hp2 : movP K2 (K.drop p) = p2) : RoundX s sc q0 i L K p:=by
  intro Q;have hsn:=zR s q0 hil;rw [hq] at hsn;obtain ⟨hlz,hplc,hKl,hfl,hf1,hdl⟩:=aP hin hc;have hML : LOk (c + 1) M:=by rw [← hM];exact doL_ok hlz hfe
  have hMl:=hML.len;have hLl:=hlz.len;have hz : cstR s q0 sc (i + 1) = (M,K2,p2.toNat):=by
    rw [hsn,cstA_6 s _ hk];show (doL L (sc.getD i ((0 : Int),(0 : Int),((0 : Int),(0 : Int),([] : List Fld)))).2.2,fndS s (doL L (sc.getD i ((0 : Int),(0 : Int),((0 : Int),(0 : Int),([] : List Fld)))).2.2).1,(movP (fndS s (doL L (sc.getD i ((0 : Int),(0 : Int),((0 : Int),(0 : Int),([] : List Fld)))).2.2).1) (K.drop p)).toNat) = _;rw [hM,hK2,hp2]
  have hrg:=movP_rng K2 (K.drop p);have hro:=refOne_c L hlz (by omega) (sc.getD i ((0 : Int),(0 : Int),((0 : Int),(0 : Int),([] : List Fld)))).2.2 hfe;have hmv:=(move_o (k:=1) s K p hplc M.1 M.2.1 M.2.2 (by omega) hML.flds hKl).x;have hmr:=moveR_c s hso K p hplc hKl M.1 M.2.1 (by omega) hML.flds;rw [rfnd_eq] at hmr;rw [hK2,hp2] at hmv hmr;rw [hp2] at hrg;have hrp:=@rep_cases 0 c L hlz (by omega) (sc.getD i ((0 : Int),(0 : Int),((0 : Int),(0 : Int),([] : List Fld)))).2.2 hfe;have hdc:=@del_cases c L hlz (by omega) (sc.getD i ((0 : Int),(0 : Int),((0 : Int),(0 : Int),([] : List Fld)))).2.2;have hic:=@ins_cases9 0 c L hlz (by omega) (sc.getD i ((0 : Int),(0 : Int),((0 : Int),(0 : Int),([] : List Fld)))).2.2 hfe;rw [hM] at hro hrp hdc hic;refine qB ?_;refine qI ?_;refine qJ rfl (fun h95=>?_) (fun h95=>?_)
  · try simp only [decide_eq_true_eq] at h95
    try simp only [zds] at h95
    refine qL ?_;refine qI ?_;refine qN ?_;refine qB ?_;refine zob ?_;refine qB ?_;show qZ _ _ _ _ _ _ _ _ _;refine aT [7,9,13,14,92,93,94] [0,1,2,1000004,1000005] rfl (by kernel_rfl) ?_;refine xA ?_;refine qB ?_;refine qN ?_;refine qI ?_;refine qB ?_;refine qJ rfl (fun h100=>?_) (fun h100=>?_)
    · try simp only [decide_eq_true_eq] at h100
      try simp only [Int.toNat_natCast,qG,qF,qD] at h100
      exfalso
      omega
    · try simp only [decide_eq_false_iff_not] at h100
      try simp only [Int.toNat_natCast,qG,qF,qD] at h100
      refine qH ?_;refine qJ rfl (fun h100=>?_) (fun h100=>?_)
      · try simp only [decide_eq_true_eq] at h100
        try simp only [Int.toNat_natCast,qG,qF,qD] at h100
        exfalso
        omega
      · try simp only [decide_eq_false_iff_not] at h100
        try simp only [Int.toNat_natCast,qG,qF,qD] at h100
        refine qB ?_;refine qJ rfl (fun h160=>?_) (fun h160=>?_)
        · try simp only [decide_eq_true_eq] at h160
          try simp only [Int.toNat_natCast,qG,qF,qD] at h160
          exfalso
          omega
        · try simp only [decide_eq_false_iff_not] at h160
          try simp only [Int.toNat_natCast,qG,qF,qD] at h160
          refine qB ?_;refine qJ rfl (fun h176=>?_) (fun h176=>?_)
          · try simp only [decide_eq_true_eq] at h176
            try simp only [Int.toNat_natCast,qG,qF,qD] at h176
            exfalso
            omega
          · try simp only [decide_eq_false_iff_not] at h176
            try simp only [Int.toNat_natCast,qG,qF,qD] at h176
            refine qB ?_;refine qJ rfl (fun h192=>?_) (fun h192=>?_)
            · try simp only [decide_eq_true_eq] at h192
              try simp only [Int.toNat_natCast,qG,qF,qD] at h192
              exfalso
              omega
            · try simp only [decide_eq_false_iff_not] at h192
              try simp only [Int.toNat_natCast,qG,qF,qD] at h192
              refine qB ?_;refine qJ rfl (fun h224=>?_) (fun h224=>?_)
              · try simp only [decide_eq_true_eq] at h224
                try simp only [Int.toNat_natCast,qG,qF,qD] at h224
                refine qB ?_;refine Or.inl ?_;refine zai (rfl) ?_;refine zei _ (zai (hro) ?_);refine qB ?_;refine jJ (fun (z : Nat × Int × Int)=>(z.1 = 0 ∧ oneN L (sc.getD i ((0 : Int),(0 : Int),((0 : Int),(0 : Int),([] : List Fld)))).2.2 = 0) ∨ (z.1 = 1 ∧ ¬ oneN L (sc.getD i ((0 : Int),(0 : Int),((0 : Int),(0 : Int),([] : List Fld)))).2.2 = 0) ∨ (z.1 = 2 ∧ ¬ oneN L (sc.getD i ((0 : Int),(0 : Int),((0 : Int),(0 : Int),([] : List Fld)))).2.2 = 0)) (fun (z : Nat × Int × Int)=>[(7,.one (.own 0 0)),(9,.one (.own 2 0)),(13,.one (.own 1000004 0)),(14,.one (.own 1000005 0)),(92,.one (.sl rAct sc)),(93,ii .i64 sc.length),(94,ii .i64 i),(20,.one (.lit (.slice none 0 0))),(21,.one (.lit (.slice none 0 0))),(32,.one (.own 1000007 0)),(34,ii .i64 (oneN L (sc.getD i ((0 : Int),(0 : Int),((0 : Int),(0 : Int),([] : List Fld)))).2.2)),(35,.one (errC9 z))]) (fun (z : Nat × Int × Int)=>[(0,.box 83 [.vec 1,.lit (.int .i64 M.2.1),.lit (.int .i64 M.2.2)]),(1,.vec 87 rEnt M.1),(2,.box 33 [.sl rEnt L.1,.lit (.int .i64 L.2.1)]),(1000004,.box 95 [.sl (.sl qY) s,.sl rStz K,.lit (.int .i64 ((p : Int)))]),(1000005,.box 43 [.sl (.sl qY) s,.sl rStz K,.lit (.int .i64 ((p : Int)))]),(1000007,.box 33 [.sl rEnt M.1,.lit (.int .i64 M.2.1)])]) 1000008 ?_ ?_
                · refine qB ?_;refine qN ?_;refine qB ?_;refine qJ rfl (fun h248=>?_) (fun h248=>?_)
                  · try simp only [decide_eq_true_eq] at h248
                    try simp only [Int.toNat_natCast,qG,qF,qD] at h248
                    rcases hrp h248 with ⟨h0,hR⟩|⟨k9,h0,hd,hR⟩|⟨a9,k9,h0,hd,hR⟩
                    · refine qH ?_;refine Or.inr (Or.inl (zei [] (zei [0,1] (zei _ (zei _ (zei _ (zei _ (zei _ (zai (hR) (zai rfl (zai (zai (zai rfl rfl) (zai (zai rfl rfl) True.intro)) (zai rfl ?_))))))))))));exact ⟨(0,0,0),.inl ⟨rfl,h0⟩,qP ⟨rfl,rfl,rfl,rfl,rfl,rfl,rfl,rfl,rfl,rfl,rfl,rfl⟩ ⟨rfl,rfl,rfl,rfl,rfl,rfl⟩ rfl⟩
                    · refine qH ?_;refine Or.inr (Or.inl (zei [] (zei [0,1] (zei _ (zei _ (zei _ (zei _ (zei _ (zai (hR) (zai rfl (zai (zai (zai rfl rfl) (zai (zai rfl rfl) True.intro)) (zai rfl ?_))))))))))));exact ⟨(1,0,k9),.inr (.inl ⟨rfl,h0⟩),qP ⟨rfl,rfl,rfl,rfl,rfl,rfl,rfl,rfl,rfl,rfl,rfl,rfl⟩ ⟨((by rw [hd];exact rfl)),((by rw [hd];exact rfl)),rfl,rfl,rfl,rfl⟩ rfl⟩
                    · refine qH ?_;refine Or.inr (Or.inl (zei [] (zei [0,1] (zei _ (zei _ (zei _ (zei _ (zei _ (zai (hR) (zai rfl (zai (zai (zai rfl rfl) (zai (zai rfl rfl) True.intro)) (zai rfl ?_))))))))))));exact ⟨(2,a9,k9),.inr (.inr ⟨rfl,h0⟩),qP ⟨rfl,rfl,rfl,rfl,rfl,rfl,rfl,rfl,rfl,rfl,rfl,rfl⟩ ⟨((by rw [hd];exact rfl)),((by rw [hd];exact rfl)),rfl,rfl,rfl,rfl⟩ rfl⟩
                  · try simp only [decide_eq_false_iff_not] at h248
                    try simp only [Int.toNat_natCast,qG,qF,qD] at h248
                    refine qB ?_;refine qJ rfl (fun h258=>?_) (fun h258=>?_)
                    · try simp only [decide_eq_true_eq] at h258
                      try simp only [Int.toNat_natCast,qG,qF,qD] at h258
                      rcases hdc h258 with ⟨h0,hR⟩|⟨h0,hd,hR⟩
                      · refine qH ?_;refine Or.inr (Or.inl (zei [] (zei [0,1] (zei _ (zei _ (zei _ (zei _ (zei _ (zai (hR) (zai rfl (zai (zai (zai rfl rfl) (zai (zai rfl rfl) True.intro)) (zai rfl ?_))))))))))));exact ⟨(0,0,0),.inl ⟨rfl,h0⟩,qP ⟨rfl,rfl,rfl,rfl,rfl,rfl,rfl,rfl,rfl,rfl,rfl,rfl⟩ ⟨rfl,rfl,rfl,rfl,rfl,rfl⟩ rfl⟩
                      · refine qH ?_;refine Or.inr (Or.inl (zei [] (zei [0,1] (zei _ (zei _ (zei _ (zei _ (zei _ (zai (hR) (zai rfl (zai (zai (zai rfl rfl) (zai (zai rfl rfl) True.intro)) (zai rfl ?_))))))))))));exact ⟨(1,0,7),.inr (.inl ⟨rfl,h0⟩),qP ⟨rfl,rfl,rfl,rfl,rfl,rfl,rfl,rfl,rfl,rfl,rfl,rfl⟩ ⟨((by rw [hd];exact rfl)),((by rw [hd];exact rfl)),rfl,rfl,rfl,rfl⟩ rfl⟩
                    · try simp only [decide_eq_false_iff_not] at h258
                      try simp only [Int.toNat_natCast,qG,qF,qD] at h258
                      rcases hic h248 h258 with ⟨h0,hR⟩|⟨k9,h0,hd,hR⟩|⟨a9,k9,h0,hd,hR⟩
                      · refine qH ?_;refine Or.inr (Or.inl (zei [] (zei [0,1] (zei _ (zei _ (zei _ (zei _ (zei _ (zai (hR) (zai rfl (zai (zai (zai rfl rfl) (zai (zai rfl rfl) True.intro)) (zai rfl ?_))))))))))));exact ⟨(0,0,0),.inl ⟨rfl,h0⟩,qP ⟨rfl,rfl,rfl,rfl,rfl,rfl,rfl,rfl,rfl,rfl,rfl,rfl⟩ ⟨rfl,rfl,rfl,rfl,rfl,rfl⟩ rfl⟩
                      · refine qH ?_;refine Or.inr (Or.inl (zei [] (zei [0,1] (zei _ (zei _ (zei _ (zei _ (zei _ (zai (hR) (zai rfl (zai (zai (zai rfl rfl) (zai (zai rfl rfl) True.intro)) (zai rfl ?_))))))))))));exact ⟨(1,0,k9),.inr (.inl ⟨rfl,h0⟩),qP ⟨rfl,rfl,rfl,rfl,rfl,rfl,rfl,rfl,rfl,rfl,rfl,rfl⟩ ⟨((by rw [hd];exact rfl)),((by rw [hd];exact rfl)),rfl,rfl,rfl,rfl⟩ rfl⟩
                      · refine qH ?_;refine Or.inr (Or.inl (zei [] (zei [0,1] (zei _ (zei _ (zei _ (zei _ (zei _ (zai (hR) (zai rfl (zai (zai (zai rfl rfl) (zai (zai rfl rfl) True.intro)) (zai rfl ?_))))))))))));exact ⟨(2,a9,k9),.inr (.inr ⟨rfl,h0⟩),qP ⟨rfl,rfl,rfl,rfl,rfl,rfl,rfl,rfl,rfl,rfl,rfl,rfl⟩ ⟨((by rw [hd];exact rfl)),((by rw [hd];exact rfl)),rfl,rfl,rfl,rfl⟩ rfl⟩
                · intro z hcut65;refine qI ?_;refine qI ?_;obtain ⟨z1,a9,k9⟩:=z;simp only at hcut65;rcases hcut65 with ⟨rfl,h0⟩|⟨rfl,h0⟩|⟨rfl,h0⟩
                  · refine qH ?_;refine qJ rfl (fun h269=>?_) (fun h269=>?_)
                    · try simp only [Bool.not_eq_true'] at h269
                      try simp only [zds] at h269
                      exfalso
                      simp [-List.getD_eq_getElem?_getD,h0] at h269
                    · try simp only [Bool.not_eq_false'] at h269
                      try simp only [zds] at h269
                      refine qL ?_;refine qB ?_;refine qB ?_;refine Or.inr (Or.inr (Or.inr (zei [1000004] (zei [] (zei _ (zei _ (zei _ (zei _ (zei _ (zai (hmv) (zai rfl (zai (zai (zai rfl rfl) True.intro) (zai rfl ?_)))))))))))));refine qH ?_;refine Or.inl ?_;refine zai (rfl) ?_;refine zei _ (zai (hmr) ?_);refine xR (tm':=[(7,.one (.own 0 0)),(9,.one (.own 2 0)),(13,.one (.own 1000004 0)),(14,.one (.own 1000005 0)),(92,.one (.sl rAct sc)),(93,ii .i64 sc.length),(94,ii .i64 i),(20,.one (.lit (.slice none 0 0))),(21,.one (.lit (.slice none 0 0)))]) (ob':=[(0,.box 83 [.vec 1,.lit (.int .i64 M.2.1),.lit (.int .i64 M.2.2)]),(1,.vec 87 rEnt M.1),(2,.box 33 [.sl rEnt M.1,.lit (.int .i64 M.2.1)]),(1000004,.box 95 [.sl (.sl qY) s,.sl rStz K2,.lit (.int .i64 (p2))]),(1000005,.box 43 [.sl (.sl qY) s,.sl rStz K2,.lit (.int .i64 (p2))])]) (nx':=1000006) (qP ⟨rfl,rfl,rfl,rfl,rfl,rfl,rfl,rfl,rfl⟩ ⟨rfl,rfl,rfl,rfl,rfl⟩ rfl) ?_;refine uH s sc i M K2 _ _ (rfl) _ ?_;refine qH ?_;refine zob ?_;exact ⟨i + 1,by omega,by first|omega|(simp <;> omega),qP ⟨rfl,rfl,rfl,rfl,rfl,rfl,(qS (by omega))⟩ ⟨(zbox hz),(zvec hz),(zref hz),(zcrs hz (by omega)),(zcrs hz (by omega))⟩ rfl⟩
                  · refine qH ?_;refine qJ rfl (fun h269=>?_) (fun h269=>?_)
                    · try simp only [Bool.not_eq_true'] at h269
                      try simp only [zds] at h269
                      exfalso
                      simp [-List.getD_eq_getElem?_getD,h0] at h269
                    · try simp only [Bool.not_eq_false'] at h269
                      try simp only [zds] at h269
                      refine qL ?_;refine qB ?_;refine qB ?_;refine Or.inr (Or.inr (Or.inr (zei [1000004] (zei [] (zei _ (zei _ (zei _ (zei _ (zei _ (zai (hmv) (zai rfl (zai (zai (zai rfl rfl) True.intro) (zai rfl ?_)))))))))))));refine qH ?_;refine Or.inl ?_;refine zai (rfl) ?_;refine zei _ (zai (hmr) ?_);refine xR (tm':=[(7,.one (.own 0 0)),(9,.one (.own 2 0)),(13,.one (.own 1000004 0)),(14,.one (.own 1000005 0)),(92,.one (.sl rAct sc)),(93,ii .i64 sc.length),(94,ii .i64 i),(20,.one (.lit (.slice none 0 0))),(21,.one (.lit (.slice none 0 0)))]) (ob':=[(0,.box 83 [.vec 1,.lit (.int .i64 M.2.1),.lit (.int .i64 M.2.2)]),(1,.vec 87 rEnt M.1),(2,.box 33 [.sl rEnt M.1,.lit (.int .i64 M.2.1)]),(1000004,.box 95 [.sl (.sl qY) s,.sl rStz K2,.lit (.int .i64 (p2))]),(1000005,.box 43 [.sl (.sl qY) s,.sl rStz K2,.lit (.int .i64 (p2))])]) (nx':=1000006) (qP ⟨rfl,rfl,rfl,rfl,rfl,rfl,rfl,rfl,rfl⟩ ⟨rfl,rfl,rfl,rfl,rfl⟩ rfl) ?_;refine uH s sc i M K2 _ _ (rfl) _ ?_;refine qH ?_;refine zob ?_;exact ⟨i + 1,by omega,by first|omega|(simp <;> omega),qP ⟨rfl,rfl,rfl,rfl,rfl,rfl,(qS (by omega))⟩ ⟨(zbox hz),(zvec hz),(zref hz),(zcrs hz (by omega)),(zcrs hz (by omega))⟩ rfl⟩
                  · refine qH ?_;refine qJ rfl (fun h269=>?_) (fun h269=>?_)
                    · try simp only [Bool.not_eq_true'] at h269
                      try simp only [zds] at h269
                      exfalso
                      simp [-List.getD_eq_getElem?_getD,h0] at h269
                    · try simp only [Bool.not_eq_false'] at h269
                      try simp only [zds] at h269
                      refine qL ?_;refine qB ?_;refine qB ?_;refine Or.inr (Or.inr (Or.inr (zei [1000004] (zei [] (zei _ (zei _ (zei _ (zei _ (zei _ (zai (hmv) (zai rfl (zai (zai (zai rfl rfl) True.intro) (zai rfl ?_)))))))))))));refine qH ?_;refine Or.inl ?_;refine zai (rfl) ?_;refine zei _ (zai (hmr) ?_);refine xR (tm':=[(7,.one (.own 0 0)),(9,.one (.own 2 0)),(13,.one (.own 1000004 0)),(14,.one (.own 1000005 0)),(92,.one (.sl rAct sc)),(93,ii .i64 sc.length),(94,ii .i64 i),(20,.one (.lit (.slice none 0 0))),(21,.one (.lit (.slice none 0 0)))]) (ob':=[(0,.box 83 [.vec 1,.lit (.int .i64 M.2.1),.lit (.int .i64 M.2.2)]),(1,.vec 87 rEnt M.1),(2,.box 33 [.sl rEnt M.1,.lit (.int .i64 M.2.1)]),(1000004,.box 95 [.sl (.sl qY) s,.sl rStz K2,.lit (.int .i64 (p2))]),(1000005,.box 43 [.sl (.sl qY) s,.sl rStz K2,.lit (.int .i64 (p2))])]) (nx':=1000006) (qP ⟨rfl,rfl,rfl,rfl,rfl,rfl,rfl,rfl,rfl⟩ ⟨rfl,rfl,rfl,rfl,rfl⟩ rfl) ?_;refine uH s sc i M K2 _ _ (rfl) _ ?_;refine qH ?_;refine zob ?_;exact ⟨i + 1,by omega,by first|omega|(simp <;> omega),qP ⟨rfl,rfl,rfl,rfl,rfl,rfl,(qS (by omega))⟩ ⟨(zbox hz),(zvec hz),(zref hz),(zcrs hz (by omega)),(zcrs hz (by omega))⟩ rfl⟩
              · try simp only [decide_eq_false_iff_not] at h224
                try simp only [Int.toNat_natCast,qG,qF,qD] at h224
                exfalso
                omega
  · try simp only [decide_eq_false_iff_not,Int.not_lt] at h95
    try simp only [zds] at h95
    exfalso
    omega
theorem round_any (s : List (List Term)) (hso : QQ.SelOk s) (sc : List Act9) (q0 : CSt) (i c : Nat) (hil : i < sc.length) (h40 : sc.length ≤ 40) (hc : c ≤ 20000) (L : Lst) (K : List Stz) (p : Nat) (hq : cstR s q0 sc i = (L,K,p)) (hin : CInv c (L,K,p)) (hfe : yP (sc.getD i ((0 : Int),(0 : Int),((0 : Int),(0 : Int),([] : List Fld)))).2.2.2.2) : RoundX s sc q0 i L K p:=by
  by_cases h5 : (sc.getD i ((0 : Int),(0 : Int),((0 : Int),(0 : Int),([] : List Fld)))).1 = 5
  · by_cases hm : 1 ≤ (sc.getD i ((0 : Int),(0 : Int),((0 : Int),(0 : Int),([] : List Fld)))).2.1 ∧ (sc.getD i ((0 : Int),(0 : Int),((0 : Int),(0 : Int),([] : List Fld)))).2.1 ≤ (K.length : Int) - p
    · exact round_rest s hso sc q0 i c hil h40 hc L K p hq hin hfe h5 hm (sc.getD i ((0 : Int),(0 : Int),((0 : Int),(0 : Int),([] : List Fld)))).2.1.toNat (by omega)
    · exact round_rest0 s hso sc q0 i c hil h40 hc L K p hq hin hfe h5 hm
  by_cases h6 : (sc.getD i ((0 : Int),(0 : Int),((0 : Int),(0 : Int),([] : List Fld)))).1 = 6
  · exact round_edit s hso sc q0 i c hil h40 hc L K p hq hin hfe h6 _ rfl _ rfl _ rfl
  · exact round_move s hso sc q0 i c hil h40 hc L K p hq hin hfe h5 h6
set_option maxHeartbeats 1000000 in
theorem Plays_ok (t : ByteArray) (s : List (List Term)) (sc : List Act9) (h : bigA t s sc = false) {l : List Itm} (hp : kC t = .inr l) : qX Tryz.prog 3 [is t,.one (.sl (.sl qY) s),.one (.sl rAct sc)] (ib true):=by
  have hb:=largeA_c t s sc;rw [h] at hb;obtain ⟨hsz,hso,h40,hmu⟩:=bigA_ok h;have hof:=of_ok t (by omega) hp;have hrf : qX Tryz.prog 7 [is t] (.tup [(true,toL rRL ((ofT l).1,(ofT l).2.1)),(false,[.lit (.int .i64 (-9))]),(false,[.lit (.int .i64 0)])]):=refOf_ok t (by omega) hp;have hlk:=of_lok (by omega) hp;obtain ⟨L0,hL0⟩ : ∃ L,ofT l = L:=⟨_,rfl⟩;rw [hL0] at hof hlk hrf;have hfa : ∀ a ∈ sc,yP a.2.2.2.2:=fun a ha=>much_ok (hmu a ha)
  have hs1:=hso.1;have hs2 : ∀ r ∈ s,r.length ≤ 1000000:=fun r hr=>by have:=(hso.2 r hr).1;omega
  have hll:=hlk.len;have hpg:=program3_o s hso;have hnw:=(newk_o (k:=1) (κ:=1) (κ':=7) s L0.1 L0.2.1 L0.2.2 (by omega) hlk.flds (by omega) hs2).x;have hnr:=newR_c s hso L0.1 L0.2.1 (by omega) hlk.flds;rw [rfnd_eq] at hnr;have hin0:=CInv.start hlk s;obtain ⟨K0,hK0⟩ : ∃ K,fndS s L0.1 = K:=⟨_,rfl⟩;rw [hK0] at hnw hnr hin0;have hrun:=hin0.run s hfa;have hul : (unkT s).length = s.length:=List.length_map _;refine qW (rs:=[6]) Tryz.func3 rfl rfl rfl teOk rfl ?_;refine qB ?_;refine qI ?_;refine qB ?_;refine Or.inl ?_;refine zai (rfl) ?_;refine zei _ (zai (alive9_c) ?_);refine qJ rfl (fun h39=>?_) (fun h39=>?_)
  ·try simp only [Bool.not_eq_true'] at h39
   try simp only [zds] at h39
   simp at h39
  ·try simp only [Bool.not_eq_false'] at h39
   try simp only [zds] at h39
   refine qL ?_;refine qI ?_;refine qB ?_;refine Or.inl ?_;refine zai (rfl) ?_;refine zei _ (zai (hb) ?_);refine qJ rfl (fun h43=>?_) (fun h43=>?_)
   ·try simp only [zbq] at h43
    try simp only [zds] at h43
    simp at h43
   ·skip
    refine qL ?_;refine qB ?_;refine Or.inr (Or.inl (zei [] (zei [] (zei _ (zei _ (zei _ (zei _ (zei _ (zai (hof) (zai rfl (zai True.intro (zai rfl ?_))))))))))));refine qB ?_;refine Or.inl ?_;refine zai (rfl) ?_;refine zei _ (zai (hrf) ?_);refine qI ?_;refine qB ?_;refine zai (fun h=>trivial) ?_;refine zai (fun h=>⟨⟨h,trivial⟩,trivial⟩) ?_;refine zai (by first|(intro h;rw [h];rfl)|(intro h;cases h)) ?_;refine qJ rfl (fun h60=>?_) (fun h60=>?_)
    ·try simp only [decide_eq_false_iff_not,Bool.not_eq_true',Bool.or_eq_true] at h60
     try simp only [zds] at h60
     simp at h60
    ·try simp only [decide_eq_true_eq,Bool.not_eq_false',Bool.or_eq_false_iff] at h60
     try simp only [zds] at h60
     refine qL ?_;show qZ _ _ _ _ _ _ _ _ _;refine acode_x [] [] rfl ?_;refine acodeX_seqB (by kernel_rfl) ?_;refine wD 1 rfl rfl rfl rfl ?_;refine zei [] (zei _ (zei _ (zei _ (zei _ (zei _ (zai (hpg) (zai rfl (zai True.intro (zai rfl ?_)))))))));refine acodeB_seqC (fun (u : Unit)=>True) (fun (u : Unit)=>[(2,.one (.sl rAct sc)),(7,.one (.own 0 0)),(9,.one (.own 2 0)),(12,.one (.vec 3)),(13,.one (.own 1000004 0)),(14,.one (.own 1000005 0))]) (fun (u : Unit)=>[(0,.box 83 [.vec 1,.lit (.int .i64 L0.2.1),.lit (.int .i64 L0.2.2)]),(1,.vec 87 rEnt L0.1),(2,.box 33 [.sl rEnt L0.1,.lit (.int .i64 L0.2.1)]),(1000004,.box 95 [.sl (.sl qY) s,.sl rStz K0,.lit (.int .i64 (0))]),(1000005,.box 43 [.sl (.sl qY) s,.sl rStz K0,.lit (.int .i64 (0))]),(3,.vec 45 (rTmk 7) s)]) 1000006 ?_ ?_
     ·refine yW rfl ?_;refine qO 0 rfl ?_;refine qO 1 rfl ?_;refine qO 4 rfl ?_;refine qK [2,3,6] ?_;refine zai ?_ ?_
      ·refine Or.inr (Or.inr (Or.inr (zei [] (zei [] (zei _ (zei _ (zei _ (zei _ (zei _ (zai (hnw) (zai rfl (zai True.intro (zai rfl ?_)))))))))))));refine qK [3,6] ?_;refine zai ?_ ?_
       ·refine qK [5,6] ?_;refine zai ?_ ?_
        ·refine Or.inl ?_;refine zai (rfl) ?_;refine zei _ (zai (hnr) ?_);refine qK [6] ?_;refine qO 7 rfl ?_;refine qK [8] ?_;refine qU ?_;exact ⟨(),trivial,qP ⟨rfl,rfl,rfl,rfl,rfl,rfl⟩ ⟨rfl,rfl,rfl,rfl,rfl,rfl⟩ rfl⟩
        ·refine qK [5] ?_;refine Or.inl ?_;refine zai (rfl) ?_;refine zei _ (zai (hnr) ?_);refine qO 7 rfl ?_;refine qK [8] ?_;refine qU ?_;exact ⟨(),trivial,qP ⟨rfl,rfl,rfl,rfl,rfl,rfl⟩ ⟨rfl,rfl,rfl,rfl,rfl,rfl⟩ rfl⟩
       ·refine qK [3] ?_;refine qK [5] ?_;refine Or.inl ?_;refine zai (rfl) ?_;refine zei _ (zai (hnr) ?_);refine qO 7 rfl ?_;refine qK [8] ?_;refine qU ?_;exact ⟨(),trivial,qP ⟨rfl,rfl,rfl,rfl,rfl,rfl⟩ ⟨rfl,rfl,rfl,rfl,rfl,rfl⟩ rfl⟩
      refine zai ?_ ?_
      ·refine qK [2,6] ?_;refine zai ?_ ?_
       ·refine Or.inr (Or.inr (Or.inr (zei [] (zei [] (zei _ (zei _ (zei _ (zei _ (zei _ (zai (hnw) (zai rfl (zai True.intro (zai rfl ?_)))))))))))));refine qK [5,6] ?_;refine zai ?_ ?_
        ·refine Or.inl ?_;refine zai (rfl) ?_;refine zei _ (zai (hnr) ?_);refine qK [6] ?_;refine qO 7 rfl ?_;refine qK [8] ?_;refine qU ?_;exact ⟨(),trivial,qP ⟨rfl,rfl,rfl,rfl,rfl,rfl⟩ ⟨rfl,rfl,rfl,rfl,rfl,rfl⟩ rfl⟩
        ·refine qK [5] ?_;refine Or.inl ?_;refine zai (rfl) ?_;refine zei _ (zai (hnr) ?_);refine qO 7 rfl ?_;refine qK [8] ?_;refine qU ?_;exact ⟨(),trivial,qP ⟨rfl,rfl,rfl,rfl,rfl,rfl⟩ ⟨rfl,rfl,rfl,rfl,rfl,rfl⟩ rfl⟩
       ·refine qK [2] ?_;refine Or.inr (Or.inr (Or.inr (zei [] (zei [] (zei _ (zei _ (zei _ (zei _ (zei _ (zai (hnw) (zai rfl (zai True.intro (zai rfl ?_)))))))))))));refine qK [5] ?_;refine Or.inl ?_;refine zai (rfl) ?_;refine zei _ (zai (hnr) ?_);refine qO 7 rfl ?_;refine qK [8] ?_;refine dU 1000004 1000005 rfl rfl rfl rfl ?_;refine qU ?_;exact ⟨(),trivial,qP ⟨rfl,rfl,rfl,rfl,rfl,rfl⟩ ⟨rfl,rfl,rfl,rfl,rfl,rfl⟩ rfl⟩
      ·refine qK [2,3] ?_;refine zai ?_ ?_
       ·refine Or.inr (Or.inr (Or.inr (zei [] (zei [] (zei _ (zei _ (zei _ (zei _ (zei _ (zai (hnw) (zai rfl (zai True.intro (zai rfl ?_)))))))))))));refine qK [3] ?_;refine qK [5] ?_;refine Or.inl ?_;refine zai (rfl) ?_;refine zei _ (zai (hnr) ?_);refine qO 7 rfl ?_;refine qK [8] ?_;refine dU 1000004 1000005 rfl rfl rfl rfl ?_;refine qU ?_;exact ⟨(),trivial,qP ⟨rfl,rfl,rfl,rfl,rfl,rfl⟩ ⟨rfl,rfl,rfl,rfl,rfl,rfl⟩ rfl⟩
       ·refine qK [2] ?_;refine Or.inr (Or.inr (Or.inr (zei [] (zei [] (zei _ (zei _ (zei _ (zei _ (zei _ (zai (hnw) (zai rfl (zai True.intro (zai rfl ?_)))))))))))));refine qK [5] ?_;refine Or.inl ?_;refine zai (rfl) ?_;refine zei _ (zai (hnr) ?_);refine qO 7 rfl ?_;refine qK [8] ?_;refine dU 1000004 1000005 rfl rfl rfl rfl ?_;refine qU ?_;exact ⟨(),trivial,qP ⟨rfl,rfl,rfl,rfl,rfl,rfl⟩ ⟨rfl,rfl,rfl,rfl,rfl,rfl⟩ rfl⟩
     ·intro u hcutB10;refine acodeB_seq ?_;refine acodeB_of ?_;refine qI ?_;refine zF 3 (S:=rTmU) (ys:=unkT s) rfl rfl (by simp [unkT]) (fun ok w cs j hj hj' h=>by rw [show (unkT s)[j] = ((s[j]).map fun _=>((),(),(),())) from List.getElem_map ..];exact trm_unk h) ?_;refine qH ?_;intro l11_1
      try simp only [zds] at l11_1
      refine qN ?_;refine qR (fun (j : Nat)=>j ≤ (unkT s).length) (fun (j : Nat)=>[(2,.one (.sl rAct sc)),(7,.one (.own 0 0)),(9,.one (.own 2 0)),(13,.one (.own 1000004 0)),(14,.one (.own 1000005 0)),(75,.one (.vec 3)),(76,ii .i64 (unkT s).length),(77,ii .i64 j)]) (fun (j : Nat)=>[(0,.box 83 [.vec 1,.lit (.int .i64 L0.2.1),.lit (.int .i64 L0.2.2)]),(1,.vec 87 rEnt L0.1),(2,.box 33 [.sl rEnt L0.1,.lit (.int .i64 L0.2.1)]),(1000004,.box 95 [.sl (.sl qY) s,.sl rStz K0,.lit (.int .i64 (0))]),(1000005,.box 43 [.sl (.sl qY) s,.sl rStz K0,.lit (.int .i64 (0))]),(3,.vec 45 rTmU (unkT s))]) 1000006 (fun (j : Nat)=>(unkT s).length - j) 0 (Nat.zero_le _) (qP ⟨rfl,rfl,rfl,rfl,rfl,rfl,rfl,rfl⟩ ⟨rfl,rfl,rfl,rfl,rfl,rfl⟩ rfl) ?_;intro j hI0;refine qB ?_;refine qI ?_;refine qJ rfl (fun h78=>?_) (fun h78=>?_)
      ·try simp only [decide_eq_true_eq] at h78
       try simp only [zds] at h78
       refine qL ?_;refine qI ?_;refine qN ?_;refine qB ?_;refine zob ?_;refine zai (by omega) ?_;refine qB ?_;intro l14_1
       try simp only [Int.toNat_natCast] at l14_1
       refine qN ?_;refine qR (fun (q : Nat)=>q ≤ ((unkT s).getD j rTmU.dflt).length) (fun (q : Nat)=>[(2,.one (.sl rAct sc)),(7,.one (.own 0 0)),(9,.one (.own 2 0)),(13,.one (.own 1000004 0)),(14,.one (.own 1000005 0)),(75,.one (.vec 3)),(76,ii .i64 (unkT s).length),(77,ii .i64 j),(16,.one (.slk 7 rUnk4 ((unkT s).getD j rTmU.dflt))),(82,ii .i64 ((unkT s).getD j rTmU.dflt).length),(83,ii .i64 q)]) (fun (q : Nat)=>[(0,.box 83 [.vec 1,.lit (.int .i64 L0.2.1),.lit (.int .i64 L0.2.2)]),(1,.vec 87 rEnt L0.1),(2,.box 33 [.sl rEnt L0.1,.lit (.int .i64 L0.2.1)]),(1000004,.box 95 [.sl (.sl qY) s,.sl rStz K0,.lit (.int .i64 (0))]),(1000005,.box 43 [.sl (.sl qY) s,.sl rStz K0,.lit (.int .i64 (0))]),(3,.vec 45 rTmU (unkT s))]) 1000006 (fun (q : Nat)=>((unkT s).getD j rTmU.dflt).length - q) 0 (Nat.zero_le _) (qP ⟨rfl,rfl,rfl,rfl,rfl,rfl,rfl,rfl,rfl,rfl,rfl⟩ ⟨rfl,rfl,rfl,rfl,rfl,rfl⟩ rfl) ?_;intro q hI2;refine qB ?_;refine qI ?_;refine qJ rfl (fun h84=>?_) (fun h84=>?_)
       ·try simp only [decide_eq_true_eq] at h84
        try simp only [zds] at h84
        refine qL ?_;refine qI ?_;refine qN ?_;refine qB ?_;show qZ _ _ _ _ _ _ _ _ _;refine fK 4 rfl rfl rfl (by rfl) ?_;refine zob ?_;refine zei _ (zei _ (zei _ (zei _ (zei _ (zai rfl (zai rfl (zai rfl (zai rfl ?_))))))));refine qH ?_;refine zob ?_;exact ⟨q + 1,by omega,by first|omega|(simp <;> omega),qP ⟨rfl,rfl,rfl,rfl,rfl,rfl,rfl,rfl,rfl,rfl,(qS (by omega))⟩ ⟨rfl,rfl,rfl,rfl,rfl,rfl⟩ rfl⟩
       ·try simp only [decide_eq_false_iff_not,Int.not_lt] at h84
        try simp only [zds] at h84
        refine qT ?_;refine qH ?_;refine zob ?_;exact ⟨j + 1,by omega,by first|omega|(simp <;> omega),qP ⟨rfl,rfl,rfl,rfl,rfl,rfl,rfl,(qS (by omega))⟩ ⟨rfl,rfl,rfl,rfl,rfl,rfl⟩ rfl⟩
      ·try simp only [decide_eq_false_iff_not,Int.not_lt] at h78
       try simp only [zds] at h78
       refine qT ?_;refine acodeB_back [2,7,9,13,14] [0,1,2,1000004,1000005] rfl rfl rfl ?_;refine xA ?_;refine qI ?_;refine qB ?_;intro l20_1
       try simp only [zds] at l20_1
       refine qN ?_;refine qR (fun (i : Nat)=>i ≤ sc.length) (fun (i : Nat)=>[(7,.one (.own 0 0)),(9,.one (.own 2 0)),(13,.one (.own 1000004 0)),(14,.one (.own 1000005 0)),(92,.one (.sl rAct sc)),(93,ii .i64 sc.length),(94,ii .i64 i)]) (fun (i : Nat)=>[(0,.box 83 [.vec 1,.lit (.int .i64 (cstR s (L0,K0,0) sc i).1.2.1),.lit (.int .i64 (cstR s (L0,K0,0) sc i).1.2.2)]),(1,.vec 87 rEnt (cstR s (L0,K0,0) sc i).1.1),(2,.box 33 [.sl rEnt (cstR s (L0,K0,0) sc i).1.1,.lit (.int .i64 (cstR s (L0,K0,0) sc i).1.2.1)]),(1000004,.box 95 [.sl (.sl qY) s,.sl rStz (cstR s (L0,K0,0) sc i).2.1,.lit (.int .i64 ((cstR s (L0,K0,0) sc i).2.2 : Int))]),(1000005,.box 43 [.sl (.sl qY) s,.sl rStz (cstR s (L0,K0,0) sc i).2.1,.lit (.int .i64 ((cstR s (L0,K0,0) sc i).2.2 : Int))])]) 1000006 (fun (i : Nat)=>sc.length - i) 0 (Nat.zero_le _) (qP ⟨rfl,rfl,rfl,rfl,rfl,rfl,rfl⟩ ⟨rfl,rfl,rfl,rfl,rfl⟩ rfl) ?_;intro i hI4;refine Or.elim (Nat.lt_or_ge i sc.length) (fun hil=>round_any s hso sc (L0,K0,0) i _ hil h40 (by omega) _ _ _ rfl (hrun i hI4) (hfa _ (yK hil ((0 : Int),(0 : Int),((0 : Int),(0 : Int),([] : List Fld))))) _) (fun hil=>?_);have hin:=hrun i hI4;have hplc:=hin.plc;refine qB ?_;refine qI ?_;refine qJ rfl (fun h95=>?_) (fun h95=>?_)
       ·try simp only [decide_eq_true_eq] at h95
        try simp only [zds] at h95
        exfalso
        omega
       ·try simp only [decide_eq_false_iff_not,Int.not_lt] at h95
        try simp only [zds] at h95
        refine qT ?_;refine qI ?_;refine yW rfl ?_;refine qO 0 rfl ?_;refine qO 2 rfl ?_;refine qO 4 rfl ?_;refine qK [1,3,5] ?_;refine zai ?_ ?_
        ·refine Or.inr (Or.inl (zei [] (zei [1000004] (zei _ (zei _ (zei _ (zei _ (zei _ (zai (eK s _ _ hin.plc (Nat.le_trans hin.len (by omega)) (fun x hx=>Nat.le_trans (hin.flds x hx).1 (by decide)) 0 (by omega)) (zai rfl (zai (zai (zai rfl rfl) True.intro) (zai rfl ?_))))))))))));refine qK [3,5] ?_;refine zai ?_ ?_
         ·refine qK [5] ?_;refine qO 6 rfl ?_;refine zob ?_;refine qK [7] ?_;refine Or.inl ?_;refine zai (rfl) ?_;refine zei _ (zai (aA (κ:=0) (κ':=0) _ _) ?_);refine qO 8 rfl ?_;refine qU ?_;refine qM ?_;exact xH (by simp)
         ·refine qK [3] ?_;refine qO 6 rfl ?_;refine zob ?_;refine qK [7] ?_;refine Or.inl ?_;refine zai (rfl) ?_;refine zei _ (zai (aA (κ:=0) (κ':=0) _ _) ?_);refine qO 8 rfl ?_;refine qU ?_;refine qM ?_;exact xH (by simp)
        refine zai ?_ ?_
        ·refine qK [1,5] ?_;refine zai ?_ ?_
         ·refine Or.inr (Or.inl (zei [] (zei [1000004] (zei _ (zei _ (zei _ (zei _ (zei _ (zai (eK s _ _ hin.plc (Nat.le_trans hin.len (by omega)) (fun x hx=>Nat.le_trans (hin.flds x hx).1 (by decide)) 0 (by omega)) (zai rfl (zai (zai (zai rfl rfl) True.intro) (zai rfl ?_))))))))))));refine qK [5] ?_;refine qO 6 rfl ?_;refine zob ?_;refine qK [7] ?_;refine Or.inl ?_;refine zai (rfl) ?_;refine zei _ (zai (aA (κ:=0) (κ':=0) _ _) ?_);refine qO 8 rfl ?_;refine qU ?_;refine qM ?_;exact xH (by simp)
         ·refine qO 6 rfl ?_;refine zob ?_;refine qK [1] ?_;refine Or.inr (Or.inl (zei [] (zei [1000004] (zei _ (zei _ (zei _ (zei _ (zei _ (zai (eK s _ _ hin.plc (Nat.le_trans hin.len (by omega)) (fun x hx=>Nat.le_trans (hin.flds x hx).1 (by decide)) 0 (by omega)) (zai rfl (zai (zai (zai rfl rfl) True.intro) (zai rfl ?_))))))))))));refine qK [7] ?_;refine Or.inl ?_;refine zai (rfl) ?_;refine zei _ (zai (aA (κ:=0) (κ':=0) _ _) ?_);refine qO 8 rfl ?_;refine qU ?_;refine qM ?_;exact xH (by simp)
        ·refine qK [1,3] ?_;refine zai ?_ ?_
         ·refine Or.inr (Or.inl (zei [] (zei [1000004] (zei _ (zei _ (zei _ (zei _ (zei _ (zai (eK s _ _ hin.plc (Nat.le_trans hin.len (by omega)) (fun x hx=>Nat.le_trans (hin.flds x hx).1 (by decide)) 0 (by omega)) (zai rfl (zai (zai (zai rfl rfl) True.intro) (zai rfl ?_))))))))))));refine qK [3] ?_;refine qO 6 rfl ?_;refine zob ?_;refine qK [7] ?_;refine Or.inl ?_;refine zai (rfl) ?_;refine zei _ (zai (aA (κ:=0) (κ':=0) _ _) ?_);refine qO 8 rfl ?_;refine qU ?_;refine qM ?_;exact xH (by simp)
         ·refine qO 6 rfl ?_;refine zob ?_;refine qK [1] ?_;refine Or.inr (Or.inl (zei [] (zei [1000004] (zei _ (zei _ (zei _ (zei _ (zei _ (zai (eK s _ _ hin.plc (Nat.le_trans hin.len (by omega)) (fun x hx=>Nat.le_trans (hin.flds x hx).1 (by decide)) 0 (by omega)) (zai rfl (zai (zai (zai rfl rfl) True.intro) (zai rfl ?_))))))))))));refine qK [7] ?_;refine Or.inl ?_;refine zai (rfl) ?_;refine zei _ (zai (aA (κ:=0) (κ':=0) _ _) ?_);refine qO 8 rfl ?_;refine qU ?_;refine qM ?_;exact xH (by simp)
theorem CursorPlays_c (t : ByteArray) (s : List (List Term)) (sc : List Act9) : qX Tryz.prog 3 [is t,.one (.sl (.sl qY) s),.one (.sl rAct sc)] (ib true):=by
  rcases hb : bigA t s sc
  · rcases hp : kC t with e|l
    · exact Plays_err t s sc hb hp
    · exact Plays_ok t s sc hb hp
  · exact Plays_big t s sc hb
end Q
end Ab
end Go.Proofs.YtmaekcmknibmeaaGreatDoor
namespace Go.Proofs.YtmaekcmknibmeaaGreatDoor
open Go.RowKit
namespace Ab
set_option maxRecDepth 100000
theorem o_str : vE Tryz.prog 9 .str:=opens_str Tryz.underlying9 (by kernel_rfl)
theorem o_int : vE Tryz.prog 3 (.int .i64):=opens_int Tryz.underlying3 (by kernel_rfl)
theorem o_bool : vE Tryz.prog 4 .bool:=opens_bool Tryz.underlying4 (by kernel_rfl)
theorem o_field : vE Tryz.prog 114 (.st .str .str):=eN Tryz.underlying114 (by kernel_rfl) (.cons rfl o_str (.one rfl o_str))
theorem o_fields : vE Tryz.prog 48 (.sl (.st .str .str)):=eO (by decide) Tryz.underlying48 (by kernel_rfl) o_field
theorem o_term : vE Tryz.prog 75 (.st .bool (.st .str (.st (.int .i64) .str))) :=
  eN Tryz.underlying75 (by kernel_rfl) (.cons rfl o_bool (.cons rfl o_str (.cons rfl o_int (.one rfl o_str))))
theorem o_terms1 : vE Tryz.prog 74 (.sl (.st .bool (.st .str (.st (.int .i64) .str)))):=eO (by decide) Tryz.underlying74 (by kernel_rfl) o_term
theorem o_terms : vE Tryz.prog 22 (.sl (.sl (.st .bool (.st .str (.st (.int .i64) .str))))):=eO (by decide) Tryz.underlying22 (by kernel_rfl) o_terms1
theorem open_terms {H : Type} {enc : TypeId × Value → H} {W : World} {base : Nat} {v : Value} {d : DataW H} {p : List MemPlace} (hv : Value.okWide Tryz.prog W .any base 22 v) (h : DataW.Trod enc Tryz.prog W 0 (fun _=>true) true 22 v d p) :
    ∃ xs,(C.sl (.sl (.st .bool (.st .str (.st (.int .i64) .str)))) xs).rep AllOk yI W v:=open_sl Tryz.underlying22 o_terms hv h
theorem maxAt {W : World} (h : W.ShapedOpen Tryz.prog) : cT W:=cell_of_shapedOpen_int (g:=0) (t:=3) (zero:=#[.int .i64 0]) h (of_decide_eq_true (by kernel_rfl)) (by kernel_rfl) rfl (by kernel_rfl) (by kernel_rfl) Tryz.underlying3
theorem lt_of_cell0 {W : World} {b : Nat} {v : Value} (h : W.cell? ⟨b,0,none⟩ = some v) : b < W.heap.size:=by
  rcases Nat.lt_or_ge b W.heap.size with h1|h1
  · exact h1
  · exfalso
    simp only [World.cell?,Array.getElem?_eq_none h1] at h;cases h
theorem globAt {W : World} (h : W.ShapedOpen Tryz.prog) : cA AllOk W:=by
  obtain ⟨m,hm⟩:=maxAt h;exact ⟨fun _ _=>trivial,lt_of_cell0 hm,⟨m,hm⟩⟩
theorem o_edit : vE Tryz.prog 50 (.st (.int .i64) (.st (.int .i64) (.sl (.st .str .str)))):=eN Tryz.underlying50 (by kernel_rfl) (.cons rfl o_int (.cons rfl o_int (.one rfl o_fields)))
theorem o_act : vE Tryz.prog 52 (.st (.int .i64) (.st (.int .i64) (.st (.int .i64) (.st (.int .i64) (.sl (.st .str .str)))))):=eN Tryz.underlying52 (by kernel_rfl) (.cons rfl o_int (.cons rfl o_int (.one rfl o_edit)))
theorem o_acts : vE Tryz.prog 23 (.sl (.st (.int .i64) (.st (.int .i64) (.st (.int .i64) (.st (.int .i64) (.sl (.st .str .str))))))):=eO (by decide) Tryz.underlying23 (by kernel_rfl) o_act
theorem open_acts {H : Type} {enc : TypeId × Value → H} {W : World} {base : Nat} {v : Value} {d : DataW H} {p : List MemPlace} (hv : Value.okWide Tryz.prog W .any base 23 v) (h : DataW.Trod enc Tryz.prog W 0 (fun _=>true) true 23 v d p) :
    ∃ xs,(C.sl (.st (.int .i64) (.st (.int .i64) (.st (.int .i64) (.st (.int .i64) (.sl (.st .str .str)))))) xs).rep AllOk yI W v:=open_sl Tryz.underlying23 o_acts hv h
end Ab
end Go.Proofs.YtmaekcmknibmeaaGreatDoor
