/-
  The texts of this proof, joined: abstract values, the library, the functions of the program and what they compute (part 6). No condition.
-/
import Derived.Test.YtlbainbjlibfiaaGreatDoorK1
import Derived.Test.YtlbainbjlibfiaaGreatDoorK2
import Derived.Test.YtlbainbjlibfiaaGreatDoorK3
import Derived.Test.YtlbainbjlibfiaaGreatDoorK4
import Derived.Test.YtlbainbjlibfiaaGreatDoorK5
namespace Go.Proofs.YtlbainbjlibfiaaGreatDoor
open Go.RowKit
namespace Ab
set_option maxRecDepth 100000
namespace Q
def itEs (es : List Ent) : List (List A):=(es.filter live).map fun e=>[A.agg (toL rEnt e)]
def cntL (es : List Ent) : Nat:=(es.filter live).length
theorem cntL_snoc {es : List Ent} {i : Nat} (h : i < es.length) : cntL (es.take (i + 1)) = cntL (es.take i) + if live (es.getD i (((0 : Int),ByteArray.empty,([] : List Fld)),(0 : Int))) then 1 else 0:=by
  unfold cntL;rw [← yO (((0 : Int),ByteArray.empty,([] : List Fld)),(0 : Int)) h,List.filter_append,List.length_append]
  generalize es.getD i (((0 : Int),ByteArray.empty,([] : List Fld)),(0 : Int)) = x
  cases hk : live x <;> simp [hk]
theorem itEs_at {es : List Ent} {i : Nat} (h : i < es.length) (hl : live (es.getD i (((0 : Int),ByteArray.empty,([] : List Fld)),(0 : Int))) = true) : ∃ hk : cntL (es.take i) < (itEs es).length,(itEs es)[cntL (es.take i)] = [A.agg (toL rEnt (es.getD i (((0 : Int),ByteArray.empty,([] : List Fld)),(0 : Int))))]:=by
  obtain ⟨h1,h2⟩:=filter_at live (((0 : Int),ByteArray.empty,([] : List Fld)),(0 : Int)) es i h hl;have h1' : cntL (es.take i) < (es.filter live).length:=h1;refine ⟨by unfold itEs;rw [List.length_map];exact h1',?_⟩;have h3 : (es.filter live)[cntL (es.take i)]'h1' = es.getD i (((0 : Int),ByteArray.empty,([] : List Fld)),(0 : Int)):=(getD_get h1' (((0 : Int),ByteArray.empty,([] : List Fld)),(0 : Int))).trans h2;exact (List.getElem_map (fun e=>[A.agg (toL rEnt e)])).trans (congrArg (fun e=>[A.agg (toL rEnt e)]) h3)
theorem all_iter {k : Nat} (es : List Ent) (n m : Int) : AIter Tryz.prog 93 [.one (.ref (.adk k (rLst k) (es,n,m)))] (itEs es):=by
  refine aiter_of Tryz.func93 rfl rfl rfl teOk rfl ?_;intro l ι Pr J U n0 hU hab hy;refine xC ?_;refine xC ?_;refine acodeY_seg hab hU rfl ?_;refine qB ?_;refine ⟨_,_,_,le_refl,?_⟩;refine acodeY_cond rfl (fun h6=>?_) (fun h6=>?_)
  ·simp at h6
  refine acodeY_skip ?_;refine xC ?_;refine acodeY_seg hab hU rfl ?_;refine qB ?_;intro hln;have hln : es.length ≤ 9223372036854775807:=hln;refine ⟨_,_,_,le_refl,?_⟩;refine acodeY_block ?_;refine acodeY_loop (κ:=Nat) (fun i=>i ≤ es.length) (fun i=>cntL (es.take i)) (fun i=>[(0,.one (.lit (.func (.yield l) #[] #[]))),(10,.one (.slk k rEnt es)),(11,ii .i64 es.length),(12,ii .i64 i)]) (fun _=>[]) 0 (fun i=>es.length - i) 0 (Nat.zero_le _) hab hU (qQ ⟨rfl,rfl,rfl,rfl⟩ trivial rfl) rfl ?_;intro i hi;have hi : i ≤ es.length:=hi;refine acodeY_lowQ hab hU ?_;refine xC ?_;refine acodeY_seg hab hU rfl ?_;refine qB ?_;refine ⟨_,_,_,le_refl,?_⟩;refine xC ?_;refine acodeY_cond rfl (fun h13=>?_) (fun h13=>?_)
  ·simp only [decide_eq_true_eq] at h13;have hlt : i < es.length:=by omega
   have hsn:=cntL_snoc hlt;refine acodeY_skip ?_;refine xC ?_;refine acodeY_block ?_;refine xC ?_;refine acodeY_seg hab hU rfl ?_;refine qB ?_;refine zai (by omega) ?_;refine ⟨_,_,_,le_refl,?_⟩;refine xC ?_;refine acodeY_yieldG (pre:=[_,_,_,_,_,_]) (post:=[_,_]) _ (live (es.getD i (((0 : Int),ByteArray.empty,([] : List Fld)),(0 : Int)))) rfl rfl rfl rfl rfl hab hU hy ?_;refine zai (fun _=>trivial) ?_;refine zai (fun _=>trivial) ?_;refine ⟨_,_,_,le_refl,⟨_,rfl,rfl⟩,fun hq=>?_,fun hq=>?_⟩
   ·obtain ⟨hk,hx⟩:=itEs_at hlt hq;refine ⟨hk,⟨⟨hq,trivial⟩,⟨hq,trivial⟩,trivial⟩,rfl,hx.symm,by rw [hx];rfl,fun st=>?_⟩;refine zai (fun _=>⟨⟨rfl,trivial⟩,trivial⟩) ?_;refine zai (fun h=>h) ?_;refine ⟨_,_,_,le_refl,?_⟩;refine acodeY_cond rfl (fun h24=>?_) (fun h24=>?_)
    ·have h24 : (live (es.getD i (((0 : Int),ByteArray.empty,([] : List Fld)),(0 : Int))) && !!st) = true:=h24;rw [hq,Bool.true_and,Bool.not_not] at h24;subst h24;refine acodeY_ret ?_;exact ⟨_,.inl rfl,.inl rfl,fun e=>by cases e⟩
    ·have h24 : (live (es.getD i (((0 : Int),ByteArray.empty,([] : List Fld)),(0 : Int))) && !!st) = false:=h24;rw [hq,Bool.true_and,Bool.not_not] at h24;subst h24;refine acodeY_skip ?_;refine acodeY_seg hab hU rfl ?_;refine qB ?_;refine zai (by omega) ?_;refine ⟨_,_,_,qQ (tm':=[(0,.one (.lit (.func (.yield l) #[] #[]))),(10,.one (.slk k rEnt es)),(11,ii .i64 es.length),(12,ii .i64 (i + 1 : Nat))]) (ob':=[]) (nx':=1) ⟨rfl,rfl,rfl,qU (by omega)⟩ trivial rfl,0,.inr rfl,⟨i + 1,hlt,by omega,rfl,?_,rfl,rfl,rfl⟩⟩;rw [hsn,if_pos hq]
   ·refine zai (fun h=>absurd (h.symm.trans hq) (by decide)) ?_;refine zai (fun h=>h) ?_;refine ⟨_,_,_,le_refl,?_⟩;refine acodeY_cond rfl (fun h24=>?_) (fun h24=>?_)
    ·have h24 : (live (es.getD i (((0 : Int),ByteArray.empty,([] : List Fld)),(0 : Int))) && _) = true:=h24;rw [hq] at h24;cases h24
    ·refine acodeY_skip ?_;refine acodeY_seg hab hU rfl ?_;refine qB ?_;refine zai (by omega) ?_;refine ⟨_,_,_,qQ (tm':=[(0,.one (.lit (.func (.yield l) #[] #[]))),(10,.one (.slk k rEnt es)),(11,ii .i64 es.length),(12,ii .i64 (i + 1 : Nat))]) (ob':=[]) (nx':=1) ⟨rfl,rfl,rfl,qU (by omega)⟩ trivial rfl,0,.inr rfl,⟨i + 1,hlt,by omega,rfl,?_,rfl,rfl,rfl⟩⟩;rw [hsn,if_neg (by rw [hq];decide)];rfl
  ·simp only [decide_eq_false_iff_not] at h13;refine acodeY_exit ?_;refine ⟨_,.inl rfl,.inr rfl,fun _=>?_⟩;rw [List.take_of_length_le (by omega)];simp only [itEs,List.length_map,cntL]
theorem allN_iter : AIter Tryz.prog 93 [.one (.ref (.lit (.pointer none)))] []:=by
  refine aiter_of Tryz.func93 rfl rfl rfl teOk rfl ?_;intro l ι Pr J U n0 hU hab hy;refine xC ?_;refine xC ?_;refine acodeY_seg hab hU rfl ?_;refine qB ?_;refine ⟨_,_,_,le_refl,?_⟩;refine acodeY_cond rfl (fun h6=>?_) (fun h6=>?_)
  ·refine acodeY_ret ?_;exact ⟨.inl rfl,fun _=>rfl⟩
  ·simp at h6
theorem all_c {k : Nat} (L : Lst) : qW Tryz.prog 58 [.one (.adk k (rLst k) L)] (.one (.clo 93 (.ref (.adk k (rLst k) L)))):=by
  refine qT (rs:=[2]) Tryz.func58 rfl rfl rfl teOk rfl ?_;refine qC ?_;refine qB ?_;refine qC ?_;refine qB ?_;refine yM [0] ?_;refine qM ?_;rfl
theorem allN_c : qW Tryz.prog 58 [.one (.lit (.pointer none))] (.one (.clo 93 (.ref (.lit (.pointer none))))):=by
  refine qT (rs:=[2]) Tryz.func58 rfl rfl rfl teOk rfl ?_;refine qC ?_;refine qB ?_;refine qC ?_;refine qB ?_;refine yM [0] ?_;refine qM ?_;rfl
end Q
end Ab
end Go.Proofs.YtlbainbjlibfiaaGreatDoor
namespace Go.Proofs.YtlbainbjlibfiaaGreatDoor
open Go.RowKit
namespace Ab
set_option maxRecDepth 100000
namespace Q
theorem index_E (f : FuncId) {k : Nat} {β : Type} (S : Rd β) (y : β) (l : List Ent) (p : Ent → Bool) (hp : ∀ x ∈ l,qW Tryz.prog f [.agg (toL rEnt x),.one (.addr S y)] (ib (p x))) : qW Tryz.prog 91 [.one (.slk k rEnt l),.one (.clo f (.addr S y))] (ii .i64 (ixOf p l)):=by
  refine qT (rs:=[4]) Tryz.func91 rfl rfl rfl teOk rfl ?_;refine qC ?_;refine qB ?_;refine qC ?_;refine qC ?_;refine qB ?_;intro l1_1
  try simp only [zds] at l1_1
  refine qP ?_;refine qV (fun (i : Nat)=>i ≤ l.length ∧ (l.take i).any p = false) (fun (i : Nat)=>[(0,.one (.slk k rEnt l)),(1,.one (.clo f (.addr S y))),(7,ii .i64 l.length),(8,ii .i64 i)]) (fun (i : Nat)=>[]) 0 (fun (i : Nat)=>l.length - i) 0 (⟨Nat.zero_le _,rfl⟩) (qQ ⟨rfl,rfl,rfl,rfl⟩ trivial rfl) ?_;intro i hI0;obtain ⟨hi,hn⟩:=hI0;refine qC ?_;refine qB ?_;refine qC ?_;refine qK rfl (fun h9=>?_) (fun h9=>?_)
  ·try simp only [decide_eq_true_eq] at h9
   try simp only [zds] at h9
   refine qN ?_;refine qC ?_;refine qP ?_;refine qC ?_;refine qB ?_;refine qC ?_;refine qB ?_;refine zai (by first|omega|assumption|decide|(simp only [zds];omega)|(simp <;> omega)) ?_;refine Or.inl ?_;refine zai (rfl) ?_;refine zei _ (zai (hp _ (yK (show i < l.length by omega) _)) ?_);refine qK rfl (fun h16=>?_) (fun h16=>?_)
   ·try simp only [zbq] at h16
    try simp only [Int.toNat_natCast,qI,qH,qF,qG] at h16
    refine qC ?_;refine qB ?_;refine qM ?_;exact qU (ixOf_at (((0 : Int),ByteArray.empty,([] : List Fld)),(0 : Int)) (by omega) hn h16).symm
   ·try simp only [zbq] at h16
    try simp only [Int.toNat_natCast,qI,qH,qF,qG] at h16
    refine qN ?_;refine qB ?_;refine zai (by first|omega|assumption|decide|(simp only [zds];omega)|(simp <;> omega)) ?_;exact ⟨i + 1,⟨by omega,by rw [take_any l p (((0 : Int),ByteArray.empty,([] : List Fld)),(0 : Int)) i (by omega),hn];exact h16⟩,by first|omega|(simp <;> omega),qQ ⟨rfl,rfl,rfl,rfl⟩ trivial rfl⟩
  ·try simp only [decide_eq_false_iff_not,Int.not_lt] at h9
   try simp only [zds] at h9
   refine qX ?_;refine qC ?_;refine qB ?_;refine qM ?_;have e : i = l.length:=by omega
   subst e;rw [List.take_length] at hn;exact qU (ixOf_none hn).symm
theorem at1_c (id : Int) (e : Ent) : qW Tryz.prog 92 [.agg (toL rEnt e),.one (.addr (.int .i64) id)] (ib (hasId id e)):=by
  refine qT (rs:=[3]) Tryz.func92 rfl rfl rfl teOk rfl ?_;refine qC ?_;refine qB ?_;refine qC ?_;refine qB ?_;refine qM ?_;rfl
theorem at_c {k : Nat} (es : List Ent) (n m id : Int) : qW Tryz.prog 56 [.one (.adk k (rLst k) (es,n,m)),ii .i64 id] (ii .i64 (atE es id)):=by
  refine qT (rs:=[4]) Tryz.func56 rfl rfl rfl teOk rfl ?_;refine qC ?_;refine qB ?_;refine qC ?_;refine qC ?_;refine qB ?_;refine zai (fun h=>trivial) ?_;refine zai (fun h=>⟨⟨h,trivial⟩,trivial⟩) ?_;refine zai (by first|(intro h;rw [h];rfl)|(intro h;cases h)) ?_;refine qK rfl (fun h10=>?_) (fun h10=>?_)
  ·try simp only [decide_eq_true_eq,Bool.or_eq_true] at h10
   try simp only [zds] at h10
   have h10 : id < 1:=h10.elim (fun h=>by cases h) (fun h=>h);refine qC ?_;refine qB ?_;refine qM ?_;exact qU (by unfold atE;rw [if_pos h10])
  ·try simp only [decide_eq_false_iff_not,Bool.or_eq_false_iff,Int.not_lt] at h10
   try simp only [zds] at h10
   have h10 : ¬ id < 1:=(by simp at h10;omega);refine qN ?_;refine qC ?_;refine qB ?_;refine Or.inl ?_;refine zai (rfl) ?_;refine zei _ (zai (index_E _ (.int .i64) id es (hasId id) (fun x _=>at1_c id x)) ?_);refine qM ?_;exact qU (by unfold atE;rw [if_neg h10])
theorem atN_c (id : Int) : qW Tryz.prog 56 [.one (.lit (.pointer none)),ii .i64 id] (ii .i64 (-1)):=by
  refine qT (rs:=[4]) Tryz.func56 rfl rfl rfl teOk rfl ?_;refine qC ?_;refine qB ?_;refine qC ?_;refine qC ?_;refine qB ?_;refine zai (fun h=>trivial) ?_;refine zai (fun h=>⟨⟨h,trivial⟩,trivial⟩) ?_;refine zai (by first|(intro h;rw [h];rfl)|(intro h;cases h)) ?_;refine qK rfl (fun h10=>?_) (fun h10=>?_)
  ·try simp only [decide_eq_true_eq,Bool.not_eq_true',Bool.or_eq_true] at h10
   try simp only [zds] at h10
   refine qC ?_;refine qB ?_;refine qM ?_;rfl
  ·try simp only [decide_eq_false_iff_not,Bool.not_eq_false',Bool.or_eq_false_iff,Int.not_lt] at h10
   try simp only [zds] at h10
   simp at h10
theorem next_c {k : Nat} (es : List Ent) (n m : Int) : qW Tryz.prog 38 [.one (.adk k (rLst k) (es,n,m))] (ii .i64 n):=by
  refine qT (rs:=[2]) Tryz.func38 rfl rfl rfl teOk rfl ?_;refine qC ?_;refine qB ?_;refine qC ?_;refine qC ?_;refine qB ?_;refine qK rfl (fun h4=>?_) (fun h4=>?_)
  ·try simp only [zbq] at h4
   try simp only [zds] at h4
   simp at h4
  ·skip
   refine qN ?_;refine qC ?_;refine qB ?_;refine qM ?_;rfl
theorem len_c {k : Nat} (es : List Ent) (n m : Int) : qW Tryz.prog 19 [.one (.adk k (rLst k) (es,n,m))] (ii .i64 m):=by
  refine qT (rs:=[2]) Tryz.func19 rfl rfl rfl teOk rfl ?_;refine qC ?_;refine qB ?_;refine qC ?_;refine qC ?_;refine qB ?_;refine qK rfl (fun h4=>?_) (fun h4=>?_)
  ·try simp only [zbq] at h4
   try simp only [zds] at h4
   simp at h4
  ·skip
   refine qN ?_;refine qC ?_;refine qB ?_;refine qM ?_;rfl
theorem nextN_c : qW Tryz.prog 38 [.one (.lit (.pointer none))] (ii .i64 0):=by
  refine qT (rs:=[2]) Tryz.func38 rfl rfl rfl teOk rfl ?_;refine qC ?_;refine qB ?_;refine qC ?_;refine qC ?_;refine qB ?_;refine qK rfl (fun h4=>?_) (fun h4=>?_)
  ·try simp only [Bool.not_eq_true'] at h4
   try simp only [zds] at h4
   refine qC ?_;refine qB ?_;refine qM ?_;rfl
  ·try simp only [Bool.not_eq_false'] at h4
   try simp only [zds] at h4
   simp at h4
theorem lenN_c : qW Tryz.prog 19 [.one (.lit (.pointer none))] (ii .i64 0):=by
  refine qT (rs:=[2]) Tryz.func19 rfl rfl rfl teOk rfl ?_;refine qC ?_;refine qB ?_;refine qC ?_;refine qC ?_;refine qB ?_;refine qK rfl (fun h4=>?_) (fun h4=>?_)
  ·try simp only [Bool.not_eq_true'] at h4
   try simp only [zds] at h4
   refine qC ?_;refine qB ?_;refine qM ?_;rfl
  ·try simp only [Bool.not_eq_false'] at h4
   try simp only [zds] at h4
   simp at h4
theorem at_lt {es : List Ent} {id : Int} (h : ¬ atE es id < 0) : ∃ i : Nat,i < es.length ∧ atE es id = i ∧ 0 < id ∧ (es.getD i (((0 : Int),ByteArray.empty,([] : List Fld)),(0 : Int))).2 = id:=by
  rcases at_cases es id with ⟨h1,_⟩|⟨i,h1,h2,h3,h4,_⟩
  · omega
  · exact ⟨i,h1,h2,h3,h4⟩
theorem raw_c {k : Nat} (es : List Ent) (n m id : Int) : qW Tryz.prog 28 [.one (.adk k (rLst k) (es,n,m)),ii .i64 id] (.tup [(false,[.lit (.string (if atE es id < 0 then ⟨#[]⟩ else rawL es id))]),(false,[.lit (.bool (decide (0 ≤ atE es id)))])]):=by
  refine qT (rs:=[4,5]) Tryz.func28 rfl rfl rfl teOk rfl ?_;refine qC ?_;refine qB ?_;refine qC ?_;refine qB ?_;refine Or.inl ?_;refine zai (rfl) ?_;refine zei _ (zai (at_c es n m id) ?_);refine qC ?_;refine qC ?_;refine qB ?_;refine qK rfl (fun h11=>?_) (fun h11=>?_)
  ·try simp only [decide_eq_true_eq] at h11
   try simp only [zds] at h11
   rw [if_pos h11,decide_eq_false (show ¬ 0 ≤ atE es id by omega)];refine qC ?_;refine qB ?_;refine qM ?_;rfl
  ·try simp only [decide_eq_false_iff_not,Int.not_lt] at h11
   try simp only [zds] at h11
   have h11' : ¬ atE es id < 0:=(by omega);obtain ⟨i,hi,he,_,_⟩:=at_lt h11';rw [if_neg h11',decide_eq_true (show 0 ≤ atE es id by omega)];unfold rawL;rw [he];rw [Int.toNat_natCast];refine qN ?_;refine qC ?_;refine qB ?_;refine zai (by first|omega|assumption|decide|(simp only [];omega)|(simp <;> omega)) ?_;refine qM ?_;rfl
end Q
end Ab
end Go.Proofs.YtlbainbjlibfiaaGreatDoor
namespace Go.Proofs.YtlbainbjlibfiaaGreatDoor
open Go.RowKit
namespace Ab
set_option maxRecDepth 100000
namespace Q
theorem lDel_no (es : List Ent) (n m id : Int) (h : atE es id < 0) : yD Tryz.prog 15 [.one (.own 0 0),ii .i64 id] (lsO (es,n,m)) 2 (.one (errN 7)) (lsO (es,n,m)) 2:=by
  refine yB (rs:=[4]) Tryz.func15 rfl rfl rfl teOk (by decide) rfl ?_;refine qC ?_;refine qB ?_;refine qC ?_;refine qB ?_;refine Or.inr (Or.inr (Or.inl ?_));refine zai rfl ?_;refine zei _ (zai (at_c es n m id) ?_);refine qC ?_;refine qC ?_;refine qB ?_;refine qK rfl (fun h10=>?_) (fun h10=>?_)
  ·try simp only [decide_eq_true_eq] at h10
   try simp only [zds] at h10
   refine qC ?_;refine qB ?_;refine qM ?_;exact ⟨rfl,⟨rfl,rfl⟩,rfl⟩
  ·try simp only [decide_eq_false_iff_not,Int.not_lt] at h10
   try simp only [zds] at h10
   omega
theorem lDel_ok (es : List Ent) (n m id : Int) (i : Nat) (hi : i < es.length) (h : atE es id = i) (hm : 0 ≤ m ∧ m ≤ 1000000) (hl : es.length ≤ 1000000) : yD Tryz.prog 15 [.one (.own 0 0),ii .i64 id] (lsO (es,n,m)) 2 (.one (.lit .nilIface)) (lsO (delE es i,n,m - 1)) 2:=by
  refine yB (rs:=[4]) Tryz.func15 rfl rfl rfl teOk (by decide) rfl ?_;refine qC ?_;refine qB ?_;refine qC ?_;refine qB ?_;refine Or.inr (Or.inr (Or.inl ?_));refine zai rfl ?_;refine zei _ (zai ((by have:=at_c (k:=1) es n m id;rw [h] at this;exact this)) ?_);refine qC ?_;refine qC ?_;refine qB ?_;refine qK rfl (fun h10=>?_) (fun h10=>?_)
  ·try simp only [decide_eq_true_eq] at h10
   try simp only [zds] at h10
   omega
  ·try simp only [decide_eq_false_iff_not,Int.not_lt] at h10
   try simp only [zds] at h10
   refine qN ?_;refine qC ?_;refine qB ?_;refine zai (by first|omega|assumption|decide|(simp only [zds];omega)|(simp <;> omega)) ?_;refine Or.inr (Or.inr (Or.inr (zei [1] (zei [] (zei _ (zei _ (zei _ (zei _ (zei _ (zai (delete_x es i (i + 1) (Nat.lt_succ_self _) hi) (zai rfl (zai (zai (zai rfl rfl) True.intro) (zai rfl ?_)))))))))))));refine qC ?_;refine qB ?_;refine zai (by first|omega|assumption|decide|(simp only [];omega)|(simp <;> omega)) ?_;refine qC ?_;refine qB ?_;refine qM ?_;exact ⟨rfl,⟨rfl,rfl⟩,rfl⟩
end Q
end Ab
end Go.Proofs.YtlbainbjlibfiaaGreatDoor
namespace Go.Proofs.YtlbainbjlibfiaaGreatDoor
open Go.RowKit
namespace Ab
set_option maxRecDepth 100000
namespace Q
theorem pitem_ok {κ : Nat} {l : List Fld} (hl : xF l) (h : (chkR l).2 = 0) : qW Tryz.prog 73 [.one (.slk κ rFld l)] (.tup [(true,toL rItm (3,bytes (foldL l),l)),(false,[.lit .nilIface])]):=by
  refine yY (rs:=[.cell 2 63,.tmp 3]) Tryz.func73 rfl rfl rfl teOk rfl ?_;refine qC ?_;refine qB ?_;refine qC ?_;refine qB ?_;refine Or.inl ?_;refine zai (rfl) ?_;refine zei _ (zai (pstanza_ok hl h) ?_);refine qC ?_;refine qC ?_;refine qB ?_;refine qK rfl (fun h12=>?_) (fun h12=>?_)
  ·try simp only [Bool.not_eq_true'] at h12
   try simp only [zds] at h12
   cases h12
  ·try simp only [Bool.not_eq_false'] at h12
   try simp only [zds] at h12
   refine qN ?_;refine qC ?_;refine qB ?_;refine Or.inl ?_;refine zai (rfl) ?_;refine zei _ (zai (clone_c l (Nat.le_trans hl.1 (by decide))) ?_);refine qM ?_;rfl
theorem pitem_err {κ : Nat} {l : List Fld} (hl : xF l) (h : (chkR l).2 ≠ 0) : qW Tryz.prog 73 [.one (.slk κ rFld l)] (.tup [(true,[.lit (.int .i64 0),.lit (.string ⟨#[]⟩),.lit (.slice none 0 0)]),(false,[chkA l])]):=by
  have hc:=pstanza_err (κ:=κ) hl h;obtain ⟨e,he,hs⟩:=chk_bad h;rw [he] at hc ⊢;rcases hs with ⟨n,hn,rfl,_⟩|⟨i,n,hn,rfl,_⟩
  ·
    refine yY (rs:=[.cell 2 63,.tmp 3]) Tryz.func73 rfl rfl rfl teOk rfl ?_;refine qC ?_;refine qB ?_;refine qC ?_;refine qB ?_;refine Or.inl ?_;refine zai (rfl) ?_;refine zei _ (zai (hc) ?_);refine qC ?_;refine qC ?_;refine qB ?_;refine qK rfl (fun h12=>?_) (fun h12=>?_)
    ·skip
     refine qC ?_;refine qB ?_;refine qM ?_;rfl
    ·try simp only [zbq] at h12
     try simp only [zds] at h12
     cases h12
  ·
    refine yY (rs:=[.cell 2 63,.tmp 3]) Tryz.func73 rfl rfl rfl teOk rfl ?_;refine qC ?_;refine qB ?_;refine qC ?_;refine qB ?_;refine Or.inl ?_;refine zai (rfl) ?_;refine zei _ (zai (hc) ?_);refine qC ?_;refine qC ?_;refine qB ?_;refine qK rfl (fun h12=>?_) (fun h12=>?_)
    ·skip
     refine qC ?_;refine qB ?_;refine qM ?_;rfl
    ·try simp only [zbq] at h12
     try simp only [zds] at h12
     cases h12
end Q
end Ab
end Go.Proofs.YtlbainbjlibfiaaGreatDoor
namespace Go.Proofs.YtlbainbjlibfiaaGreatDoor
open Go.RowKit
namespace Ab
set_option maxRecDepth 100000
namespace Q
def itmOf (f : List Fld) : Itm:=(3,bytes (foldL f),f)
theorem lRep_no {κ : Nat} (es : List Ent) (n m id : Int) (f : List Fld) (h : atE es id < 0) : yD Tryz.prog 35 [.one (.own 0 0),ii .i64 id,.one (.slk κ rFld f)] (lsO (es,n,m)) 2 (.one (errN 7)) (lsO (es,n,m)) 2:=by
  refine yB (rs:=[6]) Tryz.func35 rfl rfl rfl teOk (by decide) rfl ?_;refine qC ?_;refine qB ?_;refine qC ?_;refine qB ?_;refine Or.inr (Or.inr (Or.inl ?_));refine zai rfl ?_;refine zei _ (zai (at_c es n m id) ?_);refine qC ?_;refine qC ?_;refine qB ?_;refine qK rfl (fun h14=>?_) (fun h14=>?_)
  ·try simp only [decide_eq_true_eq] at h14
   try simp only [zds] at h14
   refine qC ?_;refine qB ?_;refine qM ?_;exact ⟨rfl,⟨rfl,rfl⟩,rfl⟩
  ·try simp only [decide_eq_false_iff_not,Int.not_lt] at h14
   try simp only [zds] at h14
   omega
theorem lRep_bad {κ : Nat} (es : List Ent) (n m id : Int) (f : List Fld) (h : 0 ≤ atE es id) (hf : xF f) (hc : (chkR f).2 ≠ 0) : yD Tryz.prog 35 [.one (.own 0 0),ii .i64 id,.one (.slk κ rFld f)] (lsO (es,n,m)) 2 (.one (chkA f)) (lsO (es,n,m)) 2:=by
  have hpi:=pitem_err (κ:=κ) hf hc;obtain ⟨e,he,hs⟩:=chk_bad hc;rw [he] at hpi ⊢;rcases hs with ⟨x,hx,rfl,_⟩|⟨j,x,hx,rfl,_⟩
  ·
    refine yB (rs:=[6]) Tryz.func35 rfl rfl rfl teOk (by decide) rfl ?_;refine qC ?_;refine qB ?_;refine qC ?_;refine qB ?_;refine Or.inr (Or.inr (Or.inl ?_));refine zai rfl ?_;refine zei _ (zai (at_c es n m id) ?_);refine qC ?_;refine qC ?_;refine qB ?_;refine qK rfl (fun h14=>?_) (fun h14=>?_)
    ·try simp only [decide_eq_true_eq] at h14
     try simp only [zds] at h14
     omega
    ·try simp only [decide_eq_false_iff_not,Int.not_lt] at h14
     try simp only [zds] at h14
     refine qN ?_;refine qC ?_;refine qB ?_;refine Or.inl ?_;refine zai (rfl) ?_;refine zei _ (zai (hpi) ?_);refine qC ?_;refine qC ?_;refine qB ?_;refine qK rfl (fun h22=>?_) (fun h22=>?_)
     ·skip
      refine qC ?_;refine qB ?_;refine qM ?_;exact ⟨rfl,⟨rfl,rfl⟩,rfl⟩
     ·try simp only [zbq] at h22
      try simp only [zds] at h22
      cases h22
  ·
    refine yB (rs:=[6]) Tryz.func35 rfl rfl rfl teOk (by decide) rfl ?_;refine qC ?_;refine qB ?_;refine qC ?_;refine qB ?_;refine Or.inr (Or.inr (Or.inl ?_));refine zai rfl ?_;refine zei _ (zai (at_c es n m id) ?_);refine qC ?_;refine qC ?_;refine qB ?_;refine qK rfl (fun h14=>?_) (fun h14=>?_)
    ·try simp only [decide_eq_true_eq] at h14
     try simp only [zds] at h14
     omega
    ·try simp only [decide_eq_false_iff_not,Int.not_lt] at h14
     try simp only [zds] at h14
     refine qN ?_;refine qC ?_;refine qB ?_;refine Or.inl ?_;refine zai (rfl) ?_;refine zei _ (zai (hpi) ?_);refine qC ?_;refine qC ?_;refine qB ?_;refine qK rfl (fun h22=>?_) (fun h22=>?_)
     ·skip
      refine qC ?_;refine qB ?_;refine qM ?_;exact ⟨rfl,⟨rfl,rfl⟩,rfl⟩
     ·try simp only [zbq] at h22
      try simp only [zds] at h22
      cases h22
theorem lRep_ok {κ : Nat} (es : List Ent) (n m id : Int) (f : List Fld) (i : Nat) (hi : i < es.length) (h : atE es id = i) (hf : xF f) (hc : (chkR f).2 = 0) : yD Tryz.prog 35 [.one (.own 0 0),ii .i64 id,.one (.slk κ rFld f)] (lsO (es,n,m)) 2 (.one (.lit .nilIface)) (lsO (replE es i (itmOf f),n,m)) 2:=by
  refine yB (rs:=[6]) Tryz.func35 rfl rfl rfl teOk (by decide) rfl ?_;refine qC ?_;refine qB ?_;refine qC ?_;refine qB ?_;refine Or.inr (Or.inr (Or.inl ?_));refine zai rfl ?_;refine zei _ (zai ((by have:=at_c (k:=1) es n m id;rw [h] at this;exact this)) ?_);refine qC ?_;refine qC ?_;refine qB ?_;refine qK rfl (fun h14=>?_) (fun h14=>?_)
  ·try simp only [decide_eq_true_eq] at h14
   try simp only [zds] at h14
   omega
  ·try simp only [decide_eq_false_iff_not,Int.not_lt] at h14
   try simp only [zds] at h14
   refine qN ?_;refine qC ?_;refine qB ?_;refine Or.inl ?_;refine zai (rfl) ?_;refine zei _ (zai (pitem_ok hf hc) ?_);refine qC ?_;refine qC ?_;refine qB ?_;refine qK rfl (fun h22=>?_) (fun h22=>?_)
   ·try simp only [Bool.not_eq_true'] at h22
    try simp only [zds] at h22
    cases h22
   ·try simp only [Bool.not_eq_false'] at h22
    try simp only [zds] at h22
    refine qN ?_;refine qC ?_;refine yH rfl ?_;refine qJ 0 rfl rfl rfl (by kernel_rfl) ?_;refine qJ 1 rfl rfl rfl (by kernel_rfl) ?_;refine qJ 2 rfl rfl rfl (by kernel_rfl) ?_;refine qJ 4 rfl rfl rfl (by kernel_rfl) ?_;refine qE [3,5] (by kernel_rfl) rfl ?_;refine zai ?_ ?_
    ·refine qE [5] (by kernel_rfl) rfl ?_;refine qJ 6 rfl rfl rfl (by kernel_rfl) ?_;refine zai (by first|omega|assumption|decide|(simp only [];omega)|(simp <;> omega)) ?_;refine qE [7] (by kernel_rfl) rfl ?_;refine qE [8] (by kernel_rfl) rfl ?_;refine zai (by (rw [Int.toNat_natCast];exact hi)) ?_;refine qO (by kernel_rfl) ?_;refine qC ?_;refine qB ?_;refine qM ?_;exact ⟨rfl,⟨rfl,rfl⟩,rfl⟩
    ·refine qE [3] (by kernel_rfl) rfl ?_;refine qJ 6 rfl rfl rfl (by kernel_rfl) ?_;refine zai (by first|omega|assumption|decide|(simp only [];omega)|(simp <;> omega)) ?_;refine qE [7] (by kernel_rfl) rfl ?_;refine qE [8] (by kernel_rfl) rfl ?_;refine zai (by (rw [Int.toNat_natCast];exact hi)) ?_;refine qO (by kernel_rfl) ?_;refine qC ?_;refine qB ?_;refine qM ?_;exact ⟨rfl,⟨rfl,rfl⟩,rfl⟩
end Q
end Ab
end Go.Proofs.YtlbainbjlibfiaaGreatDoor
namespace Go.Proofs.YtlbainbjlibfiaaGreatDoor
open Go.RowKit
namespace Ab
set_option maxRecDepth 100000
namespace Q
theorem lIns_no {κ : Nat} (es : List Ent) (n m id : Int) (f : List Fld) (h : atE es id < 0) (h0 : id ≠ 0) : yD Tryz.prog 33 [.one (.own 0 0),ii .i64 id,.one (.slk κ rFld f)] (lsO (es,n,m)) 2 (.tup [(false,[.lit (.int .i64 0)]),(false,[errN 7])]) (lsO (es,n,m)) 2:=by
  refine yB (rs:=[6,7]) Tryz.func33 rfl rfl rfl teOk (by decide) rfl ?_;refine qC ?_;refine qB ?_;refine qC ?_;refine qB ?_;refine Or.inr (Or.inr (Or.inl ?_));refine zai rfl ?_;refine zei _ (zai (at_c es n m id) ?_);refine qC ?_;refine qC ?_;refine qB ?_;refine zai (fun h=>trivial) ?_;refine zai (fun h=>⟨⟨h,trivial⟩,trivial⟩) ?_;refine zai (fun h=>⟨⟨h,trivial⟩,trivial⟩) ?_;refine zai (fun h=>trivial) ?_;refine zai (fun h=>⟨⟨h,trivial⟩,trivial⟩) ?_;refine zai (fun h=>⟨⟨⟨h,trivial⟩,trivial⟩,by first|exact fun h2=>h2|(intro h2;rw [h,h2];rfl)|(intro h2;cases h2)|(intro h2;simp_all [gq])⟩) ?_;refine zai (by first|(intro h;rw [h];rfl)|(intro h;cases h)) ?_;refine qK rfl (fun h24=>?_) (fun h24=>?_)
  ·try simp only [decide_eq_true_eq,decide_eq_false_iff_not,Bool.and_eq_true,Bool.not_eq_true',Bool.or_eq_true] at h24
   try simp only [zds] at h24
   refine qC ?_;refine qB ?_;refine qM ?_;exact ⟨rfl,⟨rfl,rfl⟩,rfl⟩
  ·try simp only [decide_eq_true_eq,decide_eq_false_iff_not,Bool.not_eq_false',Bool.or_eq_false_iff,Bool.and_eq_false_iff,Int.not_lt] at h24
   try simp only [zds] at h24
   simp at h24;omega
theorem lIns_bad {κ : Nat} (es : List Ent) (n m id : Int) (f : List Fld) (h : ¬ (atE es id < 0 ∧ id ≠ 0)) (hf : xF f) (hc : (chkR f).2 ≠ 0) : yD Tryz.prog 33 [.one (.own 0 0),ii .i64 id,.one (.slk κ rFld f)] (lsO (es,n,m)) 2 (.tup [(false,[.lit (.int .i64 0)]),(false,[chkA f])]) (lsO (es,n,m)) 2:=by
  have hpi:=pitem_err (κ:=κ) hf hc;obtain ⟨e,he,hs⟩:=chk_bad hc;rw [he] at hpi ⊢;rcases hs with ⟨x,hx,rfl,_⟩|⟨j,x,hx,rfl,_⟩
  ·
    refine yB (rs:=[6,7]) Tryz.func33 rfl rfl rfl teOk (by decide) rfl ?_;refine qC ?_;refine qB ?_;refine qC ?_;refine qB ?_;refine Or.inr (Or.inr (Or.inl ?_));refine zai rfl ?_;refine zei _ (zai (at_c es n m id) ?_);refine qC ?_;refine qC ?_;refine qB ?_;refine zai (fun h=>trivial) ?_;refine zai (fun h=>⟨⟨h,trivial⟩,trivial⟩) ?_;refine zai (fun h=>⟨⟨h,trivial⟩,trivial⟩) ?_;refine zai (fun h=>trivial) ?_;refine zai (fun h=>⟨⟨h,trivial⟩,trivial⟩) ?_;refine zai (fun h=>⟨⟨⟨h,trivial⟩,trivial⟩,by first|exact fun h2=>h2|(intro h2;rw [h,h2];rfl)|(intro h2;cases h2)|(intro h2;simp_all [gq])⟩) ?_;refine zai (by first|(intro h;rw [h];rfl)|(intro h;cases h)) ?_;refine qK rfl (fun h24=>?_) (fun h24=>?_)
    ·try simp only [decide_eq_true_eq,decide_eq_false_iff_not,Bool.and_eq_true,Bool.not_eq_true',Bool.or_eq_true] at h24
     try simp only [zds] at h24
     exact absurd (by simpa using h24) h
    ·try simp only [decide_eq_true_eq,decide_eq_false_iff_not,Bool.not_eq_false',Bool.or_eq_false_iff,Bool.and_eq_false_iff,Int.not_lt] at h24
     try simp only [zds] at h24
     refine qN ?_;refine qC ?_;refine qB ?_;refine Or.inl ?_;refine zai (rfl) ?_;refine zei _ (zai (hpi) ?_);refine qC ?_;refine qP ?_;refine qC ?_;refine qB ?_;refine qK rfl (fun h31=>?_) (fun h31=>?_)
     ·skip
      refine qC ?_;refine qB ?_;refine qM ?_;exact ⟨rfl,⟨rfl,rfl⟩,rfl⟩
     ·try simp only [zbq] at h31
      try simp only [zds] at h31
      cases h31
  ·
    refine yB (rs:=[6,7]) Tryz.func33 rfl rfl rfl teOk (by decide) rfl ?_;refine qC ?_;refine qB ?_;refine qC ?_;refine qB ?_;refine Or.inr (Or.inr (Or.inl ?_));refine zai rfl ?_;refine zei _ (zai (at_c es n m id) ?_);refine qC ?_;refine qC ?_;refine qB ?_;refine zai (fun h=>trivial) ?_;refine zai (fun h=>⟨⟨h,trivial⟩,trivial⟩) ?_;refine zai (fun h=>⟨⟨h,trivial⟩,trivial⟩) ?_;refine zai (fun h=>trivial) ?_;refine zai (fun h=>⟨⟨h,trivial⟩,trivial⟩) ?_;refine zai (fun h=>⟨⟨⟨h,trivial⟩,trivial⟩,by first|exact fun h2=>h2|(intro h2;rw [h,h2];rfl)|(intro h2;cases h2)|(intro h2;simp_all [gq])⟩) ?_;refine zai (by first|(intro h;rw [h];rfl)|(intro h;cases h)) ?_;refine qK rfl (fun h24=>?_) (fun h24=>?_)
    ·try simp only [decide_eq_true_eq,decide_eq_false_iff_not,Bool.and_eq_true,Bool.not_eq_true',Bool.or_eq_true] at h24
     try simp only [zds] at h24
     exact absurd (by simpa using h24) h
    ·try simp only [decide_eq_true_eq,decide_eq_false_iff_not,Bool.not_eq_false',Bool.or_eq_false_iff,Bool.and_eq_false_iff,Int.not_lt] at h24
     try simp only [zds] at h24
     refine qN ?_;refine qC ?_;refine qB ?_;refine Or.inl ?_;refine zai (rfl) ?_;refine zei _ (zai (hpi) ?_);refine qC ?_;refine qP ?_;refine qC ?_;refine qB ?_;refine qK rfl (fun h31=>?_) (fun h31=>?_)
     ·skip
      refine qC ?_;refine qB ?_;refine qM ?_;exact ⟨rfl,⟨rfl,rfl⟩,rfl⟩
     ·try simp only [zbq] at h31
      try simp only [zds] at h31
      cases h31
theorem lIns_full {κ : Nat} (es : List Ent) (n m id : Int) (f : List Fld) (h : ¬ (atE es id < 0 ∧ id ≠ 0)) (hf : xF f) (hc : (chkR f).2 = 0) (hm : 400 ≤ m) : yD Tryz.prog 33 [.one (.own 0 0),ii .i64 id,.one (.slk κ rFld f)] (lsO (es,n,m)) 2 (.tup [(false,[.lit (.int .i64 0)]),(false,[errN 11])]) (lsO (es,n,m)) 2:=by
  refine yB (rs:=[6,7]) Tryz.func33 rfl rfl rfl teOk (by decide) rfl ?_;refine qC ?_;refine qB ?_;refine qC ?_;refine qB ?_;refine Or.inr (Or.inr (Or.inl ?_));refine zai rfl ?_;refine zei _ (zai (at_c es n m id) ?_);refine qC ?_;refine qC ?_;refine qB ?_;refine zai (fun h=>trivial) ?_;refine zai (fun h=>⟨⟨h,trivial⟩,trivial⟩) ?_;refine zai (fun h=>⟨⟨h,trivial⟩,trivial⟩) ?_;refine zai (fun h=>trivial) ?_;refine zai (fun h=>⟨⟨h,trivial⟩,trivial⟩) ?_;refine zai (fun h=>⟨⟨⟨h,trivial⟩,trivial⟩,by first|exact fun h2=>h2|(intro h2;rw [h,h2];rfl)|(intro h2;cases h2)|(intro h2;simp_all [gq])⟩) ?_;refine zai (by first|(intro h;rw [h];rfl)|(intro h;cases h)) ?_;refine qK rfl (fun h24=>?_) (fun h24=>?_)
  ·try simp only [decide_eq_true_eq,decide_eq_false_iff_not,Bool.and_eq_true,Bool.not_eq_true',Bool.or_eq_true] at h24
   try simp only [zds] at h24
   exact absurd (by simpa using h24) h
  ·try simp only [decide_eq_true_eq,decide_eq_false_iff_not,Bool.not_eq_false',Bool.or_eq_false_iff,Bool.and_eq_false_iff,Int.not_lt] at h24
   try simp only [zds] at h24
   refine qN ?_;refine qC ?_;refine qB ?_;refine Or.inl ?_;refine zai (rfl) ?_;refine zei _ (zai (pitem_ok hf hc) ?_);refine qC ?_;refine qP ?_;refine qC ?_;refine qB ?_;refine qK rfl (fun h31=>?_) (fun h31=>?_)
   ·try simp only [Bool.not_eq_true'] at h31
    try simp only [zds] at h31
    cases h31
   ·try simp only [Bool.not_eq_false'] at h31
    try simp only [zds] at h31
    refine qC ?_;refine qB ?_;refine qK rfl (fun h35=>?_) (fun h35=>?_)
    ·try simp only [decide_eq_true_eq] at h35
     try simp only [zds] at h35
     refine qC ?_;refine qB ?_;refine qM ?_;exact ⟨rfl,⟨rfl,rfl⟩,rfl⟩
    ·try simp only [decide_eq_false_iff_not,Int.not_le] at h35
     try simp only [zds] at h35
     omega
theorem lIns_ok {κ : Nat} (es : List Ent) (n m id : Int) (f : List Fld) (j : Nat) (hj : j ≤ es.length) (h : ¬ (atE es id < 0 ∧ id ≠ 0)) (ha : atE es id + 1 = (j : Int)) (hf : xF f) (hc : (chkR f).2 = 0) (hm : 0 ≤ m ∧ m < 400) (hn : 0 ≤ n ∧ n ≤ 1000000000) (hl : es.length ≤ 1000000) : yD Tryz.prog 33 [.one (.own 0 0),ii .i64 id,.one (.slk κ rFld f)] (lsO (es,n,m)) 2 (.tup [(false,[.lit (.int .i64 n)]),(false,[.lit .nilIface])]) (lsO (insE es j (itmOf f,n),n + 1,m + 1)) 2:=by
  have hins:=insert_x es (itmOf f,n) j hj hl;rw [← ha] at hins;refine yB (rs:=[6,7]) Tryz.func33 rfl rfl rfl teOk (by decide) rfl ?_;refine qC ?_;refine qB ?_;refine qC ?_;refine qB ?_;refine Or.inr (Or.inr (Or.inl ?_));refine zai rfl ?_;refine zei _ (zai (at_c es n m id) ?_);refine qC ?_;refine qC ?_;refine qB ?_;refine zai (fun h=>trivial) ?_;refine zai (fun h=>⟨⟨h,trivial⟩,trivial⟩) ?_;refine zai (fun h=>⟨⟨h,trivial⟩,trivial⟩) ?_;refine zai (fun h=>trivial) ?_;refine zai (fun h=>⟨⟨h,trivial⟩,trivial⟩) ?_;refine zai (fun h=>⟨⟨⟨h,trivial⟩,trivial⟩,by first|exact fun h2=>h2|(intro h2;rw [h,h2];rfl)|(intro h2;cases h2)|(intro h2;simp_all [gq])⟩) ?_;refine zai (by first|(intro h;rw [h];rfl)|(intro h;cases h)) ?_;refine qK rfl (fun h24=>?_) (fun h24=>?_)
  ·try simp only [decide_eq_true_eq,decide_eq_false_iff_not,Bool.and_eq_true,Bool.not_eq_true',Bool.or_eq_true] at h24
   try simp only [zds] at h24
   exact absurd (by simpa using h24) h
  ·try simp only [decide_eq_true_eq,decide_eq_false_iff_not,Bool.not_eq_false',Bool.or_eq_false_iff,Bool.and_eq_false_iff,Int.not_lt] at h24
   try simp only [zds] at h24
   refine qN ?_;refine qC ?_;refine qB ?_;refine Or.inl ?_;refine zai (rfl) ?_;refine zei _ (zai (pitem_ok hf hc) ?_);refine qC ?_;refine qP ?_;refine qC ?_;refine qB ?_;refine qK rfl (fun h31=>?_) (fun h31=>?_)
   ·try simp only [Bool.not_eq_true'] at h31
    try simp only [zds] at h31
    cases h31
   ·try simp only [Bool.not_eq_false'] at h31
    try simp only [zds] at h31
    refine qC ?_;refine qB ?_;refine qK rfl (fun h35=>?_) (fun h35=>?_)
    ·try simp only [decide_eq_true_eq] at h35
     try simp only [zds] at h35
     omega
    ·try simp only [decide_eq_false_iff_not,Int.not_le] at h35
     try simp only [zds] at h35
     refine qN ?_;refine qC ?_;refine qB ?_;refine qC ?_;refine yH rfl ?_;refine qJ 0 rfl rfl rfl (by kernel_rfl) ?_;refine qJ 1 rfl rfl rfl (by kernel_rfl) ?_;refine qJ 2 rfl rfl rfl (by kernel_rfl) ?_;refine qJ 3 rfl rfl rfl (by kernel_rfl) ?_;refine qJ 5 rfl rfl rfl (by kernel_rfl) ?_;refine qJ 6 rfl rfl rfl (by kernel_rfl) ?_;refine zai (by first|omega|assumption|decide|(simp only [zds];omega)|(simp <;> omega)) ?_;refine qJ 8 rfl rfl rfl (by kernel_rfl) ?_;refine qE [4,7] (by kernel_rfl) rfl ?_;refine zai ?_ ?_
     ·refine qE [7] (by kernel_rfl) rfl ?_;refine qE [9] (by kernel_rfl) rfl ?_;refine qE [10] (by kernel_rfl) rfl ?_;refine qE [11] (by kernel_rfl) rfl ?_;refine Or.inr (Or.inr (Or.inr (zei [1,3] (zei [] (zei _ (zei _ (zei _ (zei _ (zei _ (zai (hins) (zai rfl (zai (zai (zai rfl rfl) (zai (zai rfl rfl) True.intro)) (zai rfl ?_)))))))))))));refine qJ 12 rfl rfl rfl (by kernel_rfl) ?_;refine qJ 13 rfl rfl rfl (by kernel_rfl) ?_;refine qE [14] (by kernel_rfl) rfl ?_;refine qO (by kernel_rfl) ?_;refine qC ?_;refine qB ?_;refine zai (by first|omega|assumption|decide|(simp only [];omega)|(simp <;> omega)) ?_;refine qC ?_;refine qB ?_;refine zai (by first|omega|assumption|decide|(simp only [];omega)|(simp <;> omega)) ?_;refine qC ?_;refine qB ?_;refine qM ?_;exact ⟨rfl,⟨rfl,rfl⟩,rfl⟩
     ·refine qE [4,9] (by kernel_rfl) rfl ?_;refine zai ?_ ?_
      ·refine qE [9] (by kernel_rfl) rfl ?_;refine qE [10] (by kernel_rfl) rfl ?_;refine qE [11] (by kernel_rfl) rfl ?_;refine Or.inr (Or.inr (Or.inr (zei [1,3] (zei [] (zei _ (zei _ (zei _ (zei _ (zei _ (zai (hins) (zai rfl (zai (zai (zai rfl rfl) (zai (zai rfl rfl) True.intro)) (zai rfl ?_)))))))))))));refine qJ 12 rfl rfl rfl (by kernel_rfl) ?_;refine qJ 13 rfl rfl rfl (by kernel_rfl) ?_;refine qE [14] (by kernel_rfl) rfl ?_;refine qO (by kernel_rfl) ?_;refine qC ?_;refine qB ?_;refine zai (by first|omega|assumption|decide|(simp only [];omega)|(simp <;> omega)) ?_;refine qC ?_;refine qB ?_;refine zai (by first|omega|assumption|decide|(simp only [];omega)|(simp <;> omega)) ?_;refine qC ?_;refine qB ?_;refine qM ?_;exact ⟨rfl,⟨rfl,rfl⟩,rfl⟩
      ·refine qE [4,10] (by kernel_rfl) rfl ?_;refine zai ?_ ?_
       ·refine qE [10] (by kernel_rfl) rfl ?_;refine qE [11] (by kernel_rfl) rfl ?_;refine Or.inr (Or.inr (Or.inr (zei [1,3] (zei [] (zei _ (zei _ (zei _ (zei _ (zei _ (zai (hins) (zai rfl (zai (zai (zai rfl rfl) (zai (zai rfl rfl) True.intro)) (zai rfl ?_)))))))))))));refine qJ 12 rfl rfl rfl (by kernel_rfl) ?_;refine qJ 13 rfl rfl rfl (by kernel_rfl) ?_;refine qE [14] (by kernel_rfl) rfl ?_;refine qO (by kernel_rfl) ?_;refine qC ?_;refine qB ?_;refine zai (by first|omega|assumption|decide|(simp only [];omega)|(simp <;> omega)) ?_;refine qC ?_;refine qB ?_;refine zai (by first|omega|assumption|decide|(simp only [];omega)|(simp <;> omega)) ?_;refine qC ?_;refine qB ?_;refine qM ?_;exact ⟨rfl,⟨rfl,rfl⟩,rfl⟩
       ·refine qE [4] (by kernel_rfl) rfl ?_;refine qE [11] (by kernel_rfl) rfl ?_;refine Or.inr (Or.inr (Or.inr (zei [1,3] (zei [] (zei _ (zei _ (zei _ (zei _ (zei _ (zai (hins) (zai rfl (zai (zai (zai rfl rfl) (zai (zai rfl rfl) True.intro)) (zai rfl ?_)))))))))))));refine qJ 12 rfl rfl rfl (by kernel_rfl) ?_;refine qJ 13 rfl rfl rfl (by kernel_rfl) ?_;refine qE [14] (by kernel_rfl) rfl ?_;refine qO (by kernel_rfl) ?_;refine qC ?_;refine qB ?_;refine zai (by first|omega|assumption|decide|(simp only [];omega)|(simp <;> omega)) ?_;refine qC ?_;refine qB ?_;refine zai (by first|omega|assumption|decide|(simp only [];omega)|(simp <;> omega)) ?_;refine qC ?_;refine qB ?_;refine qM ?_;exact ⟨rfl,⟨rfl,rfl⟩,rfl⟩
end Q
end Ab
end Go.Proofs.YtlbainbjlibfiaaGreatDoor
namespace Go.Proofs.YtlbainbjlibfiaaGreatDoor
open Go.RowKit
namespace Ab
set_option maxRecDepth 100000
abbrev Edt:=Int × Int × List Fld
abbrev rEdt : Rd Edt:=.st (.int .i64) (.st (.int .i64) (.sl rFld))
namespace Q
def heavyB (l : List Edt) : Bool:=decide (51 < l.length) || l.any fun e=>muchB e.2.2
theorem heavy_c (l : List Edt) : qW Tryz.prog 21 [.one (.sl rEdt l)] (ib (heavyB l)):=by
  refine qT (rs:=[2]) Tryz.func21 rfl rfl rfl teOk rfl ?_;refine qC ?_;refine qB ?_;refine qC ?_;refine qC ?_;refine qB ?_;intro l1_1
  try simp only [zds] at l1_1
  refine qP ?_;refine qV (fun (i : Nat)=>i ≤ l.length ∧ i ≤ 51 ∧ (l.take i).any (fun e=>muchB e.2.2) = false) (fun (i : Nat)=>[(5,.one (.sl rEdt l)),(6,ii .i64 l.length),(7,ii .i64 i)]) (fun (i : Nat)=>[]) 0 (fun (i : Nat)=>l.length - i) 0 (⟨Nat.zero_le _,Nat.zero_le _,rfl⟩) (qQ ⟨rfl,rfl,rfl⟩ trivial rfl) ?_;intro i hI0;obtain ⟨hi,hi2,hn⟩:=hI0;refine qC ?_;refine qB ?_;refine qC ?_;refine qK rfl (fun h8=>?_) (fun h8=>?_)
  ·try simp only [decide_eq_true_eq] at h8
   try simp only [zds] at h8
   have hil : i < l.length:=(by omega);have hsn:=take_any l (fun e : Edt=>muchB e.2.2) ((0 : Int),(0 : Int),([] : List Fld)) i hil;rw [hn,Bool.false_or] at hsn;refine qN ?_;refine qC ?_;refine qP ?_;refine qC ?_;refine qB ?_;refine zai (by first|omega|assumption|decide|(simp only [zds];omega)|(simp <;> omega)) ?_;refine qC ?_;refine qB ?_;refine zai (fun h=>trivial) ?_;refine zai (fun h=>⟨⟨h,trivial⟩,trivial⟩) ?_;refine Or.inl ?_;refine zai (rfl) ?_;refine zei _ (zai (fun h=>⟨⟨⟨h,trivial⟩,trivial⟩,much_c _⟩) ?_);refine zai (by first|(intro h;rw [h];rfl)|(intro h;cases h)) ?_;refine qK rfl (fun h18=>?_) (fun h18=>?_)
   ·try simp only [decide_eq_true_eq,Bool.or_eq_true] at h18
    try simp only [Int.toNat_natCast,qI,qH,qG] at h18
    refine qC ?_;refine qB ?_;refine qM ?_;refine ib_eq (Eq.symm ?_);unfold heavyB;rcases h18 with h|h
    rw [decide_eq_true (show 51 < l.length by omega)];rfl;rw [show l.any (fun e : Edt=>muchB e.2.2) = true from List.any_eq_true.2 ⟨_,yK hil ((0 : Int),(0 : Int),([] : List Fld)),h⟩,Bool.or_true]
   ·try simp only [decide_eq_false_iff_not,Bool.or_eq_false_iff,Int.not_lt] at h18
    try simp only [Int.toNat_natCast,qI,qH,qG] at h18
    refine qN ?_;refine qB ?_;refine zai (by first|omega|assumption|decide|(simp only [zds];omega)|(simp <;> omega)) ?_;exact ⟨i + 1,⟨by omega,by omega,by rw [hsn];exact h18.2⟩,by first|omega|(simp <;> omega),qQ ⟨rfl,rfl,(qU (by omega))⟩ trivial rfl⟩
  ·try simp only [decide_eq_false_iff_not,Int.not_lt] at h8
   try simp only [zds] at h8
   refine qX ?_;refine qC ?_;refine qB ?_;refine qM ?_;rw [List.take_of_length_le (by omega)] at hn;refine ib_eq (Eq.symm ?_);unfold heavyB;rw [hn,decide_eq_false (by omega)];rfl
theorem copiesF_o (l : List Fld) (hl : l.length ≤ 1000000) : yD Tryz.prog 62 [.one (.sl rFld l)] [] 0 (.one (.vec 0)) [(0,.vec 73 rFld l)] 1:=by
  refine yB (rs:=[2]) Tryz.func62 rfl rfl rfl teOk (by decide) rfl ?_;refine qC ?_;refine qB ?_;refine qC ?_;refine qB ?_;refine zai (by first|exact qR (by first|omega|(simp only [List.length_nil];omega)|(simp;omega)) (by decide)|omega|assumption|decide|(simp only [zds];omega)|(simp <;> omega)) ?_;refine qM ?_;exact ⟨rfl,rfl,rfl⟩
def spF : Fld:=(⟨#[115,112,111,105,108,116]⟩,⟨#[115,112,111,105,108,116]⟩)
theorem sp_len (l : List Fld) {i : Nat} (h : i ≤ l.length) : (List.replicate i spF ++ l.drop i).length = l.length:=by
  rw [List.length_append,List.length_replicate,List.length_drop];omega
theorem sp_step (l : List Fld) {i : Nat} (h : i < l.length) : (List.replicate i spF ++ l.drop i).set i spF = List.replicate (i + 1) spF ++ l.drop (i + 1):=by
  rw [List.set_append_right _ _ (by simp),List.length_replicate,Nat.sub_self,List.drop_eq_getElem_cons h,List.set_cons_zero,List.replicate_succ',List.append_assoc];rfl
theorem spoilF_o (l : List Fld) (hl : l.length ≤ 1000000) : yD Tryz.prog 51 [.one (.vec 0)] [(0,.vec 73 rFld l)] 1 (.tup []) [(0,.vec 73 rFld (List.replicate l.length spF))] 1:=by
  refine yB (rs:=[]) Tryz.func51 rfl rfl rfl teOk (by decide) rfl ?_;refine qC ?_;refine qB ?_;intro l0_1
  try simp only [zds] at l0_1
  refine qP ?_;refine qV (fun (i : Nat)=>i ≤ l.length) (fun (i : Nat)=>[(0,.one (.vec 0)),(4,ii .i64 l.length),(5,ii .i64 i)]) (fun (i : Nat)=>[(0,.vec 73 rFld (List.replicate i spF ++ l.drop i))]) 1 (fun (i : Nat)=>l.length - i) 0 (Nat.zero_le _) (qQ ⟨rfl,rfl,rfl⟩ rfl rfl) ?_;intro i hI0;refine qC ?_;refine qB ?_;refine qC ?_;refine qK rfl (fun h6=>?_) (fun h6=>?_)
  ·try simp only [decide_eq_true_eq] at h6
   try simp only [zds] at h6
   have hil : i < l.length:=(by omega);have hst:=sp_step l hil;have hsl:=sp_len l (Nat.le_of_lt hil);refine qN ?_;refine qC ?_;refine qP ?_;refine qC ?_;refine qB ?_;refine qB ?_;refine zai (by (first|(constructor <;> (rw [hsl];omega))|(rw [hsl];omega)|omega)) ?_;refine zai (by (first|(rw [Int.toNat_natCast,hsl];exact hil)|(rw [hsl];exact hil))) ?_;refine qB ?_;refine zai (by first|omega|assumption|decide|(simp only [zds];omega)|(simp <;> omega)) ?_;exact ⟨i + 1,by omega,by first|omega|(simp <;> omega),qQ ⟨rfl,rfl,(qU (by omega))⟩ (qS hst) rfl⟩
  ·try simp only [decide_eq_false_iff_not,Int.not_lt] at h6
   try simp only [zds] at h6
   refine qX ?_;exact ⟨rfl,qS (by rw [show i = l.length by omega,List.drop_length,List.append_nil]),rfl⟩
theorem fieldsk_c {κ : Nat} (a b : List Fld) : qW Tryz.prog 30 [.one (.slk κ rFld a),.one (.sl rFld b)] (ib (decide (a = b))):=by
  refine qT (rs:=[4]) Tryz.func30 rfl rfl rfl teOk rfl ?_;refine qC ?_;refine qB ?_;refine qC ?_;refine qC ?_;refine qB ?_;intro l1_1
  try simp only [zds] at l1_1
  intro l1_3
  try simp only [zds] at l1_3
  refine qK rfl (fun h10=>?_) (fun h10=>?_)
  ·try simp only [decide_eq_false_iff_not,Bool.not_eq_true'] at h10
   try simp only [zds] at h10
   refine qC ?_;refine qB ?_;refine qM ?_;exact ib_eq (decide_eq_false (fun e=>by rw [e] at h10;omega)).symm
  ·try simp only [decide_eq_true_eq,Bool.not_eq_false'] at h10
   try simp only [zds] at h10
   refine qN ?_;refine qC ?_;refine qC ?_;refine qB ?_;intro l3_1
   try simp only [zds] at l3_1
   refine qP ?_;refine qV (fun (i : Nat)=>i ≤ a.length ∧ a.take i = b.take i) (fun (i : Nat)=>[(0,.one (.slk κ rFld a)),(1,.one (.sl rFld b)),(12,ii .i64 a.length),(13,ii .i64 i)]) (fun (i : Nat)=>[]) 0 (fun (i : Nat)=>a.length - i) 0 (⟨Nat.zero_le _,by simp⟩) (qQ ⟨rfl,rfl,rfl,rfl⟩ trivial rfl) ?_;intro i hI0;obtain ⟨hi,ht⟩:=hI0;refine qC ?_;refine qB ?_;refine qC ?_;refine qK rfl (fun h14=>?_) (fun h14=>?_)
   ·try simp only [decide_eq_true_eq] at h14
    try simp only [zds] at h14
    have hla : i < a.length:=by omega
    have hlb : i < b.length:=by omega
    refine qN ?_;refine qC ?_;refine qP ?_;refine qC ?_;refine qB ?_;refine qC ?_;refine acode_draw rfl (by kernel_rfl) ?_;refine zai (by first|omega|assumption|decide|(simp only [zds];omega)|(simp <;> omega)) ?_;refine zai (by first|omega|assumption|decide|(simp only [zds];omega)|(simp <;> omega)) ?_;refine zai (by rfl) ?_;refine qK rfl (fun h24=>?_) (fun h24=>?_)
    ·try simp only [decide_eq_false_iff_not,Bool.not_eq_true',Bool.and_eq_false_iff] at h24
     try simp only [Int.toNat_natCast,qH,qF] at h24
     refine qC ?_;refine qB ?_;refine qM ?_;exact ib_eq (decide_eq_false (ne_at (i:=i) (ByteArray.empty,ByteArray.empty) (fun e=>h24.elim (fun h=>h (congrArg Prod.fst e)) (fun h=>h (congrArg Prod.snd e))))).symm
    ·try simp only [decide_eq_true_eq,Bool.and_eq_true,Bool.not_eq_false'] at h24
     try simp only [Int.toNat_natCast,qH,qF] at h24
     refine qN ?_;refine qB ?_;refine zai (by first|omega|assumption|decide|(simp only [zds];omega)|(simp <;> omega)) ?_;exact ⟨i + 1,⟨by omega,list_ext_take (ByteArray.empty,ByteArray.empty) hla hlb ht (Prod.ext h24.1 h24.2)⟩,by first|omega|(simp <;> omega),qQ ⟨rfl,rfl,rfl,(qU (by omega))⟩ trivial rfl⟩
   ·try simp only [decide_eq_false_iff_not,Int.not_lt] at h14
    try simp only [zds] at h14
    refine qX ?_;refine qC ?_;refine qB ?_;refine qM ?_;exact ib_eq (decide_eq_true (by rw [List.take_of_length_le (by omega),List.take_of_length_le (by omega)] at ht;exact ht)).symm
end Q
end Ab
end Go.Proofs.YtlbainbjlibfiaaGreatDoor
namespace Go.Proofs.YtlbainbjlibfiaaGreatDoor
open Go.RowKit
namespace Ab
set_option maxRecDepth 100000
namespace Q
theorem itEs_len (es : List Ent) : (itEs es).length = (es.filter live).length:=List.length_map _
theorem itEs_get (es : List Ent) {i : Nat} (h : i < (itEs es).length) : ∃ e ∈ es,(es.filter live).getD i (((0 : Int),ByteArray.empty,([] : List Fld)),(0 : Int)) = e ∧ i < (es.filter live).length ∧ (itEs es)[i] = [A.agg (toL rEnt e)]:=by
  have h1 : i < (es.filter live).length:=by rw [← itEs_len];exact h
  refine ⟨_,(List.mem_filter.1 (yK h1 (((0 : Int),ByteArray.empty,([] : List Fld)),(0 : Int)))).1,rfl,h1,?_⟩;exact (List.getElem_map (fun e=>[A.agg (toL rEnt e)])).trans (congrArg (fun e=>[A.agg (toL rEnt e)]) (getD_get h1 (((0 : Int),ByteArray.empty,([] : List Fld)),(0 : Int))))
def stT (es : List Ent) (i : Nat) : List Stz:=((es.filter live).take i).map stzOf
theorem stT_snoc {es : List Ent} {i : Nat} (h : i < (es.filter live).length) : stT es (i + 1) = stT es i ++ [stzOf ((es.filter live).getD i (((0 : Int),ByteArray.empty,([] : List Fld)),(0 : Int)))]:=by
  unfold stT;rw [← yO (((0 : Int),ByteArray.empty,([] : List Fld)),(0 : Int)) h,List.map_append];rfl
theorem stT_len {es : List Ent} {i : Nat} : (stT es i).length ≤ i:=by
  unfold stT;rw [List.length_map,List.length_take];omega
theorem live_len (es : List Ent) : (es.filter live).length ≤ es.length:=List.length_filter_le _ _
theorem stanzasL_c {k : Nat} (es : List Ent) (n m : Int) (hl : es.length ≤ 1000000) (hf : ∀ e ∈ es,e.1.2.2.length ≤ 1000000) : qW Tryz.prog 36 [.one (.adk k (rLst k) (es,n,m))] (.one (.sl rStz (stzL es))):=by
  have hll:=live_len es;refine qT (rs:=[2]) Tryz.func36 rfl rfl rfl teOk rfl ?_;refine qC ?_;refine qB ?_;refine qC ?_;refine qB ?_;refine qC ?_;refine qC ?_;refine qB ?_;refine Or.inl ?_;refine zai (rfl) ?_;refine zei _ (zai (all_c (es,n,m)) ?_);refine qP ?_;refine yE 0 0 42 rStz rfl rfl rfl ?_;refine acode_range (caps:=[.one (.ref (.adk k (rLst k) (es,n,m)))]) (xs:=itEs es) [(3,.one (.own 0 0)),(6,.one (.clo 93 (.ref (.adk k (rLst k) (es,n,m)))))] 2 (fun st j (i : Nat)=>st = false ∧ i = j) (fun i=>[(0,.box 38 [.vec 1]),(1,.vec 42 rStz (stT es i))]) (fun _=>.ret) 0 rfl rfl (all_iter es n m) (qQ ⟨rfl,rfl⟩ ⟨rfl,rfl⟩ rfl) ⟨rfl,rfl⟩ (fun j hj=>by simp [itEs]) rfl rfl rfl (fun _ _ _=>rfl) rfl ?_ ?_ ?_
  ·intro j i hk hp;obtain ⟨_,rfl⟩:=hp;obtain ⟨e,he,hg,hi,hx⟩:=itEs_get es hk;rw [hx];have hsn:=stT_snoc hi;rw [hg] at hsn;have hsl:=@stT_len es i;refine qB ?_;refine qP ?_;refine yH rfl ?_;refine qJ 1 rfl rfl rfl (by kernel_rfl) ?_;refine qJ 3 rfl rfl rfl (by kernel_rfl) ?_;refine qJ 4 rfl rfl rfl (by kernel_rfl) ?_;refine qE [0,2,5] (by kernel_rfl) rfl ?_;refine zai ?_ ?_
   ·refine qE [2,5] (by kernel_rfl) rfl ?_;refine zai ?_ ?_
    ·refine qE [5] (by kernel_rfl) rfl ?_;refine qE [6] (by kernel_rfl) rfl ?_;refine Or.inl ?_;refine zai (rfl) ?_;refine zei _ (zai (clone_c e.1.2.2 (hf e he)) ?_);refine qE [7] (by kernel_rfl) rfl ?_;refine qE [8] (by kernel_rfl) rfl ?_;refine qE [9] (by kernel_rfl) rfl ?_;refine zai (by exact qR (show (stT es i).length + 1 ≤ 1000000000 by omega) (by decide)) ?_;refine qE [10] (by kernel_rfl) rfl ?_;refine qO (by kernel_rfl) ?_;exact ⟨i + 1,⟨rfl,rfl⟩,qQ trivial ⟨rfl,qS (by rw [hsn];exact rfl)⟩ rfl⟩
    ·refine qE [2,6] (by kernel_rfl) rfl ?_;refine zai ?_ ?_
     ·refine qE [6] (by kernel_rfl) rfl ?_;refine Or.inl ?_;refine zai (rfl) ?_;refine zei _ (zai (clone_c e.1.2.2 (hf e he)) ?_);refine qE [7] (by kernel_rfl) rfl ?_;refine qE [8] (by kernel_rfl) rfl ?_;refine qE [9] (by kernel_rfl) rfl ?_;refine zai (by exact qR (show (stT es i).length + 1 ≤ 1000000000 by omega) (by decide)) ?_;refine qE [10] (by kernel_rfl) rfl ?_;refine qO (by kernel_rfl) ?_;exact ⟨i + 1,⟨rfl,rfl⟩,qQ trivial ⟨rfl,qS (by rw [hsn];exact rfl)⟩ rfl⟩
     ·refine Or.inl ?_;refine zai (rfl) ?_;refine zei _ (zai (clone_c e.1.2.2 (hf e he)) ?_);refine qE [2] (by kernel_rfl) rfl ?_;refine qE [7] (by kernel_rfl) rfl ?_;refine qE [8] (by kernel_rfl) rfl ?_;refine qE [9] (by kernel_rfl) rfl ?_;refine zai (by exact qR (show (stT es i).length + 1 ≤ 1000000000 by omega) (by decide)) ?_;refine qE [10] (by kernel_rfl) rfl ?_;refine qO (by kernel_rfl) ?_;exact ⟨i + 1,⟨rfl,rfl⟩,qQ trivial ⟨rfl,qS (by rw [hsn];exact rfl)⟩ rfl⟩
   refine zai ?_ ?_
   ·refine qE [0,5] (by kernel_rfl) rfl ?_;refine zai ?_ ?_
    ·refine qE [5] (by kernel_rfl) rfl ?_;refine qE [6] (by kernel_rfl) rfl ?_;refine Or.inl ?_;refine zai (rfl) ?_;refine zei _ (zai (clone_c e.1.2.2 (hf e he)) ?_);refine qE [7] (by kernel_rfl) rfl ?_;refine qE [8] (by kernel_rfl) rfl ?_;refine qE [9] (by kernel_rfl) rfl ?_;refine zai (by exact qR (show (stT es i).length + 1 ≤ 1000000000 by omega) (by decide)) ?_;refine qE [10] (by kernel_rfl) rfl ?_;refine qO (by kernel_rfl) ?_;exact ⟨i + 1,⟨rfl,rfl⟩,qQ trivial ⟨rfl,qS (by rw [hsn];exact rfl)⟩ rfl⟩
    ·refine qE [0,6] (by kernel_rfl) rfl ?_;refine zai ?_ ?_
     ·refine qE [6] (by kernel_rfl) rfl ?_;refine Or.inl ?_;refine zai (rfl) ?_;refine zei _ (zai (clone_c e.1.2.2 (hf e he)) ?_);refine qE [7] (by kernel_rfl) rfl ?_;refine qE [8] (by kernel_rfl) rfl ?_;refine qE [9] (by kernel_rfl) rfl ?_;refine zai (by exact qR (show (stT es i).length + 1 ≤ 1000000000 by omega) (by decide)) ?_;refine qE [10] (by kernel_rfl) rfl ?_;refine qO (by kernel_rfl) ?_;exact ⟨i + 1,⟨rfl,rfl⟩,qQ trivial ⟨rfl,qS (by rw [hsn];exact rfl)⟩ rfl⟩
     ·refine Or.inl ?_;refine zai (rfl) ?_;refine zei _ (zai (clone_c e.1.2.2 (hf e he)) ?_);refine qE [0,7] (by kernel_rfl) rfl ?_;refine zai ?_ ?_
      ·refine qE [7] (by kernel_rfl) rfl ?_;refine qE [8] (by kernel_rfl) rfl ?_;refine qE [9] (by kernel_rfl) rfl ?_;refine zai (by exact qR (show (stT es i).length + 1 ≤ 1000000000 by omega) (by decide)) ?_;refine qE [10] (by kernel_rfl) rfl ?_;refine qO (by kernel_rfl) ?_;exact ⟨i + 1,⟨rfl,rfl⟩,qQ trivial ⟨rfl,qS (by rw [hsn];exact rfl)⟩ rfl⟩
      ·refine qE [0,8] (by kernel_rfl) rfl ?_;refine zai ?_ ?_
       ·refine qE [8] (by kernel_rfl) rfl ?_;refine qE [9] (by kernel_rfl) rfl ?_;refine zai (by exact qR (show (stT es i).length + 1 ≤ 1000000000 by omega) (by decide)) ?_;refine qE [10] (by kernel_rfl) rfl ?_;refine qO (by kernel_rfl) ?_;exact ⟨i + 1,⟨rfl,rfl⟩,qQ trivial ⟨rfl,qS (by rw [hsn];exact rfl)⟩ rfl⟩
       ·refine qE [0] (by kernel_rfl) rfl ?_;refine qE [9] (by kernel_rfl) rfl ?_;refine zai (by exact qR (show (stT es i).length + 1 ≤ 1000000000 by omega) (by decide)) ?_;refine qE [10] (by kernel_rfl) rfl ?_;refine qO (by kernel_rfl) ?_;exact ⟨i + 1,⟨rfl,rfl⟩,qQ trivial ⟨rfl,qS (by rw [hsn];exact rfl)⟩ rfl⟩
   ·refine qE [0,2,6] (by kernel_rfl) rfl ?_;refine zai ?_ ?_
    ·refine qE [2,6] (by kernel_rfl) rfl ?_;refine zai ?_ ?_
     ·refine qE [6] (by kernel_rfl) rfl ?_;refine Or.inl ?_;refine zai (rfl) ?_;refine zei _ (zai (clone_c e.1.2.2 (hf e he)) ?_);refine qE [7] (by kernel_rfl) rfl ?_;refine qE [8] (by kernel_rfl) rfl ?_;refine qE [9] (by kernel_rfl) rfl ?_;refine zai (by exact qR (show (stT es i).length + 1 ≤ 1000000000 by omega) (by decide)) ?_;refine qE [10] (by kernel_rfl) rfl ?_;refine qO (by kernel_rfl) ?_;exact ⟨i + 1,⟨rfl,rfl⟩,qQ trivial ⟨rfl,qS (by rw [hsn];exact rfl)⟩ rfl⟩
     ·refine Or.inl ?_;refine zai (rfl) ?_;refine zei _ (zai (clone_c e.1.2.2 (hf e he)) ?_);refine qE [2] (by kernel_rfl) rfl ?_;refine qE [7] (by kernel_rfl) rfl ?_;refine qE [8] (by kernel_rfl) rfl ?_;refine qE [9] (by kernel_rfl) rfl ?_;refine zai (by exact qR (show (stT es i).length + 1 ≤ 1000000000 by omega) (by decide)) ?_;refine qE [10] (by kernel_rfl) rfl ?_;refine qO (by kernel_rfl) ?_;exact ⟨i + 1,⟨rfl,rfl⟩,qQ trivial ⟨rfl,qS (by rw [hsn];exact rfl)⟩ rfl⟩
    refine zai ?_ ?_
    ·refine qE [0,6] (by kernel_rfl) rfl ?_;refine zai ?_ ?_
     ·refine qE [6] (by kernel_rfl) rfl ?_;refine Or.inl ?_;refine zai (rfl) ?_;refine zei _ (zai (clone_c e.1.2.2 (hf e he)) ?_);refine qE [7] (by kernel_rfl) rfl ?_;refine qE [8] (by kernel_rfl) rfl ?_;refine qE [9] (by kernel_rfl) rfl ?_;refine zai (by exact qR (show (stT es i).length + 1 ≤ 1000000000 by omega) (by decide)) ?_;refine qE [10] (by kernel_rfl) rfl ?_;refine qO (by kernel_rfl) ?_;exact ⟨i + 1,⟨rfl,rfl⟩,qQ trivial ⟨rfl,qS (by rw [hsn];exact rfl)⟩ rfl⟩
     ·refine Or.inl ?_;refine zai (rfl) ?_;refine zei _ (zai (clone_c e.1.2.2 (hf e he)) ?_);refine qE [0,7] (by kernel_rfl) rfl ?_;refine zai ?_ ?_
      ·refine qE [7] (by kernel_rfl) rfl ?_;refine qE [8] (by kernel_rfl) rfl ?_;refine qE [9] (by kernel_rfl) rfl ?_;refine zai (by exact qR (show (stT es i).length + 1 ≤ 1000000000 by omega) (by decide)) ?_;refine qE [10] (by kernel_rfl) rfl ?_;refine qO (by kernel_rfl) ?_;exact ⟨i + 1,⟨rfl,rfl⟩,qQ trivial ⟨rfl,qS (by rw [hsn];exact rfl)⟩ rfl⟩
      ·refine qE [0,8] (by kernel_rfl) rfl ?_;refine zai ?_ ?_
       ·refine qE [8] (by kernel_rfl) rfl ?_;refine qE [9] (by kernel_rfl) rfl ?_;refine zai (by exact qR (show (stT es i).length + 1 ≤ 1000000000 by omega) (by decide)) ?_;refine qE [10] (by kernel_rfl) rfl ?_;refine qO (by kernel_rfl) ?_;exact ⟨i + 1,⟨rfl,rfl⟩,qQ trivial ⟨rfl,qS (by rw [hsn];exact rfl)⟩ rfl⟩
       ·refine qE [0] (by kernel_rfl) rfl ?_;refine qE [9] (by kernel_rfl) rfl ?_;refine zai (by exact qR (show (stT es i).length + 1 ≤ 1000000000 by omega) (by decide)) ?_;refine qE [10] (by kernel_rfl) rfl ?_;refine qO (by kernel_rfl) ?_;exact ⟨i + 1,⟨rfl,rfl⟩,qQ trivial ⟨rfl,qS (by rw [hsn];exact rfl)⟩ rfl⟩
    ·refine Or.inl ?_;refine zai (rfl) ?_;refine zei _ (zai (clone_c e.1.2.2 (hf e he)) ?_);refine qE [0,2] (by kernel_rfl) rfl ?_;refine zai ?_ ?_
     ·refine qE [2] (by kernel_rfl) rfl ?_;refine qE [7] (by kernel_rfl) rfl ?_;refine qE [8] (by kernel_rfl) rfl ?_;refine qE [9] (by kernel_rfl) rfl ?_;refine zai (by exact qR (show (stT es i).length + 1 ≤ 1000000000 by omega) (by decide)) ?_;refine qE [10] (by kernel_rfl) rfl ?_;refine qO (by kernel_rfl) ?_;exact ⟨i + 1,⟨rfl,rfl⟩,qQ trivial ⟨rfl,qS (by rw [hsn];exact rfl)⟩ rfl⟩
     ·refine qE [0,7] (by kernel_rfl) rfl ?_;refine zai ?_ ?_
      ·refine qE [7] (by kernel_rfl) rfl ?_;refine qE [8] (by kernel_rfl) rfl ?_;refine qE [9] (by kernel_rfl) rfl ?_;refine zai (by exact qR (show (stT es i).length + 1 ≤ 1000000000 by omega) (by decide)) ?_;refine qE [10] (by kernel_rfl) rfl ?_;refine qO (by kernel_rfl) ?_;exact ⟨i + 1,⟨rfl,rfl⟩,qQ trivial ⟨rfl,qS (by rw [hsn];exact rfl)⟩ rfl⟩
      ·refine qE [0,8] (by kernel_rfl) rfl ?_;refine zai ?_ ?_
       ·refine qE [8] (by kernel_rfl) rfl ?_;refine qE [9] (by kernel_rfl) rfl ?_;refine zai (by exact qR (show (stT es i).length + 1 ≤ 1000000000 by omega) (by decide)) ?_;refine qE [10] (by kernel_rfl) rfl ?_;refine qO (by kernel_rfl) ?_;exact ⟨i + 1,⟨rfl,rfl⟩,qQ trivial ⟨rfl,qS (by rw [hsn];exact rfl)⟩ rfl⟩
       ·refine qE [0] (by kernel_rfl) rfl ?_;refine qE [9] (by kernel_rfl) rfl ?_;refine zai (by exact qR (show (stT es i).length + 1 ≤ 1000000000 by omega) (by decide)) ?_;refine qE [10] (by kernel_rfl) rfl ?_;refine qO (by kernel_rfl) ?_;exact ⟨i + 1,⟨rfl,rfl⟩,qQ trivial ⟨rfl,qS (by rw [hsn];exact rfl)⟩ rfl⟩
  ·intro i hp;obtain ⟨_,rfl⟩:=hp;refine qC ?_;refine qB ?_;refine qM ?_;rw [show stT es (itEs es).length = stzL es from by unfold stT stzL;rw [itEs_len,List.take_length]];exact rfl
  ·intro j i hp;exact absurd hp.1 (by decide)
theorem stanzasN_c : qW Tryz.prog 36 [.one (.lit (.pointer none))] (.one (.sl rStz [])):=by
  refine qT (rs:=[2]) Tryz.func36 rfl rfl rfl teOk rfl ?_;refine qC ?_;refine qB ?_;refine qC ?_;refine qB ?_;refine qC ?_;refine qC ?_;refine qB ?_;refine Or.inl ?_;refine zai (rfl) ?_;refine zei _ (zai (allN_c) ?_);refine qP ?_;refine yE 0 0 42 rStz rfl rfl rfl ?_;refine acode_range (caps:=[.one (.ref (.lit (.pointer none)))]) (xs:=[]) [(3,.one (.own 0 0)),(6,.one (.clo 93 (.ref (.lit (.pointer none)))))] 2 (fun st j (i : Nat)=>st = false ∧ i = j) (fun _=>[(0,.box 38 [.vec 1]),(1,.vec 42 rStz [])]) (fun _=>.ret) 0 rfl rfl allN_iter (qQ ⟨rfl,rfl⟩ ⟨rfl,rfl⟩ rfl) ⟨rfl,rfl⟩ (fun j hj=>by cases hj) rfl rfl rfl (fun _ _ _=>rfl) rfl ?_ ?_ ?_
  ·intro j i hk hp;cases hk
  ·intro i hp;obtain ⟨_,rfl⟩:=hp;refine qC ?_;refine qB ?_;refine qM ?_;exact rfl
  ·intro j i hp;exact absurd hp.1 (by decide)
end Q
end Ab
end Go.Proofs.YtlbainbjlibfiaaGreatDoor
namespace Go.Proofs.YtlbainbjlibfiaaGreatDoor
open Go.RowKit
namespace Ab
set_option maxRecDepth 100000
namespace Q
def SmallF (l : List Fld) : Prop:=∀ f ∈ l,f.1.size ≤ 1000 ∧ f.2.size ≤ 1000
structure GP (p : PSt) : Prop where
  flds : SmallF p.flds
  room : p.lns ≠ [] → p.full = false → p.flds.length < 40
  len : p.flds.length ≤ 40
  its : ∀ x ∈ p.its,SmallF x.2.2 ∧ x.2.2.length ≤ 40
theorem smallF_nil : SmallF []:=fun f hf=>by cases hf
theorem flush_gp {p q : PSt} (h : GP p) (hf : yV p = .inr q) : GP q:=by
  unfold yV at hf;split at hf
  · cases hf;exact h
  · rename_i h0;split at hf
    · cases hf
    · split at hf
      · cases hf
      · rename_i h1 h2;cases hf;have hr:=h.room h0 (by simpa using h2);refine ⟨fun f hf=>?_,fun h=>absurd rfl h,by simp only [List.length_append,List.length_cons,List.length_nil];omega,h.its⟩;rcases List.mem_append.1 hf with hf|hf
        · exact h.flds f hf
        · rw [List.mem_singleton.1 hf];rcases unf_cases (p.lns.map ls) with ⟨n,hn,e⟩|⟨k,v,e,hk,hv⟩
          · rw [e];exact ⟨by show (bytes []).size ≤ 1000;decide,by show (bytes []).size ≤ 1000;decide⟩
          · rw [e];simp only [yI];refine ⟨?_,hv⟩;unfold keyOk at hk;simp only [Bool.and_eq_true,decide_eq_true_eq] at hk;omega
theorem close_gp {q : PSt} (h : GP q) : GP (closeS q):=by
  unfold closeS;split
  · exact ⟨smallF_nil,fun _ _=>(by show 0 < 40;decide),(by show 0 ≤ 40;decide),h.its⟩
  · refine ⟨smallF_nil,fun _ _=>(by show 0 < 40;decide),(by show 0 ≤ 40;decide),fun x hx=>?_⟩;rcases List.mem_append.1 hx with hx|hx
    · exact h.its x hx
    · rw [List.mem_singleton.1 hx];exact ⟨h.flds,h.len⟩
theorem end_gp {p q : PSt} (h : GP p) (hf : endS p = .inr q) : GP q:=by
  unfold endS at hf;split at hf
  · cases hf
  · rename_i r e;cases hf;exact close_gp (flush_gp h e)
theorem begin_gp {p : PSt} (l : Lne) (h : GP p) : GP (xY p l):=by
  refine ⟨h.flds,fun _ hf=>?_,h.len,h.its⟩;have:=h.len;unfold xY at hf;simp only [Bool.or_eq_false_iff,decide_eq_false_iff_not] at hf;show p.flds.length < 40;omega
theorem ahead_gp {p q : PSt} {l : Lne} {k : Int} (h : GP p) (hf : yU p l k = .inr q) : GP q:=by
  unfold yU at hf;split at hf
  · split at hf
    · cases hf
    · rename_i h0;have h2 : GP { p with lns:=p.lns ++ [l.2.2.1] }:=⟨h.flds,fun _=>h.room h0,h.len,h.its⟩;split at hf
      · cases hf;exact h2
      · exact flush_gp h2 hf
  · split at hf
    · exact end_gp h hf
    · exact flush_gp h hf
theorem line_gp {p q : PSt} {l : Lne} {k : Int} (h : GP p) (hf : lineS p l k = .inr q) : GP q:=by
  unfold lineS at hf;split at hf
  · cases hf
  · split at hf
    · cases hf;refine ⟨h.flds,h.room,h.len,fun x hx=>?_⟩;rcases List.mem_append.1 hx with hx|hx
      · exact h.its x hx
      · rw [List.mem_singleton.1 hx];exact ⟨smallF_nil,by show 0 ≤ 40;decide⟩
    · split at hf
      · cases hf;have:=begin_gp l h;exact ⟨this.flds,this.room,this.len,this.its⟩
      · cases hf;exact ⟨h.flds,h.room,h.len,h.its⟩
theorem take_gp {p q : PSt} {l : Lne} (h : GP p) (hf : yW p l = .inr q) : GP q:=by
  unfold yW at hf;split at hf
  · cases hf
  · rename_i r e;exact line_gp (ahead_gp h e) hf
theorem run_gp : ∀ (L : List Lne) {p q : PSt},GP p → runS p L = .inr q → GP q
  | [],p,q,h,hf=>by
    cases hf;exact h
  | l :: r,p,q,h,hf=>by
    unfold runS at hf;split at hf
    · cases hf
    · rename_i t e;exact run_gp r (take_gp h e) hf
theorem items_small {s : ByteArray} {l : List Itm} (hp : xO s = .inr l) : ∀ x ∈ l,SmallF x.2.2 ∧ x.2.2.length ≤ 40:=by
  unfold xO at hp;split at hp
  · cases hp
  · rename_i p e;split at hp
    · cases hp
    · rename_i q e2;cases hp;exact (end_gp (run_gp _ ⟨smallF_nil,fun h=>absurd rfl h,by decide,fun x hx=>by cases hx⟩ e) e2).its
theorem fldsOk_of {l : List Fld} (h : SmallF l) (hl : l.length ≤ 40) : xF l:=⟨by omega,fun f hf=>by have:=h f hf;omega⟩
end Q
end Ab
end Go.Proofs.YtlbainbjlibfiaaGreatDoor
namespace Go.Proofs.YtlbainbjlibfiaaGreatDoor
open Go.RowKit
namespace Ab
set_option maxRecDepth 100000
namespace Q
abbrev RLs:=List Ent × Int
abbrev rRL : Rd RLs:=.st (.sl rEnt) (.int .i64)
theorem parse_ne {s : ByteArray} {at_ n : Int} (h : xO s = .inl (at_,n)) : n ≠ 0:=by
  rw [parse_ref] at h;exact runR_ne _ _ _ _ h
theorem rlbox_eq {T : TypeId} {i : Nat} {a b : Int} (h : a = b) : some (Ob.box T [.vec i,.lit (.int .i64 a)]) = some (Ob.box T [.vec i,.lit (.int .i64 b)]):=by rw [h]
theorem refOf_ok (s : ByteArray) (hs : s.size ≤ 60000) {l : List Itm} (hp : xO s = .inr l) : qW Tryz.prog 22 [is s] (.tup [(true,toL rRL (numI 1 l,1 + (cntR l : Int))),(false,[.lit (.int .i64 (-9))]),(false,[.lit (.int .i64 0)])]):=by
  have hpa:=refParse_a s hs;rw [hp] at hpa;obtain ⟨hl1,hl2⟩:=items_flds hs hp;refine yY (rs:=[.cell 2 49,.tmp 3,.tmp 4]) Tryz.func22 rfl rfl rfl teOk rfl ?_;refine qC ?_;refine qB ?_;refine qC ?_;refine qB ?_;refine Or.inl ?_;refine zai (rfl) ?_;refine zei _ (zai (hpa) ?_);refine qC ?_;refine qC ?_;refine qB ?_;refine qK rfl (fun h18=>?_) (fun h18=>?_)
  ·try simp only [decide_eq_false_iff_not,Bool.not_eq_true'] at h18
   try simp only [zds] at h18
   simp at h18
  ·try simp only [decide_eq_true_eq,Bool.not_eq_false'] at h18
   try simp only [zds] at h18
   refine qN ?_;refine qC ?_;refine qB ?_;refine qC ?_;refine qC ?_;refine yE 1 0 128 rEnt rfl rfl rfl ?_;refine qB ?_;refine qP ?_;refine qV (fun (i : Nat)=>i ≤ l.length) (fun (i : Nat)=>[(2,.one (.own 0 0)),(5,.one (.sl rItm l)),(6,ii .i64 (-9)),(8,.one (.own 1 0)),(9,ii .i64 i)]) (fun (i : Nat)=>[(0,.box 49 [.lit (.slice none 0 0),.lit (.int .i64 0)]),(1,.box 49 [.vec 2,.lit (.int .i64 (1 + (cntR (l.take i) : Int)))]),(2,.vec 128 rEnt (numI 1 (l.take i)))]) 3 (fun (i : Nat)=>l.length - i) 0 (Nat.zero_le _) (qQ ⟨rfl,rfl,rfl,rfl,rfl⟩ ⟨rfl,rfl,rfl⟩ rfl) ?_;intro i hI0;refine qC ?_;refine qC ?_;refine qB ?_;intro l6_2
   try simp only [zds] at l6_2
   refine qK rfl (fun h26=>?_) (fun h26=>?_)
   ·try simp only [decide_eq_true_eq] at h26
    try simp only [zds] at h26
    have hil : i < l.length:=(by omega);have hsn:=numI_at hil;have hcn:=cntR_at hil;have hcl:=cntR_le (l.take i);rw [List.length_take] at hcl;refine qN ?_;refine qC ?_;refine qP ?_;refine qC ?_;refine qB ?_;refine zai (by first|omega|assumption|decide|(simp only [zds];omega)|(simp <;> omega)) ?_;refine qC ?_;refine qC ?_;refine qB ?_;refine zai (by first|omega|assumption|decide|(simp only [zds];omega)|(simp <;> omega)) ?_;refine qK rfl (fun h39=>?_) (fun h39=>?_)
    ·try simp only [decide_eq_true_eq] at h39
     try simp only [Int.toNat_natCast,qI,qH,qF,qG] at h39
     have hk : isRec (l.getD i ((0 : Int),ByteArray.empty,([] : List Fld))) = true:=decide_eq_true h39;rw [hk,if_pos rfl] at hsn hcn;refine qC ?_;refine qB ?_;refine qB ?_;refine zai (by first|omega|assumption|decide|(simp only [zds];omega)|(simp <;> omega)) ?_;refine qB ?_;refine zai (by exact qR (show (numI 1 (l.take i)).length + 1 ≤ 1000000000 by rw [numI_len,List.length_take];omega) (by decide)) ?_;refine qB ?_;refine zai (by first|omega|assumption|decide|(simp only [zds];omega)|(simp <;> omega)) ?_;exact ⟨i + 1,by omega,by first|omega|(simp <;> omega),qQ ⟨rfl,rfl,rfl,rfl,(qU (by omega))⟩ ⟨rfl,(rlbox_eq (by omega)),(qS (by rw [hsn];exact rfl))⟩ rfl⟩
    ·try simp only [decide_eq_false_iff_not] at h39
     try simp only [Int.toNat_natCast,qI,qH,qF,qG] at h39
     have hk : isRec (l.getD i ((0 : Int),ByteArray.empty,([] : List Fld))) = false:=decide_eq_false h39;rw [hk,if_neg Bool.false_ne_true] at hsn hcn;refine qN ?_;refine qB ?_;refine zai (by exact qR (show (numI 1 (l.take i)).length + 1 ≤ 1000000000 by rw [numI_len,List.length_take];omega) (by decide)) ?_;refine qB ?_;refine zai (by first|omega|assumption|decide|(simp only [zds];omega)|(simp <;> omega)) ?_;exact ⟨i + 1,by omega,by first|omega|(simp <;> omega),qQ ⟨rfl,rfl,rfl,rfl,(qU (by omega))⟩ ⟨rfl,(rlbox_eq (by omega)),(qS (by rw [hsn];exact rfl))⟩ rfl⟩
   ·try simp only [decide_eq_false_iff_not,Int.not_lt] at h26
    try simp only [zds] at h26
    refine qX ?_;refine qC ?_;refine qB ?_;refine yM [2] ?_;refine qM ?_;rw [List.take_of_length_le (by omega)];exact rfl
theorem refOf_err (s : ByteArray) (hs : s.size ≤ 60000) {at_ n : Int} (hp : xO s = .inl (at_,n)) : qW Tryz.prog 22 [is s] (.tup [(true,[.lit (.slice none 0 0),.lit (.int .i64 0)]),(false,[.lit (.int .i64 at_)]),(false,[.lit (.int .i64 n)])]):=by
  have hpa:=refParse_a s hs;rw [hp] at hpa;have hne:=parse_ne hp;refine yY (rs:=[.cell 2 49,.tmp 3,.tmp 4]) Tryz.func22 rfl rfl rfl teOk rfl ?_;refine qC ?_;refine qB ?_;refine qC ?_;refine qB ?_;refine Or.inl ?_;refine zai (rfl) ?_;refine zei _ (zai (hpa) ?_);refine qC ?_;refine qC ?_;refine qB ?_;refine qK rfl (fun h18=>?_) (fun h18=>?_)
  ·try simp only [decide_eq_false_iff_not,Bool.not_eq_true'] at h18
   try simp only [zds] at h18
   refine qC ?_;refine qB ?_;refine qM ?_;rfl
  ·try simp only [decide_eq_true_eq,Bool.not_eq_false'] at h18
   try simp only [zds] at h18
   exact absurd h18 hne
theorem stzL_snoc {es : List Ent} {i : Nat} (h : i < es.length) : stzL (es.take (i + 1)) = stzL (es.take i) ++ if live (es.getD i (((0 : Int),ByteArray.empty,([] : List Fld)),(0 : Int))) then [stzOf (es.getD i (((0 : Int),ByteArray.empty,([] : List Fld)),(0 : Int)))] else []:=by
  unfold stzL;rw [← yO (((0 : Int),ByteArray.empty,([] : List Fld)),(0 : Int)) h,List.filter_append,List.map_append]
  generalize es.getD i (((0 : Int),ByteArray.empty,([] : List Fld)),(0 : Int)) = x
  cases hk : live x
  · simp [hk]
  · simp [hk]
theorem stzL_le (es : List Ent) : (stzL es).length ≤ es.length:=by
  unfold stzL;rw [List.length_map];exact live_len es
theorem refStz_c (es : List Ent) (n : Int) (hl : es.length ≤ 1000000) : qW Tryz.prog 66 [.agg (toL rRL (es,n))] (.one (.sl rStz (stzL es))):=by
  refine qT (rs:=[2]) Tryz.func66 rfl rfl rfl teOk rfl ?_;refine qC ?_;refine qB ?_;refine qC ?_;refine qB ?_;refine qC ?_;refine qC ?_;refine xA 3 42 rStz rfl ?_;refine qB ?_;refine qP ?_;refine qV (fun (i : Nat)=>i ≤ es.length) (fun (i : Nat)=>[(1,.one (.own 0 0)),(3,.one (.vec 1)),(4,ii .i64 i)]) (fun (i : Nat)=>[(0,.box 49 (toL rRL (es,n))),(1,.vec 42 rStz (stzL (es.take i)))]) 2 (fun (i : Nat)=>es.length - i) 0 (Nat.zero_le _) (qQ ⟨rfl,rfl,rfl⟩ ⟨rfl,rfl⟩ rfl) ?_;intro i hI0;refine qC ?_;refine qC ?_;refine qB ?_;intro l3_3;refine qK rfl (fun h9=>?_) (fun h9=>?_)
  ·try simp only [decide_eq_true_eq] at h9
   try simp only [zds] at h9
   have hil : i < es.length:=(by omega);have hsn:=stzL_snoc hil;have hsl:=stzL_le (es.take i);rw [List.length_take] at hsl;refine qN ?_;refine qC ?_;refine qP ?_;refine qC ?_;refine qB ?_;refine zai (by first|omega|assumption|decide|(simp only [];omega)|(simp <;> omega)) ?_;refine qK rfl (fun h18=>?_) (fun h18=>?_)
   ·try simp only [decide_eq_true_eq] at h18
    try simp only [Int.toNat_natCast,qI,qH,qF,qG] at h18
    have hk : live (es.getD i (((0 : Int),ByteArray.empty,([] : List Fld)),(0 : Int))) = true:=decide_eq_true h18;rw [hk,if_pos rfl] at hsn;refine yH rfl ?_;refine qJ 0 rfl rfl rfl (by kernel_rfl) ?_;refine qJ 1 rfl rfl rfl (by kernel_rfl) ?_;refine qJ 3 rfl rfl rfl (by kernel_rfl) ?_;refine qJ 7 rfl rfl rfl (by kernel_rfl) ?_;refine qJ 9 rfl rfl rfl (by kernel_rfl) ?_;refine qE [2,8] (by kernel_rfl) rfl ?_;refine zai ?_ ?_
    ·refine qJ 4 rfl rfl rfl (by kernel_rfl) ?_;refine zai (by first|omega|assumption|decide|(simp only [];omega)|(simp <;> omega)) ?_;refine qE [5,8] (by kernel_rfl) rfl ?_;refine zai ?_ ?_
     ·refine qE [6,8] (by kernel_rfl) rfl ?_;refine zai ?_ ?_
      ·refine qE [8] (by kernel_rfl) rfl ?_;refine qJ 10 rfl rfl rfl (by kernel_rfl) ?_;refine zai (by first|omega|assumption|decide|(simp only [];omega)|(simp <;> omega)) ?_;refine qE [11] (by kernel_rfl) rfl ?_;refine qE [12] (by kernel_rfl) rfl ?_;refine qE [13] (by kernel_rfl) rfl ?_;refine qE [14] (by kernel_rfl) rfl ?_;refine qE [15] (by kernel_rfl) rfl ?_;refine qE [16] (by kernel_rfl) rfl ?_;refine zai (by exact qR (show (stzL (es.take i)).length + 1 ≤ 1000000000 by omega) (by decide)) ?_;refine qJ 17 rfl rfl rfl (by kernel_rfl) ?_;refine qO (by kernel_rfl) ?_;refine qB ?_;refine zai (by first|omega|assumption|decide|(simp only [zds];omega)|(simp <;> omega)) ?_;exact ⟨i + 1,by omega,by first|omega|(simp <;> omega),qQ ⟨rfl,rfl,(qU (by omega))⟩ ⟨rfl,(qS (by rw [hsn];try exact rfl))⟩ rfl⟩
      ·refine qJ 10 rfl rfl rfl (by kernel_rfl) ?_;refine zai (by first|omega|assumption|decide|(simp only [];omega)|(simp <;> omega)) ?_;refine qE [6,11] (by kernel_rfl) rfl ?_;refine zai ?_ ?_
       ·refine qE [11] (by kernel_rfl) rfl ?_;refine qE [12] (by kernel_rfl) rfl ?_;refine qE [13] (by kernel_rfl) rfl ?_;refine qE [14] (by kernel_rfl) rfl ?_;refine qE [15] (by kernel_rfl) rfl ?_;refine qE [16] (by kernel_rfl) rfl ?_;refine zai (by exact qR (show (stzL (es.take i)).length + 1 ≤ 1000000000 by omega) (by decide)) ?_;refine qJ 17 rfl rfl rfl (by kernel_rfl) ?_;refine qO (by kernel_rfl) ?_;refine qB ?_;refine zai (by first|omega|assumption|decide|(simp only [zds];omega)|(simp <;> omega)) ?_;exact ⟨i + 1,by omega,by first|omega|(simp <;> omega),qQ ⟨rfl,rfl,(qU (by omega))⟩ ⟨rfl,(qS (by rw [hsn];try exact rfl))⟩ rfl⟩
       ·refine qE [6,12] (by kernel_rfl) rfl ?_;refine zai ?_ ?_
        ·refine qE [12] (by kernel_rfl) rfl ?_;refine qE [13] (by kernel_rfl) rfl ?_;refine qE [14] (by kernel_rfl) rfl ?_;refine qE [15] (by kernel_rfl) rfl ?_;refine qE [16] (by kernel_rfl) rfl ?_;refine zai (by exact qR (show (stzL (es.take i)).length + 1 ≤ 1000000000 by omega) (by decide)) ?_;refine qJ 17 rfl rfl rfl (by kernel_rfl) ?_;refine qO (by kernel_rfl) ?_;refine qB ?_;refine zai (by first|omega|assumption|decide|(simp only [zds];omega)|(simp <;> omega)) ?_;exact ⟨i + 1,by omega,by first|omega|(simp <;> omega),qQ ⟨rfl,rfl,(qU (by omega))⟩ ⟨rfl,(qS (by rw [hsn];try exact rfl))⟩ rfl⟩
        ·refine qE [6,13] (by kernel_rfl) rfl ?_;refine zai ?_ ?_
         ·refine qE [13] (by kernel_rfl) rfl ?_;refine qE [14] (by kernel_rfl) rfl ?_;refine qE [15] (by kernel_rfl) rfl ?_;refine qE [16] (by kernel_rfl) rfl ?_;refine zai (by exact qR (show (stzL (es.take i)).length + 1 ≤ 1000000000 by omega) (by decide)) ?_;refine qJ 17 rfl rfl rfl (by kernel_rfl) ?_;refine qO (by kernel_rfl) ?_;refine qB ?_;refine zai (by first|omega|assumption|decide|(simp only [zds];omega)|(simp <;> omega)) ?_;exact ⟨i + 1,by omega,by first|omega|(simp <;> omega),qQ ⟨rfl,rfl,(qU (by omega))⟩ ⟨rfl,(qS (by rw [hsn];try exact rfl))⟩ rfl⟩
         ·refine qE [6] (by kernel_rfl) rfl ?_;refine qE [14] (by kernel_rfl) rfl ?_;refine qE [15] (by kernel_rfl) rfl ?_;refine qE [16] (by kernel_rfl) rfl ?_;refine zai (by exact qR (show (stzL (es.take i)).length + 1 ≤ 1000000000 by omega) (by decide)) ?_;refine qJ 17 rfl rfl rfl (by kernel_rfl) ?_;refine qO (by kernel_rfl) ?_;refine qB ?_;refine zai (by first|omega|assumption|decide|(simp only [zds];omega)|(simp <;> omega)) ?_;exact ⟨i + 1,by omega,by first|omega|(simp <;> omega),qQ ⟨rfl,rfl,(qU (by omega))⟩ ⟨rfl,(qS (by rw [hsn];try exact rfl))⟩ rfl⟩
     ·refine qJ 10 rfl rfl rfl (by kernel_rfl) ?_;refine zai (by first|omega|assumption|decide|(simp only [];omega)|(simp <;> omega)) ?_;refine qE [5,11] (by kernel_rfl) rfl ?_;refine zai ?_ ?_
      ·refine qE [6,11] (by kernel_rfl) rfl ?_;refine zai ?_ ?_
       ·refine qE [11] (by kernel_rfl) rfl ?_;refine qE [12] (by kernel_rfl) rfl ?_;refine qE [13] (by kernel_rfl) rfl ?_;refine qE [14] (by kernel_rfl) rfl ?_;refine qE [15] (by kernel_rfl) rfl ?_;refine qE [16] (by kernel_rfl) rfl ?_;refine zai (by exact qR (show (stzL (es.take i)).length + 1 ≤ 1000000000 by omega) (by decide)) ?_;refine qJ 17 rfl rfl rfl (by kernel_rfl) ?_;refine qO (by kernel_rfl) ?_;refine qB ?_;refine zai (by first|omega|assumption|decide|(simp only [zds];omega)|(simp <;> omega)) ?_;exact ⟨i + 1,by omega,by first|omega|(simp <;> omega),qQ ⟨rfl,rfl,(qU (by omega))⟩ ⟨rfl,(qS (by rw [hsn];try exact rfl))⟩ rfl⟩
       ·refine qE [6,12] (by kernel_rfl) rfl ?_;refine zai ?_ ?_
        ·refine qE [12] (by kernel_rfl) rfl ?_;refine qE [13] (by kernel_rfl) rfl ?_;refine qE [14] (by kernel_rfl) rfl ?_;refine qE [15] (by kernel_rfl) rfl ?_;refine qE [16] (by kernel_rfl) rfl ?_;refine zai (by exact qR (show (stzL (es.take i)).length + 1 ≤ 1000000000 by omega) (by decide)) ?_;refine qJ 17 rfl rfl rfl (by kernel_rfl) ?_;refine qO (by kernel_rfl) ?_;refine qB ?_;refine zai (by first|omega|assumption|decide|(simp only [zds];omega)|(simp <;> omega)) ?_;exact ⟨i + 1,by omega,by first|omega|(simp <;> omega),qQ ⟨rfl,rfl,(qU (by omega))⟩ ⟨rfl,(qS (by rw [hsn];try exact rfl))⟩ rfl⟩
        ·refine qE [6,13] (by kernel_rfl) rfl ?_;refine zai ?_ ?_
         ·refine qE [13] (by kernel_rfl) rfl ?_;refine qE [14] (by kernel_rfl) rfl ?_;refine qE [15] (by kernel_rfl) rfl ?_;refine qE [16] (by kernel_rfl) rfl ?_;refine zai (by exact qR (show (stzL (es.take i)).length + 1 ≤ 1000000000 by omega) (by decide)) ?_;refine qJ 17 rfl rfl rfl (by kernel_rfl) ?_;refine qO (by kernel_rfl) ?_;refine qB ?_;refine zai (by first|omega|assumption|decide|(simp only [zds];omega)|(simp <;> omega)) ?_;exact ⟨i + 1,by omega,by first|omega|(simp <;> omega),qQ ⟨rfl,rfl,(qU (by omega))⟩ ⟨rfl,(qS (by rw [hsn];try exact rfl))⟩ rfl⟩
         ·refine qE [6] (by kernel_rfl) rfl ?_;refine qE [14] (by kernel_rfl) rfl ?_;refine qE [15] (by kernel_rfl) rfl ?_;refine qE [16] (by kernel_rfl) rfl ?_;refine zai (by exact qR (show (stzL (es.take i)).length + 1 ≤ 1000000000 by omega) (by decide)) ?_;refine qJ 17 rfl rfl rfl (by kernel_rfl) ?_;refine qO (by kernel_rfl) ?_;refine qB ?_;refine zai (by first|omega|assumption|decide|(simp only [zds];omega)|(simp <;> omega)) ?_;exact ⟨i + 1,by omega,by first|omega|(simp <;> omega),qQ ⟨rfl,rfl,(qU (by omega))⟩ ⟨rfl,(qS (by rw [hsn];try exact rfl))⟩ rfl⟩
      ·refine qE [5,12] (by kernel_rfl) rfl ?_;refine zai ?_ ?_
       ·refine qE [6,12] (by kernel_rfl) rfl ?_;refine zai ?_ ?_
        ·refine qE [12] (by kernel_rfl) rfl ?_;refine qE [13] (by kernel_rfl) rfl ?_;refine qE [14] (by kernel_rfl) rfl ?_;refine qE [15] (by kernel_rfl) rfl ?_;refine qE [16] (by kernel_rfl) rfl ?_;refine zai (by exact qR (show (stzL (es.take i)).length + 1 ≤ 1000000000 by omega) (by decide)) ?_;refine qJ 17 rfl rfl rfl (by kernel_rfl) ?_;refine qO (by kernel_rfl) ?_;refine qB ?_;refine zai (by first|omega|assumption|decide|(simp only [zds];omega)|(simp <;> omega)) ?_;exact ⟨i + 1,by omega,by first|omega|(simp <;> omega),qQ ⟨rfl,rfl,(qU (by omega))⟩ ⟨rfl,(qS (by rw [hsn];try exact rfl))⟩ rfl⟩
        ·refine qE [6,13] (by kernel_rfl) rfl ?_;refine zai ?_ ?_
         ·refine qE [13] (by kernel_rfl) rfl ?_;refine qE [14] (by kernel_rfl) rfl ?_;refine qE [15] (by kernel_rfl) rfl ?_;refine qE [16] (by kernel_rfl) rfl ?_;refine zai (by exact qR (show (stzL (es.take i)).length + 1 ≤ 1000000000 by omega) (by decide)) ?_;refine qJ 17 rfl rfl rfl (by kernel_rfl) ?_;refine qO (by kernel_rfl) ?_;refine qB ?_;refine zai (by first|omega|assumption|decide|(simp only [zds];omega)|(simp <;> omega)) ?_;exact ⟨i + 1,by omega,by first|omega|(simp <;> omega),qQ ⟨rfl,rfl,(qU (by omega))⟩ ⟨rfl,(qS (by rw [hsn];try exact rfl))⟩ rfl⟩
         ·refine qE [6] (by kernel_rfl) rfl ?_;refine qE [14] (by kernel_rfl) rfl ?_;refine qE [15] (by kernel_rfl) rfl ?_;refine qE [16] (by kernel_rfl) rfl ?_;refine zai (by exact qR (show (stzL (es.take i)).length + 1 ≤ 1000000000 by omega) (by decide)) ?_;refine qJ 17 rfl rfl rfl (by kernel_rfl) ?_;refine qO (by kernel_rfl) ?_;refine qB ?_;refine zai (by first|omega|assumption|decide|(simp only [zds];omega)|(simp <;> omega)) ?_;exact ⟨i + 1,by omega,by first|omega|(simp <;> omega),qQ ⟨rfl,rfl,(qU (by omega))⟩ ⟨rfl,(qS (by rw [hsn];try exact rfl))⟩ rfl⟩
       ·refine qE [5,13] (by kernel_rfl) rfl ?_;refine zai ?_ ?_
        ·refine qE [6,13] (by kernel_rfl) rfl ?_;refine zai ?_ ?_
         ·refine qE [13] (by kernel_rfl) rfl ?_;refine qE [14] (by kernel_rfl) rfl ?_;refine qE [15] (by kernel_rfl) rfl ?_;refine qE [16] (by kernel_rfl) rfl ?_;refine zai (by exact qR (show (stzL (es.take i)).length + 1 ≤ 1000000000 by omega) (by decide)) ?_;refine qJ 17 rfl rfl rfl (by kernel_rfl) ?_;refine qO (by kernel_rfl) ?_;refine qB ?_;refine zai (by first|omega|assumption|decide|(simp only [zds];omega)|(simp <;> omega)) ?_;exact ⟨i + 1,by omega,by first|omega|(simp <;> omega),qQ ⟨rfl,rfl,(qU (by omega))⟩ ⟨rfl,(qS (by rw [hsn];try exact rfl))⟩ rfl⟩
         ·refine qE [6] (by kernel_rfl) rfl ?_;refine qE [14] (by kernel_rfl) rfl ?_;refine qE [15] (by kernel_rfl) rfl ?_;refine qE [16] (by kernel_rfl) rfl ?_;refine zai (by exact qR (show (stzL (es.take i)).length + 1 ≤ 1000000000 by omega) (by decide)) ?_;refine qJ 17 rfl rfl rfl (by kernel_rfl) ?_;refine qO (by kernel_rfl) ?_;refine qB ?_;refine zai (by first|omega|assumption|decide|(simp only [zds];omega)|(simp <;> omega)) ?_;exact ⟨i + 1,by omega,by first|omega|(simp <;> omega),qQ ⟨rfl,rfl,(qU (by omega))⟩ ⟨rfl,(qS (by rw [hsn];try exact rfl))⟩ rfl⟩
        ·refine qE [5] (by kernel_rfl) rfl ?_;refine qE [6] (by kernel_rfl) rfl ?_;refine qE [14] (by kernel_rfl) rfl ?_;refine qE [15] (by kernel_rfl) rfl ?_;refine qE [16] (by kernel_rfl) rfl ?_;refine zai (by exact qR (show (stzL (es.take i)).length + 1 ≤ 1000000000 by omega) (by decide)) ?_;refine qJ 17 rfl rfl rfl (by kernel_rfl) ?_;refine qO (by kernel_rfl) ?_;refine qB ?_;refine zai (by first|omega|assumption|decide|(simp only [zds];omega)|(simp <;> omega)) ?_;exact ⟨i + 1,by omega,by first|omega|(simp <;> omega),qQ ⟨rfl,rfl,(qU (by omega))⟩ ⟨rfl,(qS (by rw [hsn];try exact rfl))⟩ rfl⟩
    ·refine qJ 10 rfl rfl rfl (by kernel_rfl) ?_;refine zai (by first|omega|assumption|decide|(simp only [];omega)|(simp <;> omega)) ?_;refine qE [2,11] (by kernel_rfl) rfl ?_;refine zai ?_ ?_
     ·refine qJ 4 rfl rfl rfl (by kernel_rfl) ?_;refine zai (by first|omega|assumption|decide|(simp only [];omega)|(simp <;> omega)) ?_;refine qE [5,11] (by kernel_rfl) rfl ?_;refine zai ?_ ?_
      ·refine qE [6,11] (by kernel_rfl) rfl ?_;refine zai ?_ ?_
       ·refine qE [11] (by kernel_rfl) rfl ?_;refine qE [12] (by kernel_rfl) rfl ?_;refine qE [13] (by kernel_rfl) rfl ?_;refine qE [14] (by kernel_rfl) rfl ?_;refine qE [15] (by kernel_rfl) rfl ?_;refine qE [16] (by kernel_rfl) rfl ?_;refine zai (by exact qR (show (stzL (es.take i)).length + 1 ≤ 1000000000 by omega) (by decide)) ?_;refine qJ 17 rfl rfl rfl (by kernel_rfl) ?_;refine qO (by kernel_rfl) ?_;refine qB ?_;refine zai (by first|omega|assumption|decide|(simp only [zds];omega)|(simp <;> omega)) ?_;exact ⟨i + 1,by omega,by first|omega|(simp <;> omega),qQ ⟨rfl,rfl,(qU (by omega))⟩ ⟨rfl,(qS (by rw [hsn];try exact rfl))⟩ rfl⟩
       ·refine qE [6,12] (by kernel_rfl) rfl ?_;refine zai ?_ ?_
        ·refine qE [12] (by kernel_rfl) rfl ?_;refine qE [13] (by kernel_rfl) rfl ?_;refine qE [14] (by kernel_rfl) rfl ?_;refine qE [15] (by kernel_rfl) rfl ?_;refine qE [16] (by kernel_rfl) rfl ?_;refine zai (by exact qR (show (stzL (es.take i)).length + 1 ≤ 1000000000 by omega) (by decide)) ?_;refine qJ 17 rfl rfl rfl (by kernel_rfl) ?_;refine qO (by kernel_rfl) ?_;refine qB ?_;refine zai (by first|omega|assumption|decide|(simp only [zds];omega)|(simp <;> omega)) ?_;exact ⟨i + 1,by omega,by first|omega|(simp <;> omega),qQ ⟨rfl,rfl,(qU (by omega))⟩ ⟨rfl,(qS (by rw [hsn];try exact rfl))⟩ rfl⟩
        ·refine qE [6,13] (by kernel_rfl) rfl ?_;refine zai ?_ ?_
         ·refine qE [13] (by kernel_rfl) rfl ?_;refine qE [14] (by kernel_rfl) rfl ?_;refine qE [15] (by kernel_rfl) rfl ?_;refine qE [16] (by kernel_rfl) rfl ?_;refine zai (by exact qR (show (stzL (es.take i)).length + 1 ≤ 1000000000 by omega) (by decide)) ?_;refine qJ 17 rfl rfl rfl (by kernel_rfl) ?_;refine qO (by kernel_rfl) ?_;refine qB ?_;refine zai (by first|omega|assumption|decide|(simp only [zds];omega)|(simp <;> omega)) ?_;exact ⟨i + 1,by omega,by first|omega|(simp <;> omega),qQ ⟨rfl,rfl,(qU (by omega))⟩ ⟨rfl,(qS (by rw [hsn];try exact rfl))⟩ rfl⟩
         ·refine qE [6] (by kernel_rfl) rfl ?_;refine qE [14] (by kernel_rfl) rfl ?_;refine qE [15] (by kernel_rfl) rfl ?_;refine qE [16] (by kernel_rfl) rfl ?_;refine zai (by exact qR (show (stzL (es.take i)).length + 1 ≤ 1000000000 by omega) (by decide)) ?_;refine qJ 17 rfl rfl rfl (by kernel_rfl) ?_;refine qO (by kernel_rfl) ?_;refine qB ?_;refine zai (by first|omega|assumption|decide|(simp only [zds];omega)|(simp <;> omega)) ?_;exact ⟨i + 1,by omega,by first|omega|(simp <;> omega),qQ ⟨rfl,rfl,(qU (by omega))⟩ ⟨rfl,(qS (by rw [hsn];try exact rfl))⟩ rfl⟩
      ·refine qE [5,12] (by kernel_rfl) rfl ?_;refine zai ?_ ?_
       ·refine qE [6,12] (by kernel_rfl) rfl ?_;refine zai ?_ ?_
        ·refine qE [12] (by kernel_rfl) rfl ?_;refine qE [13] (by kernel_rfl) rfl ?_;refine qE [14] (by kernel_rfl) rfl ?_;refine qE [15] (by kernel_rfl) rfl ?_;refine qE [16] (by kernel_rfl) rfl ?_;refine zai (by exact qR (show (stzL (es.take i)).length + 1 ≤ 1000000000 by omega) (by decide)) ?_;refine qJ 17 rfl rfl rfl (by kernel_rfl) ?_;refine qO (by kernel_rfl) ?_;refine qB ?_;refine zai (by first|omega|assumption|decide|(simp only [zds];omega)|(simp <;> omega)) ?_;exact ⟨i + 1,by omega,by first|omega|(simp <;> omega),qQ ⟨rfl,rfl,(qU (by omega))⟩ ⟨rfl,(qS (by rw [hsn];try exact rfl))⟩ rfl⟩
        ·refine qE [6,13] (by kernel_rfl) rfl ?_;refine zai ?_ ?_
         ·refine qE [13] (by kernel_rfl) rfl ?_;refine qE [14] (by kernel_rfl) rfl ?_;refine qE [15] (by kernel_rfl) rfl ?_;refine qE [16] (by kernel_rfl) rfl ?_;refine zai (by exact qR (show (stzL (es.take i)).length + 1 ≤ 1000000000 by omega) (by decide)) ?_;refine qJ 17 rfl rfl rfl (by kernel_rfl) ?_;refine qO (by kernel_rfl) ?_;refine qB ?_;refine zai (by first|omega|assumption|decide|(simp only [zds];omega)|(simp <;> omega)) ?_;exact ⟨i + 1,by omega,by first|omega|(simp <;> omega),qQ ⟨rfl,rfl,(qU (by omega))⟩ ⟨rfl,(qS (by rw [hsn];try exact rfl))⟩ rfl⟩
         ·refine qE [6] (by kernel_rfl) rfl ?_;refine qE [14] (by kernel_rfl) rfl ?_;refine qE [15] (by kernel_rfl) rfl ?_;refine qE [16] (by kernel_rfl) rfl ?_;refine zai (by exact qR (show (stzL (es.take i)).length + 1 ≤ 1000000000 by omega) (by decide)) ?_;refine qJ 17 rfl rfl rfl (by kernel_rfl) ?_;refine qO (by kernel_rfl) ?_;refine qB ?_;refine zai (by first|omega|assumption|decide|(simp only [zds];omega)|(simp <;> omega)) ?_;exact ⟨i + 1,by omega,by first|omega|(simp <;> omega),qQ ⟨rfl,rfl,(qU (by omega))⟩ ⟨rfl,(qS (by rw [hsn];try exact rfl))⟩ rfl⟩
       ·refine qE [5,13] (by kernel_rfl) rfl ?_;refine zai ?_ ?_
        ·refine qE [6,13] (by kernel_rfl) rfl ?_;refine zai ?_ ?_
         ·refine qE [13] (by kernel_rfl) rfl ?_;refine qE [14] (by kernel_rfl) rfl ?_;refine qE [15] (by kernel_rfl) rfl ?_;refine qE [16] (by kernel_rfl) rfl ?_;refine zai (by exact qR (show (stzL (es.take i)).length + 1 ≤ 1000000000 by omega) (by decide)) ?_;refine qJ 17 rfl rfl rfl (by kernel_rfl) ?_;refine qO (by kernel_rfl) ?_;refine qB ?_;refine zai (by first|omega|assumption|decide|(simp only [zds];omega)|(simp <;> omega)) ?_;exact ⟨i + 1,by omega,by first|omega|(simp <;> omega),qQ ⟨rfl,rfl,(qU (by omega))⟩ ⟨rfl,(qS (by rw [hsn];try exact rfl))⟩ rfl⟩
         ·refine qE [6] (by kernel_rfl) rfl ?_;refine qE [14] (by kernel_rfl) rfl ?_;refine qE [15] (by kernel_rfl) rfl ?_;refine qE [16] (by kernel_rfl) rfl ?_;refine zai (by exact qR (show (stzL (es.take i)).length + 1 ≤ 1000000000 by omega) (by decide)) ?_;refine qJ 17 rfl rfl rfl (by kernel_rfl) ?_;refine qO (by kernel_rfl) ?_;refine qB ?_;refine zai (by first|omega|assumption|decide|(simp only [zds];omega)|(simp <;> omega)) ?_;exact ⟨i + 1,by omega,by first|omega|(simp <;> omega),qQ ⟨rfl,rfl,(qU (by omega))⟩ ⟨rfl,(qS (by rw [hsn];try exact rfl))⟩ rfl⟩
        ·refine qE [5] (by kernel_rfl) rfl ?_;refine qE [6] (by kernel_rfl) rfl ?_;refine qE [14] (by kernel_rfl) rfl ?_;refine qE [15] (by kernel_rfl) rfl ?_;refine qE [16] (by kernel_rfl) rfl ?_;refine zai (by exact qR (show (stzL (es.take i)).length + 1 ≤ 1000000000 by omega) (by decide)) ?_;refine qJ 17 rfl rfl rfl (by kernel_rfl) ?_;refine qO (by kernel_rfl) ?_;refine qB ?_;refine zai (by first|omega|assumption|decide|(simp only [zds];omega)|(simp <;> omega)) ?_;exact ⟨i + 1,by omega,by first|omega|(simp <;> omega),qQ ⟨rfl,rfl,(qU (by omega))⟩ ⟨rfl,(qS (by rw [hsn];try exact rfl))⟩ rfl⟩
     ·refine qE [2,12] (by kernel_rfl) rfl ?_;refine zai ?_ ?_
      ·refine qJ 4 rfl rfl rfl (by kernel_rfl) ?_;refine zai (by first|omega|assumption|decide|(simp only [];omega)|(simp <;> omega)) ?_;refine qE [5,12] (by kernel_rfl) rfl ?_;refine zai ?_ ?_
       ·refine qE [6,12] (by kernel_rfl) rfl ?_;refine zai ?_ ?_
        ·refine qE [12] (by kernel_rfl) rfl ?_;refine qE [13] (by kernel_rfl) rfl ?_;refine qE [14] (by kernel_rfl) rfl ?_;refine qE [15] (by kernel_rfl) rfl ?_;refine qE [16] (by kernel_rfl) rfl ?_;refine zai (by exact qR (show (stzL (es.take i)).length + 1 ≤ 1000000000 by omega) (by decide)) ?_;refine qJ 17 rfl rfl rfl (by kernel_rfl) ?_;refine qO (by kernel_rfl) ?_;refine qB ?_;refine zai (by first|omega|assumption|decide|(simp only [zds];omega)|(simp <;> omega)) ?_;exact ⟨i + 1,by omega,by first|omega|(simp <;> omega),qQ ⟨rfl,rfl,(qU (by omega))⟩ ⟨rfl,(qS (by rw [hsn];try exact rfl))⟩ rfl⟩
        ·refine qE [6,13] (by kernel_rfl) rfl ?_;refine zai ?_ ?_
         ·refine qE [13] (by kernel_rfl) rfl ?_;refine qE [14] (by kernel_rfl) rfl ?_;refine qE [15] (by kernel_rfl) rfl ?_;refine qE [16] (by kernel_rfl) rfl ?_;refine zai (by exact qR (show (stzL (es.take i)).length + 1 ≤ 1000000000 by omega) (by decide)) ?_;refine qJ 17 rfl rfl rfl (by kernel_rfl) ?_;refine qO (by kernel_rfl) ?_;refine qB ?_;refine zai (by first|omega|assumption|decide|(simp only [zds];omega)|(simp <;> omega)) ?_;exact ⟨i + 1,by omega,by first|omega|(simp <;> omega),qQ ⟨rfl,rfl,(qU (by omega))⟩ ⟨rfl,(qS (by rw [hsn];try exact rfl))⟩ rfl⟩
         ·refine qE [6] (by kernel_rfl) rfl ?_;refine qE [14] (by kernel_rfl) rfl ?_;refine qE [15] (by kernel_rfl) rfl ?_;refine qE [16] (by kernel_rfl) rfl ?_;refine zai (by exact qR (show (stzL (es.take i)).length + 1 ≤ 1000000000 by omega) (by decide)) ?_;refine qJ 17 rfl rfl rfl (by kernel_rfl) ?_;refine qO (by kernel_rfl) ?_;refine qB ?_;refine zai (by first|omega|assumption|decide|(simp only [zds];omega)|(simp <;> omega)) ?_;exact ⟨i + 1,by omega,by first|omega|(simp <;> omega),qQ ⟨rfl,rfl,(qU (by omega))⟩ ⟨rfl,(qS (by rw [hsn];try exact rfl))⟩ rfl⟩
       ·refine qE [5,13] (by kernel_rfl) rfl ?_;refine zai ?_ ?_
        ·refine qE [6,13] (by kernel_rfl) rfl ?_;refine zai ?_ ?_
         ·refine qE [13] (by kernel_rfl) rfl ?_;refine qE [14] (by kernel_rfl) rfl ?_;refine qE [15] (by kernel_rfl) rfl ?_;refine qE [16] (by kernel_rfl) rfl ?_;refine zai (by exact qR (show (stzL (es.take i)).length + 1 ≤ 1000000000 by omega) (by decide)) ?_;refine qJ 17 rfl rfl rfl (by kernel_rfl) ?_;refine qO (by kernel_rfl) ?_;refine qB ?_;refine zai (by first|omega|assumption|decide|(simp only [zds];omega)|(simp <;> omega)) ?_;exact ⟨i + 1,by omega,by first|omega|(simp <;> omega),qQ ⟨rfl,rfl,(qU (by omega))⟩ ⟨rfl,(qS (by rw [hsn];try exact rfl))⟩ rfl⟩
         ·refine qE [6] (by kernel_rfl) rfl ?_;refine qE [14] (by kernel_rfl) rfl ?_;refine qE [15] (by kernel_rfl) rfl ?_;refine qE [16] (by kernel_rfl) rfl ?_;refine zai (by exact qR (show (stzL (es.take i)).length + 1 ≤ 1000000000 by omega) (by decide)) ?_;refine qJ 17 rfl rfl rfl (by kernel_rfl) ?_;refine qO (by kernel_rfl) ?_;refine qB ?_;refine zai (by first|omega|assumption|decide|(simp only [zds];omega)|(simp <;> omega)) ?_;exact ⟨i + 1,by omega,by first|omega|(simp <;> omega),qQ ⟨rfl,rfl,(qU (by omega))⟩ ⟨rfl,(qS (by rw [hsn];try exact rfl))⟩ rfl⟩
        ·refine qE [5] (by kernel_rfl) rfl ?_;refine qE [6] (by kernel_rfl) rfl ?_;refine qE [14] (by kernel_rfl) rfl ?_;refine qE [15] (by kernel_rfl) rfl ?_;refine qE [16] (by kernel_rfl) rfl ?_;refine zai (by exact qR (show (stzL (es.take i)).length + 1 ≤ 1000000000 by omega) (by decide)) ?_;refine qJ 17 rfl rfl rfl (by kernel_rfl) ?_;refine qO (by kernel_rfl) ?_;refine qB ?_;refine zai (by first|omega|assumption|decide|(simp only [zds];omega)|(simp <;> omega)) ?_;exact ⟨i + 1,by omega,by first|omega|(simp <;> omega),qQ ⟨rfl,rfl,(qU (by omega))⟩ ⟨rfl,(qS (by rw [hsn];try exact rfl))⟩ rfl⟩
      ·refine qE [2,13] (by kernel_rfl) rfl ?_;refine zai ?_ ?_
       ·refine qJ 4 rfl rfl rfl (by kernel_rfl) ?_;refine zai (by first|omega|assumption|decide|(simp only [];omega)|(simp <;> omega)) ?_;refine qE [5,13] (by kernel_rfl) rfl ?_;refine zai ?_ ?_
        ·refine qE [6,13] (by kernel_rfl) rfl ?_;refine zai ?_ ?_
         ·refine qE [13] (by kernel_rfl) rfl ?_;refine qE [14] (by kernel_rfl) rfl ?_;refine qE [15] (by kernel_rfl) rfl ?_;refine qE [16] (by kernel_rfl) rfl ?_;refine zai (by exact qR (show (stzL (es.take i)).length + 1 ≤ 1000000000 by omega) (by decide)) ?_;refine qJ 17 rfl rfl rfl (by kernel_rfl) ?_;refine qO (by kernel_rfl) ?_;refine qB ?_;refine zai (by first|omega|assumption|decide|(simp only [zds];omega)|(simp <;> omega)) ?_;exact ⟨i + 1,by omega,by first|omega|(simp <;> omega),qQ ⟨rfl,rfl,(qU (by omega))⟩ ⟨rfl,(qS (by rw [hsn];try exact rfl))⟩ rfl⟩
         ·refine qE [6] (by kernel_rfl) rfl ?_;refine qE [14] (by kernel_rfl) rfl ?_;refine qE [15] (by kernel_rfl) rfl ?_;refine qE [16] (by kernel_rfl) rfl ?_;refine zai (by exact qR (show (stzL (es.take i)).length + 1 ≤ 1000000000 by omega) (by decide)) ?_;refine qJ 17 rfl rfl rfl (by kernel_rfl) ?_;refine qO (by kernel_rfl) ?_;refine qB ?_;refine zai (by first|omega|assumption|decide|(simp only [zds];omega)|(simp <;> omega)) ?_;exact ⟨i + 1,by omega,by first|omega|(simp <;> omega),qQ ⟨rfl,rfl,(qU (by omega))⟩ ⟨rfl,(qS (by rw [hsn];try exact rfl))⟩ rfl⟩
        ·refine qE [5] (by kernel_rfl) rfl ?_;refine qE [6] (by kernel_rfl) rfl ?_;refine qE [14] (by kernel_rfl) rfl ?_;refine qE [15] (by kernel_rfl) rfl ?_;refine qE [16] (by kernel_rfl) rfl ?_;refine zai (by exact qR (show (stzL (es.take i)).length + 1 ≤ 1000000000 by omega) (by decide)) ?_;refine qJ 17 rfl rfl rfl (by kernel_rfl) ?_;refine qO (by kernel_rfl) ?_;refine qB ?_;refine zai (by first|omega|assumption|decide|(simp only [zds];omega)|(simp <;> omega)) ?_;exact ⟨i + 1,by omega,by first|omega|(simp <;> omega),qQ ⟨rfl,rfl,(qU (by omega))⟩ ⟨rfl,(qS (by rw [hsn];try exact rfl))⟩ rfl⟩
       ·refine qE [2] (by kernel_rfl) rfl ?_;refine qJ 4 rfl rfl rfl (by kernel_rfl) ?_;refine zai (by first|omega|assumption|decide|(simp only [];omega)|(simp <;> omega)) ?_;refine qE [5] (by kernel_rfl) rfl ?_;refine qE [6] (by kernel_rfl) rfl ?_;refine qE [14] (by kernel_rfl) rfl ?_;refine qE [15] (by kernel_rfl) rfl ?_;refine qE [16] (by kernel_rfl) rfl ?_;refine zai (by exact qR (show (stzL (es.take i)).length + 1 ≤ 1000000000 by omega) (by decide)) ?_;refine qJ 17 rfl rfl rfl (by kernel_rfl) ?_;refine qO (by kernel_rfl) ?_;refine qB ?_;refine zai (by first|omega|assumption|decide|(simp only [zds];omega)|(simp <;> omega)) ?_;exact ⟨i + 1,by omega,by first|omega|(simp <;> omega),qQ ⟨rfl,rfl,(qU (by omega))⟩ ⟨rfl,(qS (by rw [hsn];try exact rfl))⟩ rfl⟩
   ·try simp only [decide_eq_false_iff_not,Int.not_lt] at h18
    try simp only [Int.toNat_natCast,qI,qH,qF,qG] at h18
    have hk : live (es.getD i (((0 : Int),ByteArray.empty,([] : List Fld)),(0 : Int))) = false:=decide_eq_false (by omega);rw [hk,if_neg Bool.false_ne_true,List.append_nil] at hsn;refine qN ?_;refine qB ?_;refine zai (by first|omega|assumption|decide|(simp only [zds];omega)|(simp <;> omega)) ?_;exact ⟨i + 1,by omega,by first|omega|(simp <;> omega),qQ ⟨rfl,rfl,(qU (by omega))⟩ ⟨rfl,(qS (by rw [hsn];try exact rfl))⟩ rfl⟩
  ·try simp only [decide_eq_false_iff_not,Int.not_lt] at h9
   try simp only [zds] at h9
   refine qX ?_;refine qC ?_;refine qB ?_;refine qM ?_;rw [List.take_of_length_le (by omega)];exact rfl
end Q
end Ab
end Go.Proofs.YtlbainbjlibfiaaGreatDoor
namespace Go.Proofs.YtlbainbjlibfiaaGreatDoor
open Go.RowKit
namespace Ab
set_option maxRecDepth 100000
namespace Q
def doL (L : Lst) (e : Edt) : Lst :=
  if e.1 = 1 then
    if atE L.1 e.2.1 < 0 then L else if (chkR e.2.2).2 ≠ 0 then L else (replE L.1 (atE L.1 e.2.1).toNat (itmOf e.2.2),L.2)
  else if e.1 = 2 then
    if atE L.1 e.2.1 < 0 then L else (delE L.1 (atE L.1 e.2.1).toNat,L.2.1,L.2.2 - 1)
  else if atE L.1 e.2.1 < 0 ∧ e.2.1 ≠ 0 then L else if (chkR e.2.2).2 ≠ 0 then L else if 400 ≤ L.2.2 then L else
    (insE L.1 (atE L.1 e.2.1 + 1).toNat (itmOf e.2.2,L.2.1),L.2.1 + 1,L.2.2 + 1)
def refRep (M : RLs) (id : Int) (f : List Fld) : RLs × Int × Int :=
  if atE M.1 id < 0 then (M,-9,7) else if (chkR f).2 ≠ 0 then (M,(chkR f).1,(chkR f).2) else ((replE M.1 (atE M.1 id).toNat (itmOf f),M.2),-9,0)
def refDel (M : RLs) (id : Int) : RLs × Int :=
  if atE M.1 id < 0 then (M,7) else ((delE M.1 (atE M.1 id).toNat,M.2),0)
def yZ (M : RLs) (id : Int) (f : List Fld) : RLs × Int × Int × Int :=
  if atE M.1 id < 0 ∧ id ≠ 0 then (M,0,-9,7) else if (chkR f).2 ≠ 0 then (M,0,(chkR f).1,(chkR f).2) else if 400 ≤ ((M.1.filter live).length : Int) then (M,0,-9,11) else
    ((insE M.1 (atE M.1 id + 1).toNat (itmOf f,M.2),M.2 + 1),M.2,-9,0)
def posI (n : Int) : Bool:=decide (0 < n)
def nmsL (es : List Ent) : List Int:=(es.map (·.2)).filter posI
theorem ids_eq (es : List Ent) : (es.filter live).map (·.2) = nmsL es:=by
  unfold nmsL;rw [List.filter_map];rfl
theorem ids_len (es : List Ent) : (nmsL es).length = (es.filter live).length:=by rw [← ids_eq,List.length_map]
structure LOk (c : Nat) (L : Lst) : Prop where
  flds : ∀ e ∈ L.1,xF e.1.2.2
  ids : ∀ e ∈ L.1,0 ≤ e.2 ∧ e.2 < L.2.1
  nd : (nmsL L.1).Nodup
  many : L.2.2 = ((nmsL L.1).length : Int)
  next : 1 ≤ L.2.1 ∧ L.2.1 ≤ c
  len : L.1.length ≤ c
theorem ids_repl (es : List Ent) (i : Nat) (x : Itm) (h : i < es.length) : (replE es i x).map (·.2) = es.map (·.2):=by
  apply List.ext_getElem
  · simp [replE]
  · intro j h1 h2;simp only [replE,List.getElem_map,List.getElem_set];split
    · rename_i e;subst e;simp only;rw [List.getD_eq_getElem?_getD,List.getElem?_eq_getElem h];rfl
    · rfl
theorem mem_repl {es : List Ent} {i : Nat} {x : Itm} {e : Ent} (h : e ∈ replE es i x) : e ∈ es ∨ e = (x,(es.getD i (((0 : Int),ByteArray.empty,([] : List Fld)),(0 : Int))).2):=List.mem_or_eq_of_mem_set h
theorem del_split {es : List Ent} {i : Nat} (h : i < es.length) : es = es.take i ++ (es.getD i (((0 : Int),ByteArray.empty,([] : List Fld)),(0 : Int))) :: es.drop (i + 1):=by
  conv=>lhs;rw [← List.take_append_drop i es,List.drop_eq_getElem_cons h]
  rw [List.getD_eq_getElem?_getD,List.getElem?_eq_getElem h];rfl
theorem mem_del {es : List Ent} {i : Nat} {e : Ent} (h : e ∈ delE es i) : e ∈ es:=by
  rcases List.mem_append.1 h with h|h
  · exact List.mem_of_mem_take h
  · exact List.mem_of_mem_drop h
theorem ids_app (a b : List Ent) : nmsL (a ++ b) = nmsL a ++ nmsL b:=by unfold nmsL;rw [List.map_append,List.filter_append]
theorem ids_cons (e : Ent) (b : List Ent) : nmsL (e :: b) = if 0 < e.2 then e.2 :: nmsL b else nmsL b:=by
  unfold nmsL;rw [List.map_cons,List.filter_cons];unfold posI
  by_cases h : 0 < e.2
  · rw [if_pos h,if_pos (decide_eq_true h)]
  · rw [if_neg h,if_neg (by simpa using h)]
theorem ids_del {es : List Ent} {i : Nat} (h : i < es.length) (hp : 0 < (es.getD i (((0 : Int),ByteArray.empty,([] : List Fld)),(0 : Int))).2) : (nmsL es).length = (nmsL (delE es i)).length + 1 ∧ ((nmsL es).Nodup → (nmsL (delE es i)).Nodup):=by
  have e1 : nmsL es = nmsL (es.take i) ++ (es.getD i (((0 : Int),ByteArray.empty,([] : List Fld)),(0 : Int))).2 :: nmsL (es.drop (i + 1)):=by
    conv=>lhs;rw [del_split h,ids_app,ids_cons,if_pos hp]
  have e2 : nmsL (delE es i) = nmsL (es.take i) ++ nmsL (es.drop (i + 1)):=ids_app _ _;rw [e1,e2];refine ⟨by simp only [List.length_append,List.length_cons];omega,fun hn=>?_⟩;exact hn.sublist (List.Sublist.append_left (List.sublist_cons_self _ _) _)
theorem mem_ins {es : List Ent} {i : Nat} {x e : Ent} (h : e ∈ insE es i x) : e ∈ es ∨ e = x:=by
  rcases List.mem_append.1 h with h|h
  · exact .inl (List.mem_of_mem_take h)
  · rcases List.mem_cons.1 h with h|h
    · exact .inr h
    · exact .inl (List.mem_of_mem_drop h)
theorem ids_ins {es : List Ent} {i : Nat} {x : Ent} (hp : 0 < x.2) (hlt : ∀ e ∈ es,e.2 < x.2) : (nmsL (insE es i x)).length = (nmsL es).length + 1 ∧ ((nmsL es).Nodup → (nmsL (insE es i x)).Nodup):=by
  have e1 : nmsL es = nmsL (es.take i) ++ nmsL (es.drop i):=by
    conv=>lhs;rw [← List.take_append_drop i es,ids_app]
  have e2 : nmsL (insE es i x) = nmsL (es.take i) ++ x.2 :: nmsL (es.drop i):=by unfold insE;rw [ids_app,ids_cons,if_pos hp]
  have hno : x.2 ∉ nmsL es:=fun h=>by
    unfold nmsL at h;obtain ⟨e,he,hx⟩:=List.mem_map.1 (List.mem_filter.1 h).1;have:=hlt e he;omega
  rw [e1] at hno ⊢;rw [e2];refine ⟨by simp only [List.length_append,List.length_cons];omega,fun hn=>?_⟩;rw [List.perm_middle.nodup_iff];exact List.nodup_cons.2 ⟨hno,hn⟩
theorem doL_ok {c : Nat} {L : Lst} {e : Edt} (h : LOk c L) (hf : xF e.2.2) : LOk (c + 1) (doL L e):=by
  have h0 : LOk (c + 1) L:=⟨h.flds,h.ids,h.nd,h.many,⟨h.next.1,by have:=h.next.2;omega⟩,by have:=h.len;omega⟩;have hat : ∀ id,¬ atE L.1 id < 0 → ∃ i : Nat,i < L.1.length ∧ atE L.1 id = i ∧ 0 < id ∧ (L.1.getD i (((0 : Int),ByteArray.empty,([] : List Fld)),(0 : Int))).2 = id:=fun id hn=>by
    rcases at_cases L.1 id with ⟨h1,_⟩|⟨i,h1,h2,h3,h4,_⟩
    · omega
    · exact ⟨i,h1,h2,h3,h4⟩
  unfold doL;split
  · split
    · exact h0
    · rename_i hn;obtain ⟨i,hi,he,hp,hid⟩:=hat _ hn;rw [he,Int.toNat_natCast];split
      · exact h0
      · have hids : nmsL (replE L.1 i (itmOf e.2.2)) = nmsL L.1:=by unfold nmsL;rw [ids_repl _ _ _ hi]
        refine ⟨fun x hx=>?_,fun x hx=>?_,by show (nmsL (replE L.1 i _)).Nodup;rw [hids];exact h.nd,by show L.2.2 = ((nmsL (replE L.1 i _)).length : Int);rw [hids];exact h.many,h0.next,?_⟩
        · rcases mem_repl hx with hx|rfl
          · exact h.flds x hx
          · exact hf
        · rcases mem_repl hx with hx|rfl
          · exact h.ids x hx
          · show 0 ≤ (L.1.getD i (((0 : Int),ByteArray.empty,([] : List Fld)),(0 : Int))).2 ∧ (L.1.getD i (((0 : Int),ByteArray.empty,([] : List Fld)),(0 : Int))).2 < L.2.1;exact h.ids _ (yK hi (((0 : Int),ByteArray.empty,([] : List Fld)),(0 : Int)))
        · show (replE L.1 i _).length ≤ c + 1;unfold replE;rw [List.length_set];exact h0.len
  · split
    · split
      · exact h0
      · rename_i hn;obtain ⟨i,hi,he,hp,hid⟩:=hat _ hn;rw [he,Int.toNat_natCast];obtain ⟨h1,h2⟩:=ids_del hi (by omega);refine ⟨fun x hx=>h.flds x (mem_del hx),fun x hx=>h.ids x (mem_del hx),h2 h.nd,?_,h0.next,?_⟩
        · show L.2.2 - 1 = ((nmsL (delE L.1 i)).length : Int);rw [h.many];omega
        · show (delE L.1 i).length ≤ c + 1;have:=h.len;unfold delE;rw [List.length_append,List.length_take,List.length_drop];omega
    · split
      · exact h0
      · rename_i hn;split
        · exact h0
        · split
          · exact h0
          · have hnx:=h.next;obtain ⟨h1,h2⟩:=ids_ins (es:=L.1) (i:=(atE L.1 e.2.1 + 1).toNat) (x:=(itmOf e.2.2,L.2.1)) (by show 0 < L.2.1;omega) (fun x hx=>(h.ids x hx).2);refine ⟨fun x hx=>?_,fun x hx=>?_,h2 h.nd,?_,⟨by show 1 ≤ L.2.1 + 1;omega,by show L.2.1 + 1 ≤ ((c + 1 : Nat) : Int);omega⟩,?_⟩
            · rcases mem_ins hx with hx|rfl
              · exact h.flds x hx
              · exact hf
            · show 0 ≤ x.2 ∧ x.2 < L.2.1 + 1;rcases mem_ins hx with hx|rfl
              · have:=h.ids x hx;omega
              · show 0 ≤ L.2.1 ∧ L.2.1 < L.2.1 + 1;omega
            · show L.2.2 + 1 = _;rw [h1,h.many];omega
            · have:=h.len;show (insE L.1 _ _).length ≤ c + 1;unfold insE;rw [List.length_append,List.length_cons,List.length_take,List.length_drop];omega
theorem ids_num : ∀ (l : List Itm) (n : Int),1 ≤ n → nmsL (numI n l) = (List.range (cntR l)).map (fun k : Nat=>n + (k : Int)) ∧ ∀ e ∈ numI n l,0 ≤ e.2 ∧ e.2 < n + (cntR l : Int)
  | [],n,_=>⟨rfl,fun e he=>by cases he⟩
  | x :: r,n,hn=>by
    unfold numI;split
    · rename_i h;obtain ⟨h1,h2⟩:=ids_num r (n + 1) (by omega);have hc : cntR (x :: r) = cntR r + 1:=by simp [cntR,h]
      rw [hc];refine ⟨?_,fun e he=>?_⟩
      · rw [ids_cons,if_pos (show 0 < n by omega),h1,List.range_succ_eq_map,List.map_cons,List.map_map]
        congr 1
        · simp
        · apply List.map_congr_left;intro k _;simp only [Function.comp];omega
      · rcases List.mem_cons.1 he with rfl|he
        · show 0 ≤ n ∧ n < _;omega
        · have:=h2 e he;omega
    · rename_i h;obtain ⟨h1,h2⟩:=ids_num r n hn;have hc : cntR (x :: r) = cntR r:=by simp [cntR,h]
      rw [hc];refine ⟨?_,fun e he=>?_⟩
      · rw [ids_cons,if_neg (show ¬ (0 : Int) < 0 by omega),h1]
      · rcases List.mem_cons.1 he with rfl|he
        · show 0 ≤ (0 : Int) ∧ (0 : Int) < _;omega
        · exact h2 e he
theorem ofT_ok {l : List Itm} {c : Nat} (hl : l.length < c) (hf : ∀ x ∈ l,xF x.2.2) : LOk c (ofT l):=by
  obtain ⟨h1,h2⟩:=ids_num l 1 (Int.le_refl _);have h3:=List.length_filter_le isRec l;have h4 : cntR l ≤ l.length:=h3;refine ⟨fun e he=>?_,h2,?_,?_,⟨?_,?_⟩,?_⟩
  · have : e.1 ∈ (numI 1 l).map (·.1):=List.mem_map.2 ⟨e,he,rfl⟩;rw [numI_items] at this;exact hf _ this
  · show (nmsL (numI 1 l)).Nodup;rw [h1];refine List.Pairwise.map _ ?_ List.nodup_range;intro a b hab e;apply hab;omega
  · show (cntR l : Int) = _;rw [show nmsL (ofT l).1 = _ from h1,List.length_map,List.length_range]
  · show 1 ≤ 1 + (cntR l : Int);omega
  · show 1 + (cntR l : Int) ≤ c;omega
  · show (numI 1 l).length ≤ c;rw [numI_len];omega
def refDo (M : RLs) (e : Edt) : RLs:=if e.1 = 1 then (refRep M e.2.1 e.2.2).1 else if e.1 = 2 then (refDel M e.2.1).1 else (yZ M e.2.1 e.2.2).1
theorem refDo_eq {c : Nat} {L : Lst} (h : LOk c L) (e : Edt) : refDo (L.1,L.2.1) e = ((doL L e).1,(doL L e).2.1):=by
  have hm : ((L.1.filter live).length : Int) = L.2.2:=by rw [h.many,ids_len]
  unfold refDo doL refRep refDel yZ;simp only [hm]
  repeat' (first|rfl|split)
end Q
end Ab
end Go.Proofs.YtlbainbjlibfiaaGreatDoor
namespace Go.Proofs.YtlbainbjlibfiaaGreatDoor
open Go.RowKit
namespace Ab
set_option maxRecDepth 100000
namespace Q
theorem itmL_snoc {es : List Ent} {i : Nat} (h : i < es.length) : itmL (es.take (i + 1)) = itmL (es.take i) ++ [(es.getD i (((0 : Int),ByteArray.empty,([] : List Fld)),(0 : Int))).1]:=by
  unfold itmL;rw [← yO (((0 : Int),ByteArray.empty,([] : List Fld)),(0 : Int)) h,List.map_append];rfl
theorem itmsL_c {k : Nat} (es : List Ent) (n m : Int) (hl : es.length ≤ 1000000) (hf : ∀ e ∈ es,e.1.2.2.length ≤ 1000000) : qW Tryz.prog 37 [.one (.adk k (rLst k) (es,n,m))] (.one (.sl rItm (itmL es))):=by
  refine qT (rs:=[2]) Tryz.func37 rfl rfl rfl teOk rfl ?_;refine qC ?_;refine qB ?_;refine qC ?_;refine qB ?_;refine qC ?_;refine qC ?_;refine qB ?_;refine qK rfl (fun h8=>?_) (fun h8=>?_)
  ·try simp only [zbq] at h8
   try simp only [zds] at h8
   simp at h8
  ·skip
   refine qN ?_;refine qC ?_;refine qC ?_;refine xA 3 63 rItm rfl ?_;refine qB ?_;intro l4_4;refine qP ?_;refine qV (fun (i : Nat)=>i ≤ es.length) (fun (i : Nat)=>[(3,.one (.vec 0)),(12,.one (.slk k rEnt es)),(13,ii .i64 es.length),(14,ii .i64 i)]) (fun (i : Nat)=>[(0,.vec 63 rItm (itmL (es.take i)))]) 1 (fun (i : Nat)=>es.length - i) 0 (Nat.zero_le _) (qQ ⟨rfl,rfl,rfl,rfl⟩ rfl rfl) ?_;intro i hI0;refine qC ?_;refine qB ?_;refine qC ?_;refine qK rfl (fun h15=>?_) (fun h15=>?_)
   ·try simp only [decide_eq_true_eq] at h15
    try simp only [zds] at h15
    have hil : i < es.length:=(by omega);have hsn:=itmL_snoc hil;refine qN ?_;refine qC ?_;refine qP ?_;refine qC ?_;refine qB ?_;refine zai (by first|omega|assumption|decide|(simp only [zds];omega)|(simp <;> omega)) ?_;refine qC ?_;refine qB ?_;refine qC ?_;refine qB ?_;refine Or.inl ?_;refine zai (rfl) ?_;refine zei _ (zai (clone_c (es.getD i (((0 : Int),ByteArray.empty,([] : List Fld)),(0 : Int))).1.2.2 (hf _ (yK hil (((0 : Int),ByteArray.empty,([] : List Fld)),(0 : Int))))) ?_);refine qB ?_;refine zai (by exact qR (show (itmL (es.take i)).length + 1 ≤ 1000000000 by unfold itmL;rw [List.length_map,List.length_take];omega) (by decide)) ?_;refine qB ?_;refine zai (by first|omega|assumption|decide|(simp only [zds];omega)|(simp <;> omega)) ?_;exact ⟨i + 1,by omega,by first|omega|(simp <;> omega),qQ ⟨rfl,rfl,rfl,(qU (by omega))⟩ (qS (by rw [hsn];try exact rfl)) rfl⟩
   ·try simp only [decide_eq_false_iff_not,Int.not_lt] at h15
    try simp only [zds] at h15
    refine qX ?_;refine qC ?_;refine qB ?_;refine qM ?_;rw [List.take_of_length_le (by omega)];exact rfl
theorem itmsN_c : qW Tryz.prog 37 [.one (.lit (.pointer none))] (.one (.lit (.slice none 0 0))):=by
  refine qT (rs:=[2]) Tryz.func37 rfl rfl rfl teOk rfl ?_;refine qC ?_;refine qB ?_;refine qC ?_;refine qB ?_;refine qC ?_;refine qC ?_;refine qB ?_;refine qK rfl (fun h8=>?_) (fun h8=>?_)
  ·try simp only [Bool.not_eq_true'] at h8
   try simp only [zds] at h8
   refine qC ?_;refine qB ?_;refine qM ?_;rfl
  ·try simp only [Bool.not_eq_false'] at h8
   try simp only [zds] at h8
   simp at h8
theorem textL_c {k : Nat} (es : List Ent) (n m : Int) (hl : es.length ≤ 400000) (hf : ∀ e ∈ es,e.1.2.2.length ≤ 1000000) (hs : szI (apartL (itmL es)) ≤ 100000000) : qW Tryz.prog 39 [.one (.adk k (rLst k) (es,n,m))] (is (bytes (txtL es))):=by
  have h1 : (itmL es).length ≤ 1000000:=by unfold itmL;rw [List.length_map];omega
  have h2 : ∀ x ∈ itmL es,x.2.2.length ≤ 1000000:=fun x hx=>by obtain ⟨e,he,rfl⟩:=List.mem_map.1 hx;exact hf e he
  have h3 : (apartL (itmL es)).length ≤ 1000000:=by
    have:=apartK_len (itmL es) 1;have h4 : (apartL (itmL es)).length ≤ 2 * (itmL es).length:=this;rw [show (itmL es).length = es.length from List.length_map _] at h4;omega
  have hr:=render_c (itmL es) (apartL (itmL es)) h3 hs (apart_c _ h1 h2);refine qT (rs:=[2]) Tryz.func39 rfl rfl rfl teOk rfl ?_;refine qC ?_;refine qB ?_;refine qC ?_;refine qB ?_;refine Or.inl ?_;refine zai (rfl) ?_;refine zei _ (zai (itmsL_c es n m (by omega) hf) ?_);refine Or.inl ?_;refine zai (rfl) ?_;refine zei _ (zai (hr) ?_);refine qM ?_;rfl
def prPl (es : List Ent) (id : Int) : Bool → Nat → Nat × Int → Prop
  | false,j,x=>x.1 = j ∧ x.2 = 0 ∧ ((es.filter live).take x.1).any (hasId id) = false
  | true,_,x=>x.2 = plcL es id
theorem placeL_c {k : Nat} (es : List Ent) (n m id : Int) (hl : es.length ≤ 1000000) : qW Tryz.prog 16 [.one (.adk k (rLst k) (es,n,m)),ii .i64 id] (ii .i64 (plcL es id)):=by
  have hll:=live_len es;refine yY (rs:=[.cell 4 3]) Tryz.func16 rfl rfl rfl teOk rfl ?_;refine qC ?_;refine qB ?_;refine qC ?_;refine qB ?_;refine qC ?_;refine qC ?_;refine qB ?_;refine Or.inl ?_;refine zai (rfl) ?_;refine zei _ (zai (all_c (es,n,m)) ?_);refine qP ?_;refine acode_range (caps:=[.one (.ref (.adk k (rLst k) (es,n,m)))]) (xs:=itEs es) [(3,.one (.own 0 0)),(4,.one (.own 1 0)),(5,.one (.own 2 0)),(8,.one (.clo 93 (.ref (.adk k (rLst k) (es,n,m)))))] 3 (prPl es id) (fun x=>[(0,.box 3 [.lit (.int .i64 id)]),(1,.box 3 [.lit (.int .i64 x.2)]),(2,.box 3 [.lit (.int .i64 x.1)])]) (fun _=>.ret) ((0,0) : Nat × Int) rfl rfl (all_iter es n m) (qQ ⟨rfl,rfl,rfl,rfl⟩ ⟨rfl,rfl,rfl⟩ rfl) ⟨rfl,rfl,rfl⟩ (fun j hj=>by simp [itEs]) rfl rfl rfl (fun _ _ _=>rfl) rfl ?_ ?_ ?_
  ·intro j x hk hp;obtain ⟨i,v⟩:=x;obtain ⟨h1,h2,hn⟩:=hp;simp only at h1 h2 hn;subst h1 h2;obtain ⟨e,he,hg,hi,hx⟩:=itEs_get es hk;rw [hx];refine qB ?_;refine qP ?_;refine qC ?_;refine qC ?_;refine qB ?_;refine qK rfl (fun h13=>?_) (fun h13=>?_)
   ·try simp only [decide_eq_true_eq] at h13
    try simp only [zds] at h13
    have hh : hasId id ((es.filter live).getD i (((0 : Int),ByteArray.empty,([] : List Fld)),(0 : Int))) = true:=(by rw [hg];exact decide_eq_true h13);refine qC ?_;refine qB ?_;refine qM ?_;exact ⟨(i,(i : Int)),(ixOf_at (((0 : Int),ByteArray.empty,([] : List Fld)),(0 : Int)) hi hn hh).symm,rfl,qQ trivial ⟨rfl,rfl,rfl⟩ rfl⟩
   ·try simp only [decide_eq_false_iff_not] at h13
    try simp only [zds] at h13
    have hh : hasId id ((es.filter live).getD i (((0 : Int),ByteArray.empty,([] : List Fld)),(0 : Int))) = false:=(by rw [hg];exact decide_eq_false h13);refine qN ?_;refine qB ?_;refine zai (by first|omega|assumption|decide|(simp only [zds];omega)|(simp <;> omega)) ?_;exact ⟨(i + 1,0),⟨rfl,rfl,by rw [take_any _ (hasId id) (((0 : Int),ByteArray.empty,([] : List Fld)),(0 : Int)) i hi,hn,hh];rfl⟩,qQ trivial ⟨rfl,rfl,rfl⟩ rfl⟩
  ·intro x hp;obtain ⟨i,v⟩:=x;obtain ⟨h1,h2,hn⟩:=hp;simp only at h1 h2 hn;subst h1 h2;refine qC ?_;refine qB ?_;refine qM ?_;rw [itEs_len,List.take_length] at hn;rw [show plcL es id = -1 from ixOf_none hn];exact rfl
  ·intro j x hp;obtain ⟨i,v⟩:=x;have hp : v = plcL es id:=hp;subst hp;refine qM ?_;exact rfl
end Q
end Ab
end Go.Proofs.YtlbainbjlibfiaaGreatDoor
namespace Go.Proofs.YtlbainbjlibfiaaGreatDoor
open Go.RowKit
namespace Ab
set_option maxRecDepth 100000
namespace Q
theorem copyL_o {k : Nat} (es : List Ent) (n m : Int) (hl : es.length ≤ 1000000) : yD Tryz.prog 32 [.one (.adk k (rLst k) (es,n,m))] [] 0 (.one (.own 1 0)) [(1,.box 109 [.vec 0,.lit (.int .i64 n),.lit (.int .i64 m)]),(0,.vec 111 rEnt es)] 2:=by
  have hcl:=cloneE_o (k:=k) es hl;refine yB (rs:=[2]) Tryz.func32 rfl rfl rfl teOk (by decide) rfl ?_;refine qC ?_;refine qB ?_;refine qC ?_;refine qC ?_;refine qB ?_;refine qK rfl (fun h4=>?_) (fun h4=>?_)
  ·try simp only [zbq] at h4
   try simp only [zds] at h4
   simp at h4
  ·try simp only [zbq] at h4
   try simp only [zds] at h4
   refine qN ?_;refine qC ?_;refine yH rfl ?_;refine qJ 0 rfl rfl rfl (by kernel_rfl) ?_;refine qJ 1 rfl rfl rfl (by kernel_rfl) ?_;refine qJ 2 rfl rfl rfl (by kernel_rfl) ?_;refine qJ 5 rfl rfl rfl (by kernel_rfl) ?_;refine qJ 6 rfl rfl rfl (by kernel_rfl) ?_;refine qJ 7 rfl rfl rfl (by kernel_rfl) ?_;refine qJ 9 rfl rfl rfl (by kernel_rfl) ?_;refine qJ 10 rfl rfl rfl (by kernel_rfl) ?_;refine qJ 11 rfl rfl rfl (by kernel_rfl) ?_;refine qE [3,8,12] (by kernel_rfl) rfl ?_;refine zai ?_ ?_
   ·refine qE [4,8,12] (by kernel_rfl) rfl ?_;refine zai ?_ ?_
    ·refine Or.inr (Or.inl (zei [] (zei [] (zei _ (zei _ (zei _ (zei _ (zei _ (zai (hcl) (zai rfl (zai True.intro (zai rfl ?_))))))))))));refine qE [8,12] (by kernel_rfl) rfl ?_;refine zai ?_ ?_
     ·refine qE [12] (by kernel_rfl) rfl ?_;refine qE [13] (by kernel_rfl) rfl ?_;refine qE [14] (by kernel_rfl) rfl ?_;refine qJ 15 rfl rfl rfl (by kernel_rfl) ?_;refine qO (by kernel_rfl) ?_;refine qM ?_;exact ⟨rfl,⟨rfl,rfl⟩,rfl⟩
     ·refine qE [8] (by kernel_rfl) rfl ?_;refine qE [13] (by kernel_rfl) rfl ?_;refine qE [14] (by kernel_rfl) rfl ?_;refine qJ 15 rfl rfl rfl (by kernel_rfl) ?_;refine qO (by kernel_rfl) ?_;refine qM ?_;exact ⟨rfl,⟨rfl,rfl⟩,rfl⟩
    refine zai ?_ ?_
    ·refine qE [4,12] (by kernel_rfl) rfl ?_;refine zai ?_ ?_
     ·refine Or.inr (Or.inl (zei [] (zei [] (zei _ (zei _ (zei _ (zei _ (zei _ (zai (hcl) (zai rfl (zai True.intro (zai rfl ?_))))))))))));refine qE [12] (by kernel_rfl) rfl ?_;refine qE [13] (by kernel_rfl) rfl ?_;refine qE [14] (by kernel_rfl) rfl ?_;refine qJ 15 rfl rfl rfl (by kernel_rfl) ?_;refine qO (by kernel_rfl) ?_;refine qM ?_;exact ⟨rfl,⟨rfl,rfl⟩,rfl⟩
     ·refine qE [4] (by kernel_rfl) rfl ?_;refine Or.inr (Or.inl (zei [] (zei [] (zei _ (zei _ (zei _ (zei _ (zei _ (zai (hcl) (zai rfl (zai True.intro (zai rfl ?_))))))))))));refine qE [13] (by kernel_rfl) rfl ?_;refine qE [14] (by kernel_rfl) rfl ?_;refine qJ 15 rfl rfl rfl (by kernel_rfl) ?_;refine qO (by kernel_rfl) ?_;refine qM ?_;exact ⟨rfl,⟨rfl,rfl⟩,rfl⟩
    ·refine qE [4,8] (by kernel_rfl) rfl ?_;refine zai ?_ ?_
     ·refine Or.inr (Or.inl (zei [] (zei [] (zei _ (zei _ (zei _ (zei _ (zei _ (zai (hcl) (zai rfl (zai True.intro (zai rfl ?_))))))))))));refine qE [8] (by kernel_rfl) rfl ?_;refine qE [13] (by kernel_rfl) rfl ?_;refine qE [14] (by kernel_rfl) rfl ?_;refine qJ 15 rfl rfl rfl (by kernel_rfl) ?_;refine qO (by kernel_rfl) ?_;refine qM ?_;exact ⟨rfl,⟨rfl,rfl⟩,rfl⟩
     ·refine qE [4] (by kernel_rfl) rfl ?_;refine Or.inr (Or.inl (zei [] (zei [] (zei _ (zei _ (zei _ (zei _ (zei _ (zai (hcl) (zai rfl (zai True.intro (zai rfl ?_))))))))))));refine qE [13] (by kernel_rfl) rfl ?_;refine qE [14] (by kernel_rfl) rfl ?_;refine qJ 15 rfl rfl rfl (by kernel_rfl) ?_;refine qO (by kernel_rfl) ?_;refine qM ?_;exact ⟨rfl,⟨rfl,rfl⟩,rfl⟩
   refine zai ?_ ?_
   ·refine qE [3,12] (by kernel_rfl) rfl ?_;refine zai ?_ ?_
    ·refine qE [4,12] (by kernel_rfl) rfl ?_;refine zai ?_ ?_
     ·refine Or.inr (Or.inl (zei [] (zei [] (zei _ (zei _ (zei _ (zei _ (zei _ (zai (hcl) (zai rfl (zai True.intro (zai rfl ?_))))))))))));refine qE [12] (by kernel_rfl) rfl ?_;refine qE [13] (by kernel_rfl) rfl ?_;refine qE [14] (by kernel_rfl) rfl ?_;refine qJ 15 rfl rfl rfl (by kernel_rfl) ?_;refine qO (by kernel_rfl) ?_;refine qM ?_;exact ⟨rfl,⟨rfl,rfl⟩,rfl⟩
     ·refine qE [4] (by kernel_rfl) rfl ?_;refine Or.inr (Or.inl (zei [] (zei [] (zei _ (zei _ (zei _ (zei _ (zei _ (zai (hcl) (zai rfl (zai True.intro (zai rfl ?_))))))))))));refine qE [13] (by kernel_rfl) rfl ?_;refine qE [14] (by kernel_rfl) rfl ?_;refine qJ 15 rfl rfl rfl (by kernel_rfl) ?_;refine qO (by kernel_rfl) ?_;refine qM ?_;exact ⟨rfl,⟨rfl,rfl⟩,rfl⟩
    ·refine qE [3] (by kernel_rfl) rfl ?_;refine qE [4] (by kernel_rfl) rfl ?_;refine Or.inr (Or.inl (zei [] (zei [] (zei _ (zei _ (zei _ (zei _ (zei _ (zai (hcl) (zai rfl (zai True.intro (zai rfl ?_))))))))))));refine qE [13] (by kernel_rfl) rfl ?_;refine qE [14] (by kernel_rfl) rfl ?_;refine qJ 15 rfl rfl rfl (by kernel_rfl) ?_;refine qO (by kernel_rfl) ?_;refine qM ?_;exact ⟨rfl,⟨rfl,rfl⟩,rfl⟩
   ·refine qE [3,8] (by kernel_rfl) rfl ?_;refine zai ?_ ?_
    ·refine qE [4,8] (by kernel_rfl) rfl ?_;refine zai ?_ ?_
     ·refine Or.inr (Or.inl (zei [] (zei [] (zei _ (zei _ (zei _ (zei _ (zei _ (zai (hcl) (zai rfl (zai True.intro (zai rfl ?_))))))))))));refine qE [8] (by kernel_rfl) rfl ?_;refine qE [13] (by kernel_rfl) rfl ?_;refine qE [14] (by kernel_rfl) rfl ?_;refine qJ 15 rfl rfl rfl (by kernel_rfl) ?_;refine qO (by kernel_rfl) ?_;refine qM ?_;exact ⟨rfl,⟨rfl,rfl⟩,rfl⟩
     ·refine qE [4] (by kernel_rfl) rfl ?_;refine Or.inr (Or.inl (zei [] (zei [] (zei _ (zei _ (zei _ (zei _ (zei _ (zai (hcl) (zai rfl (zai True.intro (zai rfl ?_))))))))))));refine qE [13] (by kernel_rfl) rfl ?_;refine qE [14] (by kernel_rfl) rfl ?_;refine qJ 15 rfl rfl rfl (by kernel_rfl) ?_;refine qO (by kernel_rfl) ?_;refine qM ?_;exact ⟨rfl,⟨rfl,rfl⟩,rfl⟩
    ·refine qE [3] (by kernel_rfl) rfl ?_;refine qE [4] (by kernel_rfl) rfl ?_;refine Or.inr (Or.inl (zei [] (zei [] (zei _ (zei _ (zei _ (zei _ (zei _ (zai (hcl) (zai rfl (zai True.intro (zai rfl ?_))))))))))));refine qE [13] (by kernel_rfl) rfl ?_;refine qE [14] (by kernel_rfl) rfl ?_;refine qJ 15 rfl rfl rfl (by kernel_rfl) ?_;refine qO (by kernel_rfl) ?_;refine qM ?_;exact ⟨rfl,⟨rfl,rfl⟩,rfl⟩
theorem refFindAt_c (es : List Ent) (n id : Int) : qW Tryz.prog 71 [.agg (toL rRL (es,n)),ii .i64 id] (ii .i64 (atE es id)):=by
  refine qT (rs:=[4]) Tryz.func71 rfl rfl rfl teOk rfl ?_;refine qC ?_;refine qB ?_;refine qC ?_;refine qC ?_;refine qB ?_;refine qP ?_;refine qV (fun (i : Nat)=>i ≤ es.length ∧ (es.take i).any (hasId id) = false) (fun (i : Nat)=>[(1,ii .i64 id),(2,.one (.own 0 0)),(5,ii .i64 i)]) (fun (i : Nat)=>[(0,.box 49 (toL rRL (es,n)))]) 1 (fun (i : Nat)=>es.length - i) 0 (⟨Nat.zero_le _,rfl⟩) (qQ ⟨rfl,rfl,rfl⟩ rfl rfl) ?_;intro i hI0;obtain ⟨hi,hn⟩:=hI0;refine qC ?_;refine qC ?_;refine qB ?_;intro l2_3
  try simp only [zds] at l2_3
  refine zai (fun h=>trivial) ?_;refine zai (fun h=>⟨⟨h,trivial⟩,trivial⟩) ?_;refine zai (by exact fun h=>h) ?_;refine qK rfl (fun h14=>?_) (fun h14=>?_)
  ·try simp only [zbq] at h14
   try simp only [zds] at h14
   have hil : i < es.length:=(by omega);have hid : ¬ id < 1:=(by omega);refine qN ?_;refine qC ?_;refine qP ?_;refine qC ?_;refine qB ?_;refine zai (by first|omega|assumption|decide|(simp only [zds];omega)|(simp <;> omega)) ?_;refine qK rfl (fun h24=>?_) (fun h24=>?_)
   ·try simp only [zbq] at h24
    try simp only [zds] at h24
    refine qC ?_;refine qB ?_;refine qM ?_;exact qU (by unfold atE;rw [if_neg hid];exact (ixOf_at (((0 : Int),ByteArray.empty,([] : List Fld)),(0 : Int)) hil hn (decide_eq_true h24)).symm)
   ·try simp only [zbq] at h24
    try simp only [zds] at h24
    refine qN ?_;refine qB ?_;refine zai (by first|omega|assumption|decide|(simp only [zds];omega)|(simp <;> omega)) ?_;exact ⟨i + 1,⟨by omega,by rw [take_any es (hasId id) (((0 : Int),ByteArray.empty,([] : List Fld)),(0 : Int)) i hil,hn];exact decide_eq_false h24⟩,by first|omega|(simp <;> omega),qQ ⟨rfl,rfl,rfl⟩ rfl rfl⟩
  ·try simp only [zbq] at h14
   try simp only [zds] at h14
   refine qX ?_;refine qC ?_;refine qB ?_;refine qM ?_
   by_cases hid : id < 1
   exact qU (by unfold atE;rw [if_pos hid]);have e : i = es.length:=(by omega);subst e;rw [List.take_length] at hn;exact qU (by unfold atE;rw [if_neg hid];exact (ixOf_none hn).symm)
end Q
end Ab
end Go.Proofs.YtlbainbjlibfiaaGreatDoor
namespace Go.Proofs.YtlbainbjlibfiaaGreatDoor
open Go.RowKit
namespace Ab
set_option maxRecDepth 100000
namespace Q
theorem refChk_c (l : List Fld) (hl : xF l) : qW Tryz.prog 101 [.one (.sl rFld l)] (.tup [(false,[.lit (.int .i64 (chkR l).1)]),(false,[.lit (.int .i64 (chkR l).2)])]):=by
  have hln:=hl.1;refine qT (rs:=[2,3]) Tryz.func101 rfl rfl rfl teOk rfl ?_;refine qC ?_;refine qB ?_;refine qC ?_;refine qC ?_;refine qB ?_;intro l1_1
  try simp only [zds] at l1_1
  refine qK rfl (fun h8=>?_) (fun h8=>?_)
  ·try simp only [decide_eq_true_eq] at h8
   try simp only [zds] at h8
   refine qC ?_;refine qB ?_;refine qM ?_;have e : chkR l = (-9,2):=(by unfold chkR;rw [if_pos (List.eq_nil_of_length_eq_zero (by omega))]);rw [e];rfl
  ·try simp only [decide_eq_false_iff_not] at h8
   try simp only [zds] at h8
   refine qN ?_;refine qC ?_;refine qC ?_;refine qB ?_;intro l3_1
   try simp only [zds] at l3_1
   refine qK rfl (fun h11=>?_) (fun h11=>?_)
   ·try simp only [decide_eq_true_eq] at h11
    try simp only [zds] at h11
    refine qC ?_;refine qB ?_;refine qM ?_;have e : chkR l = (-9,11):=(by unfold chkR;rw [if_neg (fun e=>h8 (by rw [e];rfl)),if_pos (by omega)]);rw [e];rfl
   ·try simp only [decide_eq_false_iff_not,Int.not_lt] at h11
    try simp only [zds] at h11
    refine qN ?_;refine qC ?_;refine qC ?_;refine qB ?_;refine qP ?_;refine qV (fun (i : Nat)=>i ≤ l.length ∧ ∀ f ∈ l.take i,yR f = 0) (fun (i : Nat)=>[(0,.one (.sl rFld l)),(4,ii .i64 i)]) (fun (i : Nat)=>[]) 0 (fun (i : Nat)=>l.length - i) 0 (⟨Nat.zero_le _,by simp⟩) (qQ ⟨rfl,rfl⟩ trivial rfl) ?_;intro i hI0;obtain ⟨hi,hall⟩:=hI0;refine qC ?_;refine qC ?_;refine qB ?_;intro l6_2
    try simp only [zds] at l6_2
    refine qK rfl (fun h15=>?_) (fun h15=>?_)
    ·try simp only [decide_eq_true_eq] at h15
     try simp only [zds] at h15
     have hlt : i < l.length:=(by omega);have hm:=hl.2 _ (yK hlt (ByteArray.empty,ByteArray.empty));have hne : l ≠ []:=(fun e=>by rw [e] at hlt;simp at hlt);refine qN ?_;refine qC ?_;refine qP ?_;refine qC ?_;refine qB ?_;refine zai (by first|omega|assumption|decide|(simp only [zds];omega)|(simp <;> omega)) ?_;refine Or.inl ?_;refine zai (rfl) ?_;refine zei _ (zai (refCheck_c (l.getD i (ByteArray.empty,ByteArray.empty)) (by omega)) ?_);refine qC ?_;refine qB ?_;refine qK rfl (fun h24=>?_) (fun h24=>?_)
     ·try simp only [decide_eq_false_iff_not,Bool.not_eq_true'] at h24
      try simp only [zds] at h24
      refine qC ?_;refine qB ?_;refine qM ?_;have e : chkR l = ((i : Int),yR (l.getD i (ByteArray.empty,ByteArray.empty))):=(by unfold chkR;rw [if_neg hne,if_neg (by omega),badAt_hit l i 0 hlt hall h24,Int.zero_add]);rw [e];rfl
     ·try simp only [decide_eq_true_eq,Bool.not_eq_false'] at h24
      try simp only [zds] at h24
      refine qN ?_;refine qB ?_;refine zai (by first|omega|assumption|decide|(simp only [zds];omega)|(simp <;> omega)) ?_;exact ⟨i + 1,⟨by omega,by rw [← yO (ByteArray.empty,ByteArray.empty) hlt];intro f hf;rcases List.mem_append.1 hf with h|h;exact hall f h;rw [List.mem_singleton.1 h];exact h24⟩,by first|omega|(simp <;> omega),qQ ⟨rfl,(qU (by omega))⟩ trivial rfl⟩
    ·try simp only [decide_eq_false_iff_not,Int.not_lt] at h15
     try simp only [zds] at h15
     refine qX ?_;refine qC ?_;refine qB ?_;refine qM ?_;rw [List.take_of_length_le (by omega)] at hall;have e : chkR l = (-9,0):=(by unfold chkR;rw [if_neg (fun e=>h8 (by rw [e];rfl)),if_neg (by omega)];exact badAt_no l 0 hall);rw [e];rfl
end Q
end Ab
end Go.Proofs.YtlbainbjlibfiaaGreatDoor
namespace Go.Proofs.YtlbainbjlibfiaaGreatDoor
open Go.RowKit
namespace Ab
set_option maxRecDepth 100000
namespace Q
abbrev zRL : List C:=[.lit (.slice none 0 0),.lit (.int .i64 0)]
theorem refItem_c (f : List Fld) (hg : ∀ x ∈ f,yR x = 0) (hn : f.length ≤ 1000) : qW Tryz.prog 102 [.one (.sl rFld f)] (.agg (toL rItm (itmOf f))):=by
  refine yY (rs:=[.cell 2 63]) Tryz.func102 rfl rfl rfl teOk rfl ?_;refine qC ?_;refine qB ?_;refine qC ?_;refine qB ?_;refine Or.inl ?_;refine zai (rfl) ?_;refine zei _ (zai (refFold_c f hg hn) ?_);refine qM ?_;rfl
end Q
end Ab
end Go.Proofs.YtlbainbjlibfiaaGreatDoor
namespace Go.Proofs.YtlbainbjlibfiaaGreatDoor
open Go.RowKit
namespace Ab
set_option maxRecDepth 100000
namespace Q
theorem repl_len (es : List Ent) (k : Nat) (x : Itm) : (replE es k x).length = es.length:=List.length_set
theorem repl_at {es : List Ent} {k i : Nat} {x : Itm} (hk : k < es.length) (h : i < es.length) : (replE es k x).take (i + 1) = (replE es k x).take i ++ [if i = k then (x,(es.getD k (((0 : Int),ByteArray.empty,([] : List Fld)),(0 : Int))).2) else es.getD i (((0 : Int),ByteArray.empty,([] : List Fld)),(0 : Int))]:=by
  have h1 : i < (replE es k x).length:=by rw [repl_len];exact h
  rw [← yO (((0 : Int),ByteArray.empty,([] : List Fld)),(0 : Int)) h1]
  congr 2
  unfold replE;rw [List.getD_eq_getElem?_getD,List.getElem?_set]
  by_cases e : i = k
  · subst e;rw [if_pos rfl,if_pos hk,if_pos rfl];rfl
  · rw [if_neg (fun h=>e h.symm),if_neg e,← List.getD_eq_getElem?_getD]
theorem refRep_c (es : List Ent) (n id : Int) (f : List Fld) (hf : xF f) (hl : es.length ≤ 1000000) : qW Tryz.prog 63 [.agg (toL rRL (es,n)),ii .i64 id,.one (.sl rFld f)] (.tup [(true,toL rRL (refRep (es,n) id f).1),(false,[.lit (.int .i64 (refRep (es,n) id f).2.1)]),(false,[.lit (.int .i64 (refRep (es,n) id f).2.2)])]):=by
  have hat:=refFindAt_c es n id;have hck:=refChk_c f hf;unfold refRep
  by_cases h0 : atE es id < 0
  · simp only [if_pos h0];refine yY (rs:=[.cell 6 49,.tmp 7,.tmp 8]) Tryz.func63 rfl rfl rfl teOk rfl ?_;refine qC ?_;refine qB ?_;refine qC ?_;refine qB ?_;refine Or.inl ?_;refine zai (rfl) ?_;refine zei _ (zai (hat) ?_);refine qC ?_;refine qC ?_;refine qB ?_;refine qK rfl (fun h19=>?_) (fun h19=>?_)
    ·try simp only [decide_eq_true_eq] at h19
     try simp only [zds] at h19
     refine qC ?_;refine qB ?_;refine qM ?_;rfl
    ·try simp only [decide_eq_false_iff_not,Int.not_lt] at h19
     try simp only [zds] at h19
     omega
  · simp only [if_neg h0]
    by_cases hc : (chkR f).2 ≠ 0
    · simp only [if_pos hc];refine yY (rs:=[.cell 6 49,.tmp 7,.tmp 8]) Tryz.func63 rfl rfl rfl teOk rfl ?_;refine qC ?_;refine qB ?_;refine qC ?_;refine qB ?_;refine Or.inl ?_;refine zai (rfl) ?_;refine zei _ (zai (hat) ?_);refine qC ?_;refine qC ?_;refine qB ?_;refine qK rfl (fun h19=>?_) (fun h19=>?_)
      ·try simp only [decide_eq_true_eq] at h19
       try simp only [zds] at h19
       omega
      ·try simp only [decide_eq_false_iff_not,Int.not_lt] at h19
       try simp only [zds] at h19
       refine qN ?_;refine qC ?_;refine qB ?_;refine Or.inl ?_;refine zai (rfl) ?_;refine zei _ (zai (hck) ?_);refine qC ?_;refine qC ?_;refine qB ?_;refine qK rfl (fun h27=>?_) (fun h27=>?_)
       ·try simp only [decide_eq_false_iff_not,Bool.not_eq_true'] at h27
        try simp only [zds] at h27
        refine qC ?_;refine qB ?_;refine qM ?_;rfl
       ·try simp only [decide_eq_true_eq,Bool.not_eq_false'] at h27
        try simp only [zds] at h27
        exact absurd h27 hc
    · simp only [if_neg hc];have hc : (chkR f).2 = 0:=Classical.not_not.1 hc;have hg:=(chk_good hc).1;obtain ⟨k,hk,he,_,_⟩:=at_lt h0;rw [he,Int.toNat_natCast];rw [he] at hat;refine yY (rs:=[.cell 6 49,.tmp 7,.tmp 8]) Tryz.func63 rfl rfl rfl teOk rfl ?_;refine qC ?_;refine qB ?_;refine qC ?_;refine qB ?_;refine Or.inl ?_;refine zai (rfl) ?_;refine zei _ (zai (hat) ?_);refine qC ?_;refine qC ?_;refine qB ?_;refine qK rfl (fun h19=>?_) (fun h19=>?_)
      ·try simp only [decide_eq_true_eq] at h19
       try simp only [zds] at h19
       omega
      ·try simp only [decide_eq_false_iff_not,Int.not_lt] at h19
       try simp only [zds] at h19
       refine qN ?_;refine qC ?_;refine qB ?_;refine Or.inl ?_;refine zai (rfl) ?_;refine zei _ (zai (hck) ?_);refine qC ?_;refine qC ?_;refine qB ?_;refine qK rfl (fun h27=>?_) (fun h27=>?_)
       ·try simp only [decide_eq_false_iff_not,Bool.not_eq_true'] at h27
        try simp only [zds] at h27
        exact absurd hc h27
       ·try simp only [decide_eq_true_eq,Bool.not_eq_false'] at h27
        try simp only [zds] at h27
        refine qN ?_;refine qC ?_;refine qB ?_;refine qC ?_;refine qC ?_;refine yE 2 0 128 rEnt rfl rfl rfl ?_;refine qB ?_;refine qP ?_;refine qV (fun (i : Nat)=>i ≤ es.length) (fun (i : Nat)=>[(2,.one (.sl rFld f)),(3,.one (.own 0 0)),(6,.one (.own 1 0)),(9,ii .i64 k),(12,.one (.own 2 0)),(13,ii .i64 i)]) (fun (i : Nat)=>[(0,.box 49 (toL rRL (es,n))),(1,.box 49 [.lit (.slice none 0 0),.lit (.int .i64 0)]),(2,.box 49 [.vec 3,.lit (.int .i64 n)]),(3,.vec 128 rEnt ((replE es k (itmOf f)).take i))]) 4 (fun (i : Nat)=>es.length - i) 0 (Nat.zero_le _) (qQ ⟨rfl,rfl,rfl,rfl,rfl,rfl⟩ ⟨rfl,rfl,rfl,rfl⟩ rfl) ?_;intro i hI0;refine qC ?_;refine qC ?_;refine qB ?_;intro l9_3;refine qK rfl (fun h38=>?_) (fun h38=>?_)
        ·try simp only [decide_eq_true_eq] at h38
         try simp only [zds] at h38
         have hil : i < es.length:=(by omega);have hsn:=repl_at (x:=itmOf f) hk hil;refine qN ?_;refine qC ?_;refine qP ?_;refine qC ?_;refine qB ?_;refine zai (by first|omega|assumption|decide|(simp only [];omega)|(simp <;> omega)) ?_;refine qC ?_;refine qC ?_;refine qB ?_;refine qK rfl (fun h48=>?_) (fun h48=>?_)
         ·try simp only [decide_eq_true_eq] at h48
          try simp only [zds] at h48
          have e1 : i = k:=(by omega);rw [if_pos e1] at hsn;subst e1;refine qB ?_;refine Or.inl ?_;refine zai (rfl) ?_;refine zei _ (zai (refItem_c f hg.2.2 hf.1) ?_);refine qB ?_;refine zai (by exact qR (show ((replE es _ (itmOf f)).take _).length + 1 ≤ 1000000000 by rw [List.length_take,repl_len];omega) (by decide)) ?_;refine qB ?_;refine zai (by first|omega|assumption|decide|(simp only [zds];omega)|(simp <;> omega)) ?_;exact ⟨i + 1,by omega,by first|omega|(simp <;> omega),qQ ⟨rfl,rfl,rfl,rfl,rfl,(qU (by omega))⟩ ⟨rfl,rfl,rfl,(qS (by rw [hsn];exact rfl))⟩ rfl⟩
         ·try simp only [decide_eq_false_iff_not] at h48
          try simp only [zds] at h48
          rw [if_neg (fun e1=>h48 (by rw [e1]))] at hsn;refine qN ?_;refine qB ?_;refine zai (by exact qR (show ((replE es _ (itmOf f)).take _).length + 1 ≤ 1000000000 by rw [List.length_take,repl_len];omega) (by decide)) ?_;refine qB ?_;refine zai (by first|omega|assumption|decide|(simp only [zds];omega)|(simp <;> omega)) ?_;exact ⟨i + 1,by omega,by first|omega|(simp <;> omega),qQ ⟨rfl,rfl,rfl,rfl,rfl,(qU (by omega))⟩ ⟨rfl,rfl,rfl,(qS (by rw [hsn];exact rfl))⟩ rfl⟩
        ·try simp only [decide_eq_false_iff_not,Int.not_lt] at h38
         try simp only [zds] at h38
         refine qX ?_;refine qC ?_;refine qB ?_;refine yM [3] ?_;refine qM ?_;rw [List.take_of_length_le (by rw [repl_len];omega)];exact rfl
theorem del_at {es : List Ent} {k i : Nat} (h : i < es.length) : delE (es.take (i + 1)) k = delE (es.take i) k ++ (if i = k then [] else [es.getD i (((0 : Int),ByteArray.empty,([] : List Fld)),(0 : Int))]):=by
  unfold delE;rw [← yO (((0 : Int),ByteArray.empty,([] : List Fld)),(0 : Int)) h,List.take_append,List.drop_append,List.length_take,Nat.min_eq_left (by omega)];rcases Nat.lt_trichotomy i k with h1|h1|h1
  · rw [if_neg (by omega)];have e1 : (es.take i).drop (k + 1) = []:=List.drop_of_length_le (by rw [List.length_take];omega);have e2 : [es.getD i (((0 : Int),ByteArray.empty,([] : List Fld)),(0 : Int))].take (k - i) = [es.getD i (((0 : Int),ByteArray.empty,([] : List Fld)),(0 : Int))]:=List.take_of_length_le (by simp;omega);have e3 : [es.getD i (((0 : Int),ByteArray.empty,([] : List Fld)),(0 : Int))].drop (k + 1 - i) = []:=List.drop_of_length_le (by simp;omega);rw [e1,e2,e3];simp
  · subst h1;rw [if_pos rfl];have e3 : [es.getD i (((0 : Int),ByteArray.empty,([] : List Fld)),(0 : Int))].drop (i + 1 - i) = []:=List.drop_of_length_le (by simp);rw [e3,Nat.sub_self];simp
  · rw [if_neg (by omega)];have e2 : [es.getD i (((0 : Int),ByteArray.empty,([] : List Fld)),(0 : Int))].take (k - i) = []:=by rw [show k - i = 0 by omega];rfl
    have e3 : [es.getD i (((0 : Int),ByteArray.empty,([] : List Fld)),(0 : Int))].drop (k + 1 - i) = [es.getD i (((0 : Int),ByteArray.empty,([] : List Fld)),(0 : Int))]:=by rw [show k + 1 - i = 0 by omega];rfl
    rw [e2,e3];simp
theorem del_le (es : List Ent) (k i : Nat) : (delE (es.take i) k).length ≤ es.length:=by
  unfold delE;rw [List.length_append,List.length_take,List.length_drop,List.length_take];omega
theorem refDel_c (es : List Ent) (n id : Int) (hl : es.length ≤ 1000000) : qW Tryz.prog 64 [.agg (toL rRL (es,n)),ii .i64 id] (.tup [(true,toL rRL (refDel (es,n) id).1),(false,[.lit (.int .i64 (refDel (es,n) id).2)])]):=by
  have hat:=refFindAt_c es n id;unfold refDel
  by_cases h0 : atE es id < 0
  · simp only [if_pos h0];refine yY (rs:=[.cell 4 49,.tmp 5]) Tryz.func64 rfl rfl rfl teOk rfl ?_;refine qC ?_;refine qB ?_;refine qC ?_;refine qB ?_;refine Or.inl ?_;refine zai (rfl) ?_;refine zei _ (zai (hat) ?_);refine qC ?_;refine qC ?_;refine qB ?_;refine qK rfl (fun h13=>?_) (fun h13=>?_)
    ·try simp only [decide_eq_true_eq] at h13
     try simp only [zds] at h13
     refine qC ?_;refine qB ?_;refine qM ?_;rfl
    ·try simp only [decide_eq_false_iff_not,Int.not_lt] at h13
     try simp only [zds] at h13
     omega
  · simp only [if_neg h0];obtain ⟨k,hk,he,_,_⟩:=at_lt h0;rw [he,Int.toNat_natCast];rw [he] at hat;refine yY (rs:=[.cell 4 49,.tmp 5]) Tryz.func64 rfl rfl rfl teOk rfl ?_;refine qC ?_;refine qB ?_;refine qC ?_;refine qB ?_;refine Or.inl ?_;refine zai (rfl) ?_;refine zei _ (zai (hat) ?_);refine qC ?_;refine qC ?_;refine qB ?_;refine qK rfl (fun h13=>?_) (fun h13=>?_)
    ·try simp only [decide_eq_true_eq] at h13
     try simp only [zds] at h13
     omega
    ·try simp only [decide_eq_false_iff_not,Int.not_lt] at h13
     try simp only [zds] at h13
     refine qN ?_;refine qC ?_;refine qB ?_;refine qC ?_;refine qC ?_;refine yE 2 0 128 rEnt rfl rfl rfl ?_;refine qB ?_;refine qP ?_;refine qV (fun (i : Nat)=>i ≤ es.length) (fun (i : Nat)=>[(2,.one (.own 0 0)),(4,.one (.own 1 0)),(6,ii .i64 k),(7,.one (.own 2 0)),(8,ii .i64 i)]) (fun (i : Nat)=>[(0,.box 49 (toL rRL (es,n))),(1,.box 49 [.lit (.slice none 0 0),.lit (.int .i64 0)]),(2,.box 49 [.vec 3,.lit (.int .i64 n)]),(3,.vec 128 rEnt (delE (es.take i) k))]) 4 (fun (i : Nat)=>es.length - i) 0 (Nat.zero_le _) (qQ ⟨rfl,rfl,rfl,rfl,rfl⟩ ⟨rfl,rfl,rfl,(qS (by simp [delE]))⟩ rfl) ?_;intro i hI0;refine qC ?_;refine qC ?_;refine qB ?_;intro l6_3;refine qK rfl (fun h22=>?_) (fun h22=>?_)
     ·try simp only [decide_eq_true_eq] at h22
      try simp only [zds] at h22
      have hil : i < es.length:=(by omega);have hsn:=del_at (k:=k) hil;have hdl:=del_le es k i;refine qN ?_;refine qC ?_;refine qP ?_;refine qC ?_;refine qB ?_;refine qK rfl (fun h27=>?_) (fun h27=>?_)
      ·try simp only [decide_eq_false_iff_not,Bool.not_eq_true'] at h27
       try simp only [zds] at h27
       rw [if_neg (fun e1=>h27 (by rw [e1]))] at hsn;refine yH rfl ?_;refine qJ 0 rfl rfl rfl (by kernel_rfl) ?_;refine qJ 2 rfl rfl rfl (by kernel_rfl) ?_;refine qJ 4 rfl rfl rfl (by kernel_rfl) ?_;refine qE [1,3] (by kernel_rfl) rfl ?_;refine zai ?_ ?_
       ·refine qE [3] (by kernel_rfl) rfl ?_;refine qJ 5 rfl rfl rfl (by kernel_rfl) ?_;refine zai (by first|omega|assumption|decide|(simp only [];omega)|(simp <;> omega)) ?_;refine qE [6] (by kernel_rfl) rfl ?_;refine qE [7] (by kernel_rfl) rfl ?_;refine qE [8] (by kernel_rfl) rfl ?_;refine zai (by exact qR (show (delE (es.take i) k).length + 1 ≤ 1000000000 by omega) (by decide)) ?_;refine qJ 9 rfl rfl rfl (by kernel_rfl) ?_;refine qE [10] (by kernel_rfl) rfl ?_;refine qO (by kernel_rfl) ?_;refine qB ?_;refine zai (by first|omega|assumption|decide|(simp only [zds];omega)|(simp <;> omega)) ?_;exact ⟨i + 1,by omega,by first|omega|(simp <;> omega),qQ ⟨rfl,rfl,rfl,rfl,(qU (by omega))⟩ ⟨rfl,rfl,rfl,(qS (by rw [hsn];try exact rfl))⟩ rfl⟩
       ·refine qJ 5 rfl rfl rfl (by kernel_rfl) ?_;refine zai (by first|omega|assumption|decide|(simp only [];omega)|(simp <;> omega)) ?_;refine qE [1,6] (by kernel_rfl) rfl ?_;refine zai ?_ ?_
        ·refine qE [6] (by kernel_rfl) rfl ?_;refine qE [7] (by kernel_rfl) rfl ?_;refine qE [8] (by kernel_rfl) rfl ?_;refine zai (by exact qR (show (delE (es.take i) k).length + 1 ≤ 1000000000 by omega) (by decide)) ?_;refine qJ 9 rfl rfl rfl (by kernel_rfl) ?_;refine qE [10] (by kernel_rfl) rfl ?_;refine qO (by kernel_rfl) ?_;refine qB ?_;refine zai (by first|omega|assumption|decide|(simp only [zds];omega)|(simp <;> omega)) ?_;exact ⟨i + 1,by omega,by first|omega|(simp <;> omega),qQ ⟨rfl,rfl,rfl,rfl,(qU (by omega))⟩ ⟨rfl,rfl,rfl,(qS (by rw [hsn];try exact rfl))⟩ rfl⟩
        ·refine qE [1,7] (by kernel_rfl) rfl ?_;refine zai ?_ ?_
         ·refine qE [7] (by kernel_rfl) rfl ?_;refine qE [8] (by kernel_rfl) rfl ?_;refine zai (by exact qR (show (delE (es.take i) k).length + 1 ≤ 1000000000 by omega) (by decide)) ?_;refine qJ 9 rfl rfl rfl (by kernel_rfl) ?_;refine qE [10] (by kernel_rfl) rfl ?_;refine qO (by kernel_rfl) ?_;refine qB ?_;refine zai (by first|omega|assumption|decide|(simp only [zds];omega)|(simp <;> omega)) ?_;exact ⟨i + 1,by omega,by first|omega|(simp <;> omega),qQ ⟨rfl,rfl,rfl,rfl,(qU (by omega))⟩ ⟨rfl,rfl,rfl,(qS (by rw [hsn];try exact rfl))⟩ rfl⟩
         ·refine qE [1] (by kernel_rfl) rfl ?_;refine qE [8] (by kernel_rfl) rfl ?_;refine zai (by exact qR (show (delE (es.take i) k).length + 1 ≤ 1000000000 by omega) (by decide)) ?_;refine qJ 9 rfl rfl rfl (by kernel_rfl) ?_;refine qE [10] (by kernel_rfl) rfl ?_;refine qO (by kernel_rfl) ?_;refine qB ?_;refine zai (by first|omega|assumption|decide|(simp only [zds];omega)|(simp <;> omega)) ?_;exact ⟨i + 1,by omega,by first|omega|(simp <;> omega),qQ ⟨rfl,rfl,rfl,rfl,(qU (by omega))⟩ ⟨rfl,rfl,rfl,(qS (by rw [hsn];try exact rfl))⟩ rfl⟩
      ·try simp only [decide_eq_true_eq,Bool.not_eq_false'] at h27
       try simp only [zds] at h27
       rw [if_pos (by omega),List.append_nil] at hsn;refine qN ?_;refine qB ?_;refine zai (by first|omega|assumption|decide|(simp only [zds];omega)|(simp <;> omega)) ?_;exact ⟨i + 1,by omega,by first|omega|(simp <;> omega),qQ ⟨rfl,rfl,rfl,rfl,(qU (by omega))⟩ ⟨rfl,rfl,rfl,(qS (by rw [hsn];try exact rfl))⟩ rfl⟩
     ·try simp only [decide_eq_false_iff_not,Int.not_lt] at h22
      try simp only [zds] at h22
      refine qX ?_;refine qC ?_;refine qB ?_;refine yM [3] ?_;refine qM ?_;rw [List.take_of_length_le (show es.length ≤ i by omega)];exact rfl
def insT (es : List Ent) (j : Nat) (e : Ent) (i : Nat) : List Ent:=if i < j then es.take i else insE (es.take i) j e
theorem insT_snoc {es : List Ent} {j i : Nat} {e : Ent} (h : i < es.length) : insT es j e (i + 1) = insT es j e i ++ (if i + 1 = j then [es.getD i (((0 : Int),ByteArray.empty,([] : List Fld)),(0 : Int)),e] else [es.getD i (((0 : Int),ByteArray.empty,([] : List Fld)),(0 : Int))]):=by
  unfold insT insE;rcases Nat.lt_trichotomy (i + 1) j with h1|h1|h1
  · rw [if_pos h1,if_pos (by omega),if_neg (by omega),yO (((0 : Int),ByteArray.empty,([] : List Fld)),(0 : Int)) h]
  · subst h1;rw [if_neg (by omega),if_pos (by omega),if_pos rfl,← yO (((0 : Int),ByteArray.empty,([] : List Fld)),(0 : Int)) h];have e1 : (es.take i ++ [es.getD i (((0 : Int),ByteArray.empty,([] : List Fld)),(0 : Int))]).take (i + 1) = es.take i ++ [es.getD i (((0 : Int),ByteArray.empty,([] : List Fld)),(0 : Int))]:=List.take_of_length_le (by simp;omega);have e2 : (es.take i ++ [es.getD i (((0 : Int),ByteArray.empty,([] : List Fld)),(0 : Int))]).drop (i + 1) = []:=List.drop_of_length_le (by simp;omega);rw [e1,e2];simp
  · rw [if_neg (by omega),if_neg (by omega),if_neg (by omega),← yO (((0 : Int),ByteArray.empty,([] : List Fld)),(0 : Int)) h];have e1 : (es.take i ++ [es.getD i (((0 : Int),ByteArray.empty,([] : List Fld)),(0 : Int))]).take j = (es.take i).take j:=by rw [List.take_append_of_le_length (by rw [List.length_take];omega)]
    have e2 : (es.take i ++ [es.getD i (((0 : Int),ByteArray.empty,([] : List Fld)),(0 : Int))]).drop j = (es.take i).drop j ++ [es.getD i (((0 : Int),ByteArray.empty,([] : List Fld)),(0 : Int))]:=by rw [List.drop_append_of_le_length (by rw [List.length_take];omega)]
    rw [e1,e2];simp
theorem insT_le (es : List Ent) (j : Nat) (e : Ent) (i : Nat) : (insT es j e i).length ≤ es.length + 1:=by
  unfold insT insE;split
  · rw [List.length_take];omega
  · rw [List.length_append,List.length_cons,List.length_take,List.length_drop,List.length_take];omega
theorem insT_all {es : List Ent} {j i : Nat} {e : Ent} (hj : j ≤ es.length) (hi : es.length ≤ i) : insT es j e i = insE es j e:=by
  unfold insT;rw [if_neg (by omega),List.take_of_length_le hi]
theorem insT_0 (es : List Ent) (e : Ent) : insT es 0 e 0 = [e]:=by
  unfold insT insE;rw [if_neg (by omega)];simp
theorem insT_1 {es : List Ent} {j : Nat} {e : Ent} (hj : 0 < j) : insT es j e 0 = []:=by
  unfold insT;rw [if_pos hj];simp
theorem liveN_snoc {es : List Ent} {i : Nat} (h : i < es.length) : ((es.take (i + 1)).filter live).length = ((es.take i).filter live).length + if live (es.getD i (((0 : Int),ByteArray.empty,([] : List Fld)),(0 : Int))) then 1 else 0:=by
  rw [← yO (((0 : Int),ByteArray.empty,([] : List Fld)),(0 : Int)) h,List.filter_append,List.length_append]
  congr 1
  generalize es.getD i (((0 : Int),ByteArray.empty,([] : List Fld)),(0 : Int)) = x
  cases hx : live x
  · simp [hx]
  · simp [hx]
theorem liveN_le (es : List Ent) (i : Nat) : ((es.take i).filter live).length ≤ es.length:=by
  refine Nat.le_trans (List.length_filter_le _ _) ?_;rw [List.length_take];omega
theorem refLen_c (es : List Ent) (n : Int) (hl : es.length ≤ 1000000) : qW Tryz.prog 103 [.agg (toL rRL (es,n))] (ii .i64 ((es.filter live).length : Int)):=by
  refine qT (rs:=[2]) Tryz.func103 rfl rfl rfl teOk rfl ?_;refine qC ?_;refine qB ?_;refine qC ?_;refine qB ?_;refine qC ?_;refine qC ?_;refine qB ?_;refine qP ?_;refine qV (fun (i : Nat)=>i ≤ es.length) (fun (i : Nat)=>[(1,.one (.own 0 0)),(3,ii .i64 (((es.take i).filter live).length : Int)),(4,ii .i64 i)]) (fun (i : Nat)=>[(0,.box 49 (toL rRL (es,n)))]) 1 (fun (i : Nat)=>es.length - i) 0 (Nat.zero_le _) (qQ ⟨rfl,rfl,rfl⟩ rfl rfl) ?_;intro i hI0;refine qC ?_;refine qC ?_;refine qB ?_;intro l3_3;refine qK rfl (fun h9=>?_) (fun h9=>?_)
  ·try simp only [decide_eq_true_eq] at h9
   try simp only [zds] at h9
   have hil : i < es.length:=(by omega);have hsn:=liveN_snoc hil;have hsl:=liveN_le es i;refine qN ?_;refine qC ?_;refine qP ?_;refine qC ?_;refine qB ?_;refine zai (by first|omega|assumption|decide|(simp only [];omega)|(simp <;> omega)) ?_;refine qK rfl (fun h18=>?_) (fun h18=>?_)
   ·try simp only [decide_eq_true_eq] at h18
    try simp only [Int.toNat_natCast,qI,qH,qF,qG] at h18
    have hk : live (es.getD i (((0 : Int),ByteArray.empty,([] : List Fld)),(0 : Int))) = true:=decide_eq_true h18;rw [hk,if_pos rfl] at hsn;refine qB ?_;refine zai (by first|omega|assumption|decide|(simp only [zds];omega)|(simp <;> omega)) ?_;refine qB ?_;refine zai (by first|omega|assumption|decide|(simp only [zds];omega)|(simp <;> omega)) ?_;exact ⟨i + 1,by omega,by first|omega|(simp <;> omega),qQ ⟨rfl,(qU (by omega)),(qU (by omega))⟩ rfl rfl⟩
   ·try simp only [decide_eq_false_iff_not,Int.not_lt] at h18
    try simp only [Int.toNat_natCast,qI,qH,qF,qG] at h18
    have hk : live (es.getD i (((0 : Int),ByteArray.empty,([] : List Fld)),(0 : Int))) = false:=decide_eq_false (by omega);rw [hk,if_neg Bool.false_ne_true] at hsn;refine qN ?_;refine qB ?_;refine zai (by first|omega|assumption|decide|(simp only [zds];omega)|(simp <;> omega)) ?_;exact ⟨i + 1,by omega,by first|omega|(simp <;> omega),qQ ⟨rfl,(qU (by omega)),(qU (by omega))⟩ rfl rfl⟩
  ·try simp only [decide_eq_false_iff_not,Int.not_lt] at h9
   try simp only [zds] at h9
   refine qX ?_;refine qC ?_;refine qB ?_;refine qM ?_;rw [List.take_of_length_le (by omega)];exact rfl
theorem refIns_c (es : List Ent) (n id : Int) (f : List Fld) (hf : xF f) (hl : es.length ≤ 1000000) (hn : 0 ≤ n ∧ n ≤ 1000000000) : qW Tryz.prog 65 [.agg (toL rRL (es,n)),ii .i64 id,.one (.sl rFld f)] (.tup [(true,toL rRL (yZ (es,n) id f).1),(false,[.lit (.int .i64 (yZ (es,n) id f).2.1)]),(false,[.lit (.int .i64 (yZ (es,n) id f).2.2.1)]),(false,[.lit (.int .i64 (yZ (es,n) id f).2.2.2)])]):=by
  have hat:=refFindAt_c es n id;have hck:=refChk_c f hf;have hln:=refLen_c es n hl;unfold yZ
  by_cases h0 : atE es id < 0 ∧ id ≠ 0
  · simp only [if_pos h0];refine yY (rs:=[.cell 6 49,.tmp 7,.tmp 8,.tmp 9]) Tryz.func65 rfl rfl rfl teOk rfl ?_;refine qC ?_;refine qB ?_;refine qC ?_;refine qB ?_;refine Or.inl ?_;refine zai (rfl) ?_;refine zei _ (zai (hat) ?_);refine qC ?_;refine qC ?_;refine qB ?_;refine zai (fun h=>trivial) ?_;refine zai (fun h=>⟨⟨h,trivial⟩,trivial⟩) ?_;refine zai (by exact fun h=>h) ?_;refine qK rfl (fun h24=>?_) (fun h24=>?_)
    ·try simp only [decide_eq_true_eq,decide_eq_false_iff_not,Bool.and_eq_true,Bool.not_eq_true'] at h24
     try simp only [zds] at h24
     refine qC ?_;refine qB ?_;refine qM ?_;rfl
    ·try simp only [decide_eq_true_eq,decide_eq_false_iff_not,Bool.not_eq_false',Bool.and_eq_false_iff,Int.not_lt] at h24
     try simp only [zds] at h24
     omega
  · simp only [if_neg h0]
    by_cases hc : (chkR f).2 ≠ 0
    · simp only [if_pos hc];refine yY (rs:=[.cell 6 49,.tmp 7,.tmp 8,.tmp 9]) Tryz.func65 rfl rfl rfl teOk rfl ?_;refine qC ?_;refine qB ?_;refine qC ?_;refine qB ?_;refine Or.inl ?_;refine zai (rfl) ?_;refine zei _ (zai (hat) ?_);refine qC ?_;refine qC ?_;refine qB ?_;refine zai (fun h=>trivial) ?_;refine zai (fun h=>⟨⟨h,trivial⟩,trivial⟩) ?_;refine zai (by exact fun h=>h) ?_;refine qK rfl (fun h24=>?_) (fun h24=>?_)
      ·try simp only [decide_eq_true_eq,decide_eq_false_iff_not,Bool.and_eq_true,Bool.not_eq_true'] at h24
       try simp only [zds] at h24
       omega
      ·try simp only [decide_eq_true_eq,decide_eq_false_iff_not,Bool.not_eq_false',Bool.and_eq_false_iff,Int.not_lt] at h24
       try simp only [zds] at h24
       refine qN ?_;refine qC ?_;refine qB ?_;refine Or.inl ?_;refine zai (rfl) ?_;refine zei _ (zai (hck) ?_);refine qC ?_;refine qC ?_;refine qB ?_;refine qK rfl (fun h32=>?_) (fun h32=>?_)
       ·try simp only [decide_eq_false_iff_not,Bool.not_eq_true'] at h32
        try simp only [zds] at h32
        refine qC ?_;refine qB ?_;refine qM ?_;rfl
       ·try simp only [decide_eq_true_eq,Bool.not_eq_false'] at h32
        try simp only [zds] at h32
        exact absurd h32 hc
    · simp only [if_neg hc];have hc : (chkR f).2 = 0:=Classical.not_not.1 hc;have hg:=(chk_good hc).1
      by_cases h4 : 400 ≤ ((es.filter live).length : Int)
      · simp only [if_pos h4];refine yY (rs:=[.cell 6 49,.tmp 7,.tmp 8,.tmp 9]) Tryz.func65 rfl rfl rfl teOk rfl ?_;refine qC ?_;refine qB ?_;refine qC ?_;refine qB ?_;refine Or.inl ?_;refine zai (rfl) ?_;refine zei _ (zai (hat) ?_);refine qC ?_;refine qC ?_;refine qB ?_;refine zai (fun h=>trivial) ?_;refine zai (fun h=>⟨⟨h,trivial⟩,trivial⟩) ?_;refine zai (by exact fun h=>h) ?_;refine qK rfl (fun h24=>?_) (fun h24=>?_)
        ·try simp only [decide_eq_true_eq,decide_eq_false_iff_not,Bool.and_eq_true,Bool.not_eq_true'] at h24
         try simp only [zds] at h24
         omega
        ·try simp only [decide_eq_true_eq,decide_eq_false_iff_not,Bool.not_eq_false',Bool.and_eq_false_iff,Int.not_lt] at h24
         try simp only [zds] at h24
         refine qN ?_;refine qC ?_;refine qB ?_;refine Or.inl ?_;refine zai (rfl) ?_;refine zei _ (zai (hck) ?_);refine qC ?_;refine qC ?_;refine qB ?_;refine qK rfl (fun h32=>?_) (fun h32=>?_)
         ·try simp only [decide_eq_false_iff_not,Bool.not_eq_true'] at h32
          try simp only [zds] at h32
          exact absurd hc h32
         ·try simp only [decide_eq_true_eq,Bool.not_eq_false'] at h32
          try simp only [zds] at h32
          refine qN ?_;refine qC ?_;refine qC ?_;refine qB ?_;refine Or.inl ?_;refine zai (rfl) ?_;refine zei _ (zai (hln) ?_);refine qK rfl (fun h38=>?_) (fun h38=>?_)
          ·try simp only [decide_eq_true_eq] at h38
           try simp only [zds] at h38
           refine qC ?_;refine qB ?_;refine qM ?_;rfl
          ·try simp only [decide_eq_false_iff_not,Int.not_le] at h38
           try simp only [zds] at h38
           omega
      · simp only [if_neg h4];obtain ⟨j,hj,hje⟩ : ∃ j : Nat,j ≤ es.length ∧ atE es id + 1 = (j : Int):=by
          rcases at_cases es id with ⟨h1,_⟩|⟨i,h1,h2,_⟩
          · exact ⟨0,Nat.zero_le _,by omega⟩
          · exact ⟨i + 1,by omega,by omega⟩
        rw [hje,Int.toNat_natCast];refine yY (rs:=[.cell 6 49,.tmp 7,.tmp 8,.tmp 9]) Tryz.func65 rfl rfl rfl teOk rfl ?_;refine qC ?_;refine qB ?_;refine qC ?_;refine qB ?_;refine Or.inl ?_;refine zai (rfl) ?_;refine zei _ (zai (hat) ?_);refine qC ?_;refine qC ?_;refine qB ?_;refine zai (fun h=>trivial) ?_;refine zai (fun h=>⟨⟨h,trivial⟩,trivial⟩) ?_;refine zai (by exact fun h=>h) ?_;refine qK rfl (fun h24=>?_) (fun h24=>?_)
        ·try simp only [decide_eq_true_eq,decide_eq_false_iff_not,Bool.and_eq_true,Bool.not_eq_true'] at h24
         try simp only [zds] at h24
         omega
        ·try simp only [decide_eq_true_eq,decide_eq_false_iff_not,Bool.not_eq_false',Bool.and_eq_false_iff,Int.not_lt] at h24
         try simp only [zds] at h24
         refine qN ?_;refine qC ?_;refine qB ?_;refine Or.inl ?_;refine zai (rfl) ?_;refine zei _ (zai (hck) ?_);refine qC ?_;refine qC ?_;refine qB ?_;refine qK rfl (fun h32=>?_) (fun h32=>?_)
         ·try simp only [decide_eq_false_iff_not,Bool.not_eq_true'] at h32
          try simp only [zds] at h32
          exact absurd hc h32
         ·try simp only [decide_eq_true_eq,Bool.not_eq_false'] at h32
          try simp only [zds] at h32
          refine qN ?_;refine qC ?_;refine qC ?_;refine qB ?_;refine Or.inl ?_;refine zai (rfl) ?_;refine zei _ (zai (hln) ?_);refine qK rfl (fun h38=>?_) (fun h38=>?_)
          ·try simp only [decide_eq_true_eq] at h38
           try simp only [zds] at h38
           omega
          ·try simp only [decide_eq_false_iff_not,Int.not_le] at h38
           try simp only [zds] at h38
           refine qN ?_;refine qC ?_;refine qB ?_;refine zai (by first|omega|assumption|decide|(simp only [zds];omega)|(simp <;> omega)) ?_;refine acode_cut (fun (u : Unit)=>True) (fun (u : Unit)=>[(3,.one (.own 0 0)),(6,.one (.own 1 0)),(10,ii .i64 (atE es id)),(13,.one (.own 2 0)),(14,.one (.own 4 0))]) (fun (u : Unit)=>[(0,.box 49 (toL rRL (es,n))),(1,.box 49 [.lit (.slice none 0 0),.lit (.int .i64 0)]),(2,.box 49 [.vec 3,.lit (.int .i64 (n + 1))]),(3,.vec 128 rEnt []),(4,.box 128 (toL rEnt (itmOf f,n)))]) 5 ?_ ?_
           ·refine yE 2 0 128 rEnt rfl rfl rfl ?_;refine yH rfl ?_;refine qJ 0 rfl rfl rfl (by kernel_rfl) ?_;refine qJ 2 rfl rfl rfl (by kernel_rfl) ?_;refine qE [1,3,5] (by kernel_rfl) rfl ?_;refine zai ?_ ?_
            ·refine Or.inl ?_;refine zai (rfl) ?_;refine zei _ (zai (refItem_c f hg.2.2 hf.1) ?_);refine qE [3,5] (by kernel_rfl) rfl ?_;refine zai ?_ ?_
             ·refine qE [4,5] (by kernel_rfl) rfl ?_;refine zai ?_ ?_
              ·refine qE [5] (by kernel_rfl) rfl ?_;refine qE [6] (by kernel_rfl) rfl ?_;refine qO (by kernel_rfl) ?_;exact ⟨(),trivial,qQ ⟨rfl,rfl,rfl,rfl,rfl⟩ ⟨rfl,rfl,rfl,rfl,rfl⟩ rfl⟩
              ·refine qE [4] (by kernel_rfl) rfl ?_;refine qE [6] (by kernel_rfl) rfl ?_;refine qO (by kernel_rfl) ?_;exact ⟨(),trivial,qQ ⟨rfl,rfl,rfl,rfl,rfl⟩ ⟨rfl,rfl,rfl,rfl,rfl⟩ rfl⟩
             ·refine qE [3] (by kernel_rfl) rfl ?_;refine qE [4] (by kernel_rfl) rfl ?_;refine qE [6] (by kernel_rfl) rfl ?_;refine qO (by kernel_rfl) ?_;exact ⟨(),trivial,qQ ⟨rfl,rfl,rfl,rfl,rfl⟩ ⟨rfl,rfl,rfl,rfl,rfl⟩ rfl⟩
            refine zai ?_ ?_
            ·refine qE [1,5] (by kernel_rfl) rfl ?_;refine zai ?_ ?_
             ·refine Or.inl ?_;refine zai (rfl) ?_;refine zei _ (zai (refItem_c f hg.2.2 hf.1) ?_);refine qE [4,5] (by kernel_rfl) rfl ?_;refine zai ?_ ?_
              ·refine qE [5] (by kernel_rfl) rfl ?_;refine qE [6] (by kernel_rfl) rfl ?_;refine qO (by kernel_rfl) ?_;exact ⟨(),trivial,qQ ⟨rfl,rfl,rfl,rfl,rfl⟩ ⟨rfl,rfl,rfl,rfl,rfl⟩ rfl⟩
              ·refine qE [4] (by kernel_rfl) rfl ?_;refine qE [6] (by kernel_rfl) rfl ?_;refine qO (by kernel_rfl) ?_;exact ⟨(),trivial,qQ ⟨rfl,rfl,rfl,rfl,rfl⟩ ⟨rfl,rfl,rfl,rfl,rfl⟩ rfl⟩
             ·refine qE [1] (by kernel_rfl) rfl ?_;refine Or.inl ?_;refine zai (rfl) ?_;refine zei _ (zai (refItem_c f hg.2.2 hf.1) ?_);refine qE [4] (by kernel_rfl) rfl ?_;refine qE [6] (by kernel_rfl) rfl ?_;refine qO (by kernel_rfl) ?_;exact ⟨(),trivial,qQ ⟨rfl,rfl,rfl,rfl,rfl⟩ ⟨rfl,rfl,rfl,rfl,rfl⟩ rfl⟩
            ·refine qE [1,3] (by kernel_rfl) rfl ?_;refine zai ?_ ?_
             ·refine Or.inl ?_;refine zai (rfl) ?_;refine zei _ (zai (refItem_c f hg.2.2 hf.1) ?_);refine qE [3] (by kernel_rfl) rfl ?_;refine qE [4] (by kernel_rfl) rfl ?_;refine qE [6] (by kernel_rfl) rfl ?_;refine qO (by kernel_rfl) ?_;exact ⟨(),trivial,qQ ⟨rfl,rfl,rfl,rfl,rfl⟩ ⟨rfl,rfl,rfl,rfl,rfl⟩ rfl⟩
             ·refine qE [1] (by kernel_rfl) rfl ?_;refine Or.inl ?_;refine zai (rfl) ?_;refine zei _ (zai (refItem_c f hg.2.2 hf.1) ?_);refine qE [4] (by kernel_rfl) rfl ?_;refine qE [6] (by kernel_rfl) rfl ?_;refine qO (by kernel_rfl) ?_;exact ⟨(),trivial,qQ ⟨rfl,rfl,rfl,rfl,rfl⟩ ⟨rfl,rfl,rfl,rfl,rfl⟩ rfl⟩
           ·intro u hcut11;refine acode_cut (fun (u : Unit)=>True) (fun (u : Unit)=>[(3,.one (.own 0 0)),(6,.one (.own 1 0)),(10,ii .i64 (atE es id)),(13,.one (.own 2 0)),(14,.one (.own 4 0))]) (fun (u : Unit)=>[(0,.box 49 (toL rRL (es,n))),(1,.box 49 [.lit (.slice none 0 0),.lit (.int .i64 0)]),(2,.box 49 [.vec 3,.lit (.int .i64 (n + 1))]),(3,.vec 128 rEnt (insT es j (itmOf f,n) 0)),(4,.box 128 (toL rEnt (itmOf f,n)))]) 5 ?_ ?_
            ·refine qC ?_;refine qB ?_;refine qK rfl (fun h50=>?_) (fun h50=>?_)
             ·try simp only [decide_eq_true_eq] at h50
              try simp only [zds] at h50
              refine qB ?_;refine zai (by first|exact qR (by first|omega|(simp only [List.length_cons,List.length_nil];omega)|(simp;omega)) (by decide)|omega|assumption|decide|(simp only [zds];omega)|(simp <;> omega)) ?_;exact ⟨(),trivial,qQ ⟨rfl,rfl,rfl,rfl,rfl⟩ ⟨rfl,rfl,rfl,(qS (by rw [show j = 0 by omega,insT_0];exact rfl)),rfl⟩ rfl⟩
             ·try simp only [decide_eq_false_iff_not,Int.not_lt] at h50
              try simp only [zds] at h50
              refine qN ?_;exact ⟨(),trivial,qQ ⟨rfl,rfl,rfl,rfl,rfl⟩ ⟨rfl,rfl,rfl,(qS (by rw [insT_1 (by omega)])),rfl⟩ rfl⟩
            ·intro u hcut13;refine qC ?_;refine qC ?_;refine qB ?_;refine qP ?_;refine qV (fun (i : Nat)=>i ≤ es.length) (fun (i : Nat)=>[(3,.one (.own 0 0)),(6,.one (.own 1 0)),(10,ii .i64 (atE es id)),(13,.one (.own 2 0)),(14,.one (.own 4 0)),(15,ii .i64 i)]) (fun (i : Nat)=>[(0,.box 49 (toL rRL (es,n))),(1,.box 49 [.lit (.slice none 0 0),.lit (.int .i64 0)]),(2,.box 49 [.vec 3,.lit (.int .i64 (n + 1))]),(3,.vec 128 rEnt (insT es j (itmOf f,n) i)),(4,.box 128 (toL rEnt (itmOf f,n)))]) 5 (fun (i : Nat)=>es.length - i) 0 (Nat.zero_le _) (qQ ⟨rfl,rfl,rfl,rfl,rfl,rfl⟩ ⟨rfl,rfl,rfl,rfl,rfl⟩ rfl) ?_;intro i hI0;refine qC ?_;refine qC ?_;refine qB ?_;intro l14_3;refine qK rfl (fun h61=>?_) (fun h61=>?_)
             ·try simp only [decide_eq_true_eq] at h61
              try simp only [zds] at h61
              have hil : i < es.length:=(by omega);have hsn:=insT_snoc (j:=j) (e:=(itmOf f,n)) hil;have hsl:=insT_le es j (itmOf f,n) i;refine qN ?_;refine qC ?_;refine qP ?_;refine qC ?_;refine yH rfl ?_;refine qJ 0 rfl rfl rfl (by kernel_rfl) ?_;refine qJ 2 rfl rfl rfl (by kernel_rfl) ?_;refine qJ 4 rfl rfl rfl (by kernel_rfl) ?_;refine qE [1,3] (by kernel_rfl) rfl ?_;refine zai ?_ ?_
              ·refine qE [3] (by kernel_rfl) rfl ?_;refine qJ 5 rfl rfl rfl (by kernel_rfl) ?_;refine zai (by first|omega|assumption|decide|(simp only [];omega)|(simp <;> omega)) ?_;refine qE [6] (by kernel_rfl) rfl ?_;refine qE [7] (by kernel_rfl) rfl ?_;refine qE [8] (by kernel_rfl) rfl ?_;refine zai (by exact qR (show (insT es j (itmOf f,n) i).length + 1 ≤ 1000000000 by omega) (by decide)) ?_;refine qJ 9 rfl rfl rfl (by kernel_rfl) ?_;refine qE [10] (by kernel_rfl) rfl ?_;refine qO (by kernel_rfl) ?_;refine qC ?_;refine qB ?_;refine qK rfl (fun h76=>?_) (fun h76=>?_)
               ·try simp only [decide_eq_true_eq] at h76
                try simp only [zds] at h76
                rw [if_pos (by omega)] at hsn;refine qB ?_;refine zai (by exact qR (by rw [List.length_append];show (insT es j (itmOf f,n) i).length + 1 + 1 ≤ 1000000000;omega) (by decide)) ?_;refine qB ?_;refine zai (by first|omega|assumption|decide|(simp only [zds];omega)|(simp <;> omega)) ?_;exact ⟨i + 1,by omega,by first|omega|(simp <;> omega),qQ ⟨rfl,rfl,rfl,rfl,rfl,(qU (by omega))⟩ ⟨rfl,rfl,rfl,(qS (by rw [hsn];(try rw [List.append_assoc]);(try exact rfl))),rfl⟩ rfl⟩
               ·try simp only [decide_eq_false_iff_not] at h76
                try simp only [zds] at h76
                rw [if_neg (by omega)] at hsn;refine qN ?_;refine qB ?_;refine zai (by first|omega|assumption|decide|(simp only [zds];omega)|(simp <;> omega)) ?_;exact ⟨i + 1,by omega,by first|omega|(simp <;> omega),qQ ⟨rfl,rfl,rfl,rfl,rfl,(qU (by omega))⟩ ⟨rfl,rfl,rfl,(qS (by rw [hsn];(try rw [List.append_assoc]);(try exact rfl))),rfl⟩ rfl⟩
              ·refine qJ 5 rfl rfl rfl (by kernel_rfl) ?_;refine zai (by first|omega|assumption|decide|(simp only [];omega)|(simp <;> omega)) ?_;refine qE [1,6] (by kernel_rfl) rfl ?_;refine zai ?_ ?_
               ·refine qE [6] (by kernel_rfl) rfl ?_;refine qE [7] (by kernel_rfl) rfl ?_;refine qE [8] (by kernel_rfl) rfl ?_;refine zai (by exact qR (show (insT es j (itmOf f,n) i).length + 1 ≤ 1000000000 by omega) (by decide)) ?_;refine qJ 9 rfl rfl rfl (by kernel_rfl) ?_;refine qE [10] (by kernel_rfl) rfl ?_;refine qO (by kernel_rfl) ?_;refine qC ?_;refine qB ?_;refine qK rfl (fun h76=>?_) (fun h76=>?_)
                ·try simp only [decide_eq_true_eq] at h76
                 try simp only [zds] at h76
                 rw [if_pos (by omega)] at hsn;refine qB ?_;refine zai (by exact qR (by rw [List.length_append];show (insT es j (itmOf f,n) i).length + 1 + 1 ≤ 1000000000;omega) (by decide)) ?_;refine qB ?_;refine zai (by first|omega|assumption|decide|(simp only [zds];omega)|(simp <;> omega)) ?_;exact ⟨i + 1,by omega,by first|omega|(simp <;> omega),qQ ⟨rfl,rfl,rfl,rfl,rfl,(qU (by omega))⟩ ⟨rfl,rfl,rfl,(qS (by rw [hsn];(try rw [List.append_assoc]);(try exact rfl))),rfl⟩ rfl⟩
                ·try simp only [decide_eq_false_iff_not] at h76
                 try simp only [zds] at h76
                 rw [if_neg (by omega)] at hsn;refine qN ?_;refine qB ?_;refine zai (by first|omega|assumption|decide|(simp only [zds];omega)|(simp <;> omega)) ?_;exact ⟨i + 1,by omega,by first|omega|(simp <;> omega),qQ ⟨rfl,rfl,rfl,rfl,rfl,(qU (by omega))⟩ ⟨rfl,rfl,rfl,(qS (by rw [hsn];(try rw [List.append_assoc]);(try exact rfl))),rfl⟩ rfl⟩
               ·refine qE [1,7] (by kernel_rfl) rfl ?_;refine zai ?_ ?_
                ·refine qE [7] (by kernel_rfl) rfl ?_;refine qE [8] (by kernel_rfl) rfl ?_;refine zai (by exact qR (show (insT es j (itmOf f,n) i).length + 1 ≤ 1000000000 by omega) (by decide)) ?_;refine qJ 9 rfl rfl rfl (by kernel_rfl) ?_;refine qE [10] (by kernel_rfl) rfl ?_;refine qO (by kernel_rfl) ?_;refine qC ?_;refine qB ?_;refine qK rfl (fun h76=>?_) (fun h76=>?_)
                 ·try simp only [decide_eq_true_eq] at h76
                  try simp only [zds] at h76
                  rw [if_pos (by omega)] at hsn;refine qB ?_;refine zai (by exact qR (by rw [List.length_append];show (insT es j (itmOf f,n) i).length + 1 + 1 ≤ 1000000000;omega) (by decide)) ?_;refine qB ?_;refine zai (by first|omega|assumption|decide|(simp only [zds];omega)|(simp <;> omega)) ?_;exact ⟨i + 1,by omega,by first|omega|(simp <;> omega),qQ ⟨rfl,rfl,rfl,rfl,rfl,(qU (by omega))⟩ ⟨rfl,rfl,rfl,(qS (by rw [hsn];(try rw [List.append_assoc]);(try exact rfl))),rfl⟩ rfl⟩
                 ·try simp only [decide_eq_false_iff_not] at h76
                  try simp only [zds] at h76
                  rw [if_neg (by omega)] at hsn;refine qN ?_;refine qB ?_;refine zai (by first|omega|assumption|decide|(simp only [zds];omega)|(simp <;> omega)) ?_;exact ⟨i + 1,by omega,by first|omega|(simp <;> omega),qQ ⟨rfl,rfl,rfl,rfl,rfl,(qU (by omega))⟩ ⟨rfl,rfl,rfl,(qS (by rw [hsn];(try rw [List.append_assoc]);(try exact rfl))),rfl⟩ rfl⟩
                ·refine qE [1] (by kernel_rfl) rfl ?_;refine qE [8] (by kernel_rfl) rfl ?_;refine zai (by exact qR (show (insT es j (itmOf f,n) i).length + 1 ≤ 1000000000 by omega) (by decide)) ?_;refine qJ 9 rfl rfl rfl (by kernel_rfl) ?_;refine qE [10] (by kernel_rfl) rfl ?_;refine qO (by kernel_rfl) ?_;refine qC ?_;refine qB ?_;refine qK rfl (fun h76=>?_) (fun h76=>?_)
                 ·try simp only [decide_eq_true_eq] at h76
                  try simp only [zds] at h76
                  rw [if_pos (by omega)] at hsn;refine qB ?_;refine zai (by exact qR (by rw [List.length_append];show (insT es j (itmOf f,n) i).length + 1 + 1 ≤ 1000000000;omega) (by decide)) ?_;refine qB ?_;refine zai (by first|omega|assumption|decide|(simp only [zds];omega)|(simp <;> omega)) ?_;exact ⟨i + 1,by omega,by first|omega|(simp <;> omega),qQ ⟨rfl,rfl,rfl,rfl,rfl,(qU (by omega))⟩ ⟨rfl,rfl,rfl,(qS (by rw [hsn];(try rw [List.append_assoc]);(try exact rfl))),rfl⟩ rfl⟩
                 ·try simp only [decide_eq_false_iff_not] at h76
                  try simp only [zds] at h76
                  rw [if_neg (by omega)] at hsn;refine qN ?_;refine qB ?_;refine zai (by first|omega|assumption|decide|(simp only [zds];omega)|(simp <;> omega)) ?_;exact ⟨i + 1,by omega,by first|omega|(simp <;> omega),qQ ⟨rfl,rfl,rfl,rfl,rfl,(qU (by omega))⟩ ⟨rfl,rfl,rfl,(qS (by rw [hsn];(try rw [List.append_assoc]);(try exact rfl))),rfl⟩ rfl⟩
             ·try simp only [decide_eq_false_iff_not,Int.not_lt] at h61
              try simp only [zds] at h61
              refine qX ?_;refine qC ?_;refine yH rfl ?_;refine qJ 1 rfl rfl rfl (by kernel_rfl) ?_;refine qE [0,2] (by kernel_rfl) rfl ?_;refine zai ?_ ?_
              ·refine qE [2,3] (by kernel_rfl) rfl ?_;refine zai ?_ ?_
               ·refine qE [3] (by kernel_rfl) rfl ?_;refine qJ 4 rfl rfl rfl (by kernel_rfl) ?_;refine qJ 5 rfl rfl rfl (by kernel_rfl) ?_;refine qJ 6 rfl rfl rfl (by kernel_rfl) ?_;refine qO (by kernel_rfl) ?_;refine yM [3] ?_;refine qM ?_;rw [insT_all hj (by omega)];exact rfl
               ·refine qE [2] (by kernel_rfl) rfl ?_;refine qJ 4 rfl rfl rfl (by kernel_rfl) ?_;refine qJ 5 rfl rfl rfl (by kernel_rfl) ?_;refine qJ 6 rfl rfl rfl (by kernel_rfl) ?_;refine qO (by kernel_rfl) ?_;refine yM [3] ?_;refine qM ?_;rw [insT_all hj (by omega)];exact rfl
              ·refine qE [0] (by kernel_rfl) rfl ?_;refine qE [3] (by kernel_rfl) rfl ?_;refine qJ 4 rfl rfl rfl (by kernel_rfl) ?_;refine qJ 5 rfl rfl rfl (by kernel_rfl) ?_;refine qJ 6 rfl rfl rfl (by kernel_rfl) ?_;refine qO (by kernel_rfl) ?_;refine yM [3] ?_;refine qM ?_;rw [insT_all hj (by omega)];exact rfl
end Q
end Ab
end Go.Proofs.YtlbainbjlibfiaaGreatDoor
namespace Go.Proofs.YtlbainbjlibfiaaGreatDoor
open Go.RowKit
namespace Ab
set_option maxRecDepth 100000
namespace Q
def doB (num at_ id bad at2 want : Int) : Bool:=((true && decide (num = bad)) && decide (at_ = at2)) && decide (id = want)
theorem doDel_no (es : List Ent) (n m id : Int) (f : List Fld) (ms : List Ent) (mn : Int) (hf : xF f) (hml : ms.length ≤ 1000000) (h : atE es id < 0) : yD Tryz.prog 25 [.one (.own 0 0),.agg (toL rRL (ms,mn)),.agg (toL rEdt ((2 : Int),id,f))] (lsO (es,n,m)) 2 (.tup [(true,toL rRL (refDel (ms,mn) id).1),(false,[.lit (.bool (doB 7 (-9) 0 (refDel (ms,mn) id).2 (-9) 0))])]) (lsO (es,n,m)) 2:=by
  have hfl:=fieldsk_c (κ:=1) f f;rw [decide_eq_true rfl] at hfl;have hcp:=copiesF_o f (Nat.le_trans hf.1 (by decide));have hsp:=spoilF_o f (Nat.le_trans hf.1 (by decide));have hdl:=lDel_no es n m id h;have hrf:=refDel_c ms mn id hml;refine acallo_ofc (t:=6) (ty:=49) (u:=7) Tryz.func25 rfl rfl rfl teOk rfl rfl ?_;refine qC ?_;refine qB ?_;refine qC ?_;refine qB ?_;refine Or.inr (Or.inl (zei [] (zei [] (zei _ (zei _ (zei _ (zei _ (zei _ (zai (hcp) (zai rfl (zai True.intro (zai rfl ?_))))))))))));refine qC ?_;refine qB ?_;refine qC ?_;refine qB ?_;refine qC ?_;refine qC ?_;refine qB ?_;refine qP ?_;refine qC ?_;refine qB ?_;refine qK rfl (fun h39=>?_) (fun h39=>?_)
  ·try simp only [decide_eq_true_eq] at h39
   try simp only [zds] at h39
   simp at h39
  ·try simp only [decide_eq_false_iff_not] at h39
   try simp only [zds] at h39
   refine qC ?_;refine qB ?_;refine qK rfl (fun h56=>?_) (fun h56=>?_)
   ·try simp only [decide_eq_true_eq] at h56
    try simp only [zds] at h56
    refine qC ?_;refine qB ?_;refine Or.inr (Or.inl (zei [] (zei [0,1] (zei _ (zei _ (zei _ (zei _ (zei _ (zai (hdl) (zai rfl (zai (zai (zai rfl rfl) (zai (zai rfl rfl) True.intro)) (zai rfl ?_))))))))))));refine qB ?_;refine Or.inl ?_;refine zai (rfl) ?_;refine zei _ (zai (hrf) ?_);refine qC ?_;refine qB ?_;refine Or.inr (Or.inr (Or.inl ?_));refine zai rfl ?_;refine zei _ (zai (hfl) ?_);refine qC ?_;refine qB ?_;refine Or.inr (Or.inl (zei [] (zei [5] (zei _ (zei _ (zei _ (zei _ (zei _ (zai (hsp) (zai rfl (zai (zai (zai rfl rfl) True.intro) (zai rfl ?_))))))))))));refine qC ?_;refine yH rfl ?_;refine qJ 1 rfl rfl rfl (by kernel_rfl) ?_;refine qJ 2 rfl rfl rfl (by kernel_rfl) ?_;refine qL 3 rfl rfl rfl (by kernel_rfl) ?_;refine zai (fun h=>trivial) ?_;refine qL 5 rfl rfl rfl (by kernel_rfl) ?_;refine zai (fun h=>trivial) ?_;refine qE [0,4] (by kernel_rfl) rfl ?_;refine zai ?_ ?_
    ·refine qE [4] (by kernel_rfl) rfl ?_;refine Or.inl ?_;refine zai (rfl) ?_;refine zei _ (zai (fun h=>⟨⟨⟨h,trivial⟩,trivial⟩,num_errno 7 (by decide)⟩) ?_);refine qL 6 rfl rfl rfl (by kernel_rfl) ?_;refine zai (fun h=>⟨⟨h,trivial⟩,⟨h,trivial⟩,trivial⟩) ?_;refine qJ 7 rfl rfl rfl (by kernel_rfl) ?_;refine zai (by exact fun h=>h) ?_;refine qJ 8 rfl rfl rfl (by kernel_rfl) ?_;refine qL 9 rfl rfl rfl (by kernel_rfl) ?_;refine zai (fun h=>trivial) ?_;refine qL 11 rfl rfl rfl (by kernel_rfl) ?_;refine zai (fun h=>trivial) ?_;refine qE [10] (by kernel_rfl) rfl ?_;refine Or.inl ?_;refine zai (rfl) ?_;refine zei _ (zai (fun h=>⟨⟨⟨h,trivial⟩,trivial⟩,at_errno 7⟩) ?_);refine qL 12 rfl rfl rfl (by kernel_rfl) ?_;refine zai (fun h=>⟨⟨h,trivial⟩,⟨h,trivial⟩,trivial⟩) ?_;refine qJ 13 rfl rfl rfl (by kernel_rfl) ?_;refine zai (by exact fun h=>h) ?_;refine qJ 14 rfl rfl rfl (by kernel_rfl) ?_;refine qL 15 rfl rfl rfl (by kernel_rfl) ?_;refine zai (fun h=>trivial) ?_;refine qL 16 rfl rfl rfl (by kernel_rfl) ?_;refine zai (fun h=>trivial) ?_;refine qL 17 rfl rfl rfl (by kernel_rfl) ?_;refine zai (fun h=>⟨⟨h,trivial⟩,⟨h,trivial⟩,trivial⟩) ?_;refine qJ 18 rfl rfl rfl (by kernel_rfl) ?_;refine zai (by exact fun h=>h) ?_;refine qE [19] (by kernel_rfl) rfl ?_;refine qJ 20 rfl rfl rfl (by kernel_rfl) ?_;refine qO (by kernel_rfl) ?_;refine qM ?_;exact ⟨rfl,⟨rfl,rfl⟩,rfl⟩
    ·refine Or.inl ?_;refine zai (rfl) ?_;refine zei _ (zai (fun h=>⟨⟨⟨h,trivial⟩,trivial⟩,num_errno 7 (by decide)⟩) ?_);refine qL 6 rfl rfl rfl (by kernel_rfl) ?_;refine zai (fun h=>⟨⟨h,trivial⟩,⟨h,trivial⟩,trivial⟩) ?_;refine qJ 7 rfl rfl rfl (by kernel_rfl) ?_;refine zai (by exact fun h=>h) ?_;refine qJ 8 rfl rfl rfl (by kernel_rfl) ?_;refine qL 9 rfl rfl rfl (by kernel_rfl) ?_;refine zai (fun h=>trivial) ?_;refine qL 11 rfl rfl rfl (by kernel_rfl) ?_;refine zai (fun h=>trivial) ?_;refine qE [0,10] (by kernel_rfl) rfl ?_;refine zai ?_ ?_
     ·refine qE [10] (by kernel_rfl) rfl ?_;refine Or.inl ?_;refine zai (rfl) ?_;refine zei _ (zai (fun h=>⟨⟨⟨h,trivial⟩,trivial⟩,at_errno 7⟩) ?_);refine qL 12 rfl rfl rfl (by kernel_rfl) ?_;refine zai (fun h=>⟨⟨h,trivial⟩,⟨h,trivial⟩,trivial⟩) ?_;refine qJ 13 rfl rfl rfl (by kernel_rfl) ?_;refine zai (by exact fun h=>h) ?_;refine qJ 14 rfl rfl rfl (by kernel_rfl) ?_;refine qL 15 rfl rfl rfl (by kernel_rfl) ?_;refine zai (fun h=>trivial) ?_;refine qL 16 rfl rfl rfl (by kernel_rfl) ?_;refine zai (fun h=>trivial) ?_;refine qL 17 rfl rfl rfl (by kernel_rfl) ?_;refine zai (fun h=>⟨⟨h,trivial⟩,⟨h,trivial⟩,trivial⟩) ?_;refine qJ 18 rfl rfl rfl (by kernel_rfl) ?_;refine zai (by exact fun h=>h) ?_;refine qE [19] (by kernel_rfl) rfl ?_;refine qJ 20 rfl rfl rfl (by kernel_rfl) ?_;refine qO (by kernel_rfl) ?_;refine qM ?_;exact ⟨rfl,⟨rfl,rfl⟩,rfl⟩
     ·refine Or.inl ?_;refine zai (rfl) ?_;refine zei _ (zai (fun h=>⟨⟨⟨h,trivial⟩,trivial⟩,at_errno 7⟩) ?_);refine qL 12 rfl rfl rfl (by kernel_rfl) ?_;refine zai (fun h=>⟨⟨h,trivial⟩,⟨h,trivial⟩,trivial⟩) ?_;refine qJ 13 rfl rfl rfl (by kernel_rfl) ?_;refine zai (by exact fun h=>h) ?_;refine qJ 14 rfl rfl rfl (by kernel_rfl) ?_;refine qL 15 rfl rfl rfl (by kernel_rfl) ?_;refine zai (fun h=>trivial) ?_;refine qL 16 rfl rfl rfl (by kernel_rfl) ?_;refine zai (fun h=>trivial) ?_;refine qL 17 rfl rfl rfl (by kernel_rfl) ?_;refine zai (fun h=>⟨⟨h,trivial⟩,⟨h,trivial⟩,trivial⟩) ?_;refine qJ 18 rfl rfl rfl (by kernel_rfl) ?_;refine zai (by exact fun h=>h) ?_;refine qE [0] (by kernel_rfl) rfl ?_;refine qE [19] (by kernel_rfl) rfl ?_;refine qJ 20 rfl rfl rfl (by kernel_rfl) ?_;refine qO (by kernel_rfl) ?_;refine qM ?_;exact ⟨rfl,⟨rfl,rfl⟩,rfl⟩
   ·try simp only [decide_eq_false_iff_not] at h56
    try simp only [zds] at h56
    simp at h56
theorem doDel_ok (es : List Ent) (n m id : Int) (f : List Fld) (ms : List Ent) (mn : Int) (hf : xF f) (hml : ms.length ≤ 1000000) (i : Nat) (hi : i < es.length) (h : atE es id = i) (hm : 0 ≤ m ∧ m ≤ 1000000) (hl : es.length ≤ 1000000) : yD Tryz.prog 25 [.one (.own 0 0),.agg (toL rRL (ms,mn)),.agg (toL rEdt ((2 : Int),id,f))] (lsO (es,n,m)) 2 (.tup [(true,toL rRL (refDel (ms,mn) id).1),(false,[.lit (.bool (doB 0 (-9) 0 (refDel (ms,mn) id).2 (-9) 0))])]) (lsO (delE es i,n,m - 1)) 2:=by
  have hfl:=fieldsk_c (κ:=1) f f;rw [decide_eq_true rfl] at hfl;have hcp:=copiesF_o f (Nat.le_trans hf.1 (by decide));have hsp:=spoilF_o f (Nat.le_trans hf.1 (by decide));have hdl:=lDel_ok es n m id i hi h hm hl;have hrf:=refDel_c ms mn id hml;refine acallo_ofc (t:=6) (ty:=49) (u:=7) Tryz.func25 rfl rfl rfl teOk rfl rfl ?_;refine qC ?_;refine qB ?_;refine qC ?_;refine qB ?_;refine Or.inr (Or.inl (zei [] (zei [] (zei _ (zei _ (zei _ (zei _ (zei _ (zai (hcp) (zai rfl (zai True.intro (zai rfl ?_))))))))))));refine qC ?_;refine qB ?_;refine qC ?_;refine qB ?_;refine qC ?_;refine qC ?_;refine qB ?_;refine qP ?_;refine qC ?_;refine qB ?_;refine qK rfl (fun h39=>?_) (fun h39=>?_)
  ·try simp only [decide_eq_true_eq] at h39
   try simp only [zds] at h39
   simp at h39
  ·try simp only [decide_eq_false_iff_not] at h39
   try simp only [zds] at h39
   refine qC ?_;refine qB ?_;refine qK rfl (fun h56=>?_) (fun h56=>?_)
   ·try simp only [decide_eq_true_eq] at h56
    try simp only [zds] at h56
    refine qC ?_;refine qB ?_;refine Or.inr (Or.inl (zei [] (zei [0,1] (zei _ (zei _ (zei _ (zei _ (zei _ (zai (hdl) (zai rfl (zai (zai (zai rfl rfl) (zai (zai rfl rfl) True.intro)) (zai rfl ?_))))))))))));refine qB ?_;refine Or.inl ?_;refine zai (rfl) ?_;refine zei _ (zai (hrf) ?_);refine qC ?_;refine qB ?_;refine Or.inr (Or.inr (Or.inl ?_));refine zai rfl ?_;refine zei _ (zai (hfl) ?_);refine qC ?_;refine qB ?_;refine Or.inr (Or.inl (zei [] (zei [5] (zei _ (zei _ (zei _ (zei _ (zei _ (zai (hsp) (zai rfl (zai (zai (zai rfl rfl) True.intro) (zai rfl ?_))))))))))));refine qC ?_;refine yH rfl ?_;refine qJ 1 rfl rfl rfl (by kernel_rfl) ?_;refine qJ 2 rfl rfl rfl (by kernel_rfl) ?_;refine qL 3 rfl rfl rfl (by kernel_rfl) ?_;refine zai (fun h=>trivial) ?_;refine qL 5 rfl rfl rfl (by kernel_rfl) ?_;refine zai (fun h=>trivial) ?_;refine qE [0,4] (by kernel_rfl) rfl ?_;refine zai ?_ ?_
    ·refine qE [4] (by kernel_rfl) rfl ?_;refine Or.inl ?_;refine zai (rfl) ?_;refine zei _ (zai (fun h=>⟨⟨⟨h,trivial⟩,trivial⟩,num_nil⟩) ?_);refine qL 6 rfl rfl rfl (by kernel_rfl) ?_;refine zai (fun h=>⟨⟨h,trivial⟩,⟨h,trivial⟩,trivial⟩) ?_;refine qJ 7 rfl rfl rfl (by kernel_rfl) ?_;refine zai (by exact fun h=>h) ?_;refine qJ 8 rfl rfl rfl (by kernel_rfl) ?_;refine qL 9 rfl rfl rfl (by kernel_rfl) ?_;refine zai (fun h=>trivial) ?_;refine qL 11 rfl rfl rfl (by kernel_rfl) ?_;refine zai (fun h=>trivial) ?_;refine qE [10] (by kernel_rfl) rfl ?_;refine Or.inl ?_;refine zai (rfl) ?_;refine zei _ (zai (fun h=>⟨⟨⟨h,trivial⟩,trivial⟩,at_nil⟩) ?_);refine qL 12 rfl rfl rfl (by kernel_rfl) ?_;refine zai (fun h=>⟨⟨h,trivial⟩,⟨h,trivial⟩,trivial⟩) ?_;refine qJ 13 rfl rfl rfl (by kernel_rfl) ?_;refine zai (by exact fun h=>h) ?_;refine qJ 14 rfl rfl rfl (by kernel_rfl) ?_;refine qL 15 rfl rfl rfl (by kernel_rfl) ?_;refine zai (fun h=>trivial) ?_;refine qL 16 rfl rfl rfl (by kernel_rfl) ?_;refine zai (fun h=>trivial) ?_;refine qL 17 rfl rfl rfl (by kernel_rfl) ?_;refine zai (fun h=>⟨⟨h,trivial⟩,⟨h,trivial⟩,trivial⟩) ?_;refine qJ 18 rfl rfl rfl (by kernel_rfl) ?_;refine zai (by exact fun h=>h) ?_;refine qE [19] (by kernel_rfl) rfl ?_;refine qJ 20 rfl rfl rfl (by kernel_rfl) ?_;refine qO (by kernel_rfl) ?_;refine qM ?_;exact ⟨rfl,⟨rfl,rfl⟩,rfl⟩
    ·refine Or.inl ?_;refine zai (rfl) ?_;refine zei _ (zai (fun h=>⟨⟨⟨h,trivial⟩,trivial⟩,num_nil⟩) ?_);refine qL 6 rfl rfl rfl (by kernel_rfl) ?_;refine zai (fun h=>⟨⟨h,trivial⟩,⟨h,trivial⟩,trivial⟩) ?_;refine qJ 7 rfl rfl rfl (by kernel_rfl) ?_;refine zai (by exact fun h=>h) ?_;refine qJ 8 rfl rfl rfl (by kernel_rfl) ?_;refine qL 9 rfl rfl rfl (by kernel_rfl) ?_;refine zai (fun h=>trivial) ?_;refine qL 11 rfl rfl rfl (by kernel_rfl) ?_;refine zai (fun h=>trivial) ?_;refine qE [0,10] (by kernel_rfl) rfl ?_;refine zai ?_ ?_
     ·refine qE [10] (by kernel_rfl) rfl ?_;refine Or.inl ?_;refine zai (rfl) ?_;refine zei _ (zai (fun h=>⟨⟨⟨h,trivial⟩,trivial⟩,at_nil⟩) ?_);refine qL 12 rfl rfl rfl (by kernel_rfl) ?_;refine zai (fun h=>⟨⟨h,trivial⟩,⟨h,trivial⟩,trivial⟩) ?_;refine qJ 13 rfl rfl rfl (by kernel_rfl) ?_;refine zai (by exact fun h=>h) ?_;refine qJ 14 rfl rfl rfl (by kernel_rfl) ?_;refine qL 15 rfl rfl rfl (by kernel_rfl) ?_;refine zai (fun h=>trivial) ?_;refine qL 16 rfl rfl rfl (by kernel_rfl) ?_;refine zai (fun h=>trivial) ?_;refine qL 17 rfl rfl rfl (by kernel_rfl) ?_;refine zai (fun h=>⟨⟨h,trivial⟩,⟨h,trivial⟩,trivial⟩) ?_;refine qJ 18 rfl rfl rfl (by kernel_rfl) ?_;refine zai (by exact fun h=>h) ?_;refine qE [19] (by kernel_rfl) rfl ?_;refine qJ 20 rfl rfl rfl (by kernel_rfl) ?_;refine qO (by kernel_rfl) ?_;refine qM ?_;exact ⟨rfl,⟨rfl,rfl⟩,rfl⟩
     ·refine Or.inl ?_;refine zai (rfl) ?_;refine zei _ (zai (fun h=>⟨⟨⟨h,trivial⟩,trivial⟩,at_nil⟩) ?_);refine qL 12 rfl rfl rfl (by kernel_rfl) ?_;refine zai (fun h=>⟨⟨h,trivial⟩,⟨h,trivial⟩,trivial⟩) ?_;refine qJ 13 rfl rfl rfl (by kernel_rfl) ?_;refine zai (by exact fun h=>h) ?_;refine qJ 14 rfl rfl rfl (by kernel_rfl) ?_;refine qL 15 rfl rfl rfl (by kernel_rfl) ?_;refine zai (fun h=>trivial) ?_;refine qL 16 rfl rfl rfl (by kernel_rfl) ?_;refine zai (fun h=>trivial) ?_;refine qL 17 rfl rfl rfl (by kernel_rfl) ?_;refine zai (fun h=>⟨⟨h,trivial⟩,⟨h,trivial⟩,trivial⟩) ?_;refine qJ 18 rfl rfl rfl (by kernel_rfl) ?_;refine zai (by exact fun h=>h) ?_;refine qE [0] (by kernel_rfl) rfl ?_;refine qE [19] (by kernel_rfl) rfl ?_;refine qJ 20 rfl rfl rfl (by kernel_rfl) ?_;refine qO (by kernel_rfl) ?_;refine qM ?_;exact ⟨rfl,⟨rfl,rfl⟩,rfl⟩
   ·try simp only [decide_eq_false_iff_not] at h56
    try simp only [zds] at h56
    simp at h56
theorem doRep_no (es : List Ent) (n m id : Int) (f : List Fld) (ms : List Ent) (mn : Int) (hf : xF f) (hml : ms.length ≤ 1000000) (h : atE es id < 0) : yD Tryz.prog 25 [.one (.own 0 0),.agg (toL rRL (ms,mn)),.agg (toL rEdt ((1 : Int),id,f))] (lsO (es,n,m)) 2 (.tup [(true,toL rRL (refRep (ms,mn) id f).1),(false,[.lit (.bool (doB 7 (-9) 0 (refRep (ms,mn) id f).2.2 (refRep (ms,mn) id f).2.1 0))])]) (lsO (es,n,m)) 2:=by
  have hfl:=fieldsk_c (κ:=1) f f;rw [decide_eq_true rfl] at hfl;have hcp:=copiesF_o f (Nat.le_trans hf.1 (by decide));have hsp:=spoilF_o f (Nat.le_trans hf.1 (by decide));have hrp:=(lRep_no (κ:=1) es n m id f h).x;have hrf:=refRep_c ms mn id f hf hml;refine acallo_ofc (t:=6) (ty:=49) (u:=7) Tryz.func25 rfl rfl rfl teOk rfl rfl ?_;refine qC ?_;refine qB ?_;refine qC ?_;refine qB ?_;refine Or.inr (Or.inl (zei [] (zei [] (zei _ (zei _ (zei _ (zei _ (zei _ (zai (hcp) (zai rfl (zai True.intro (zai rfl ?_))))))))))));refine qC ?_;refine qB ?_;refine qC ?_;refine qB ?_;refine qC ?_;refine qC ?_;refine qB ?_;refine qP ?_;refine qC ?_;refine qB ?_;refine qK rfl (fun h39=>?_) (fun h39=>?_)
  ·try simp only [decide_eq_true_eq] at h39
   try simp only [zds] at h39
   refine qC ?_;refine qB ?_;refine Or.inr (Or.inr (Or.inr (zei [0,1] (zei [] (zei _ (zei _ (zei _ (zei _ (zei _ (zai (hrp) (zai rfl (zai (zai (zai rfl rfl) (zai (zai rfl rfl) True.intro)) (zai rfl ?_)))))))))))));refine qB ?_;refine Or.inl ?_;refine zai (rfl) ?_;refine zei _ (zai (hrf) ?_);refine qC ?_;refine qB ?_;refine Or.inr (Or.inr (Or.inl ?_));refine zai rfl ?_;refine zei _ (zai (hfl) ?_);refine qC ?_;refine qB ?_;refine Or.inr (Or.inl (zei [] (zei [5] (zei _ (zei _ (zei _ (zei _ (zei _ (zai (hsp) (zai rfl (zai (zai (zai rfl rfl) True.intro) (zai rfl ?_))))))))))));refine qC ?_;refine yH rfl ?_;refine qJ 1 rfl rfl rfl (by kernel_rfl) ?_;refine qJ 2 rfl rfl rfl (by kernel_rfl) ?_;refine qL 3 rfl rfl rfl (by kernel_rfl) ?_;refine zai (fun h=>trivial) ?_;refine qL 5 rfl rfl rfl (by kernel_rfl) ?_;refine zai (fun h=>trivial) ?_;refine qE [0,4] (by kernel_rfl) rfl ?_;refine zai ?_ ?_
   ·refine qE [4] (by kernel_rfl) rfl ?_;refine Or.inl ?_;refine zai (rfl) ?_;refine zei _ (zai (fun h=>⟨⟨⟨h,trivial⟩,trivial⟩,num_errno 7 (by decide)⟩) ?_);refine qL 6 rfl rfl rfl (by kernel_rfl) ?_;refine zai (fun h=>⟨⟨h,trivial⟩,⟨h,trivial⟩,trivial⟩) ?_;refine qJ 7 rfl rfl rfl (by kernel_rfl) ?_;refine zai (by exact fun h=>h) ?_;refine qJ 8 rfl rfl rfl (by kernel_rfl) ?_;refine qL 9 rfl rfl rfl (by kernel_rfl) ?_;refine zai (fun h=>trivial) ?_;refine qL 11 rfl rfl rfl (by kernel_rfl) ?_;refine zai (fun h=>trivial) ?_;refine qE [10] (by kernel_rfl) rfl ?_;refine Or.inl ?_;refine zai (rfl) ?_;refine zei _ (zai (fun h=>⟨⟨⟨h,trivial⟩,trivial⟩,at_errno 7⟩) ?_);refine qL 12 rfl rfl rfl (by kernel_rfl) ?_;refine zai (fun h=>⟨⟨h,trivial⟩,⟨h,trivial⟩,trivial⟩) ?_;refine qJ 13 rfl rfl rfl (by kernel_rfl) ?_;refine zai (by exact fun h=>h) ?_;refine qJ 14 rfl rfl rfl (by kernel_rfl) ?_;refine qL 15 rfl rfl rfl (by kernel_rfl) ?_;refine zai (fun h=>trivial) ?_;refine qL 16 rfl rfl rfl (by kernel_rfl) ?_;refine zai (fun h=>trivial) ?_;refine qL 17 rfl rfl rfl (by kernel_rfl) ?_;refine zai (fun h=>⟨⟨h,trivial⟩,⟨h,trivial⟩,trivial⟩) ?_;refine qJ 18 rfl rfl rfl (by kernel_rfl) ?_;refine zai (by exact fun h=>h) ?_;refine qE [19] (by kernel_rfl) rfl ?_;refine qJ 20 rfl rfl rfl (by kernel_rfl) ?_;refine qO (by kernel_rfl) ?_;refine qM ?_;exact ⟨rfl,⟨rfl,rfl⟩,rfl⟩
   ·refine Or.inl ?_;refine zai (rfl) ?_;refine zei _ (zai (fun h=>⟨⟨⟨h,trivial⟩,trivial⟩,num_errno 7 (by decide)⟩) ?_);refine qL 6 rfl rfl rfl (by kernel_rfl) ?_;refine zai (fun h=>⟨⟨h,trivial⟩,⟨h,trivial⟩,trivial⟩) ?_;refine qJ 7 rfl rfl rfl (by kernel_rfl) ?_;refine zai (by exact fun h=>h) ?_;refine qJ 8 rfl rfl rfl (by kernel_rfl) ?_;refine qL 9 rfl rfl rfl (by kernel_rfl) ?_;refine zai (fun h=>trivial) ?_;refine qL 11 rfl rfl rfl (by kernel_rfl) ?_;refine zai (fun h=>trivial) ?_;refine qE [0,10] (by kernel_rfl) rfl ?_;refine zai ?_ ?_
    ·refine qE [10] (by kernel_rfl) rfl ?_;refine Or.inl ?_;refine zai (rfl) ?_;refine zei _ (zai (fun h=>⟨⟨⟨h,trivial⟩,trivial⟩,at_errno 7⟩) ?_);refine qL 12 rfl rfl rfl (by kernel_rfl) ?_;refine zai (fun h=>⟨⟨h,trivial⟩,⟨h,trivial⟩,trivial⟩) ?_;refine qJ 13 rfl rfl rfl (by kernel_rfl) ?_;refine zai (by exact fun h=>h) ?_;refine qJ 14 rfl rfl rfl (by kernel_rfl) ?_;refine qL 15 rfl rfl rfl (by kernel_rfl) ?_;refine zai (fun h=>trivial) ?_;refine qL 16 rfl rfl rfl (by kernel_rfl) ?_;refine zai (fun h=>trivial) ?_;refine qL 17 rfl rfl rfl (by kernel_rfl) ?_;refine zai (fun h=>⟨⟨h,trivial⟩,⟨h,trivial⟩,trivial⟩) ?_;refine qJ 18 rfl rfl rfl (by kernel_rfl) ?_;refine zai (by exact fun h=>h) ?_;refine qE [19] (by kernel_rfl) rfl ?_;refine qJ 20 rfl rfl rfl (by kernel_rfl) ?_;refine qO (by kernel_rfl) ?_;refine qM ?_;exact ⟨rfl,⟨rfl,rfl⟩,rfl⟩
    ·refine Or.inl ?_;refine zai (rfl) ?_;refine zei _ (zai (fun h=>⟨⟨⟨h,trivial⟩,trivial⟩,at_errno 7⟩) ?_);refine qL 12 rfl rfl rfl (by kernel_rfl) ?_;refine zai (fun h=>⟨⟨h,trivial⟩,⟨h,trivial⟩,trivial⟩) ?_;refine qJ 13 rfl rfl rfl (by kernel_rfl) ?_;refine zai (by exact fun h=>h) ?_;refine qJ 14 rfl rfl rfl (by kernel_rfl) ?_;refine qL 15 rfl rfl rfl (by kernel_rfl) ?_;refine zai (fun h=>trivial) ?_;refine qL 16 rfl rfl rfl (by kernel_rfl) ?_;refine zai (fun h=>trivial) ?_;refine qL 17 rfl rfl rfl (by kernel_rfl) ?_;refine zai (fun h=>⟨⟨h,trivial⟩,⟨h,trivial⟩,trivial⟩) ?_;refine qJ 18 rfl rfl rfl (by kernel_rfl) ?_;refine zai (by exact fun h=>h) ?_;refine qE [0] (by kernel_rfl) rfl ?_;refine qE [19] (by kernel_rfl) rfl ?_;refine qJ 20 rfl rfl rfl (by kernel_rfl) ?_;refine qO (by kernel_rfl) ?_;refine qM ?_;exact ⟨rfl,⟨rfl,rfl⟩,rfl⟩
  ·try simp only [decide_eq_false_iff_not] at h39
   try simp only [zds] at h39
   simp at h39
theorem doRep_chk_n (es : List Ent) (n m id : Int) (f : List Fld) (ms : List Ent) (mn : Int) (hf : xF f) (hml : ms.length ≤ 1000000) (h : 0 ≤ atE es id) (hc : (chkR f).2 ≠ 0) (k9 : Int) (hck : chkA f = errN k9) (h9 : k9 ≠ 0) : yD Tryz.prog 25 [.one (.own 0 0),.agg (toL rRL (ms,mn)),.agg (toL rEdt ((1 : Int),id,f))] (lsO (es,n,m)) 2 (.tup [(true,toL rRL (refRep (ms,mn) id f).1),(false,[.lit (.bool (doB k9 (-9) 0 (refRep (ms,mn) id f).2.2 (refRep (ms,mn) id f).2.1 0))])]) (lsO (es,n,m)) 2:=by
  have hfl:=fieldsk_c (κ:=1) f f;rw [decide_eq_true rfl] at hfl;have hcp:=copiesF_o f (Nat.le_trans hf.1 (by decide));have hsp:=spoilF_o f (Nat.le_trans hf.1 (by decide));have hrp:=(lRep_bad (κ:=1) es n m id f h hf hc).x;rw [hck] at hrp;have hrf:=refRep_c ms mn id f hf hml;refine acallo_ofc (t:=6) (ty:=49) (u:=7) Tryz.func25 rfl rfl rfl teOk rfl rfl ?_;refine qC ?_;refine qB ?_;refine qC ?_;refine qB ?_;refine Or.inr (Or.inl (zei [] (zei [] (zei _ (zei _ (zei _ (zei _ (zei _ (zai (hcp) (zai rfl (zai True.intro (zai rfl ?_))))))))))));refine qC ?_;refine qB ?_;refine qC ?_;refine qB ?_;refine qC ?_;refine qC ?_;refine qB ?_;refine qP ?_;refine qC ?_;refine qB ?_;refine qK rfl (fun h39=>?_) (fun h39=>?_)
  ·try simp only [decide_eq_true_eq] at h39
   try simp only [zds] at h39
   refine qC ?_;refine qB ?_;refine Or.inr (Or.inr (Or.inr (zei [0,1] (zei [] (zei _ (zei _ (zei _ (zei _ (zei _ (zai (hrp) (zai rfl (zai (zai (zai rfl rfl) (zai (zai rfl rfl) True.intro)) (zai rfl ?_)))))))))))));refine qB ?_;refine Or.inl ?_;refine zai (rfl) ?_;refine zei _ (zai (hrf) ?_);refine qC ?_;refine qB ?_;refine Or.inr (Or.inr (Or.inl ?_));refine zai rfl ?_;refine zei _ (zai (hfl) ?_);refine qC ?_;refine qB ?_;refine Or.inr (Or.inl (zei [] (zei [5] (zei _ (zei _ (zei _ (zei _ (zei _ (zai (hsp) (zai rfl (zai (zai (zai rfl rfl) True.intro) (zai rfl ?_))))))))))));refine qC ?_;refine yH rfl ?_;refine qJ 1 rfl rfl rfl (by kernel_rfl) ?_;refine qJ 2 rfl rfl rfl (by kernel_rfl) ?_;refine qL 3 rfl rfl rfl (by kernel_rfl) ?_;refine zai (fun h=>trivial) ?_;refine qL 5 rfl rfl rfl (by kernel_rfl) ?_;refine zai (fun h=>trivial) ?_;refine qE [0,4] (by kernel_rfl) rfl ?_;refine zai ?_ ?_
   ·refine qE [4] (by kernel_rfl) rfl ?_;refine Or.inl ?_;refine zai (rfl) ?_;refine zei _ (zai (fun h=>⟨⟨⟨h,trivial⟩,trivial⟩,num_errno k9 h9⟩) ?_);refine qL 6 rfl rfl rfl (by kernel_rfl) ?_;refine zai (fun h=>⟨⟨h,trivial⟩,⟨h,trivial⟩,trivial⟩) ?_;refine qJ 7 rfl rfl rfl (by kernel_rfl) ?_;refine zai (by exact fun h=>h) ?_;refine qJ 8 rfl rfl rfl (by kernel_rfl) ?_;refine qL 9 rfl rfl rfl (by kernel_rfl) ?_;refine zai (fun h=>trivial) ?_;refine qL 11 rfl rfl rfl (by kernel_rfl) ?_;refine zai (fun h=>trivial) ?_;refine qE [10] (by kernel_rfl) rfl ?_;refine Or.inl ?_;refine zai (rfl) ?_;refine zei _ (zai (fun h=>⟨⟨⟨h,trivial⟩,trivial⟩,at_errno k9⟩) ?_);refine qL 12 rfl rfl rfl (by kernel_rfl) ?_;refine zai (fun h=>⟨⟨h,trivial⟩,⟨h,trivial⟩,trivial⟩) ?_;refine qJ 13 rfl rfl rfl (by kernel_rfl) ?_;refine zai (by exact fun h=>h) ?_;refine qJ 14 rfl rfl rfl (by kernel_rfl) ?_;refine qL 15 rfl rfl rfl (by kernel_rfl) ?_;refine zai (fun h=>trivial) ?_;refine qL 16 rfl rfl rfl (by kernel_rfl) ?_;refine zai (fun h=>trivial) ?_;refine qL 17 rfl rfl rfl (by kernel_rfl) ?_;refine zai (fun h=>⟨⟨h,trivial⟩,⟨h,trivial⟩,trivial⟩) ?_;refine qJ 18 rfl rfl rfl (by kernel_rfl) ?_;refine zai (by exact fun h=>h) ?_;refine qE [19] (by kernel_rfl) rfl ?_;refine qJ 20 rfl rfl rfl (by kernel_rfl) ?_;refine qO (by kernel_rfl) ?_;refine qM ?_;exact ⟨rfl,⟨rfl,rfl⟩,rfl⟩
   ·refine Or.inl ?_;refine zai (rfl) ?_;refine zei _ (zai (fun h=>⟨⟨⟨h,trivial⟩,trivial⟩,num_errno k9 h9⟩) ?_);refine qL 6 rfl rfl rfl (by kernel_rfl) ?_;refine zai (fun h=>⟨⟨h,trivial⟩,⟨h,trivial⟩,trivial⟩) ?_;refine qJ 7 rfl rfl rfl (by kernel_rfl) ?_;refine zai (by exact fun h=>h) ?_;refine qJ 8 rfl rfl rfl (by kernel_rfl) ?_;refine qL 9 rfl rfl rfl (by kernel_rfl) ?_;refine zai (fun h=>trivial) ?_;refine qL 11 rfl rfl rfl (by kernel_rfl) ?_;refine zai (fun h=>trivial) ?_;refine qE [0,10] (by kernel_rfl) rfl ?_;refine zai ?_ ?_
    ·refine qE [10] (by kernel_rfl) rfl ?_;refine Or.inl ?_;refine zai (rfl) ?_;refine zei _ (zai (fun h=>⟨⟨⟨h,trivial⟩,trivial⟩,at_errno k9⟩) ?_);refine qL 12 rfl rfl rfl (by kernel_rfl) ?_;refine zai (fun h=>⟨⟨h,trivial⟩,⟨h,trivial⟩,trivial⟩) ?_;refine qJ 13 rfl rfl rfl (by kernel_rfl) ?_;refine zai (by exact fun h=>h) ?_;refine qJ 14 rfl rfl rfl (by kernel_rfl) ?_;refine qL 15 rfl rfl rfl (by kernel_rfl) ?_;refine zai (fun h=>trivial) ?_;refine qL 16 rfl rfl rfl (by kernel_rfl) ?_;refine zai (fun h=>trivial) ?_;refine qL 17 rfl rfl rfl (by kernel_rfl) ?_;refine zai (fun h=>⟨⟨h,trivial⟩,⟨h,trivial⟩,trivial⟩) ?_;refine qJ 18 rfl rfl rfl (by kernel_rfl) ?_;refine zai (by exact fun h=>h) ?_;refine qE [19] (by kernel_rfl) rfl ?_;refine qJ 20 rfl rfl rfl (by kernel_rfl) ?_;refine qO (by kernel_rfl) ?_;refine qM ?_;exact ⟨rfl,⟨rfl,rfl⟩,rfl⟩
    ·refine Or.inl ?_;refine zai (rfl) ?_;refine zei _ (zai (fun h=>⟨⟨⟨h,trivial⟩,trivial⟩,at_errno k9⟩) ?_);refine qL 12 rfl rfl rfl (by kernel_rfl) ?_;refine zai (fun h=>⟨⟨h,trivial⟩,⟨h,trivial⟩,trivial⟩) ?_;refine qJ 13 rfl rfl rfl (by kernel_rfl) ?_;refine zai (by exact fun h=>h) ?_;refine qJ 14 rfl rfl rfl (by kernel_rfl) ?_;refine qL 15 rfl rfl rfl (by kernel_rfl) ?_;refine zai (fun h=>trivial) ?_;refine qL 16 rfl rfl rfl (by kernel_rfl) ?_;refine zai (fun h=>trivial) ?_;refine qL 17 rfl rfl rfl (by kernel_rfl) ?_;refine zai (fun h=>⟨⟨h,trivial⟩,⟨h,trivial⟩,trivial⟩) ?_;refine qJ 18 rfl rfl rfl (by kernel_rfl) ?_;refine zai (by exact fun h=>h) ?_;refine qE [0] (by kernel_rfl) rfl ?_;refine qE [19] (by kernel_rfl) rfl ?_;refine qJ 20 rfl rfl rfl (by kernel_rfl) ?_;refine qO (by kernel_rfl) ?_;refine qM ?_;exact ⟨rfl,⟨rfl,rfl⟩,rfl⟩
  ·try simp only [decide_eq_false_iff_not] at h39
   try simp only [zds] at h39
   simp at h39
theorem doRep_chk_f (es : List Ent) (n m id : Int) (f : List Fld) (ms : List Ent) (mn : Int) (hf : xF f) (hml : ms.length ≤ 1000000) (h : 0 ≤ atE es id) (hc : (chkR f).2 ≠ 0) (a9 k9 : Int) (hck : chkA f = errF a9 k9) (h9 : k9 ≠ 0) : yD Tryz.prog 25 [.one (.own 0 0),.agg (toL rRL (ms,mn)),.agg (toL rEdt ((1 : Int),id,f))] (lsO (es,n,m)) 2 (.tup [(true,toL rRL (refRep (ms,mn) id f).1),(false,[.lit (.bool (doB k9 a9 0 (refRep (ms,mn) id f).2.2 (refRep (ms,mn) id f).2.1 0))])]) (lsO (es,n,m)) 2:=by
  have hfl:=fieldsk_c (κ:=1) f f;rw [decide_eq_true rfl] at hfl;have hcp:=copiesF_o f (Nat.le_trans hf.1 (by decide));have hsp:=spoilF_o f (Nat.le_trans hf.1 (by decide));have hrp:=(lRep_bad (κ:=1) es n m id f h hf hc).x;rw [hck] at hrp;have hrf:=refRep_c ms mn id f hf hml;refine acallo_ofc (t:=6) (ty:=49) (u:=7) Tryz.func25 rfl rfl rfl teOk rfl rfl ?_;refine qC ?_;refine qB ?_;refine qC ?_;refine qB ?_;refine Or.inr (Or.inl (zei [] (zei [] (zei _ (zei _ (zei _ (zei _ (zei _ (zai (hcp) (zai rfl (zai True.intro (zai rfl ?_))))))))))));refine qC ?_;refine qB ?_;refine qC ?_;refine qB ?_;refine qC ?_;refine qC ?_;refine qB ?_;refine qP ?_;refine qC ?_;refine qB ?_;refine qK rfl (fun h39=>?_) (fun h39=>?_)
  ·try simp only [decide_eq_true_eq] at h39
   try simp only [zds] at h39
   refine qC ?_;refine qB ?_;refine Or.inr (Or.inr (Or.inr (zei [0,1] (zei [] (zei _ (zei _ (zei _ (zei _ (zei _ (zai (hrp) (zai rfl (zai (zai (zai rfl rfl) (zai (zai rfl rfl) True.intro)) (zai rfl ?_)))))))))))));refine qB ?_;refine Or.inl ?_;refine zai (rfl) ?_;refine zei _ (zai (hrf) ?_);refine qC ?_;refine qB ?_;refine Or.inr (Or.inr (Or.inl ?_));refine zai rfl ?_;refine zei _ (zai (hfl) ?_);refine qC ?_;refine qB ?_;refine Or.inr (Or.inl (zei [] (zei [5] (zei _ (zei _ (zei _ (zei _ (zei _ (zai (hsp) (zai rfl (zai (zai (zai rfl rfl) True.intro) (zai rfl ?_))))))))))));refine qC ?_;refine yH rfl ?_;refine qJ 1 rfl rfl rfl (by kernel_rfl) ?_;refine qJ 2 rfl rfl rfl (by kernel_rfl) ?_;refine qL 3 rfl rfl rfl (by kernel_rfl) ?_;refine zai (fun h=>trivial) ?_;refine qL 5 rfl rfl rfl (by kernel_rfl) ?_;refine zai (fun h=>trivial) ?_;refine qE [0,4] (by kernel_rfl) rfl ?_;refine zai ?_ ?_
   ·refine qE [4] (by kernel_rfl) rfl ?_;refine Or.inl ?_;refine zai (rfl) ?_;refine zei _ (zai (fun h=>⟨⟨⟨h,trivial⟩,trivial⟩,num_fault a9 k9 h9⟩) ?_);refine qL 6 rfl rfl rfl (by kernel_rfl) ?_;refine zai (fun h=>⟨⟨h,trivial⟩,⟨h,trivial⟩,trivial⟩) ?_;refine qJ 7 rfl rfl rfl (by kernel_rfl) ?_;refine zai (by exact fun h=>h) ?_;refine qJ 8 rfl rfl rfl (by kernel_rfl) ?_;refine qL 9 rfl rfl rfl (by kernel_rfl) ?_;refine zai (fun h=>trivial) ?_;refine qL 11 rfl rfl rfl (by kernel_rfl) ?_;refine zai (fun h=>trivial) ?_;refine qE [10] (by kernel_rfl) rfl ?_;refine Or.inl ?_;refine zai (rfl) ?_;refine zei _ (zai (fun h=>⟨⟨⟨h,trivial⟩,trivial⟩,at_fault a9 k9⟩) ?_);refine qL 12 rfl rfl rfl (by kernel_rfl) ?_;refine zai (fun h=>⟨⟨h,trivial⟩,⟨h,trivial⟩,trivial⟩) ?_;refine qJ 13 rfl rfl rfl (by kernel_rfl) ?_;refine zai (by exact fun h=>h) ?_;refine qJ 14 rfl rfl rfl (by kernel_rfl) ?_;refine qL 15 rfl rfl rfl (by kernel_rfl) ?_;refine zai (fun h=>trivial) ?_;refine qL 16 rfl rfl rfl (by kernel_rfl) ?_;refine zai (fun h=>trivial) ?_;refine qL 17 rfl rfl rfl (by kernel_rfl) ?_;refine zai (fun h=>⟨⟨h,trivial⟩,⟨h,trivial⟩,trivial⟩) ?_;refine qJ 18 rfl rfl rfl (by kernel_rfl) ?_;refine zai (by exact fun h=>h) ?_;refine qE [19] (by kernel_rfl) rfl ?_;refine qJ 20 rfl rfl rfl (by kernel_rfl) ?_;refine qO (by kernel_rfl) ?_;refine qM ?_;exact ⟨rfl,⟨rfl,rfl⟩,rfl⟩
   ·refine Or.inl ?_;refine zai (rfl) ?_;refine zei _ (zai (fun h=>⟨⟨⟨h,trivial⟩,trivial⟩,num_fault a9 k9 h9⟩) ?_);refine qL 6 rfl rfl rfl (by kernel_rfl) ?_;refine zai (fun h=>⟨⟨h,trivial⟩,⟨h,trivial⟩,trivial⟩) ?_;refine qJ 7 rfl rfl rfl (by kernel_rfl) ?_;refine zai (by exact fun h=>h) ?_;refine qJ 8 rfl rfl rfl (by kernel_rfl) ?_;refine qL 9 rfl rfl rfl (by kernel_rfl) ?_;refine zai (fun h=>trivial) ?_;refine qL 11 rfl rfl rfl (by kernel_rfl) ?_;refine zai (fun h=>trivial) ?_;refine qE [0,10] (by kernel_rfl) rfl ?_;refine zai ?_ ?_
    ·refine qE [10] (by kernel_rfl) rfl ?_;refine Or.inl ?_;refine zai (rfl) ?_;refine zei _ (zai (fun h=>⟨⟨⟨h,trivial⟩,trivial⟩,at_fault a9 k9⟩) ?_);refine qL 12 rfl rfl rfl (by kernel_rfl) ?_;refine zai (fun h=>⟨⟨h,trivial⟩,⟨h,trivial⟩,trivial⟩) ?_;refine qJ 13 rfl rfl rfl (by kernel_rfl) ?_;refine zai (by exact fun h=>h) ?_;refine qJ 14 rfl rfl rfl (by kernel_rfl) ?_;refine qL 15 rfl rfl rfl (by kernel_rfl) ?_;refine zai (fun h=>trivial) ?_;refine qL 16 rfl rfl rfl (by kernel_rfl) ?_;refine zai (fun h=>trivial) ?_;refine qL 17 rfl rfl rfl (by kernel_rfl) ?_;refine zai (fun h=>⟨⟨h,trivial⟩,⟨h,trivial⟩,trivial⟩) ?_;refine qJ 18 rfl rfl rfl (by kernel_rfl) ?_;refine zai (by exact fun h=>h) ?_;refine qE [19] (by kernel_rfl) rfl ?_;refine qJ 20 rfl rfl rfl (by kernel_rfl) ?_;refine qO (by kernel_rfl) ?_;refine qM ?_;exact ⟨rfl,⟨rfl,rfl⟩,rfl⟩
    ·refine Or.inl ?_;refine zai (rfl) ?_;refine zei _ (zai (fun h=>⟨⟨⟨h,trivial⟩,trivial⟩,at_fault a9 k9⟩) ?_);refine qL 12 rfl rfl rfl (by kernel_rfl) ?_;refine zai (fun h=>⟨⟨h,trivial⟩,⟨h,trivial⟩,trivial⟩) ?_;refine qJ 13 rfl rfl rfl (by kernel_rfl) ?_;refine zai (by exact fun h=>h) ?_;refine qJ 14 rfl rfl rfl (by kernel_rfl) ?_;refine qL 15 rfl rfl rfl (by kernel_rfl) ?_;refine zai (fun h=>trivial) ?_;refine qL 16 rfl rfl rfl (by kernel_rfl) ?_;refine zai (fun h=>trivial) ?_;refine qL 17 rfl rfl rfl (by kernel_rfl) ?_;refine zai (fun h=>⟨⟨h,trivial⟩,⟨h,trivial⟩,trivial⟩) ?_;refine qJ 18 rfl rfl rfl (by kernel_rfl) ?_;refine zai (by exact fun h=>h) ?_;refine qE [0] (by kernel_rfl) rfl ?_;refine qE [19] (by kernel_rfl) rfl ?_;refine qJ 20 rfl rfl rfl (by kernel_rfl) ?_;refine qO (by kernel_rfl) ?_;refine qM ?_;exact ⟨rfl,⟨rfl,rfl⟩,rfl⟩
  ·try simp only [decide_eq_false_iff_not] at h39
   try simp only [zds] at h39
   simp at h39
theorem doRep_ok (es : List Ent) (n m id : Int) (f : List Fld) (ms : List Ent) (mn : Int) (hf : xF f) (hml : ms.length ≤ 1000000) (i : Nat) (hi : i < es.length) (h : atE es id = i) (hc : (chkR f).2 = 0) : yD Tryz.prog 25 [.one (.own 0 0),.agg (toL rRL (ms,mn)),.agg (toL rEdt ((1 : Int),id,f))] (lsO (es,n,m)) 2 (.tup [(true,toL rRL (refRep (ms,mn) id f).1),(false,[.lit (.bool (doB 0 (-9) 0 (refRep (ms,mn) id f).2.2 (refRep (ms,mn) id f).2.1 0))])]) (lsO (replE es i (itmOf f),n,m)) 2:=by
  have hfl:=fieldsk_c (κ:=1) f f;rw [decide_eq_true rfl] at hfl;have hcp:=copiesF_o f (Nat.le_trans hf.1 (by decide));have hsp:=spoilF_o f (Nat.le_trans hf.1 (by decide));have hrp:=(lRep_ok (κ:=1) es n m id f i hi h hf hc).x;have hrf:=refRep_c ms mn id f hf hml;refine acallo_ofc (t:=6) (ty:=49) (u:=7) Tryz.func25 rfl rfl rfl teOk rfl rfl ?_;refine qC ?_;refine qB ?_;refine qC ?_;refine qB ?_;refine Or.inr (Or.inl (zei [] (zei [] (zei _ (zei _ (zei _ (zei _ (zei _ (zai (hcp) (zai rfl (zai True.intro (zai rfl ?_))))))))))));refine qC ?_;refine qB ?_;refine qC ?_;refine qB ?_;refine qC ?_;refine qC ?_;refine qB ?_;refine qP ?_;refine qC ?_;refine qB ?_;refine qK rfl (fun h39=>?_) (fun h39=>?_)
  ·try simp only [decide_eq_true_eq] at h39
   try simp only [zds] at h39
   refine qC ?_;refine qB ?_;refine Or.inr (Or.inr (Or.inr (zei [0,1] (zei [] (zei _ (zei _ (zei _ (zei _ (zei _ (zai (hrp) (zai rfl (zai (zai (zai rfl rfl) (zai (zai rfl rfl) True.intro)) (zai rfl ?_)))))))))))));refine qB ?_;refine Or.inl ?_;refine zai (rfl) ?_;refine zei _ (zai (hrf) ?_);refine qC ?_;refine qB ?_;refine Or.inr (Or.inr (Or.inl ?_));refine zai rfl ?_;refine zei _ (zai (hfl) ?_);refine qC ?_;refine qB ?_;refine Or.inr (Or.inl (zei [] (zei [5] (zei _ (zei _ (zei _ (zei _ (zei _ (zai (hsp) (zai rfl (zai (zai (zai rfl rfl) True.intro) (zai rfl ?_))))))))))));refine qC ?_;refine yH rfl ?_;refine qJ 1 rfl rfl rfl (by kernel_rfl) ?_;refine qJ 2 rfl rfl rfl (by kernel_rfl) ?_;refine qL 3 rfl rfl rfl (by kernel_rfl) ?_;refine zai (fun h=>trivial) ?_;refine qL 5 rfl rfl rfl (by kernel_rfl) ?_;refine zai (fun h=>trivial) ?_;refine qE [0,4] (by kernel_rfl) rfl ?_;refine zai ?_ ?_
   ·refine qE [4] (by kernel_rfl) rfl ?_;refine Or.inl ?_;refine zai (rfl) ?_;refine zei _ (zai (fun h=>⟨⟨⟨h,trivial⟩,trivial⟩,num_nil⟩) ?_);refine qL 6 rfl rfl rfl (by kernel_rfl) ?_;refine zai (fun h=>⟨⟨h,trivial⟩,⟨h,trivial⟩,trivial⟩) ?_;refine qJ 7 rfl rfl rfl (by kernel_rfl) ?_;refine zai (by exact fun h=>h) ?_;refine qJ 8 rfl rfl rfl (by kernel_rfl) ?_;refine qL 9 rfl rfl rfl (by kernel_rfl) ?_;refine zai (fun h=>trivial) ?_;refine qL 11 rfl rfl rfl (by kernel_rfl) ?_;refine zai (fun h=>trivial) ?_;refine qE [10] (by kernel_rfl) rfl ?_;refine Or.inl ?_;refine zai (rfl) ?_;refine zei _ (zai (fun h=>⟨⟨⟨h,trivial⟩,trivial⟩,at_nil⟩) ?_);refine qL 12 rfl rfl rfl (by kernel_rfl) ?_;refine zai (fun h=>⟨⟨h,trivial⟩,⟨h,trivial⟩,trivial⟩) ?_;refine qJ 13 rfl rfl rfl (by kernel_rfl) ?_;refine zai (by exact fun h=>h) ?_;refine qJ 14 rfl rfl rfl (by kernel_rfl) ?_;refine qL 15 rfl rfl rfl (by kernel_rfl) ?_;refine zai (fun h=>trivial) ?_;refine qL 16 rfl rfl rfl (by kernel_rfl) ?_;refine zai (fun h=>trivial) ?_;refine qL 17 rfl rfl rfl (by kernel_rfl) ?_;refine zai (fun h=>⟨⟨h,trivial⟩,⟨h,trivial⟩,trivial⟩) ?_;refine qJ 18 rfl rfl rfl (by kernel_rfl) ?_;refine zai (by exact fun h=>h) ?_;refine qE [19] (by kernel_rfl) rfl ?_;refine qJ 20 rfl rfl rfl (by kernel_rfl) ?_;refine qO (by kernel_rfl) ?_;refine qM ?_;exact ⟨rfl,⟨rfl,rfl⟩,rfl⟩
   ·refine Or.inl ?_;refine zai (rfl) ?_;refine zei _ (zai (fun h=>⟨⟨⟨h,trivial⟩,trivial⟩,num_nil⟩) ?_);refine qL 6 rfl rfl rfl (by kernel_rfl) ?_;refine zai (fun h=>⟨⟨h,trivial⟩,⟨h,trivial⟩,trivial⟩) ?_;refine qJ 7 rfl rfl rfl (by kernel_rfl) ?_;refine zai (by exact fun h=>h) ?_;refine qJ 8 rfl rfl rfl (by kernel_rfl) ?_;refine qL 9 rfl rfl rfl (by kernel_rfl) ?_;refine zai (fun h=>trivial) ?_;refine qL 11 rfl rfl rfl (by kernel_rfl) ?_;refine zai (fun h=>trivial) ?_;refine qE [0,10] (by kernel_rfl) rfl ?_;refine zai ?_ ?_
    ·refine qE [10] (by kernel_rfl) rfl ?_;refine Or.inl ?_;refine zai (rfl) ?_;refine zei _ (zai (fun h=>⟨⟨⟨h,trivial⟩,trivial⟩,at_nil⟩) ?_);refine qL 12 rfl rfl rfl (by kernel_rfl) ?_;refine zai (fun h=>⟨⟨h,trivial⟩,⟨h,trivial⟩,trivial⟩) ?_;refine qJ 13 rfl rfl rfl (by kernel_rfl) ?_;refine zai (by exact fun h=>h) ?_;refine qJ 14 rfl rfl rfl (by kernel_rfl) ?_;refine qL 15 rfl rfl rfl (by kernel_rfl) ?_;refine zai (fun h=>trivial) ?_;refine qL 16 rfl rfl rfl (by kernel_rfl) ?_;refine zai (fun h=>trivial) ?_;refine qL 17 rfl rfl rfl (by kernel_rfl) ?_;refine zai (fun h=>⟨⟨h,trivial⟩,⟨h,trivial⟩,trivial⟩) ?_;refine qJ 18 rfl rfl rfl (by kernel_rfl) ?_;refine zai (by exact fun h=>h) ?_;refine qE [19] (by kernel_rfl) rfl ?_;refine qJ 20 rfl rfl rfl (by kernel_rfl) ?_;refine qO (by kernel_rfl) ?_;refine qM ?_;exact ⟨rfl,⟨rfl,rfl⟩,rfl⟩
    ·refine Or.inl ?_;refine zai (rfl) ?_;refine zei _ (zai (fun h=>⟨⟨⟨h,trivial⟩,trivial⟩,at_nil⟩) ?_);refine qL 12 rfl rfl rfl (by kernel_rfl) ?_;refine zai (fun h=>⟨⟨h,trivial⟩,⟨h,trivial⟩,trivial⟩) ?_;refine qJ 13 rfl rfl rfl (by kernel_rfl) ?_;refine zai (by exact fun h=>h) ?_;refine qJ 14 rfl rfl rfl (by kernel_rfl) ?_;refine qL 15 rfl rfl rfl (by kernel_rfl) ?_;refine zai (fun h=>trivial) ?_;refine qL 16 rfl rfl rfl (by kernel_rfl) ?_;refine zai (fun h=>trivial) ?_;refine qL 17 rfl rfl rfl (by kernel_rfl) ?_;refine zai (fun h=>⟨⟨h,trivial⟩,⟨h,trivial⟩,trivial⟩) ?_;refine qJ 18 rfl rfl rfl (by kernel_rfl) ?_;refine zai (by exact fun h=>h) ?_;refine qE [0] (by kernel_rfl) rfl ?_;refine qE [19] (by kernel_rfl) rfl ?_;refine qJ 20 rfl rfl rfl (by kernel_rfl) ?_;refine qO (by kernel_rfl) ?_;refine qM ?_;exact ⟨rfl,⟨rfl,rfl⟩,rfl⟩
  ·try simp only [decide_eq_false_iff_not] at h39
   try simp only [zds] at h39
   simp at h39
theorem doIns_no (es : List Ent) (n m id : Int) (f : List Fld) (ms : List Ent) (mn : Int) (hf : xF f) (hml : ms.length ≤ 1000000) (k : Int) (hk1 : k ≠ 1) (hk2 : k ≠ 2) (hmn : 0 ≤ mn ∧ mn ≤ 1000000000) (h : atE es id < 0) (h0 : id ≠ 0) : yD Tryz.prog 25 [.one (.own 0 0),.agg (toL rRL (ms,mn)),.agg (toL rEdt ((k : Int),id,f))] (lsO (es,n,m)) 2 (.tup [(true,toL rRL (yZ (ms,mn) id f).1),(false,[.lit (.bool (doB 7 (-9) 0 (yZ (ms,mn) id f).2.2.2 (yZ (ms,mn) id f).2.2.1 (yZ (ms,mn) id f).2.1))])]) (lsO (es,n,m)) 2:=by
  have hfl:=fieldsk_c (κ:=1) f f;rw [decide_eq_true rfl] at hfl;have hcp:=copiesF_o f (Nat.le_trans hf.1 (by decide));have hsp:=spoilF_o f (Nat.le_trans hf.1 (by decide));have hin:=(lIns_no (κ:=1) es n m id f h h0).x;have hrf:=refIns_c ms mn id f hf hml hmn;refine acallo_ofc (t:=6) (ty:=49) (u:=7) Tryz.func25 rfl rfl rfl teOk rfl rfl ?_;refine qC ?_;refine qB ?_;refine qC ?_;refine qB ?_;refine Or.inr (Or.inl (zei [] (zei [] (zei _ (zei _ (zei _ (zei _ (zei _ (zai (hcp) (zai rfl (zai True.intro (zai rfl ?_))))))))))));refine qC ?_;refine qB ?_;refine qC ?_;refine qB ?_;refine qC ?_;refine qC ?_;refine qB ?_;refine qP ?_;refine qC ?_;refine qB ?_;refine qK rfl (fun h39=>?_) (fun h39=>?_)
  ·try simp only [decide_eq_true_eq] at h39
   try simp only [zds] at h39
   exact absurd h39 hk1
  ·try simp only [decide_eq_false_iff_not] at h39
   try simp only [zds] at h39
   refine qC ?_;refine qB ?_;refine qK rfl (fun h56=>?_) (fun h56=>?_)
   ·try simp only [decide_eq_true_eq] at h56
    try simp only [zds] at h56
    exact absurd h56 hk2
   ·try simp only [decide_eq_false_iff_not] at h56
    try simp only [zds] at h56
    refine qC ?_;refine qB ?_;refine Or.inr (Or.inr (Or.inr (zei [0,1] (zei [] (zei _ (zei _ (zei _ (zei _ (zei _ (zai (hin) (zai rfl (zai (zai (zai rfl rfl) (zai (zai rfl rfl) True.intro)) (zai rfl ?_)))))))))))));refine qB ?_;refine Or.inl ?_;refine zai (rfl) ?_;refine zei _ (zai (hrf) ?_);refine qC ?_;refine qB ?_;refine Or.inr (Or.inr (Or.inl ?_));refine zai rfl ?_;refine zei _ (zai (hfl) ?_);refine qC ?_;refine qB ?_;refine Or.inr (Or.inl (zei [] (zei [5] (zei _ (zei _ (zei _ (zei _ (zei _ (zai (hsp) (zai rfl (zai (zai (zai rfl rfl) True.intro) (zai rfl ?_))))))))))));refine qC ?_;refine yH rfl ?_;refine qJ 1 rfl rfl rfl (by kernel_rfl) ?_;refine qJ 2 rfl rfl rfl (by kernel_rfl) ?_;refine qL 3 rfl rfl rfl (by kernel_rfl) ?_;refine zai (fun h=>trivial) ?_;refine qL 5 rfl rfl rfl (by kernel_rfl) ?_;refine zai (fun h=>trivial) ?_;refine qE [0,4] (by kernel_rfl) rfl ?_;refine zai ?_ ?_
    ·refine qE [4] (by kernel_rfl) rfl ?_;refine Or.inl ?_;refine zai (rfl) ?_;refine zei _ (zai (fun h=>⟨⟨⟨h,trivial⟩,trivial⟩,num_errno 7 (by decide)⟩) ?_);refine qL 6 rfl rfl rfl (by kernel_rfl) ?_;refine zai (fun h=>⟨⟨h,trivial⟩,⟨h,trivial⟩,trivial⟩) ?_;refine qJ 7 rfl rfl rfl (by kernel_rfl) ?_;refine zai (by exact fun h=>h) ?_;refine qJ 8 rfl rfl rfl (by kernel_rfl) ?_;refine qL 9 rfl rfl rfl (by kernel_rfl) ?_;refine zai (fun h=>trivial) ?_;refine qL 11 rfl rfl rfl (by kernel_rfl) ?_;refine zai (fun h=>trivial) ?_;refine qE [10] (by kernel_rfl) rfl ?_;refine Or.inl ?_;refine zai (rfl) ?_;refine zei _ (zai (fun h=>⟨⟨⟨h,trivial⟩,trivial⟩,at_errno 7⟩) ?_);refine qL 12 rfl rfl rfl (by kernel_rfl) ?_;refine zai (fun h=>⟨⟨h,trivial⟩,⟨h,trivial⟩,trivial⟩) ?_;refine qJ 13 rfl rfl rfl (by kernel_rfl) ?_;refine zai (by exact fun h=>h) ?_;refine qJ 14 rfl rfl rfl (by kernel_rfl) ?_;refine qL 15 rfl rfl rfl (by kernel_rfl) ?_;refine zai (fun h=>trivial) ?_;refine qL 16 rfl rfl rfl (by kernel_rfl) ?_;refine zai (fun h=>trivial) ?_;refine qL 17 rfl rfl rfl (by kernel_rfl) ?_;refine zai (fun h=>⟨⟨h,trivial⟩,⟨h,trivial⟩,trivial⟩) ?_;refine qJ 18 rfl rfl rfl (by kernel_rfl) ?_;refine zai (by exact fun h=>h) ?_;refine qE [19] (by kernel_rfl) rfl ?_;refine qJ 20 rfl rfl rfl (by kernel_rfl) ?_;refine qO (by kernel_rfl) ?_;refine qM ?_;exact ⟨rfl,⟨rfl,rfl⟩,rfl⟩
    ·refine Or.inl ?_;refine zai (rfl) ?_;refine zei _ (zai (fun h=>⟨⟨⟨h,trivial⟩,trivial⟩,num_errno 7 (by decide)⟩) ?_);refine qL 6 rfl rfl rfl (by kernel_rfl) ?_;refine zai (fun h=>⟨⟨h,trivial⟩,⟨h,trivial⟩,trivial⟩) ?_;refine qJ 7 rfl rfl rfl (by kernel_rfl) ?_;refine zai (by exact fun h=>h) ?_;refine qJ 8 rfl rfl rfl (by kernel_rfl) ?_;refine qL 9 rfl rfl rfl (by kernel_rfl) ?_;refine zai (fun h=>trivial) ?_;refine qL 11 rfl rfl rfl (by kernel_rfl) ?_;refine zai (fun h=>trivial) ?_;refine qE [0,10] (by kernel_rfl) rfl ?_;refine zai ?_ ?_
     ·refine qE [10] (by kernel_rfl) rfl ?_;refine Or.inl ?_;refine zai (rfl) ?_;refine zei _ (zai (fun h=>⟨⟨⟨h,trivial⟩,trivial⟩,at_errno 7⟩) ?_);refine qL 12 rfl rfl rfl (by kernel_rfl) ?_;refine zai (fun h=>⟨⟨h,trivial⟩,⟨h,trivial⟩,trivial⟩) ?_;refine qJ 13 rfl rfl rfl (by kernel_rfl) ?_;refine zai (by exact fun h=>h) ?_;refine qJ 14 rfl rfl rfl (by kernel_rfl) ?_;refine qL 15 rfl rfl rfl (by kernel_rfl) ?_;refine zai (fun h=>trivial) ?_;refine qL 16 rfl rfl rfl (by kernel_rfl) ?_;refine zai (fun h=>trivial) ?_;refine qL 17 rfl rfl rfl (by kernel_rfl) ?_;refine zai (fun h=>⟨⟨h,trivial⟩,⟨h,trivial⟩,trivial⟩) ?_;refine qJ 18 rfl rfl rfl (by kernel_rfl) ?_;refine zai (by exact fun h=>h) ?_;refine qE [19] (by kernel_rfl) rfl ?_;refine qJ 20 rfl rfl rfl (by kernel_rfl) ?_;refine qO (by kernel_rfl) ?_;refine qM ?_;exact ⟨rfl,⟨rfl,rfl⟩,rfl⟩
     ·refine Or.inl ?_;refine zai (rfl) ?_;refine zei _ (zai (fun h=>⟨⟨⟨h,trivial⟩,trivial⟩,at_errno 7⟩) ?_);refine qL 12 rfl rfl rfl (by kernel_rfl) ?_;refine zai (fun h=>⟨⟨h,trivial⟩,⟨h,trivial⟩,trivial⟩) ?_;refine qJ 13 rfl rfl rfl (by kernel_rfl) ?_;refine zai (by exact fun h=>h) ?_;refine qJ 14 rfl rfl rfl (by kernel_rfl) ?_;refine qL 15 rfl rfl rfl (by kernel_rfl) ?_;refine zai (fun h=>trivial) ?_;refine qL 16 rfl rfl rfl (by kernel_rfl) ?_;refine zai (fun h=>trivial) ?_;refine qL 17 rfl rfl rfl (by kernel_rfl) ?_;refine zai (fun h=>⟨⟨h,trivial⟩,⟨h,trivial⟩,trivial⟩) ?_;refine qJ 18 rfl rfl rfl (by kernel_rfl) ?_;refine zai (by exact fun h=>h) ?_;refine qE [0] (by kernel_rfl) rfl ?_;refine qE [19] (by kernel_rfl) rfl ?_;refine qJ 20 rfl rfl rfl (by kernel_rfl) ?_;refine qO (by kernel_rfl) ?_;refine qM ?_;exact ⟨rfl,⟨rfl,rfl⟩,rfl⟩
theorem doIns_chk_n (es : List Ent) (n m id : Int) (f : List Fld) (ms : List Ent) (mn : Int) (hf : xF f) (hml : ms.length ≤ 1000000) (k : Int) (hk1 : k ≠ 1) (hk2 : k ≠ 2) (hmn : 0 ≤ mn ∧ mn ≤ 1000000000) (h : ¬ (atE es id < 0 ∧ id ≠ 0)) (hc : (chkR f).2 ≠ 0) (k9 : Int) (hck : chkA f = errN k9) (h9 : k9 ≠ 0) : yD Tryz.prog 25 [.one (.own 0 0),.agg (toL rRL (ms,mn)),.agg (toL rEdt ((k : Int),id,f))] (lsO (es,n,m)) 2 (.tup [(true,toL rRL (yZ (ms,mn) id f).1),(false,[.lit (.bool (doB k9 (-9) 0 (yZ (ms,mn) id f).2.2.2 (yZ (ms,mn) id f).2.2.1 (yZ (ms,mn) id f).2.1))])]) (lsO (es,n,m)) 2:=by
  have hfl:=fieldsk_c (κ:=1) f f;rw [decide_eq_true rfl] at hfl;have hcp:=copiesF_o f (Nat.le_trans hf.1 (by decide));have hsp:=spoilF_o f (Nat.le_trans hf.1 (by decide));have hin:=(lIns_bad (κ:=1) es n m id f h hf hc).x;rw [hck] at hin;have hrf:=refIns_c ms mn id f hf hml hmn;refine acallo_ofc (t:=6) (ty:=49) (u:=7) Tryz.func25 rfl rfl rfl teOk rfl rfl ?_;refine qC ?_;refine qB ?_;refine qC ?_;refine qB ?_;refine Or.inr (Or.inl (zei [] (zei [] (zei _ (zei _ (zei _ (zei _ (zei _ (zai (hcp) (zai rfl (zai True.intro (zai rfl ?_))))))))))));refine qC ?_;refine qB ?_;refine qC ?_;refine qB ?_;refine qC ?_;refine qC ?_;refine qB ?_;refine qP ?_;refine qC ?_;refine qB ?_;refine qK rfl (fun h39=>?_) (fun h39=>?_)
  ·try simp only [decide_eq_true_eq] at h39
   try simp only [zds] at h39
   exact absurd h39 hk1
  ·try simp only [decide_eq_false_iff_not] at h39
   try simp only [zds] at h39
   refine qC ?_;refine qB ?_;refine qK rfl (fun h56=>?_) (fun h56=>?_)
   ·try simp only [decide_eq_true_eq] at h56
    try simp only [zds] at h56
    exact absurd h56 hk2
   ·try simp only [decide_eq_false_iff_not] at h56
    try simp only [zds] at h56
    refine qC ?_;refine qB ?_;refine Or.inr (Or.inr (Or.inr (zei [0,1] (zei [] (zei _ (zei _ (zei _ (zei _ (zei _ (zai (hin) (zai rfl (zai (zai (zai rfl rfl) (zai (zai rfl rfl) True.intro)) (zai rfl ?_)))))))))))));refine qB ?_;refine Or.inl ?_;refine zai (rfl) ?_;refine zei _ (zai (hrf) ?_);refine qC ?_;refine qB ?_;refine Or.inr (Or.inr (Or.inl ?_));refine zai rfl ?_;refine zei _ (zai (hfl) ?_);refine qC ?_;refine qB ?_;refine Or.inr (Or.inl (zei [] (zei [5] (zei _ (zei _ (zei _ (zei _ (zei _ (zai (hsp) (zai rfl (zai (zai (zai rfl rfl) True.intro) (zai rfl ?_))))))))))));refine qC ?_;refine yH rfl ?_;refine qJ 1 rfl rfl rfl (by kernel_rfl) ?_;refine qJ 2 rfl rfl rfl (by kernel_rfl) ?_;refine qL 3 rfl rfl rfl (by kernel_rfl) ?_;refine zai (fun h=>trivial) ?_;refine qL 5 rfl rfl rfl (by kernel_rfl) ?_;refine zai (fun h=>trivial) ?_;refine qE [0,4] (by kernel_rfl) rfl ?_;refine zai ?_ ?_
    ·refine qE [4] (by kernel_rfl) rfl ?_;refine Or.inl ?_;refine zai (rfl) ?_;refine zei _ (zai (fun h=>⟨⟨⟨h,trivial⟩,trivial⟩,num_errno k9 h9⟩) ?_);refine qL 6 rfl rfl rfl (by kernel_rfl) ?_;refine zai (fun h=>⟨⟨h,trivial⟩,⟨h,trivial⟩,trivial⟩) ?_;refine qJ 7 rfl rfl rfl (by kernel_rfl) ?_;refine zai (by exact fun h=>h) ?_;refine qJ 8 rfl rfl rfl (by kernel_rfl) ?_;refine qL 9 rfl rfl rfl (by kernel_rfl) ?_;refine zai (fun h=>trivial) ?_;refine qL 11 rfl rfl rfl (by kernel_rfl) ?_;refine zai (fun h=>trivial) ?_;refine qE [10] (by kernel_rfl) rfl ?_;refine Or.inl ?_;refine zai (rfl) ?_;refine zei _ (zai (fun h=>⟨⟨⟨h,trivial⟩,trivial⟩,at_errno k9⟩) ?_);refine qL 12 rfl rfl rfl (by kernel_rfl) ?_;refine zai (fun h=>⟨⟨h,trivial⟩,⟨h,trivial⟩,trivial⟩) ?_;refine qJ 13 rfl rfl rfl (by kernel_rfl) ?_;refine zai (by exact fun h=>h) ?_;refine qJ 14 rfl rfl rfl (by kernel_rfl) ?_;refine qL 15 rfl rfl rfl (by kernel_rfl) ?_;refine zai (fun h=>trivial) ?_;refine qL 16 rfl rfl rfl (by kernel_rfl) ?_;refine zai (fun h=>trivial) ?_;refine qL 17 rfl rfl rfl (by kernel_rfl) ?_;refine zai (fun h=>⟨⟨h,trivial⟩,⟨h,trivial⟩,trivial⟩) ?_;refine qJ 18 rfl rfl rfl (by kernel_rfl) ?_;refine zai (by exact fun h=>h) ?_;refine qE [19] (by kernel_rfl) rfl ?_;refine qJ 20 rfl rfl rfl (by kernel_rfl) ?_;refine qO (by kernel_rfl) ?_;refine qM ?_;exact ⟨rfl,⟨rfl,rfl⟩,rfl⟩
    ·refine Or.inl ?_;refine zai (rfl) ?_;refine zei _ (zai (fun h=>⟨⟨⟨h,trivial⟩,trivial⟩,num_errno k9 h9⟩) ?_);refine qL 6 rfl rfl rfl (by kernel_rfl) ?_;refine zai (fun h=>⟨⟨h,trivial⟩,⟨h,trivial⟩,trivial⟩) ?_;refine qJ 7 rfl rfl rfl (by kernel_rfl) ?_;refine zai (by exact fun h=>h) ?_;refine qJ 8 rfl rfl rfl (by kernel_rfl) ?_;refine qL 9 rfl rfl rfl (by kernel_rfl) ?_;refine zai (fun h=>trivial) ?_;refine qL 11 rfl rfl rfl (by kernel_rfl) ?_;refine zai (fun h=>trivial) ?_;refine qE [0,10] (by kernel_rfl) rfl ?_;refine zai ?_ ?_
     ·refine qE [10] (by kernel_rfl) rfl ?_;refine Or.inl ?_;refine zai (rfl) ?_;refine zei _ (zai (fun h=>⟨⟨⟨h,trivial⟩,trivial⟩,at_errno k9⟩) ?_);refine qL 12 rfl rfl rfl (by kernel_rfl) ?_;refine zai (fun h=>⟨⟨h,trivial⟩,⟨h,trivial⟩,trivial⟩) ?_;refine qJ 13 rfl rfl rfl (by kernel_rfl) ?_;refine zai (by exact fun h=>h) ?_;refine qJ 14 rfl rfl rfl (by kernel_rfl) ?_;refine qL 15 rfl rfl rfl (by kernel_rfl) ?_;refine zai (fun h=>trivial) ?_;refine qL 16 rfl rfl rfl (by kernel_rfl) ?_;refine zai (fun h=>trivial) ?_;refine qL 17 rfl rfl rfl (by kernel_rfl) ?_;refine zai (fun h=>⟨⟨h,trivial⟩,⟨h,trivial⟩,trivial⟩) ?_;refine qJ 18 rfl rfl rfl (by kernel_rfl) ?_;refine zai (by exact fun h=>h) ?_;refine qE [19] (by kernel_rfl) rfl ?_;refine qJ 20 rfl rfl rfl (by kernel_rfl) ?_;refine qO (by kernel_rfl) ?_;refine qM ?_;exact ⟨rfl,⟨rfl,rfl⟩,rfl⟩
     ·refine Or.inl ?_;refine zai (rfl) ?_;refine zei _ (zai (fun h=>⟨⟨⟨h,trivial⟩,trivial⟩,at_errno k9⟩) ?_);refine qL 12 rfl rfl rfl (by kernel_rfl) ?_;refine zai (fun h=>⟨⟨h,trivial⟩,⟨h,trivial⟩,trivial⟩) ?_;refine qJ 13 rfl rfl rfl (by kernel_rfl) ?_;refine zai (by exact fun h=>h) ?_;refine qJ 14 rfl rfl rfl (by kernel_rfl) ?_;refine qL 15 rfl rfl rfl (by kernel_rfl) ?_;refine zai (fun h=>trivial) ?_;refine qL 16 rfl rfl rfl (by kernel_rfl) ?_;refine zai (fun h=>trivial) ?_;refine qL 17 rfl rfl rfl (by kernel_rfl) ?_;refine zai (fun h=>⟨⟨h,trivial⟩,⟨h,trivial⟩,trivial⟩) ?_;refine qJ 18 rfl rfl rfl (by kernel_rfl) ?_;refine zai (by exact fun h=>h) ?_;refine qE [0] (by kernel_rfl) rfl ?_;refine qE [19] (by kernel_rfl) rfl ?_;refine qJ 20 rfl rfl rfl (by kernel_rfl) ?_;refine qO (by kernel_rfl) ?_;refine qM ?_;exact ⟨rfl,⟨rfl,rfl⟩,rfl⟩
theorem doIns_chk_f (es : List Ent) (n m id : Int) (f : List Fld) (ms : List Ent) (mn : Int) (hf : xF f) (hml : ms.length ≤ 1000000) (k : Int) (hk1 : k ≠ 1) (hk2 : k ≠ 2) (hmn : 0 ≤ mn ∧ mn ≤ 1000000000) (h : ¬ (atE es id < 0 ∧ id ≠ 0)) (hc : (chkR f).2 ≠ 0) (a9 k9 : Int) (hck : chkA f = errF a9 k9) (h9 : k9 ≠ 0) : yD Tryz.prog 25 [.one (.own 0 0),.agg (toL rRL (ms,mn)),.agg (toL rEdt ((k : Int),id,f))] (lsO (es,n,m)) 2 (.tup [(true,toL rRL (yZ (ms,mn) id f).1),(false,[.lit (.bool (doB k9 a9 0 (yZ (ms,mn) id f).2.2.2 (yZ (ms,mn) id f).2.2.1 (yZ (ms,mn) id f).2.1))])]) (lsO (es,n,m)) 2:=by
  have hfl:=fieldsk_c (κ:=1) f f;rw [decide_eq_true rfl] at hfl;have hcp:=copiesF_o f (Nat.le_trans hf.1 (by decide));have hsp:=spoilF_o f (Nat.le_trans hf.1 (by decide));have hin:=(lIns_bad (κ:=1) es n m id f h hf hc).x;rw [hck] at hin;have hrf:=refIns_c ms mn id f hf hml hmn;refine acallo_ofc (t:=6) (ty:=49) (u:=7) Tryz.func25 rfl rfl rfl teOk rfl rfl ?_;refine qC ?_;refine qB ?_;refine qC ?_;refine qB ?_;refine Or.inr (Or.inl (zei [] (zei [] (zei _ (zei _ (zei _ (zei _ (zei _ (zai (hcp) (zai rfl (zai True.intro (zai rfl ?_))))))))))));refine qC ?_;refine qB ?_;refine qC ?_;refine qB ?_;refine qC ?_;refine qC ?_;refine qB ?_;refine qP ?_;refine qC ?_;refine qB ?_;refine qK rfl (fun h39=>?_) (fun h39=>?_)
  ·try simp only [decide_eq_true_eq] at h39
   try simp only [zds] at h39
   exact absurd h39 hk1
  ·try simp only [decide_eq_false_iff_not] at h39
   try simp only [zds] at h39
   refine qC ?_;refine qB ?_;refine qK rfl (fun h56=>?_) (fun h56=>?_)
   ·try simp only [decide_eq_true_eq] at h56
    try simp only [zds] at h56
    exact absurd h56 hk2
   ·try simp only [decide_eq_false_iff_not] at h56
    try simp only [zds] at h56
    refine qC ?_;refine qB ?_;refine Or.inr (Or.inr (Or.inr (zei [0,1] (zei [] (zei _ (zei _ (zei _ (zei _ (zei _ (zai (hin) (zai rfl (zai (zai (zai rfl rfl) (zai (zai rfl rfl) True.intro)) (zai rfl ?_)))))))))))));refine qB ?_;refine Or.inl ?_;refine zai (rfl) ?_;refine zei _ (zai (hrf) ?_);refine qC ?_;refine qB ?_;refine Or.inr (Or.inr (Or.inl ?_));refine zai rfl ?_;refine zei _ (zai (hfl) ?_);refine qC ?_;refine qB ?_;refine Or.inr (Or.inl (zei [] (zei [5] (zei _ (zei _ (zei _ (zei _ (zei _ (zai (hsp) (zai rfl (zai (zai (zai rfl rfl) True.intro) (zai rfl ?_))))))))))));refine qC ?_;refine yH rfl ?_;refine qJ 1 rfl rfl rfl (by kernel_rfl) ?_;refine qJ 2 rfl rfl rfl (by kernel_rfl) ?_;refine qL 3 rfl rfl rfl (by kernel_rfl) ?_;refine zai (fun h=>trivial) ?_;refine qL 5 rfl rfl rfl (by kernel_rfl) ?_;refine zai (fun h=>trivial) ?_;refine qE [0,4] (by kernel_rfl) rfl ?_;refine zai ?_ ?_
    ·refine qE [4] (by kernel_rfl) rfl ?_;refine Or.inl ?_;refine zai (rfl) ?_;refine zei _ (zai (fun h=>⟨⟨⟨h,trivial⟩,trivial⟩,num_fault a9 k9 h9⟩) ?_);refine qL 6 rfl rfl rfl (by kernel_rfl) ?_;refine zai (fun h=>⟨⟨h,trivial⟩,⟨h,trivial⟩,trivial⟩) ?_;refine qJ 7 rfl rfl rfl (by kernel_rfl) ?_;refine zai (by exact fun h=>h) ?_;refine qJ 8 rfl rfl rfl (by kernel_rfl) ?_;refine qL 9 rfl rfl rfl (by kernel_rfl) ?_;refine zai (fun h=>trivial) ?_;refine qL 11 rfl rfl rfl (by kernel_rfl) ?_;refine zai (fun h=>trivial) ?_;refine qE [10] (by kernel_rfl) rfl ?_;refine Or.inl ?_;refine zai (rfl) ?_;refine zei _ (zai (fun h=>⟨⟨⟨h,trivial⟩,trivial⟩,at_fault a9 k9⟩) ?_);refine qL 12 rfl rfl rfl (by kernel_rfl) ?_;refine zai (fun h=>⟨⟨h,trivial⟩,⟨h,trivial⟩,trivial⟩) ?_;refine qJ 13 rfl rfl rfl (by kernel_rfl) ?_;refine zai (by exact fun h=>h) ?_;refine qJ 14 rfl rfl rfl (by kernel_rfl) ?_;refine qL 15 rfl rfl rfl (by kernel_rfl) ?_;refine zai (fun h=>trivial) ?_;refine qL 16 rfl rfl rfl (by kernel_rfl) ?_;refine zai (fun h=>trivial) ?_;refine qL 17 rfl rfl rfl (by kernel_rfl) ?_;refine zai (fun h=>⟨⟨h,trivial⟩,⟨h,trivial⟩,trivial⟩) ?_;refine qJ 18 rfl rfl rfl (by kernel_rfl) ?_;refine zai (by exact fun h=>h) ?_;refine qE [19] (by kernel_rfl) rfl ?_;refine qJ 20 rfl rfl rfl (by kernel_rfl) ?_;refine qO (by kernel_rfl) ?_;refine qM ?_;exact ⟨rfl,⟨rfl,rfl⟩,rfl⟩
    ·refine Or.inl ?_;refine zai (rfl) ?_;refine zei _ (zai (fun h=>⟨⟨⟨h,trivial⟩,trivial⟩,num_fault a9 k9 h9⟩) ?_);refine qL 6 rfl rfl rfl (by kernel_rfl) ?_;refine zai (fun h=>⟨⟨h,trivial⟩,⟨h,trivial⟩,trivial⟩) ?_;refine qJ 7 rfl rfl rfl (by kernel_rfl) ?_;refine zai (by exact fun h=>h) ?_;refine qJ 8 rfl rfl rfl (by kernel_rfl) ?_;refine qL 9 rfl rfl rfl (by kernel_rfl) ?_;refine zai (fun h=>trivial) ?_;refine qL 11 rfl rfl rfl (by kernel_rfl) ?_;refine zai (fun h=>trivial) ?_;refine qE [0,10] (by kernel_rfl) rfl ?_;refine zai ?_ ?_
     ·refine qE [10] (by kernel_rfl) rfl ?_;refine Or.inl ?_;refine zai (rfl) ?_;refine zei _ (zai (fun h=>⟨⟨⟨h,trivial⟩,trivial⟩,at_fault a9 k9⟩) ?_);refine qL 12 rfl rfl rfl (by kernel_rfl) ?_;refine zai (fun h=>⟨⟨h,trivial⟩,⟨h,trivial⟩,trivial⟩) ?_;refine qJ 13 rfl rfl rfl (by kernel_rfl) ?_;refine zai (by exact fun h=>h) ?_;refine qJ 14 rfl rfl rfl (by kernel_rfl) ?_;refine qL 15 rfl rfl rfl (by kernel_rfl) ?_;refine zai (fun h=>trivial) ?_;refine qL 16 rfl rfl rfl (by kernel_rfl) ?_;refine zai (fun h=>trivial) ?_;refine qL 17 rfl rfl rfl (by kernel_rfl) ?_;refine zai (fun h=>⟨⟨h,trivial⟩,⟨h,trivial⟩,trivial⟩) ?_;refine qJ 18 rfl rfl rfl (by kernel_rfl) ?_;refine zai (by exact fun h=>h) ?_;refine qE [19] (by kernel_rfl) rfl ?_;refine qJ 20 rfl rfl rfl (by kernel_rfl) ?_;refine qO (by kernel_rfl) ?_;refine qM ?_;exact ⟨rfl,⟨rfl,rfl⟩,rfl⟩
     ·refine Or.inl ?_;refine zai (rfl) ?_;refine zei _ (zai (fun h=>⟨⟨⟨h,trivial⟩,trivial⟩,at_fault a9 k9⟩) ?_);refine qL 12 rfl rfl rfl (by kernel_rfl) ?_;refine zai (fun h=>⟨⟨h,trivial⟩,⟨h,trivial⟩,trivial⟩) ?_;refine qJ 13 rfl rfl rfl (by kernel_rfl) ?_;refine zai (by exact fun h=>h) ?_;refine qJ 14 rfl rfl rfl (by kernel_rfl) ?_;refine qL 15 rfl rfl rfl (by kernel_rfl) ?_;refine zai (fun h=>trivial) ?_;refine qL 16 rfl rfl rfl (by kernel_rfl) ?_;refine zai (fun h=>trivial) ?_;refine qL 17 rfl rfl rfl (by kernel_rfl) ?_;refine zai (fun h=>⟨⟨h,trivial⟩,⟨h,trivial⟩,trivial⟩) ?_;refine qJ 18 rfl rfl rfl (by kernel_rfl) ?_;refine zai (by exact fun h=>h) ?_;refine qE [0] (by kernel_rfl) rfl ?_;refine qE [19] (by kernel_rfl) rfl ?_;refine qJ 20 rfl rfl rfl (by kernel_rfl) ?_;refine qO (by kernel_rfl) ?_;refine qM ?_;exact ⟨rfl,⟨rfl,rfl⟩,rfl⟩
theorem doIns_full (es : List Ent) (n m id : Int) (f : List Fld) (ms : List Ent) (mn : Int) (hf : xF f) (hml : ms.length ≤ 1000000) (k : Int) (hk1 : k ≠ 1) (hk2 : k ≠ 2) (hmn : 0 ≤ mn ∧ mn ≤ 1000000000) (h : ¬ (atE es id < 0 ∧ id ≠ 0)) (hc : (chkR f).2 = 0) (hm : 400 ≤ m) : yD Tryz.prog 25 [.one (.own 0 0),.agg (toL rRL (ms,mn)),.agg (toL rEdt ((k : Int),id,f))] (lsO (es,n,m)) 2 (.tup [(true,toL rRL (yZ (ms,mn) id f).1),(false,[.lit (.bool (doB 11 (-9) 0 (yZ (ms,mn) id f).2.2.2 (yZ (ms,mn) id f).2.2.1 (yZ (ms,mn) id f).2.1))])]) (lsO (es,n,m)) 2:=by
  have hfl:=fieldsk_c (κ:=1) f f;rw [decide_eq_true rfl] at hfl;have hcp:=copiesF_o f (Nat.le_trans hf.1 (by decide));have hsp:=spoilF_o f (Nat.le_trans hf.1 (by decide));have hin:=(lIns_full (κ:=1) es n m id f h hf hc hm).x;have hrf:=refIns_c ms mn id f hf hml hmn;refine acallo_ofc (t:=6) (ty:=49) (u:=7) Tryz.func25 rfl rfl rfl teOk rfl rfl ?_;refine qC ?_;refine qB ?_;refine qC ?_;refine qB ?_;refine Or.inr (Or.inl (zei [] (zei [] (zei _ (zei _ (zei _ (zei _ (zei _ (zai (hcp) (zai rfl (zai True.intro (zai rfl ?_))))))))))));refine qC ?_;refine qB ?_;refine qC ?_;refine qB ?_;refine qC ?_;refine qC ?_;refine qB ?_;refine qP ?_;refine qC ?_;refine qB ?_;refine qK rfl (fun h39=>?_) (fun h39=>?_)
  ·try simp only [decide_eq_true_eq] at h39
   try simp only [zds] at h39
   exact absurd h39 hk1
  ·try simp only [decide_eq_false_iff_not] at h39
   try simp only [zds] at h39
   refine qC ?_;refine qB ?_;refine qK rfl (fun h56=>?_) (fun h56=>?_)
   ·try simp only [decide_eq_true_eq] at h56
    try simp only [zds] at h56
    exact absurd h56 hk2
   ·try simp only [decide_eq_false_iff_not] at h56
    try simp only [zds] at h56
    refine qC ?_;refine qB ?_;refine Or.inr (Or.inr (Or.inr (zei [0,1] (zei [] (zei _ (zei _ (zei _ (zei _ (zei _ (zai (hin) (zai rfl (zai (zai (zai rfl rfl) (zai (zai rfl rfl) True.intro)) (zai rfl ?_)))))))))))));refine qB ?_;refine Or.inl ?_;refine zai (rfl) ?_;refine zei _ (zai (hrf) ?_);refine qC ?_;refine qB ?_;refine Or.inr (Or.inr (Or.inl ?_));refine zai rfl ?_;refine zei _ (zai (hfl) ?_);refine qC ?_;refine qB ?_;refine Or.inr (Or.inl (zei [] (zei [5] (zei _ (zei _ (zei _ (zei _ (zei _ (zai (hsp) (zai rfl (zai (zai (zai rfl rfl) True.intro) (zai rfl ?_))))))))))));refine qC ?_;refine yH rfl ?_;refine qJ 1 rfl rfl rfl (by kernel_rfl) ?_;refine qJ 2 rfl rfl rfl (by kernel_rfl) ?_;refine qL 3 rfl rfl rfl (by kernel_rfl) ?_;refine zai (fun h=>trivial) ?_;refine qL 5 rfl rfl rfl (by kernel_rfl) ?_;refine zai (fun h=>trivial) ?_;refine qE [0,4] (by kernel_rfl) rfl ?_;refine zai ?_ ?_
    ·refine qE [4] (by kernel_rfl) rfl ?_;refine Or.inl ?_;refine zai (rfl) ?_;refine zei _ (zai (fun h=>⟨⟨⟨h,trivial⟩,trivial⟩,num_errno 11 (by decide)⟩) ?_);refine qL 6 rfl rfl rfl (by kernel_rfl) ?_;refine zai (fun h=>⟨⟨h,trivial⟩,⟨h,trivial⟩,trivial⟩) ?_;refine qJ 7 rfl rfl rfl (by kernel_rfl) ?_;refine zai (by exact fun h=>h) ?_;refine qJ 8 rfl rfl rfl (by kernel_rfl) ?_;refine qL 9 rfl rfl rfl (by kernel_rfl) ?_;refine zai (fun h=>trivial) ?_;refine qL 11 rfl rfl rfl (by kernel_rfl) ?_;refine zai (fun h=>trivial) ?_;refine qE [10] (by kernel_rfl) rfl ?_;refine Or.inl ?_;refine zai (rfl) ?_;refine zei _ (zai (fun h=>⟨⟨⟨h,trivial⟩,trivial⟩,at_errno 11⟩) ?_);refine qL 12 rfl rfl rfl (by kernel_rfl) ?_;refine zai (fun h=>⟨⟨h,trivial⟩,⟨h,trivial⟩,trivial⟩) ?_;refine qJ 13 rfl rfl rfl (by kernel_rfl) ?_;refine zai (by exact fun h=>h) ?_;refine qJ 14 rfl rfl rfl (by kernel_rfl) ?_;refine qL 15 rfl rfl rfl (by kernel_rfl) ?_;refine zai (fun h=>trivial) ?_;refine qL 16 rfl rfl rfl (by kernel_rfl) ?_;refine zai (fun h=>trivial) ?_;refine qL 17 rfl rfl rfl (by kernel_rfl) ?_;refine zai (fun h=>⟨⟨h,trivial⟩,⟨h,trivial⟩,trivial⟩) ?_;refine qJ 18 rfl rfl rfl (by kernel_rfl) ?_;refine zai (by exact fun h=>h) ?_;refine qE [19] (by kernel_rfl) rfl ?_;refine qJ 20 rfl rfl rfl (by kernel_rfl) ?_;refine qO (by kernel_rfl) ?_;refine qM ?_;exact ⟨rfl,⟨rfl,rfl⟩,rfl⟩
    ·refine Or.inl ?_;refine zai (rfl) ?_;refine zei _ (zai (fun h=>⟨⟨⟨h,trivial⟩,trivial⟩,num_errno 11 (by decide)⟩) ?_);refine qL 6 rfl rfl rfl (by kernel_rfl) ?_;refine zai (fun h=>⟨⟨h,trivial⟩,⟨h,trivial⟩,trivial⟩) ?_;refine qJ 7 rfl rfl rfl (by kernel_rfl) ?_;refine zai (by exact fun h=>h) ?_;refine qJ 8 rfl rfl rfl (by kernel_rfl) ?_;refine qL 9 rfl rfl rfl (by kernel_rfl) ?_;refine zai (fun h=>trivial) ?_;refine qL 11 rfl rfl rfl (by kernel_rfl) ?_;refine zai (fun h=>trivial) ?_;refine qE [0,10] (by kernel_rfl) rfl ?_;refine zai ?_ ?_
     ·refine qE [10] (by kernel_rfl) rfl ?_;refine Or.inl ?_;refine zai (rfl) ?_;refine zei _ (zai (fun h=>⟨⟨⟨h,trivial⟩,trivial⟩,at_errno 11⟩) ?_);refine qL 12 rfl rfl rfl (by kernel_rfl) ?_;refine zai (fun h=>⟨⟨h,trivial⟩,⟨h,trivial⟩,trivial⟩) ?_;refine qJ 13 rfl rfl rfl (by kernel_rfl) ?_;refine zai (by exact fun h=>h) ?_;refine qJ 14 rfl rfl rfl (by kernel_rfl) ?_;refine qL 15 rfl rfl rfl (by kernel_rfl) ?_;refine zai (fun h=>trivial) ?_;refine qL 16 rfl rfl rfl (by kernel_rfl) ?_;refine zai (fun h=>trivial) ?_;refine qL 17 rfl rfl rfl (by kernel_rfl) ?_;refine zai (fun h=>⟨⟨h,trivial⟩,⟨h,trivial⟩,trivial⟩) ?_;refine qJ 18 rfl rfl rfl (by kernel_rfl) ?_;refine zai (by exact fun h=>h) ?_;refine qE [19] (by kernel_rfl) rfl ?_;refine qJ 20 rfl rfl rfl (by kernel_rfl) ?_;refine qO (by kernel_rfl) ?_;refine qM ?_;exact ⟨rfl,⟨rfl,rfl⟩,rfl⟩
     ·refine Or.inl ?_;refine zai (rfl) ?_;refine zei _ (zai (fun h=>⟨⟨⟨h,trivial⟩,trivial⟩,at_errno 11⟩) ?_);refine qL 12 rfl rfl rfl (by kernel_rfl) ?_;refine zai (fun h=>⟨⟨h,trivial⟩,⟨h,trivial⟩,trivial⟩) ?_;refine qJ 13 rfl rfl rfl (by kernel_rfl) ?_;refine zai (by exact fun h=>h) ?_;refine qJ 14 rfl rfl rfl (by kernel_rfl) ?_;refine qL 15 rfl rfl rfl (by kernel_rfl) ?_;refine zai (fun h=>trivial) ?_;refine qL 16 rfl rfl rfl (by kernel_rfl) ?_;refine zai (fun h=>trivial) ?_;refine qL 17 rfl rfl rfl (by kernel_rfl) ?_;refine zai (fun h=>⟨⟨h,trivial⟩,⟨h,trivial⟩,trivial⟩) ?_;refine qJ 18 rfl rfl rfl (by kernel_rfl) ?_;refine zai (by exact fun h=>h) ?_;refine qE [0] (by kernel_rfl) rfl ?_;refine qE [19] (by kernel_rfl) rfl ?_;refine qJ 20 rfl rfl rfl (by kernel_rfl) ?_;refine qO (by kernel_rfl) ?_;refine qM ?_;exact ⟨rfl,⟨rfl,rfl⟩,rfl⟩
theorem doIns_ok (es : List Ent) (n m id : Int) (f : List Fld) (ms : List Ent) (mn : Int) (hf : xF f) (hml : ms.length ≤ 1000000) (k : Int) (hk1 : k ≠ 1) (hk2 : k ≠ 2) (hmn : 0 ≤ mn ∧ mn ≤ 1000000000) (j : Nat) (hj : j ≤ es.length) (h : ¬ (atE es id < 0 ∧ id ≠ 0)) (ha : atE es id + 1 = (j : Int)) (hc : (chkR f).2 = 0) (hm : 0 ≤ m ∧ m < 400) (hn : 0 ≤ n ∧ n ≤ 1000000000) (hl : es.length ≤ 1000000) : yD Tryz.prog 25 [.one (.own 0 0),.agg (toL rRL (ms,mn)),.agg (toL rEdt ((k : Int),id,f))] (lsO (es,n,m)) 2 (.tup [(true,toL rRL (yZ (ms,mn) id f).1),(false,[.lit (.bool (doB 0 (-9) n (yZ (ms,mn) id f).2.2.2 (yZ (ms,mn) id f).2.2.1 (yZ (ms,mn) id f).2.1))])]) (lsO (insE es j (itmOf f,n),n + 1,m + 1)) 2:=by
  have hfl:=fieldsk_c (κ:=1) f f;rw [decide_eq_true rfl] at hfl;have hcp:=copiesF_o f (Nat.le_trans hf.1 (by decide));have hsp:=spoilF_o f (Nat.le_trans hf.1 (by decide));have hin:=(lIns_ok (κ:=1) es n m id f j hj h ha hf hc hm hn hl).x;have hrf:=refIns_c ms mn id f hf hml hmn;refine acallo_ofc (t:=6) (ty:=49) (u:=7) Tryz.func25 rfl rfl rfl teOk rfl rfl ?_;refine qC ?_;refine qB ?_;refine qC ?_;refine qB ?_;refine Or.inr (Or.inl (zei [] (zei [] (zei _ (zei _ (zei _ (zei _ (zei _ (zai (hcp) (zai rfl (zai True.intro (zai rfl ?_))))))))))));refine qC ?_;refine qB ?_;refine qC ?_;refine qB ?_;refine qC ?_;refine qC ?_;refine qB ?_;refine qP ?_;refine qC ?_;refine qB ?_;refine qK rfl (fun h39=>?_) (fun h39=>?_)
  ·try simp only [decide_eq_true_eq] at h39
   try simp only [zds] at h39
   exact absurd h39 hk1
  ·try simp only [decide_eq_false_iff_not] at h39
   try simp only [zds] at h39
   refine qC ?_;refine qB ?_;refine qK rfl (fun h56=>?_) (fun h56=>?_)
   ·try simp only [decide_eq_true_eq] at h56
    try simp only [zds] at h56
    exact absurd h56 hk2
   ·try simp only [decide_eq_false_iff_not] at h56
    try simp only [zds] at h56
    refine qC ?_;refine qB ?_;refine Or.inr (Or.inr (Or.inr (zei [0,1] (zei [] (zei _ (zei _ (zei _ (zei _ (zei _ (zai (hin) (zai rfl (zai (zai (zai rfl rfl) (zai (zai rfl rfl) True.intro)) (zai rfl ?_)))))))))))));refine qB ?_;refine Or.inl ?_;refine zai (rfl) ?_;refine zei _ (zai (hrf) ?_);refine qC ?_;refine qB ?_;refine Or.inr (Or.inr (Or.inl ?_));refine zai rfl ?_;refine zei _ (zai (hfl) ?_);refine qC ?_;refine qB ?_;refine Or.inr (Or.inl (zei [] (zei [5] (zei _ (zei _ (zei _ (zei _ (zei _ (zai (hsp) (zai rfl (zai (zai (zai rfl rfl) True.intro) (zai rfl ?_))))))))))));refine qC ?_;refine yH rfl ?_;refine qJ 1 rfl rfl rfl (by kernel_rfl) ?_;refine qJ 2 rfl rfl rfl (by kernel_rfl) ?_;refine qL 3 rfl rfl rfl (by kernel_rfl) ?_;refine zai (fun h=>trivial) ?_;refine qL 5 rfl rfl rfl (by kernel_rfl) ?_;refine zai (fun h=>trivial) ?_;refine qE [0,4] (by kernel_rfl) rfl ?_;refine zai ?_ ?_
    ·refine qE [4] (by kernel_rfl) rfl ?_;refine Or.inl ?_;refine zai (rfl) ?_;refine zei _ (zai (fun h=>⟨⟨⟨h,trivial⟩,trivial⟩,num_nil⟩) ?_);refine qL 6 rfl rfl rfl (by kernel_rfl) ?_;refine zai (fun h=>⟨⟨h,trivial⟩,⟨h,trivial⟩,trivial⟩) ?_;refine qJ 7 rfl rfl rfl (by kernel_rfl) ?_;refine zai (by exact fun h=>h) ?_;refine qJ 8 rfl rfl rfl (by kernel_rfl) ?_;refine qL 9 rfl rfl rfl (by kernel_rfl) ?_;refine zai (fun h=>trivial) ?_;refine qL 11 rfl rfl rfl (by kernel_rfl) ?_;refine zai (fun h=>trivial) ?_;refine qE [10] (by kernel_rfl) rfl ?_;refine Or.inl ?_;refine zai (rfl) ?_;refine zei _ (zai (fun h=>⟨⟨⟨h,trivial⟩,trivial⟩,at_nil⟩) ?_);refine qL 12 rfl rfl rfl (by kernel_rfl) ?_;refine zai (fun h=>⟨⟨h,trivial⟩,⟨h,trivial⟩,trivial⟩) ?_;refine qJ 13 rfl rfl rfl (by kernel_rfl) ?_;refine zai (by exact fun h=>h) ?_;refine qJ 14 rfl rfl rfl (by kernel_rfl) ?_;refine qL 15 rfl rfl rfl (by kernel_rfl) ?_;refine zai (fun h=>trivial) ?_;refine qL 16 rfl rfl rfl (by kernel_rfl) ?_;refine zai (fun h=>trivial) ?_;refine qL 17 rfl rfl rfl (by kernel_rfl) ?_;refine zai (fun h=>⟨⟨h,trivial⟩,⟨h,trivial⟩,trivial⟩) ?_;refine qJ 18 rfl rfl rfl (by kernel_rfl) ?_;refine zai (by exact fun h=>h) ?_;refine qE [19] (by kernel_rfl) rfl ?_;refine qJ 20 rfl rfl rfl (by kernel_rfl) ?_;refine qO (by kernel_rfl) ?_;refine qM ?_;exact ⟨rfl,⟨rfl,rfl⟩,rfl⟩
    ·refine Or.inl ?_;refine zai (rfl) ?_;refine zei _ (zai (fun h=>⟨⟨⟨h,trivial⟩,trivial⟩,num_nil⟩) ?_);refine qL 6 rfl rfl rfl (by kernel_rfl) ?_;refine zai (fun h=>⟨⟨h,trivial⟩,⟨h,trivial⟩,trivial⟩) ?_;refine qJ 7 rfl rfl rfl (by kernel_rfl) ?_;refine zai (by exact fun h=>h) ?_;refine qJ 8 rfl rfl rfl (by kernel_rfl) ?_;refine qL 9 rfl rfl rfl (by kernel_rfl) ?_;refine zai (fun h=>trivial) ?_;refine qL 11 rfl rfl rfl (by kernel_rfl) ?_;refine zai (fun h=>trivial) ?_;refine qE [0,10] (by kernel_rfl) rfl ?_;refine zai ?_ ?_
     ·refine qE [10] (by kernel_rfl) rfl ?_;refine Or.inl ?_;refine zai (rfl) ?_;refine zei _ (zai (fun h=>⟨⟨⟨h,trivial⟩,trivial⟩,at_nil⟩) ?_);refine qL 12 rfl rfl rfl (by kernel_rfl) ?_;refine zai (fun h=>⟨⟨h,trivial⟩,⟨h,trivial⟩,trivial⟩) ?_;refine qJ 13 rfl rfl rfl (by kernel_rfl) ?_;refine zai (by exact fun h=>h) ?_;refine qJ 14 rfl rfl rfl (by kernel_rfl) ?_;refine qL 15 rfl rfl rfl (by kernel_rfl) ?_;refine zai (fun h=>trivial) ?_;refine qL 16 rfl rfl rfl (by kernel_rfl) ?_;refine zai (fun h=>trivial) ?_;refine qL 17 rfl rfl rfl (by kernel_rfl) ?_;refine zai (fun h=>⟨⟨h,trivial⟩,⟨h,trivial⟩,trivial⟩) ?_;refine qJ 18 rfl rfl rfl (by kernel_rfl) ?_;refine zai (by exact fun h=>h) ?_;refine qE [19] (by kernel_rfl) rfl ?_;refine qJ 20 rfl rfl rfl (by kernel_rfl) ?_;refine qO (by kernel_rfl) ?_;refine qM ?_;exact ⟨rfl,⟨rfl,rfl⟩,rfl⟩
     ·refine Or.inl ?_;refine zai (rfl) ?_;refine zei _ (zai (fun h=>⟨⟨⟨h,trivial⟩,trivial⟩,at_nil⟩) ?_);refine qL 12 rfl rfl rfl (by kernel_rfl) ?_;refine zai (fun h=>⟨⟨h,trivial⟩,⟨h,trivial⟩,trivial⟩) ?_;refine qJ 13 rfl rfl rfl (by kernel_rfl) ?_;refine zai (by exact fun h=>h) ?_;refine qJ 14 rfl rfl rfl (by kernel_rfl) ?_;refine qL 15 rfl rfl rfl (by kernel_rfl) ?_;refine zai (fun h=>trivial) ?_;refine qL 16 rfl rfl rfl (by kernel_rfl) ?_;refine zai (fun h=>trivial) ?_;refine qL 17 rfl rfl rfl (by kernel_rfl) ?_;refine zai (fun h=>⟨⟨h,trivial⟩,⟨h,trivial⟩,trivial⟩) ?_;refine qJ 18 rfl rfl rfl (by kernel_rfl) ?_;refine zai (by exact fun h=>h) ?_;refine qE [0] (by kernel_rfl) rfl ?_;refine qE [19] (by kernel_rfl) rfl ?_;refine qJ 20 rfl rfl rfl (by kernel_rfl) ?_;refine qO (by kernel_rfl) ?_;refine qM ?_;exact ⟨rfl,⟨rfl,rfl⟩,rfl⟩
end Q
end Ab
end Go.Proofs.YtlbainbjlibfiaaGreatDoor
namespace Go.Proofs.YtlbainbjlibfiaaGreatDoor
open Go.RowKit
namespace Ab
set_option maxRecDepth 100000
namespace Q
theorem chk_shape {f : List Fld} (h : (chkR f).2 ≠ 0) : (∃ k9,chkA f = errN k9 ∧ k9 ≠ 0 ∧ (-9 : Int) = (chkR f).1 ∧ k9 = (chkR f).2) ∨ ∃ a9 k9,chkA f = errF a9 k9 ∧ k9 ≠ 0 ∧ a9 = (chkR f).1 ∧ k9 = (chkR f).2:=by
  obtain ⟨e,he,hs⟩:=chk_bad h;rcases hs with ⟨n,hn,rfl,hr⟩|⟨i,n,hn,rfl,hr⟩
  · exact .inl ⟨n,he,hn,by rw [hr],by rw [hr]⟩
  · exact .inr ⟨i,n,he,hn,by rw [hr],by rw [hr]⟩
theorem doB_true {a b c d e f : Int} (h1 : a = d) (h2 : b = e) (h3 : c = f) : doB a b c d e f = true:=by
  subst h1 h2 h3;simp [doB]
theorem do_ref {c : Nat} (L : Lst) (M : RLs) (e : Edt) (h : LOk c L) (hc : c ≤ 200000) (hf : xF e.2.2) (hml : M.1.length ≤ 1000000) (hmn : 0 ≤ M.2 ∧ M.2 ≤ 1000000000) :
    ∃ b,yD Tryz.prog 25 [.one (.own 0 0),.agg (toL rRL M),.agg (toL rEdt e)] (lsO L) 2 (.tup [(true,toL rRL (refDo M e)),(false,[.lit (.bool b)])]) (lsO (doL L e)) 2 ∧ (M = (L.1,L.2.1) → b = true):=by
  obtain ⟨es,n,m⟩:=L;obtain ⟨ms,mn⟩:=M;obtain ⟨k,id,f⟩:=e;have hmany:=h.many;have hnx:=h.next;have hln:=h.len;have hids:=ids_len es;have hil:=List.length_filter_le live es;simp only at hmany hnx hln hf hml hmn;unfold doL refDo;simp only
  by_cases h1 : k = 1
  · subst h1;simp only [if_pos]
    by_cases h0 : atE es id < 0
    · simp only [if_pos h0];exact ⟨_,doRep_no es n m id f ms mn hf hml h0,fun e=>by cases e;exact doB_true (by simp [refRep,h0]) (by simp [refRep,h0]) rfl⟩
    · simp only [if_neg h0]
      by_cases hck : (chkR f).2 ≠ 0
      · simp only [if_pos hck];rcases chk_shape hck with ⟨k9,g1,g2,g3,g4⟩|⟨a9,k9,g1,g2,g3,g4⟩
        · exact ⟨_,doRep_chk_n es n m id f ms mn hf hml (by omega) hck k9 g1 g2,fun e=>by cases e;exact doB_true (by simp [refRep,h0,hck,g4]) (by simp [refRep,h0,hck,g3]) rfl⟩
        · exact ⟨_,doRep_chk_f es n m id f ms mn hf hml (by omega) hck a9 k9 g1 g2,fun e=>by cases e;exact doB_true (by simp [refRep,h0,hck,g4]) (by simp [refRep,h0,hck,g3]) rfl⟩
      · simp only [if_neg hck];have hck : (chkR f).2 = 0:=Classical.not_not.1 hck;obtain ⟨i,hi,he,_,_⟩:=at_lt h0;rw [he,Int.toNat_natCast];exact ⟨_,doRep_ok es n m id f ms mn hf hml i hi he hck,fun e=>by cases e;exact doB_true (by simp [refRep,h0,hck]) (by simp [refRep,h0,hck]) rfl⟩
  · by_cases h2 : k = 2
    · subst h2;simp only [if_neg h1,if_pos]
      by_cases h0 : atE es id < 0
      · simp only [if_pos h0];exact ⟨_,doDel_no es n m id f ms mn hf hml h0,fun e=>by cases e;exact doB_true (by simp [refDel,h0]) rfl rfl⟩
      · simp only [if_neg h0];obtain ⟨i,hi,he,_,_⟩:=at_lt h0;rw [he,Int.toNat_natCast];exact ⟨_,doDel_ok es n m id f ms mn hf hml i hi he (by omega) (by omega),fun e=>by cases e;exact doB_true (by simp [refDel,h0]) rfl rfl⟩
    · simp only [if_neg h1,if_neg h2]
      by_cases h0 : atE es id < 0 ∧ id ≠ 0
      · simp only [if_pos h0];exact ⟨_,doIns_no es n m id f ms mn hf hml k h1 h2 hmn h0.1 h0.2,fun e=>by cases e;exact doB_true (by simp only [yZ,if_pos h0]) (by simp only [yZ,if_pos h0]) (by simp only [yZ,if_pos h0])⟩
      · simp only [if_neg h0]
        by_cases hck : (chkR f).2 ≠ 0
        · simp only [if_pos hck];rcases chk_shape hck with ⟨k9,g1,g2,g3,g4⟩|⟨a9,k9,g1,g2,g3,g4⟩
          · exact ⟨_,doIns_chk_n es n m id f ms mn hf hml k h1 h2 hmn h0 hck k9 g1 g2,fun e=>by cases e;exact doB_true (by simp only [yZ,if_neg h0,if_pos hck,g4]) (by simp only [yZ,if_neg h0,if_pos hck,g3]) (by simp only [yZ,if_neg h0,if_pos hck])⟩
          · exact ⟨_,doIns_chk_f es n m id f ms mn hf hml k h1 h2 hmn h0 hck a9 k9 g1 g2,fun e=>by cases e;exact doB_true (by simp only [yZ,if_neg h0,if_pos hck,g4]) (by simp only [yZ,if_neg h0,if_pos hck,g3]) (by simp only [yZ,if_neg h0,if_pos hck])⟩
        · simp only [if_neg hck];have hck' : (chkR f).2 = 0:=Classical.not_not.1 hck
          by_cases h4 : 400 ≤ m
          · simp only [if_pos h4];have h5 : 400 ≤ ((es.filter live).length : Int):=by omega
            exact ⟨_,doIns_full es n m id f ms mn hf hml k h1 h2 hmn h0 hck' h4,fun e=>by cases e;exact doB_true (by simp only [yZ,if_neg h0,if_neg hck,if_pos h5]) (by simp only [yZ,if_neg h0,if_neg hck,if_pos h5]) (by simp only [yZ,if_neg h0,if_neg hck,if_pos h5])⟩
          · simp only [if_neg h4];have h5 : ¬ 400 ≤ ((es.filter live).length : Int):=by omega
            obtain ⟨j,hj,hje⟩ : ∃ j : Nat,j ≤ es.length ∧ atE es id + 1 = (j : Int):=by
              rcases at_cases es id with ⟨h1,_⟩|⟨i,h1,h2,_⟩
              · exact ⟨0,Nat.zero_le _,by omega⟩
              · exact ⟨i + 1,by omega,by omega⟩
            rw [hje,Int.toNat_natCast];exact ⟨_,doIns_ok es n m id f ms mn hf hml k h1 h2 hmn j hj h0 hje hck' (by omega) (by omega) (by omega),fun e=>by cases e;exact doB_true (by simp only [yZ,if_neg h0,if_neg hck,if_neg h5]) (by simp only [yZ,if_neg h0,if_neg hck,if_neg h5]) (by simp only [yZ,if_neg h0,if_neg hck,if_neg h5])⟩
def xL (L : Lst) (s : List Edt) (i : Nat) : Lst:=(s.take i).foldl doL L
theorem plays_snoc (L : Lst) {s : List Edt} {i : Nat} (h : i < s.length) : xL L s (i + 1) = doL (xL L s i) (s.getD i ((0 : Int),(0 : Int),([] : List Fld))):=by
  unfold xL;rw [← yO ((0 : Int),(0 : Int),([] : List Fld)) h,List.foldl_append];rfl
theorem plays_ok {c : Nat} {L : Lst} {s : List Edt} (h : LOk c L) (hf : ∀ e ∈ s,xF e.2.2) : ∀ i,i ≤ s.length → LOk (c + i) (xL L s i)
  | 0,_=>by simpa [xL] using h
  | i + 1,hi=>by
    rw [plays_snoc L (by omega)];exact doL_ok (plays_ok h hf i (by omega)) (hf _ (yK (by omega) ((0 : Int),(0 : Int),([] : List Fld))))
theorem heavy_ok {s : List Edt} (h : heavyB s = false) : s.length ≤ 51 ∧ ∀ e ∈ s,muchB e.2.2 = false:=by
  unfold heavyB at h;simp only [Bool.or_eq_false_iff,decide_eq_false_iff_not] at h;exact ⟨by omega,fun e he=>by simpa using List.any_eq_false.1 h.2 e he⟩
theorem items_len {s : ByteArray} {l : List Itm} (hp : xO s = .inr l) : l.length ≤ 2 * s.size + 1:=by
  have h0:=parse_ref s;rw [hp] at h0;obtain ⟨h1,_⟩:=linesT_len s;have key : ∀ (L : List Lne) (t : RSt) (bh : Bool) (l : List Itm),runR bh t L = .inr l → l.length ≤ t.out.length + 1 + 2 * L.length:=by
    intro L
    induction L with
    | nil =>
      intro t bh l h;unfold runR at h;cases h;split <;> simp
    | cons a r ih =>
      intro t bh l h;unfold runR at h;split at h
      · cases h
      · have i1:=ih _ _ _ h;have so : (xB t a r).out.length ≤ t.out.length + 2:=by
          unfold xB;split
          · simp only;split <;> simp
          · split <;> simp
        rw [List.length_cons];omega
  have k1:=key _ _ _ _ h0.symm;simp only [rst0,List.length_nil] at k1;omega
theorem of_lok {s : ByteArray} {l : List Itm} (hs : s.size ≤ 4000) (hp : xO s = .inr l) : LOk 9000 (ofT l):=by
  have h1:=items_len hp;exact ofT_ok (by omega) fun x hx=>fldsOk_of (items_small hp x hx).1 (items_small hp x hx).2
theorem LOk.f1 {c : Nat} {L : Lst} (h : LOk c L) : ∀ e ∈ L.1,e.1.2.2.length ≤ 1000000:=fun e he=>Nat.le_trans (h.flds e he).1 (by decide)
end Q
end Ab
end Go.Proofs.YtlbainbjlibfiaaGreatDoor
namespace Go.Proofs.YtlbainbjlibfiaaGreatDoor
open Go.RowKit
namespace Ab
set_option maxRecDepth 100000
namespace Q
theorem a1_parse7 : xO ⟨#[65,58,32,49,10]⟩ = .inr [(3,⟨#[65,58,32,49,10]⟩,[(⟨#[65]⟩,⟨#[49]⟩)])]:=by decide +kernel
def al0 : List Ent:=[((3,⟨#[65,58,32,49,10]⟩,[(⟨#[65]⟩,⟨#[49]⟩)]),1)]
def alF : List Fld:=[(⟨#[66]⟩,⟨#[50]⟩)]
def al1 : List Ent:=insE al0 0 (itmOf alF,2)
theorem alive7_c : qW Tryz.prog 20 [] (ib true):=by
  have hof:=of_ok ⟨#[65,58,32,49,10]⟩ (by decide) a1_parse7;rw [show ofT [(3,⟨#[65,58,32,49,10]⟩,[(⟨#[65]⟩,⟨#[49]⟩)])] = (al0,2,1) from rfl] at hof;have hins:=(lIns_ok (κ:=1) al0 2 1 0 alF 0 (by decide) (by decide) (by decide) ⟨by decide,by decide⟩ (by decide +kernel) ⟨by decide,by decide⟩ ⟨by decide,by decide⟩ (by decide)).x;have htx:=textL_c (k:=1) al1 3 2 (by decide) (by decide) (by decide +kernel);rw [show bytes (txtL al1) = ⟨#[66,58,32,50,10,10,65,58,32,49,10]⟩ from by decide +kernel] at htx;refine qT (rs:=[0]) Tryz.func20 rfl rfl rfl teOk rfl ?_;refine qC ?_;refine qB ?_;refine qC ?_;refine qB ?_;refine Or.inr (Or.inl (zei [] (zei [] (zei _ (zei _ (zei _ (zei _ (zei _ (zai (hof) (zai rfl (zai True.intro (zai rfl ?_))))))))))));refine qC ?_;refine qC ?_;refine qB ?_;refine zai (fun h=>trivial) ?_;refine zai (fun h=>⟨⟨h,trivial⟩,trivial⟩) ?_;refine zai (by first|(intro h;rw [h];rfl)|(intro h;cases h)) ?_;refine qK rfl (fun h13=>?_) (fun h13=>?_)
  ·try simp only [Bool.not_eq_true',Bool.or_eq_true] at h13
   try simp only [zds] at h13
   simp at h13
  ·try simp only [Bool.not_eq_false',Bool.or_eq_false_iff] at h13
   try simp only [zds] at h13
   refine qN ?_;refine qC ?_;refine qB ?_;refine Or.inr (Or.inr (Or.inr (zei [0,1] (zei [] (zei _ (zei _ (zei _ (zei _ (zei _ (zai (hins) (zai rfl (zai (zai (zai rfl rfl) (zai (zai rfl rfl) True.intro)) (zai rfl ?_)))))))))))));refine qC ?_;refine qB ?_;refine zai (fun h=>trivial) ?_;refine zai (fun h=>⟨⟨h,trivial⟩,trivial⟩) ?_;refine zai (by exact fun h=>h) ?_;refine zai (fun h=>trivial) ?_;refine Or.inl ?_;refine zai (rfl) ?_;refine zei _ (zai (fun h=>⟨⟨⟨h,trivial⟩,trivial⟩,htx⟩) ?_);refine zai (fun h=>⟨⟨h,trivial⟩,trivial⟩) ?_;refine zai (by exact fun h=>h) ?_;refine zai (fun h=>trivial) ?_;refine Or.inl ?_;refine zai (rfl) ?_;refine zei _ (zai (fun h=>⟨⟨⟨h,trivial⟩,trivial⟩,len_c al1 3 2⟩) ?_);refine zai (fun h=>⟨⟨h,trivial⟩,trivial⟩) ?_;refine zai (by exact fun h=>h) ?_;refine qM ?_;rfl
end Q
end Ab
end Go.Proofs.YtlbainbjlibfiaaGreatDoor
namespace Go.Proofs.YtlbainbjlibfiaaGreatDoor
open Go.RowKit
namespace Ab
set_option maxRecDepth 100000
namespace Q
theorem stz_len (es : List Ent) : (stzL es).length = (es.filter live).length:=List.length_map _
theorem stz_at {es : List Ent} {i : Nat} (h : i < (stzL es).length) : (stzL es).getD i ((0 : Int),([] : List Fld)) = stzOf ((es.filter live).getD i (((0 : Int),ByteArray.empty,([] : List Fld)),(0 : Int))):=by
  have h1 : i < (es.filter live).length:=by rw [← stz_len];exact h
  rw [← getD_get h ((0 : Int),([] : List Fld)),← getD_get h1 (((0 : Int),ByteArray.empty,([] : List Fld)),(0 : Int))];exact List.getElem_map stzOf
structure SeenI (es : List Ent) (n : Int) (i : Nat) (sn : List Bool) : Prop where
  le : i ≤ (stzL es).length
  len : sn.length = n.toNat
  seen : ∀ k : Nat,sn.getD k false = true → ∃ j,j < i ∧ ((stzL es).getD j ((0 : Int),([] : List Fld))).1 = k
theorem SeenI.next {es : List Ent} {n : Int} {i : Nat} {sn : List Bool} (h : SeenI es n i sn) (hi : i < (stzL es).length) (hp : 0 < ((stzL es).getD i ((0 : Int),([] : List Fld))).1) : SeenI es n (i + 1) (sn.set (((stzL es).getD i ((0 : Int),([] : List Fld))).1).toNat true):=by
  refine ⟨hi,by rw [List.length_set];exact h.len,fun k hk=>?_⟩
  by_cases e : (((stzL es).getD i ((0 : Int),([] : List Fld))).1).toNat = k
  · exact ⟨i,Nat.lt_succ_self _,by omega⟩
  · rw [List.getD_eq_getElem?_getD,List.getElem?_set_ne e,← List.getD_eq_getElem?_getD] at hk;obtain ⟨j,hj,h2⟩:=h.seen k hk;exact ⟨j,by omega,h2⟩
theorem lsbox_eq {L M : Lst} (h : M = L) : some (Ob.box 109 [.vec 1,.lit (.int .i64 L.2.1),.lit (.int .i64 L.2.2)]) = some (Ob.box 109 [.vec 1,.lit (.int .i64 M.2.1),.lit (.int .i64 M.2.2)]):=by rw [h]
theorem lsvec_eq {L M : Lst} (h : M = L) : some (Ob.vec 111 rEnt L.1) = some (Ob.vec 111 rEnt M.1):=by rw [h]
end Q
end Ab
end Go.Proofs.YtlbainbjlibfiaaGreatDoor
namespace Go.Proofs.YtlbainbjlibfiaaGreatDoor
open Go.RowKit
namespace Ab
set_option maxRecDepth 100000
abbrev rItm3 : Rd Itm:=rItm.kd 3
namespace Q
theorem spoil7_c : ASpoil Tryz.prog 51:=by
  refine aspoil_of Tryz.func51 rfl rfl rfl teOk rfl (fun xs=>?_);refine qC ?_;refine qB ?_;intro l0_1
  try simp only [zds] at l0_1
  refine qP ?_;refine qV (fun (i : Nat)=>i ≤ xs.length) (fun (i : Nat)=>[(0,.one (.slk 7 rUnk2 xs)),(4,ii .i64 xs.length),(5,ii .i64 i)]) (fun (i : Nat)=>[]) 1000000 (fun (i : Nat)=>xs.length - i) 0 (Nat.zero_le _) (qQ ⟨rfl,rfl,rfl⟩ trivial rfl) ?_;intro i hI0;refine qC ?_;refine qB ?_;refine qC ?_;refine qK rfl (fun h6=>?_) (fun h6=>?_)
  · try simp only [decide_eq_true_eq] at h6
    try simp only [zds] at h6
    refine qN ?_;refine qC ?_;refine qP ?_;refine qC ?_;refine qB ?_;show yG _ _ _ _ _ _ _ _ _;refine acode_store7 4 rfl rfl rfl (by rfl) ?_;refine zai (by first|omega|assumption|decide|(simp only [zds];omega)|(simp <;> omega)) ?_;refine zei _ (zei _ (zei _ (zei _ (zei _ (zai rfl (zai rfl (zai rfl (zai rfl ?_))))))));refine qB ?_;refine zai (by first|omega|assumption|decide|(simp only [zds];omega)|(simp <;> omega)) ?_;exact ⟨i + 1,by omega,by first|omega|(simp <;> omega),qQ ⟨rfl,rfl,(qU (by omega))⟩ trivial rfl⟩
  · try simp only [decide_eq_false_iff_not,Int.not_lt] at h6
    try simp only [zds] at h6
    refine qX ?_;exact Or.inr rfl
end Q
end Ab
end Go.Proofs.YtlbainbjlibfiaaGreatDoor
namespace Go.Proofs.YtlbainbjlibfiaaGreatDoor
open Go.RowKit
namespace Ab
set_option maxRecDepth 100000
namespace Q
theorem clone3_c (l : List Fld) (hl : l.length ≤ 1000000) : qW Tryz.prog 70 [.one (.sl rFld l)] (.one (.slk 3 rFld l)):=by
  refine qT (rs:=[2]) Tryz.func70 rfl rfl rfl teOk rfl ?_;refine qC ?_;refine qB ?_;refine qC ?_;refine qC ?_;refine acode_isnil (q:=0) [_] _ (R:=rFld) (xs:=l) rfl rfl rfl rfl (e:=73) rfl rfl ?_;refine ⟨rfl,fun b hb=>?_⟩;refine qK rfl (fun h4=>?_) (fun h4=>?_)
  ·have hl0:=hb h4;subst hl0;refine qC ?_;refine qB ?_;refine xA 2 73 rFld rfl ?_;refine acode_frzk 0 3 rfl ?_;refine qM ?_;rfl
  ·refine qN ?_;refine qC ?_;refine qB ?_;refine zai (by first|exact qR (show l.length ≤ 1000000000 by omega) (by decide)|exact qR (show 0 + l.length ≤ 1000000000 by omega) (by decide)) ?_;refine acode_frzk 0 3 rfl ?_;refine qM ?_;rfl
theorem cloneV_o (l : List Fld) (hl : l.length ≤ 1000000) : yD Tryz.prog 70 [.one (.sl rFld l)] [] 0 (.one (.vec 0)) [(0,.vec 73 rFld l)] 1:=by
  refine yB (rs:=[2]) Tryz.func70 rfl rfl rfl teOk (by decide) rfl ?_;refine qC ?_;refine qB ?_;refine qC ?_;refine qC ?_;refine acode_isnil (q:=0) [_] _ (R:=rFld) (xs:=l) rfl rfl rfl rfl (e:=73) rfl rfl ?_;refine ⟨rfl,fun b hb=>?_⟩;refine qK rfl (fun h4=>?_) (fun h4=>?_)
  ·have hl0:=hb h4;subst hl0;refine qC ?_;refine qB ?_;refine xA 2 73 rFld rfl ?_;refine qM ?_;exact ⟨rfl,rfl,rfl⟩
  ·refine qN ?_;refine qC ?_;refine qB ?_;refine zai (by first|exact qR (show l.length ≤ 1000000000 by omega) (by decide)|exact qR (show 0 + l.length ≤ 1000000000 by omega) (by decide)) ?_;refine qM ?_;exact ⟨rfl,rfl,rfl⟩
abbrev rStz3 : Rd Stz:=rStz.kd 3
theorem stanzas3L_o {k : Nat} (es : List Ent) (n m : Int) (hl : es.length ≤ 1000000) (hf : ∀ e ∈ es,e.1.2.2.length ≤ 1000000) : yD Tryz.prog 36 [.one (.adk k (rLst k) (es,n,m))] [] 0 (.one (.vec 1)) [(1,.vec 42 rStz3 (stzL es))] 2:=by
  have hll:=live_len es;refine yB (rs:=[2]) Tryz.func36 rfl rfl rfl (mapTe_ok (q:=3) teOk) (by decide) rfl ?_;refine qC ?_;refine qB ?_;refine qC ?_;refine qB ?_;refine qC ?_;refine qC ?_;refine qB ?_;refine Or.inl ?_;refine zai (rfl) ?_;refine zei _ (zai (all_c (es,n,m)) ?_);refine qP ?_;refine yE 0 0 42 rStz3 rfl rfl rfl ?_;refine acode_range (caps:=[.one (.ref (.adk k (rLst k) (es,n,m)))]) (xs:=itEs es) [(3,.one (.own 0 0)),(6,.one (.clo 93 (.ref (.adk k (rLst k) (es,n,m)))))] 2 (fun st j (i : Nat)=>st = false ∧ i = j) (fun i=>[(0,.box 38 [.vec 1]),(1,.vec 42 rStz3 (stT es i))]) (fun _=>.ret) 0 rfl rfl (all_iter es n m) (qQ ⟨rfl,rfl⟩ ⟨rfl,rfl⟩ rfl) ⟨rfl,rfl⟩ (fun j hj=>by simp [itEs]) rfl rfl rfl (fun _ _ _=>rfl) rfl ?_ ?_ ?_
  ·intro j i hk hp;obtain ⟨_,rfl⟩:=hp;obtain ⟨e,he,hg,hi,hx⟩:=itEs_get es hk;rw [hx];have hsn:=stT_snoc hi;rw [hg] at hsn;have hsl:=@stT_len es i;refine qB ?_;refine qP ?_;refine yH rfl ?_;refine qJ 1 rfl rfl rfl (by kernel_rfl) ?_;refine qJ 3 rfl rfl rfl (by kernel_rfl) ?_;refine qJ 4 rfl rfl rfl (by kernel_rfl) ?_;refine qE [0,2,5] (by kernel_rfl) rfl ?_;refine zai ?_ ?_
   ·refine qE [2,5] (by kernel_rfl) rfl ?_;refine zai ?_ ?_
    ·refine qE [5] (by kernel_rfl) rfl ?_;refine qE [6] (by kernel_rfl) rfl ?_;refine Or.inl ?_;refine zai (rfl) ?_;refine zei _ (zai (clone3_c e.1.2.2 (hf e he)) ?_);refine qE [7] (by kernel_rfl) rfl ?_;refine qE [8] (by kernel_rfl) rfl ?_;refine qE [9] (by kernel_rfl) rfl ?_;refine zai (by exact qR (show (stT es i).length + 1 ≤ 1000000000 by omega) (by decide)) ?_;refine qE [10] (by kernel_rfl) rfl ?_;refine qO (by kernel_rfl) ?_;exact ⟨i + 1,⟨rfl,rfl⟩,qQ trivial ⟨rfl,qS (by rw [hsn];exact rfl)⟩ rfl⟩
    ·refine qE [2,6] (by kernel_rfl) rfl ?_;refine zai ?_ ?_
     ·refine qE [6] (by kernel_rfl) rfl ?_;refine Or.inl ?_;refine zai (rfl) ?_;refine zei _ (zai (clone3_c e.1.2.2 (hf e he)) ?_);refine qE [7] (by kernel_rfl) rfl ?_;refine qE [8] (by kernel_rfl) rfl ?_;refine qE [9] (by kernel_rfl) rfl ?_;refine zai (by exact qR (show (stT es i).length + 1 ≤ 1000000000 by omega) (by decide)) ?_;refine qE [10] (by kernel_rfl) rfl ?_;refine qO (by kernel_rfl) ?_;exact ⟨i + 1,⟨rfl,rfl⟩,qQ trivial ⟨rfl,qS (by rw [hsn];exact rfl)⟩ rfl⟩
     ·refine Or.inl ?_;refine zai (rfl) ?_;refine zei _ (zai (clone3_c e.1.2.2 (hf e he)) ?_);refine qE [2] (by kernel_rfl) rfl ?_;refine qE [7] (by kernel_rfl) rfl ?_;refine qE [8] (by kernel_rfl) rfl ?_;refine qE [9] (by kernel_rfl) rfl ?_;refine zai (by exact qR (show (stT es i).length + 1 ≤ 1000000000 by omega) (by decide)) ?_;refine qE [10] (by kernel_rfl) rfl ?_;refine qO (by kernel_rfl) ?_;exact ⟨i + 1,⟨rfl,rfl⟩,qQ trivial ⟨rfl,qS (by rw [hsn];exact rfl)⟩ rfl⟩
   refine zai ?_ ?_
   ·refine qE [0,5] (by kernel_rfl) rfl ?_;refine zai ?_ ?_
    ·refine qE [5] (by kernel_rfl) rfl ?_;refine qE [6] (by kernel_rfl) rfl ?_;refine Or.inl ?_;refine zai (rfl) ?_;refine zei _ (zai (clone3_c e.1.2.2 (hf e he)) ?_);refine qE [7] (by kernel_rfl) rfl ?_;refine qE [8] (by kernel_rfl) rfl ?_;refine qE [9] (by kernel_rfl) rfl ?_;refine zai (by exact qR (show (stT es i).length + 1 ≤ 1000000000 by omega) (by decide)) ?_;refine qE [10] (by kernel_rfl) rfl ?_;refine qO (by kernel_rfl) ?_;exact ⟨i + 1,⟨rfl,rfl⟩,qQ trivial ⟨rfl,qS (by rw [hsn];exact rfl)⟩ rfl⟩
    ·refine qE [0,6] (by kernel_rfl) rfl ?_;refine zai ?_ ?_
     ·refine qE [6] (by kernel_rfl) rfl ?_;refine Or.inl ?_;refine zai (rfl) ?_;refine zei _ (zai (clone3_c e.1.2.2 (hf e he)) ?_);refine qE [7] (by kernel_rfl) rfl ?_;refine qE [8] (by kernel_rfl) rfl ?_;refine qE [9] (by kernel_rfl) rfl ?_;refine zai (by exact qR (show (stT es i).length + 1 ≤ 1000000000 by omega) (by decide)) ?_;refine qE [10] (by kernel_rfl) rfl ?_;refine qO (by kernel_rfl) ?_;exact ⟨i + 1,⟨rfl,rfl⟩,qQ trivial ⟨rfl,qS (by rw [hsn];exact rfl)⟩ rfl⟩
     ·refine Or.inl ?_;refine zai (rfl) ?_;refine zei _ (zai (clone3_c e.1.2.2 (hf e he)) ?_);refine qE [0,7] (by kernel_rfl) rfl ?_;refine zai ?_ ?_
      ·refine qE [7] (by kernel_rfl) rfl ?_;refine qE [8] (by kernel_rfl) rfl ?_;refine qE [9] (by kernel_rfl) rfl ?_;refine zai (by exact qR (show (stT es i).length + 1 ≤ 1000000000 by omega) (by decide)) ?_;refine qE [10] (by kernel_rfl) rfl ?_;refine qO (by kernel_rfl) ?_;exact ⟨i + 1,⟨rfl,rfl⟩,qQ trivial ⟨rfl,qS (by rw [hsn];exact rfl)⟩ rfl⟩
      ·refine qE [0,8] (by kernel_rfl) rfl ?_;refine zai ?_ ?_
       ·refine qE [8] (by kernel_rfl) rfl ?_;refine qE [9] (by kernel_rfl) rfl ?_;refine zai (by exact qR (show (stT es i).length + 1 ≤ 1000000000 by omega) (by decide)) ?_;refine qE [10] (by kernel_rfl) rfl ?_;refine qO (by kernel_rfl) ?_;exact ⟨i + 1,⟨rfl,rfl⟩,qQ trivial ⟨rfl,qS (by rw [hsn];exact rfl)⟩ rfl⟩
       ·refine qE [0] (by kernel_rfl) rfl ?_;refine qE [9] (by kernel_rfl) rfl ?_;refine zai (by exact qR (show (stT es i).length + 1 ≤ 1000000000 by omega) (by decide)) ?_;refine qE [10] (by kernel_rfl) rfl ?_;refine qO (by kernel_rfl) ?_;exact ⟨i + 1,⟨rfl,rfl⟩,qQ trivial ⟨rfl,qS (by rw [hsn];exact rfl)⟩ rfl⟩
   ·refine qE [0,2,6] (by kernel_rfl) rfl ?_;refine zai ?_ ?_
    ·refine qE [2,6] (by kernel_rfl) rfl ?_;refine zai ?_ ?_
     ·refine qE [6] (by kernel_rfl) rfl ?_;refine Or.inl ?_;refine zai (rfl) ?_;refine zei _ (zai (clone3_c e.1.2.2 (hf e he)) ?_);refine qE [7] (by kernel_rfl) rfl ?_;refine qE [8] (by kernel_rfl) rfl ?_;refine qE [9] (by kernel_rfl) rfl ?_;refine zai (by exact qR (show (stT es i).length + 1 ≤ 1000000000 by omega) (by decide)) ?_;refine qE [10] (by kernel_rfl) rfl ?_;refine qO (by kernel_rfl) ?_;exact ⟨i + 1,⟨rfl,rfl⟩,qQ trivial ⟨rfl,qS (by rw [hsn];exact rfl)⟩ rfl⟩
     ·refine Or.inl ?_;refine zai (rfl) ?_;refine zei _ (zai (clone3_c e.1.2.2 (hf e he)) ?_);refine qE [2] (by kernel_rfl) rfl ?_;refine qE [7] (by kernel_rfl) rfl ?_;refine qE [8] (by kernel_rfl) rfl ?_;refine qE [9] (by kernel_rfl) rfl ?_;refine zai (by exact qR (show (stT es i).length + 1 ≤ 1000000000 by omega) (by decide)) ?_;refine qE [10] (by kernel_rfl) rfl ?_;refine qO (by kernel_rfl) ?_;exact ⟨i + 1,⟨rfl,rfl⟩,qQ trivial ⟨rfl,qS (by rw [hsn];exact rfl)⟩ rfl⟩
    refine zai ?_ ?_
    ·refine qE [0,6] (by kernel_rfl) rfl ?_;refine zai ?_ ?_
     ·refine qE [6] (by kernel_rfl) rfl ?_;refine Or.inl ?_;refine zai (rfl) ?_;refine zei _ (zai (clone3_c e.1.2.2 (hf e he)) ?_);refine qE [7] (by kernel_rfl) rfl ?_;refine qE [8] (by kernel_rfl) rfl ?_;refine qE [9] (by kernel_rfl) rfl ?_;refine zai (by exact qR (show (stT es i).length + 1 ≤ 1000000000 by omega) (by decide)) ?_;refine qE [10] (by kernel_rfl) rfl ?_;refine qO (by kernel_rfl) ?_;exact ⟨i + 1,⟨rfl,rfl⟩,qQ trivial ⟨rfl,qS (by rw [hsn];exact rfl)⟩ rfl⟩
     ·refine Or.inl ?_;refine zai (rfl) ?_;refine zei _ (zai (clone3_c e.1.2.2 (hf e he)) ?_);refine qE [0,7] (by kernel_rfl) rfl ?_;refine zai ?_ ?_
      ·refine qE [7] (by kernel_rfl) rfl ?_;refine qE [8] (by kernel_rfl) rfl ?_;refine qE [9] (by kernel_rfl) rfl ?_;refine zai (by exact qR (show (stT es i).length + 1 ≤ 1000000000 by omega) (by decide)) ?_;refine qE [10] (by kernel_rfl) rfl ?_;refine qO (by kernel_rfl) ?_;exact ⟨i + 1,⟨rfl,rfl⟩,qQ trivial ⟨rfl,qS (by rw [hsn];exact rfl)⟩ rfl⟩
      ·refine qE [0,8] (by kernel_rfl) rfl ?_;refine zai ?_ ?_
       ·refine qE [8] (by kernel_rfl) rfl ?_;refine qE [9] (by kernel_rfl) rfl ?_;refine zai (by exact qR (show (stT es i).length + 1 ≤ 1000000000 by omega) (by decide)) ?_;refine qE [10] (by kernel_rfl) rfl ?_;refine qO (by kernel_rfl) ?_;exact ⟨i + 1,⟨rfl,rfl⟩,qQ trivial ⟨rfl,qS (by rw [hsn];exact rfl)⟩ rfl⟩
       ·refine qE [0] (by kernel_rfl) rfl ?_;refine qE [9] (by kernel_rfl) rfl ?_;refine zai (by exact qR (show (stT es i).length + 1 ≤ 1000000000 by omega) (by decide)) ?_;refine qE [10] (by kernel_rfl) rfl ?_;refine qO (by kernel_rfl) ?_;exact ⟨i + 1,⟨rfl,rfl⟩,qQ trivial ⟨rfl,qS (by rw [hsn];exact rfl)⟩ rfl⟩
    ·refine Or.inl ?_;refine zai (rfl) ?_;refine zei _ (zai (clone3_c e.1.2.2 (hf e he)) ?_);refine qE [0,2] (by kernel_rfl) rfl ?_;refine zai ?_ ?_
     ·refine qE [2] (by kernel_rfl) rfl ?_;refine qE [7] (by kernel_rfl) rfl ?_;refine qE [8] (by kernel_rfl) rfl ?_;refine qE [9] (by kernel_rfl) rfl ?_;refine zai (by exact qR (show (stT es i).length + 1 ≤ 1000000000 by omega) (by decide)) ?_;refine qE [10] (by kernel_rfl) rfl ?_;refine qO (by kernel_rfl) ?_;exact ⟨i + 1,⟨rfl,rfl⟩,qQ trivial ⟨rfl,qS (by rw [hsn];exact rfl)⟩ rfl⟩
     ·refine qE [0,7] (by kernel_rfl) rfl ?_;refine zai ?_ ?_
      ·refine qE [7] (by kernel_rfl) rfl ?_;refine qE [8] (by kernel_rfl) rfl ?_;refine qE [9] (by kernel_rfl) rfl ?_;refine zai (by exact qR (show (stT es i).length + 1 ≤ 1000000000 by omega) (by decide)) ?_;refine qE [10] (by kernel_rfl) rfl ?_;refine qO (by kernel_rfl) ?_;exact ⟨i + 1,⟨rfl,rfl⟩,qQ trivial ⟨rfl,qS (by rw [hsn];exact rfl)⟩ rfl⟩
      ·refine qE [0,8] (by kernel_rfl) rfl ?_;refine zai ?_ ?_
       ·refine qE [8] (by kernel_rfl) rfl ?_;refine qE [9] (by kernel_rfl) rfl ?_;refine zai (by exact qR (show (stT es i).length + 1 ≤ 1000000000 by omega) (by decide)) ?_;refine qE [10] (by kernel_rfl) rfl ?_;refine qO (by kernel_rfl) ?_;exact ⟨i + 1,⟨rfl,rfl⟩,qQ trivial ⟨rfl,qS (by rw [hsn];exact rfl)⟩ rfl⟩
       ·refine qE [0] (by kernel_rfl) rfl ?_;refine qE [9] (by kernel_rfl) rfl ?_;refine zai (by exact qR (show (stT es i).length + 1 ≤ 1000000000 by omega) (by decide)) ?_;refine qE [10] (by kernel_rfl) rfl ?_;refine qO (by kernel_rfl) ?_;exact ⟨i + 1,⟨rfl,rfl⟩,qQ trivial ⟨rfl,qS (by rw [hsn];exact rfl)⟩ rfl⟩
  ·intro i hp;obtain ⟨_,rfl⟩:=hp;refine qC ?_;refine qB ?_;refine qM ?_;rw [show stT es (itEs es).length = stzL es from by unfold stT stzL;rw [itEs_len,List.take_length]];exact ⟨rfl,rfl,rfl⟩
  ·intro j i hp;exact absurd hp.1 (by decide)
theorem getL_o {k : Nat} (es : List Ent) (n m id : Int) (hf : ∀ e ∈ es,e.1.2.2.length ≤ 1000000) (h : ¬ atE es id < 0) : yD Tryz.prog 27 [.one (.adk k (rLst k) (es,n,m)),ii .i64 id] [] 0 (.tup [(false,[.vec 0]),(false,[.lit (.bool true)])]) [(0,.vec 73 rFld (getL es id))] 1:=by
  obtain ⟨i,hi,he,_,_⟩:=at_lt h;have hfi:=hf _ (yK hi (((0 : Int),ByteArray.empty,([] : List Fld)),(0 : Int)));have hat:=at_c (k:=k) es n m id;unfold getL;rw [he] at hat ⊢;rw [Int.toNat_natCast];refine yB (rs:=[4,5]) Tryz.func27 rfl rfl rfl teOk (by decide) rfl ?_;refine qC ?_;refine qB ?_;refine qC ?_;refine qB ?_;refine Or.inl ?_;refine zai (rfl) ?_;refine zei _ (zai (hat) ?_);refine qC ?_;refine qC ?_;refine qB ?_;refine qK rfl (fun h11=>?_) (fun h11=>?_)
  ·try simp only [decide_eq_true_eq] at h11
   try simp only [zds] at h11
   omega
  ·try simp only [decide_eq_false_iff_not,Int.not_lt] at h11
   try simp only [zds] at h11
   refine qN ?_;refine qC ?_;refine qB ?_;refine zai (by first|omega|assumption|decide|(simp only [];omega)|(simp <;> omega)) ?_;refine Or.inr (Or.inl (zei [] (zei [] (zei _ (zei _ (zei _ (zei _ (zei _ (zai (cloneV_o _ hfi) (zai rfl (zai True.intro (zai rfl ?_))))))))))));refine qM ?_;exact ⟨rfl,rfl,rfl⟩
theorem refGet_c (es : List Ent) (n id : Int) (h : ¬ atE es id < 0) : qW Tryz.prog 29 [.agg (toL rRL (es,n)),ii .i64 id] (.tup [(true,toL rItm (es.getD (atE es id).toNat (((0 : Int),ByteArray.empty,([] : List Fld)),(0 : Int))).1),(false,[.lit (.bool true)])]):=by
  obtain ⟨i,hi,he,_,_⟩:=at_lt h;have hat:=refFindAt_c es n id;rw [he] at hat ⊢;rw [Int.toNat_natCast];refine yY (rs:=[.cell 4 63,.tmp 5]) Tryz.func29 rfl rfl rfl teOk rfl ?_;refine qC ?_;refine qB ?_;refine qC ?_;refine qB ?_;refine Or.inl ?_;refine zai (rfl) ?_;refine zei _ (zai (hat) ?_);refine qC ?_;refine qC ?_;refine qB ?_;refine qK rfl (fun h11=>?_) (fun h11=>?_)
  ·try simp only [decide_eq_true_eq] at h11
   try simp only [zds] at h11
   omega
  ·try simp only [decide_eq_false_iff_not,Int.not_lt] at h11
   try simp only [zds] at h11
   refine qN ?_;refine qC ?_;refine qB ?_;refine zai (by first|omega|assumption|decide|(simp only [];omega)|(simp <;> omega)) ?_;refine qM ?_;rfl
theorem refItms_c (es : List Ent) (n : Int) (hl : es.length ≤ 1000000) : qW Tryz.prog 68 [.agg (toL rRL (es,n))] (.one (.sl rItm (itmL es))):=by
  refine qT (rs:=[2]) Tryz.func68 rfl rfl rfl teOk rfl ?_;refine qC ?_;refine qB ?_;refine qC ?_;refine qB ?_;refine qC ?_;refine qC ?_;refine xA 3 63 rItm rfl ?_;refine qB ?_;refine qP ?_;refine qV (fun (i : Nat)=>i ≤ es.length) (fun (i : Nat)=>[(1,.one (.own 0 0)),(3,.one (.vec 1)),(4,ii .i64 i)]) (fun (i : Nat)=>[(0,.box 49 (toL rRL (es,n))),(1,.vec 63 rItm (itmL (es.take i)))]) 2 (fun (i : Nat)=>es.length - i) 0 (Nat.zero_le _) (qQ ⟨rfl,rfl,rfl⟩ ⟨rfl,rfl⟩ rfl) ?_;intro i hI0;refine qC ?_;refine qC ?_;refine qB ?_;intro l3_3;refine qK rfl (fun h9=>?_) (fun h9=>?_)
  ·try simp only [decide_eq_true_eq] at h9
   try simp only [zds] at h9
   have hil : i < es.length:=(by omega);have hsn:=itmL_snoc hil;refine qN ?_;refine qC ?_;refine qP ?_;refine qB ?_;refine zai (by first|omega|assumption|decide|(simp only [];omega)|(simp <;> omega)) ?_;refine zai (by exact qR (show (itmL (es.take i)).length + 1 ≤ 1000000000 by unfold itmL;rw [List.length_map,List.length_take];omega) (by decide)) ?_;refine qB ?_;refine zai (by first|omega|assumption|decide|(simp only [zds];omega)|(simp <;> omega)) ?_;exact ⟨i + 1,by omega,by first|omega|(simp <;> omega),qQ ⟨rfl,rfl,(qU (by omega))⟩ ⟨rfl,(qS (by rw [hsn];try exact rfl))⟩ rfl⟩
  ·try simp only [decide_eq_false_iff_not,Int.not_lt] at h9
   try simp only [zds] at h9
   refine qX ?_;refine qC ?_;refine qB ?_;refine qM ?_;rw [List.take_of_length_le (by omega)];exact rfl
theorem refPlc_c (es : List Ent) (n id : Int) (hl : es.length ≤ 1000000) : qW Tryz.prog 31 [.agg (toL rRL (es,n)),ii .i64 id] (ii .i64 (plcL es id)):=by
  have hsl:=stz_len es;refine qT (rs:=[4]) Tryz.func31 rfl rfl rfl teOk rfl ?_;refine qC ?_;refine qB ?_;refine qC ?_;refine qB ?_;refine Or.inl ?_;refine zai (rfl) ?_;refine zei _ (zai (refStz_c es n hl) ?_);refine qC ?_;refine qC ?_;refine qB ?_;refine qP ?_;refine qV (fun (i : Nat)=>i ≤ (stzL es).length ∧ ((es.filter live).take i).any (hasId id) = false) (fun (i : Nat)=>[(1,ii .i64 id),(5,.one (.sl rStz (stzL es))),(6,ii .i64 i)]) (fun (i : Nat)=>[]) 0 (fun (i : Nat)=>(stzL es).length - i) 0 (⟨Nat.zero_le _,rfl⟩) (qQ ⟨rfl,rfl,rfl⟩ trivial rfl) ?_;intro i hI0;obtain ⟨hi,hn⟩:=hI0;refine qC ?_;refine qC ?_;refine qB ?_;intro l3_2
  try simp only [zds] at l3_2
  refine qK rfl (fun h12=>?_) (fun h12=>?_)
  ·try simp only [decide_eq_true_eq] at h12
   try simp only [zds] at h12
   have hil : i < (stzL es).length:=(by omega);have hst:=stz_at hil;refine qN ?_;refine qC ?_;refine qP ?_;refine qC ?_;refine qB ?_;refine zai (by first|omega|assumption|decide|(simp only [zds];omega)|(simp <;> omega)) ?_;refine qK rfl (fun h21=>?_) (fun h21=>?_)
   ·try simp only [decide_eq_true_eq] at h21
    try simp only [Int.toNat_natCast,qI,qH,qG] at h21
    have hh : hasId id ((es.filter live).getD i (((0 : Int),ByteArray.empty,([] : List Fld)),(0 : Int))) = true:=decide_eq_true (by rw [← h21,hst];rfl);refine qC ?_;refine qB ?_;refine qM ?_;exact qU (ixOf_at (((0 : Int),ByteArray.empty,([] : List Fld)),(0 : Int)) (by omega) hn hh).symm
   ·try simp only [decide_eq_false_iff_not] at h21
    try simp only [Int.toNat_natCast,qI,qH,qG] at h21
    have hh : hasId id ((es.filter live).getD i (((0 : Int),ByteArray.empty,([] : List Fld)),(0 : Int))) = false:=decide_eq_false (fun e=>h21 (by rw [hst];exact e));refine qN ?_;refine qB ?_;refine zai (by first|omega|assumption|decide|(simp only [zds];omega)|(simp <;> omega)) ?_;exact ⟨i + 1,⟨by omega,by rw [take_any _ (hasId id) (((0 : Int),ByteArray.empty,([] : List Fld)),(0 : Int)) i (by omega),hn,hh];rfl⟩,by first|omega|(simp <;> omega),qQ ⟨rfl,rfl,(qU (by omega))⟩ trivial rfl⟩
  ·try simp only [decide_eq_false_iff_not,Int.not_lt] at h12
   try simp only [zds] at h12
   refine qX ?_;refine qC ?_;refine qB ?_;refine qM ?_;rw [show i = (es.filter live).length by omega,List.take_length] at hn;rw [show plcL es id = -1 from ixOf_none hn];exact rfl
theorem stz7_c {κ κ' : Nat} (a b : List Stz) : qW Tryz.prog 50 [.one (.slk κ (rStz.kd κ') a),.one (.sl rStz b)] (ib (decide (a = b))):=by
  refine qT (rs:=[4]) Tryz.func50 rfl rfl rfl teOk rfl ?_;refine qC ?_;refine qB ?_;refine qC ?_;refine qC ?_;refine qB ?_;intro l1_1
  try simp only [zds] at l1_1
  intro l1_3
  try simp only [zds] at l1_3
  refine qK rfl (fun h10=>?_) (fun h10=>?_)
  ·try simp only [decide_eq_false_iff_not,Bool.not_eq_true'] at h10
   try simp only [zds] at h10
   refine qC ?_;refine qB ?_;refine qM ?_;exact ib_eq (decide_eq_false (fun e=>by rw [e] at h10;omega)).symm
  ·try simp only [decide_eq_true_eq,Bool.not_eq_false'] at h10
   try simp only [zds] at h10
   refine qN ?_;refine qC ?_;refine qC ?_;refine qB ?_;intro l3_1
   try simp only [zds] at l3_1
   refine qP ?_;refine qV (fun (i : Nat)=>i ≤ a.length ∧ a.take i = b.take i) (fun (i : Nat)=>[(0,.one (.slk κ (rStz.kd κ') a)),(1,.one (.sl rStz b)),(12,ii .i64 a.length),(13,ii .i64 i)]) (fun (i : Nat)=>[]) 0 (fun (i : Nat)=>a.length - i) 0 (⟨Nat.zero_le _,by simp⟩) (qQ ⟨rfl,rfl,rfl,rfl⟩ trivial rfl) ?_;intro i hI0;obtain ⟨hi,ht⟩:=hI0;refine qC ?_;refine qB ?_;refine qC ?_;refine qK rfl (fun h14=>?_) (fun h14=>?_)
   ·try simp only [decide_eq_true_eq] at h14
    try simp only [zds] at h14
    have hla : i < a.length:=by omega
    have hlb : i < b.length:=by omega
    refine qN ?_;refine qC ?_;refine qP ?_;refine qC ?_;refine qB ?_;refine qC ?_;refine acode_draw rfl (by kernel_rfl) ?_;refine zai (by first|omega|assumption|decide|(simp only [zds];omega)|(simp <;> omega)) ?_;refine zai (by first|omega|assumption|decide|(simp only [zds];omega)|(simp <;> omega)) ?_;refine zai (fun h=>trivial) ?_;refine zai (fun h=>trivial) ?_;refine zai (fun h=>⟨⟨⟨h,trivial⟩,⟨h,trivial⟩,trivial⟩,by first|omega|decide|(simp only [zds];omega)|(have h9:=of_decide_eq_true h;omega)|(simp [gq] at h;omega)⟩) ?_;refine zai (fun h=>⟨⟨h,trivial⟩,trivial⟩) ?_;refine zai (fun h=>⟨⟨h,trivial⟩,trivial⟩) ?_;refine zai (fun h=>trivial) ?_;refine zai (fun h=>trivial) ?_;refine zai (fun h=>⟨⟨⟨h,trivial⟩,⟨h,trivial⟩,trivial⟩,by first|omega|decide|(simp only [zds];omega)|(have h9:=of_decide_eq_true h;omega)|(simp [gq] at h;omega)⟩) ?_;refine zai (fun h=>⟨⟨h,trivial⟩,trivial⟩) ?_;refine zai (fun h=>⟨⟨h,trivial⟩,trivial⟩) ?_;refine zai (rfl) ?_;refine zei _ (zai (fun h=>⟨⟨⟨h,trivial⟩,⟨h,trivial⟩,trivial⟩,fieldsk_c (κ:=κ') (a.getD i ((0 : Int),([] : List Fld))).2 (b.getD i ((0 : Int),([] : List Fld))).2⟩) ?_);refine zai (fun h=>⟨⟨h,trivial⟩,trivial⟩) ?_;refine zai (by first|(intro h;rw [h];rfl)|(intro h;cases h)) ?_;refine qK rfl (fun h40=>?_) (fun h40=>?_)
    ·try simp only [decide_eq_false_iff_not,Bool.not_eq_true',Bool.or_eq_true] at h40
     try simp only [Int.toNat_natCast,qI,qH,qG] at h40
     refine qC ?_;refine qB ?_;refine qM ?_;exact ib_eq (decide_eq_false (ne_at (i:=i) ((0 : Int),([] : List Fld)) (fun e=>h40.elim (fun h=>h (congrArg Prod.fst e)) (fun h=>h (congrArg Prod.snd e))))).symm
    ·try simp only [decide_eq_true_eq,Bool.not_eq_false',Bool.or_eq_false_iff] at h40
     try simp only [Int.toNat_natCast,qI,qH,qG] at h40
     refine qN ?_;refine qB ?_;refine zai (by first|omega|assumption|decide|(simp only [zds];omega)|(simp <;> omega)) ?_;exact ⟨i + 1,⟨by omega,list_ext_take ((0 : Int),([] : List Fld)) hla hlb ht (Prod.ext h40.1 h40.2)⟩,by first|omega|(simp <;> omega),qQ ⟨rfl,rfl,rfl,(qU (by omega))⟩ trivial rfl⟩
   ·try simp only [decide_eq_false_iff_not,Int.not_lt] at h14
    try simp only [zds] at h14
    refine qX ?_;refine qC ?_;refine qB ?_;refine qM ?_;exact ib_eq (decide_eq_true (by rw [List.take_of_length_le (by omega),List.take_of_length_le (by omega)] at ht;exact ht)).symm
end Q
end Ab
end Go.Proofs.YtlbainbjlibfiaaGreatDoor
namespace Go.Proofs.YtlbainbjlibfiaaGreatDoor
open Go.RowKit
namespace Ab
set_option maxRecDepth 100000
namespace Q
theorem refJoin5_c (l : List Itm) (hs : szI l ≤ 100000000) : qW Tryz.prog 131 [.one (.sl rItm l)] (is (bytes (rawsL l))):=by
  refine qT (rs:=[2]) Tryz.func131 rfl rfl rfl teOk rfl ?_;refine qC ?_;refine qB ?_;refine qC ?_;refine qB ?_;refine qC ?_;refine qC ?_;refine qB ?_;refine qP ?_;refine qV (fun (i : Nat)=>i ≤ l.length) (fun (i : Nat)=>[(0,.one (.sl rItm l)),(3,is (bytes (rawsL (l.take i)))),(4,ii .i64 i)]) (fun (i : Nat)=>[]) 0 (fun (i : Nat)=>l.length - i) 0 (Nat.zero_le _) (qQ ⟨rfl,rfl,rfl⟩ trivial rfl) ?_;intro i hI0;refine qC ?_;refine qC ?_;refine qB ?_;intro l3_2
  try simp only [zds] at l3_2
  refine qK rfl (fun h8=>?_) (fun h8=>?_)
  ·try simp only [decide_eq_true_eq] at h8
   try simp only [zds] at h8
   have hil : i < l.length:=(by omega);have hm:=szI_mem l i hil;have hsn:=raws_snoc l i hil;have hsz : (bytes (rawsL (l.take i))).size = szI (l.take i):=by rw [yI,raws_len]
   refine qN ?_;refine qC ?_;refine qP ?_;refine qB ?_;refine zai (by first|omega|assumption|decide|(simp only [zds];omega)|(simp <;> omega)) ?_;refine zai (by show (bytes (rawsL (l.take i))).size + (l.getD i ((0 : Int),ByteArray.empty,([] : List Fld))).2.1.size ≤ maxLen;rw [hsz];unfold maxLen;omega) ?_;refine qB ?_;refine zai (by first|omega|assumption|decide|(simp only [zds];omega)|(simp <;> omega)) ?_;exact ⟨i + 1,by omega,by first|omega|(simp <;> omega),qQ ⟨rfl,(is_eq (by rw [hsn,xK,show bytes (ls (l.getD i ((0 : Int),ByteArray.empty,([] : List Fld))).2.1) = (l.getD i ((0 : Int),ByteArray.empty,([] : List Fld))).2.1 from xR _];rfl)),(qU (by omega))⟩ trivial rfl⟩
  ·try simp only [decide_eq_false_iff_not,Int.not_lt] at h8
   try simp only [zds] at h8
   refine qX ?_;refine qC ?_;refine qB ?_;refine qM ?_;rw [List.take_of_length_le (by omega)];rfl
def unkR (l : List (List Fld)) : List (List (Unit × Unit)):=l.map fun r=>r.map fun _=>((),())
theorem fld_unk {ok : Oks} {w : World} {cs : List Value} {f : Fld} (h : rFld.is ok w cs f) : rUnk2.is ok w cs ((),()) :=
  unks_is rUnk2 rfl (rFld.len h) (rFld.ones h)
theorem row_unk {ok : Oks} {w : World} {cs : List Value} {r : List Fld} (h : (Rd.slk 7 rFld).is ok w cs r) : (Rd.slk 7 rUnk2).is ok w cs (r.map fun _=>((),())):=by
  obtain ⟨v,e,a,cap,h1,h2,h3,h4⟩:=h;refine ⟨v,e,a,cap,by rw [List.length_map];exact h1,by rw [List.length_map];exact h2,h3,fun i hi=>?_⟩;rw [List.length_map] at hi;obtain ⟨b,off,cs,h5,h6,h7,h8,h9⟩:=h4 i hi;exact ⟨b,off,cs,h5,h6,h7,h8,fld_unk h9⟩
end Q
end Ab
end Go.Proofs.YtlbainbjlibfiaaGreatDoor
namespace Go.Proofs.YtlbainbjlibfiaaGreatDoor
open Go.RowKit
namespace Ab
set_option maxRecDepth 100000
namespace Q
theorem refApart6_c (l : List Itm) (hl : l.length ≤ 1000000) : qW Tryz.prog 132 [.one (.sl rItm l)] (.one (.sl rItm (apartL l))):=by
  refine qT (rs:=[2]) Tryz.func132 rfl rfl rfl teOk rfl ?_;refine qC ?_;refine qB ?_;refine qC ?_;refine qB ?_;refine qC ?_;refine qC ?_;refine xA 3 63 rItm rfl ?_;refine qB ?_;refine qP ?_;refine qV (fun (i : Nat)=>i ≤ l.length) (fun (i : Nat)=>[(0,.one (.sl rItm l)),(3,.one (.vec 0)),(4,ii .i64 i)]) (fun (i : Nat)=>[(0,.vec 63 rItm (apartL (l.take i)))]) 1 (fun (i : Nat)=>l.length - i) 0 (Nat.zero_le _) (qQ ⟨rfl,rfl,rfl⟩ rfl rfl) ?_;intro i hI0;refine qC ?_;refine qC ?_;refine qB ?_;intro l3_2
  try simp only [zds] at l3_2
  refine qK rfl (fun h8=>?_) (fun h8=>?_)
  ·try simp only [decide_eq_true_eq] at h8
   try simp only [zds] at h8
   have hil : i < l.length:=(by omega);have hsn:=apart_snoc l i hil;have hal:=apartK_len (l.take i) 1;rw [List.length_take] at hal;have hal : (apartL (l.take i)).length ≤ 2 * min i l.length:=hal;have e1 : ((i : Int) - 1).toNat = i - 1:=(by omega);refine qN ?_;refine qC ?_;refine qP ?_;refine qC ?_;refine qC ?_;refine qB ?_;refine zai (fun h=>trivial) ?_;refine zai (fun h=>trivial) ?_;refine zai (fun h=>⟨⟨⟨h,trivial⟩,trivial⟩,by first|omega|decide|(simp only [zds];omega)|(have h9:=of_decide_eq_true h;omega)|(simp [gq] at h;omega)⟩) ?_;refine zai (fun h=>⟨⟨⟨h,trivial⟩,⟨h,trivial⟩,trivial⟩,by first|omega|decide|(simp only [zds];omega)|(have h9:=of_decide_eq_true h;omega)|(simp [gq] at h;omega)⟩) ?_;refine zai (fun h=>⟨⟨h,trivial⟩,trivial⟩) ?_;refine zai (fun h=>⟨⟨h,trivial⟩,trivial⟩) ?_;refine zai (fun h=>⟨⟨h,trivial⟩,trivial⟩) ?_;refine zai (by exact fun h=>h) ?_;refine zai (fun h=>trivial) ?_;refine zai (fun h=>trivial) ?_;refine zai (fun h=>⟨⟨⟨h,trivial⟩,⟨h,trivial⟩,trivial⟩,by first|omega|decide|(simp only [zds];omega)|(have h9:=of_decide_eq_true h;omega)|(simp [gq] at h;omega)⟩) ?_;refine zai (fun h=>⟨⟨h,trivial⟩,trivial⟩) ?_;refine zai (fun h=>⟨⟨h,trivial⟩,trivial⟩) ?_;refine zai (fun h=>⟨⟨h,trivial⟩,trivial⟩) ?_;refine zai (by exact fun h=>h) ?_;refine qK rfl (fun h29=>?_) (fun h29=>?_)
   ·try simp only [decide_eq_true_eq,decide_eq_false_iff_not,Bool.and_eq_true,Bool.not_eq_true'] at h29
    try simp only [Int.toNat_natCast,qI,qH,qF,qG] at h29
    rw [e1] at h29;rw [if_pos ⟨⟨by omega,h29.1.2⟩,h29.2⟩] at hsn;refine qB ?_;refine zai (by exact qR (show (apartL (l.take i)).length + 1 ≤ 1000000000 by omega) (by decide)) ?_;refine qB ?_;refine zai (by first|omega|assumption|decide|(simp only [zds];omega)|(simp <;> omega)) ?_;refine zai (by exact qR (by rw [List.length_append];show (apartL (l.take i)).length + 1 + 1 ≤ 1000000000;omega) (by decide)) ?_;refine qB ?_;refine zai (by first|omega|assumption|decide|(simp only [zds];omega)|(simp <;> omega)) ?_;exact ⟨i + 1,by omega,by first|omega|(simp <;> omega),qQ ⟨rfl,rfl,(qU (by omega))⟩ (qS (by rw [hsn];(try rw [List.append_assoc]);(try exact rfl))) rfl⟩
   ·try simp only [decide_eq_true_eq,decide_eq_false_iff_not,Bool.not_eq_false',Bool.and_eq_false_iff,Int.not_lt] at h29
    try simp only [Int.toNat_natCast,qI,qH,qF,qG] at h29
    rw [e1] at h29;rw [if_neg (fun h=>h29.elim (fun g=>g.elim (fun g=>by omega) (fun g=>h.1.2 g)) (fun g=>h.2 g))] at hsn;refine qN ?_;refine qB ?_;refine zai (by first|omega|assumption|decide|(simp only [zds];omega)|(simp <;> omega)) ?_;refine zai (by exact qR (show (apartL (l.take i)).length + 1 ≤ 1000000000 by omega) (by decide)) ?_;refine qB ?_;refine zai (by first|omega|assumption|decide|(simp only [zds];omega)|(simp <;> omega)) ?_;exact ⟨i + 1,by omega,by first|omega|(simp <;> omega),qQ ⟨rfl,rfl,(qU (by omega))⟩ (qS (by rw [hsn];(try rw [List.append_assoc]);(try exact rfl))) rfl⟩
  ·try simp only [decide_eq_false_iff_not,Int.not_lt] at h8
   try simp only [zds] at h8
   refine qX ?_;refine qC ?_;refine qB ?_;refine qM ?_;rw [List.take_of_length_le (by omega)];rfl
theorem refRender6_c (l : List Itm) (hl : l.length ≤ 1000000) (hs : szI (apartL l) ≤ 100000000) : qW Tryz.prog 104 [.one (.sl rItm l)] (is (bytes (rawsL (apartL l)))):=by
  refine qT (rs:=[2]) Tryz.func104 rfl rfl rfl teOk rfl ?_;refine qC ?_;refine qB ?_;refine qC ?_;refine qB ?_;refine Or.inl ?_;refine zai (rfl) ?_;refine zei _ (zai (refApart6_c l hl) ?_);refine Or.inl ?_;refine zai (rfl) ?_;refine zei _ (zai (refJoin5_c (apartL l) hs) ?_);refine qM ?_;rfl
def plainI (x : Itm) : Bool:=decide ((chkR x.2.2).2 = 0) && decide (x.1 = 3) && decide (bytes (foldL x.2.2) = x.2.1)
abbrev rItmU : Rd (Int × ByteArray × List (Unit × Unit)):=.st (.int .i64) (.st .str (.slk 7 rUnk2))
def unkI (l : List Itm) : List (Int × ByteArray × List (Unit × Unit)):=l.map fun x=>(x.1,x.2.1,x.2.2.map fun _=>((),()))
end Q
end Ab
end Go.Proofs.YtlbainbjlibfiaaGreatDoor
