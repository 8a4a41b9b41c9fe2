/-
  The texts of this proof, joined: abstract values, the library, the functions of the program and what they compute (part 6). No condition.
-/
import Derived.Test.YtojipboabgebfaaGreatDoorProg
import Derived.WalkKit
import Derived.LaidEql
import Derived.Stop.Asserts
import Derived.RowKitTokens
import Derived.WalkSpells
import Derived.Shelf.Vars
import Derived.KernelRfl
import Derived.LaidHandle
import Derived.LaidSub
import Derived.LaidMore
import Derived.Lay
import Derived.FnData
import Derived.Test.YtojipboabgebfaaGreatDoorK1
import Derived.Test.YtojipboabgebfaaGreatDoorK2
import Derived.Test.YtojipboabgebfaaGreatDoorK3
import Derived.Test.YtojipboabgebfaaGreatDoorK4
import Derived.Test.YtojipboabgebfaaGreatDoorK5
namespace Go.Proofs.YtojipboabgebfaaGreatDoor
open Go.RowKit
namespace Ab
namespace Q
abbrev Fate:=List Fld × Bool
def keepM (M : List (Int × Fate)) (x : Edt) : List (Int × Fate) :=
  if x.1 = 2 then setM M x.2.1 ([],true) else if x.1 = 1 then (if (getM M x.2.1).isSome then M else setM M x.2.1 (x.2.2,false)) else M
def keepN (n : Int) (x : Edt) : Int:=if x.1 = 3 then n - 1 else n
def fatF (o : Option Fate) (f : List Fld) : List Fld:=match o with
  | some (g,false)=>g
  | _=>f
def keepY (n : Int) (M : List (Int × Fate)) (x : Edt) : Edt:=if x.1 = 3 then (x.1,x.2.1,fatF (getM M (n - 1)) x.2.2) else x
def keepB (f n : Int) (M : List (Int × Fate)) (x : Edt) : Bool:=if x.1 = 1 then !(getM M x.2.1).isSome && !(decide (f ≤ x.2.1) && decide (x.2.1 < n)) else true
def fateM : List Edt → List (Int × Fate)
  | []=>[]
  | x :: r=>keepM (fateM r) x
def insC : List Edt → Nat
  | []=>0
  | x :: r=>(if x.1 = 3 then 1 else 0) + insC r
def upN (n : Int) (x : Edt) : Int:=if x.1 = 3 then n + 1 else n
theorem upN_le (n : Int) (x : Edt) : n ≤ upN n x:=by unfold upN;split <;> omega
theorem upN_not {n : Int} {x : Edt} (h : x.1 ≠ 3) : upN n x = n:=if_neg h
theorem upN_ins {n : Int} {x : Edt} (h : x.1 = 3) : upN n x = n + 1:=if_pos h
def sqL (f : Int) : Int → List Edt → List Edt
  | _,[]=>[]
  | n,x :: r=>(if keepB f (upN n x) (fateM r) x then [keepY (upN n x) (fateM r) x] else []) ++ sqL f (upN n x) r
theorem insC_le : ∀ l : List Edt,insC l ≤ l.length
  | []=>Nat.le_refl _
  | x :: r=>by
    have:=insC_le r;simp only [insC,List.length_cons];split <;> omega
theorem insC_snoc {l : List Edt} {i : Nat} (h : i < l.length) : insC (l.take (i + 1)) = insC (l.take i) + (if (l.getD i ((0 : Int),(0 : Int),([] : List Fld))).1 = 3 then 1 else 0):=by
  rw [← xD ((0 : Int),(0 : Int),([] : List Fld)) h];have app : ∀ a b : List Edt,insC (a ++ b) = insC a + insC b:=by
    intro a b
    induction a with
    | nil=>simp [insC]
    | cons x r ih=>simp only [List.cons_append,insC,ih];omega
  rw [app];rfl
theorem sqL_le (f : Int) : ∀ (n : Int) (l : List Edt),(sqL f n l).length ≤ l.length
  | _,[]=>Nat.le_refl _
  | n,x :: r=>by
    have:=sqL_le f (upN n x) r;rw [sqL,List.length_append,List.length_cons];have h2 : ∀ (b : Bool) (y : Edt),(if b then [y] else []).length ≤ 1:=by intro b y;cases b <;> simp
    have h3:=h2 (keepB f (upN n x) (fateM r) x) (keepY (upN n x) (fateM r) x);omega
theorem getM_set {α : Type} {n m : Int} {y : α} : ∀ {M : List (Int × α)},getM (setM M n y) m = if n = m then some y else getM M m
  | []=>by simp only [setM,getM]
  | e :: r=>by
    unfold setM
    by_cases h : e.1 = n
    · rw [if_pos h];simp only [getM]
      by_cases h2 : n = m
      · rw [if_pos h2,if_pos h2]
      · rw [if_neg h2,if_neg h2,if_neg (by rw [h];exact h2)]
    · rw [if_neg h];simp only [getM,getM_set (M:=r)]
      by_cases h2 : n = m
      · rw [if_neg (show ¬ e.1 = m by rw [← h2];exact h),if_pos h2,if_pos h2]
      · rw [if_neg h2,if_neg h2]
def fate (n : Int) : List Edt → Option Fate
  | []=>none
  | x :: r=>if x.1 = 2 ∧ x.2.1 = n then some ([],true) else if x.1 = 1 ∧ x.2.1 = n then (match fate n r with
    | some g=>some g
    | none=>some (x.2.2,false)) else fate n r
theorem fateM_get (n : Int) : ∀ l : List Edt,getM (fateM l) n = fate n l
  | []=>rfl
  | x :: r=>by
    have ih:=fateM_get n r;show getM (keepM (fateM r) x) n = _;unfold keepM fate
    by_cases h2 : x.1 = 2
    · rw [if_pos h2,getM_set]
      by_cases hn : x.2.1 = n
      · rw [if_pos hn,if_pos (show x.1 = 2 ∧ x.2.1 = n from ⟨h2,hn⟩)]
      · rw [if_neg hn,if_neg (show ¬ (x.1 = 2 ∧ x.2.1 = n) from fun h=>hn h.2),if_neg (show ¬ (x.1 = 1 ∧ x.2.1 = n) from fun h=>hn h.2),ih]
    · rw [if_neg h2,if_neg (show ¬ (x.1 = 2 ∧ x.2.1 = n) from fun h=>h2 h.1)]
      by_cases h1 : x.1 = 1
      · rw [if_pos h1]
        by_cases hn : x.2.1 = n
        · rw [if_pos (show x.1 = 1 ∧ x.2.1 = n from ⟨h1,hn⟩),← ih];cases hg : getM (fateM r) n with
          | some g =>
            rw [if_pos (by rw [hn,hg];rfl)];exact hg
          | none =>
            rw [if_neg (by rw [hn,hg];decide),getM_set,if_pos hn]
        · rw [if_neg (show ¬ (x.1 = 1 ∧ x.2.1 = n) from fun h=>hn h.2)];split
          · exact ih
          · rw [getM_set,if_neg hn,ih]
      · rw [if_neg h1,if_neg (show ¬ (x.1 = 1 ∧ x.2.1 = n) from fun h=>h1 h.1),ih]
theorem fatF_gone {o : Option Fate} {f : List Fld} (h : o = none ∨ ∃ g,o = some (g,true)) : fatF o f = f:=by
  rcases h with rfl|⟨g,rfl⟩ <;> rfl
def sqz (next : Int) (l : List Edt) : List Edt:=if 1 ≤ next ∧ next ≤ 2147483648 then sqL next next l else []
theorem sqz_yes {next : Int} {l : List Edt} (h : 1 ≤ next ∧ next ≤ 2147483648) : sqz next l = sqL next next l:=if_pos h
theorem sqz_no {next : Int} {l : List Edt} (h : next < 1 ∨ 2147483648 < next) : sqz next l = []:=if_neg (by omega)
theorem sqz_le (next : Int) (l : List Edt) : (sqz next l).length ≤ l.length:=by
  unfold sqz;split
  · exact sqL_le _ _ _
  · exact Nat.zero_le _
theorem sq_back (f : Int) (l : List Edt) {i : Nat} (h : i < l.length) :
    fateM (l.drop (l.length - (i + 1))) = keepM (fateM (l.drop (l.length - i))) (l.getD (l.length - 1 - i) ((0 : Int),(0 : Int),([] : List Fld))) ∧
    f + (insC (l.take (l.length - (i + 1))) : Int) = keepN (f + (insC (l.take (l.length - i)) : Int)) (l.getD (l.length - 1 - i) ((0 : Int),(0 : Int),([] : List Fld))) ∧
    (sqL f (f + (insC (l.take (l.length - (i + 1))) : Int)) (l.drop (l.length - (i + 1)))).reverse = (sqL f (f + (insC (l.take (l.length - i)) : Int)) (l.drop (l.length - i))).reverse ++
      (if keepB f (f + (insC (l.take (l.length - i)) : Int)) (fateM (l.drop (l.length - i))) (l.getD (l.length - 1 - i) ((0 : Int),(0 : Int),([] : List Fld))) = true then [keepY (f + (insC (l.take (l.length - i)) : Int)) (fateM (l.drop (l.length - i))) (l.getD (l.length - 1 - i) ((0 : Int),(0 : Int),([] : List Fld)))] else []):=by
  obtain ⟨p,hp⟩ : ∃ p,p = l.length - 1 - i:=⟨_,rfl⟩;have hpl : p < l.length:=by omega
  rw [show l.length - (i + 1) = p by omega,show l.length - i = p + 1 by omega,← hp];have hd : l.drop p = l.getD p ((0 : Int),(0 : Int),([] : List Fld)) :: l.drop (p + 1):=by rw [List.drop_eq_getElem_cons hpl,getD_get hpl ((0 : Int),(0 : Int),([] : List Fld))]
  have hs:=insC_snoc hpl;have hu : f + (insC (l.take (p + 1)) : Int) = upN (f + (insC (l.take p) : Int)) (l.getD p ((0 : Int),(0 : Int),([] : List Fld))):=by
    rw [hs];unfold upN;split <;> omega
  refine ⟨by rw [hd];rfl,?_,?_⟩
  · rw [hs];unfold keepN;split <;> omega
  · rw [hd,sqL,← hu,List.reverse_append];split <;> rfl
def gvL : Int → List Edt → List Int
  | _,[]=>[]
  | n,x :: r=>(if x.1 = 3 then n else 0) :: gvL (upN n x) r
def sqD (f : Int) : Int → List Edt → Nat → List Edt
  | _,_,0=>[]
  | _,[],_ + 1=>[]
  | n,x :: r,i + 1=>(if keepB f (upN n x) (fateM r) x then [keepY (upN n x) (fateM r) x] else []) ++ sqD f (upN n x) r i
def drp (l : List Edt) (gv : List Int) (i : Nat) (id : Int) : Nat → Bool
  | 0=>false
  | k + 1=>drp l gv i id k || (decide ((i : Int) < (k : Int)) && (decide ((l.getD k ((0 : Int),(0 : Int),([] : List Fld))).1 = 1) || decide ((l.getD k ((0 : Int),(0 : Int),([] : List Fld))).1 = 2)) && decide ((l.getD k ((0 : Int),(0 : Int),([] : List Fld))).2.1 = id)) || (decide ((k : Int) < (i : Int)) && decide ((l.getD k ((0 : Int),(0 : Int),([] : List Fld))).1 = 3) && decide (gv.getD k 0 = id))
def gnS (g : Int) (s : Bool × List Fld) (y : Edt) : Bool × List Fld:=(s.1 || (decide (y.2.1 = g) && decide (y.1 = 2)),if y.2.1 = g ∧ y.1 = 1 then y.2.2 else s.2)
def gnE (g : Int) (f : List Fld) (r : List Edt) : Bool × List Fld:=r.foldl (gnS g) (false,f)
def isGone : Option Fate → Bool
  | some (_,true)=>true
  | _=>false
theorem fate_cons (n : Int) (x : Edt) (r : List Edt) : fate n (x :: r) = if x.1 = 2 ∧ x.2.1 = n then some ([],true) else if x.1 = 1 ∧ x.2.1 = n then (match fate n r with
    | some g=>some g
    | none=>some (x.2.2,false)) else fate n r:=rfl
theorem rep_keepY (n : Int) (M : List (Int × Fate)) {x : Edt} (h1 : x.1 = 1) : keepY n M x = x:=by
  unfold keepY;rw [if_neg (by omega)]
end Q
end Ab
end Go.Proofs.YtojipboabgebfaaGreatDoor
namespace Go.Proofs.YtojipboabgebfaaGreatDoor
open Go.RowKit
namespace Ab
set_option maxRecDepth 100000
namespace Q
def getF (L : Lst) (id : Int) : Option (List Fld):=if atE L.1 id < 0 then none else some (getL L.1 id)
theorem stz_app (a b : List Ent) : stzL (a ++ b) = stzL a ++ stzL b:=by unfold stzL;rw [List.filter_append,List.map_append]
theorem stz_cons (e : Ent) (b : List Ent) : stzL (e :: b) = if live e then stzOf e :: stzL b else stzL b:=by
  unfold stzL;rw [List.filter_cons];split <;> rfl
theorem stz_num {es : List Ent} {x : Stz} (h : x ∈ stzL es) : x.1 ∈ nmsL es:=by
  rw [← ids_eq];unfold stzL at h;obtain ⟨e,he,rfl⟩:=List.mem_map.1 h;exact List.mem_map_of_mem he
theorem getF_at {L : Lst} {i : Nat} {id : Int} (hi : i < L.1.length) (he : atE L.1 id = i) : getF L id = some (L.1.getD i (((0 : Int),ByteArray.empty,([] : List Fld)),(0 : Int))).1.2.2:=by
  unfold getF getL;rw [if_neg (by omega),he,Int.toNat_natCast]
theorem getF_no {L : Lst} {id : Int} (h : atE L.1 id < 0) : getF L id = none:=if_pos h
theorem getF_iff {c : Nat} {L : Lst} (h : LOk c L) (id : Int) (f : List Fld) : getF L id = some f ↔ (id,f) ∈ stzL L.1:=by
  rcases at_cases L.1 id with ⟨h1,h2⟩|⟨i,h1,h2,h3,h4,h5⟩
  · rw [getF_no (by rw [h1];decide)];refine ⟨fun e=>(by cases e),fun hm=>?_⟩;unfold stzL at hm;obtain ⟨e,he,hx⟩:=List.mem_map.1 hm;have hl:=(List.mem_filter.1 he).2;have hx1 : e.2 = id:=congrArg Prod.fst hx;exact absurd hx1 (h2 e (List.mem_filter.1 he).1 (by rw [← hx1];exact of_decide_eq_true hl))
  · rw [getF_at h1 h2];have hsp:=del_split h1;have hlv : live (L.1.getD i (((0 : Int),ByteArray.empty,([] : List Fld)),(0 : Int))) = true:=decide_eq_true (by rw [h4];exact h3);have hst : stzL L.1 = stzL (L.1.take i) ++ stzOf (L.1.getD i (((0 : Int),ByteArray.empty,([] : List Fld)),(0 : Int))) :: stzL (L.1.drop (i + 1)):=by
      conv=>lhs;rw [hsp,stz_app,stz_cons,if_pos hlv]
    have hnm : nmsL L.1 = nmsL (L.1.take i) ++ id :: nmsL (L.1.drop (i + 1)):=by
      conv=>lhs;rw [hsp,ids_app,ids_cons,h4,if_pos h3]
    have hn:=h.nd;rw [hnm] at hn;obtain ⟨n1,n2,n3⟩:=List.nodup_append.1 hn;rw [hst];refine ⟨fun e=>?_,fun hm=>?_⟩
    · refine List.mem_append_right _ (List.mem_cons.2 (.inl ?_));rw [← Option.some.inj e,← h4];rfl
    · rcases List.mem_append.1 hm with hm|hm
      · exact absurd rfl (n3 _ (stz_num hm) _ List.mem_cons_self)
      · rcases List.mem_cons.1 hm with hm|hm
        · rw [show f = _ from congrArg Prod.snd hm];rfl
        · exact absurd (stz_num hm) (List.nodup_cons.1 n2).1
theorem getF_some {L : Lst} {id : Int} (h : ¬ atE L.1 id < 0) : getF L id ≠ none:=by unfold getF;rw [if_neg h];exact fun e=>by cases e
theorem step_rep {c : Nat} {L : Lst} {e : Edt} (h : LOk c L) (hf : yQ e.2.2) (h1 : e.1 = 1) (h0 : oneN L e = 0) :
    (∀ j,getF (doL L e) j = if j = e.2.1 then some e.2.2 else getF L j) ∧ (doL L e).2 = L.2 ∧ getF L e.2.1 ≠ none ∧ (chkR e.2.2).2 = 0:=by
  have hk:=doL_ok h hf;unfold oneN at h0;rw [if_pos h1] at h0
  by_cases hat : atE L.1 e.2.1 < 0
  · rw [if_pos hat] at h0;cases h0
  · rw [if_neg hat] at h0;obtain ⟨i,hi,he,hp,hid⟩:=at_lt hat;have hd : doL L e = (xW L.1 i (xC e.2.2),L.2):=by
      unfold doL;rw [if_pos h1,if_neg hat,if_neg (by omega),he,Int.toNat_natCast]
    refine ⟨fun j=>?_,by rw [hd],getF_some hat,h0⟩;have hsp:=del_split hi;have hre : xW L.1 i (xC e.2.2) = L.1.take i ++ (xC e.2.2,e.2.1) :: L.1.drop (i + 1):=by
      unfold xW;rw [List.set_eq_take_append_cons_drop,if_pos hi,hid]
    have hst : stzL L.1 = stzL (L.1.take i) ++ stzOf (L.1.getD i (((0 : Int),ByteArray.empty,([] : List Fld)),(0 : Int))) :: stzL (L.1.drop (i + 1)):=by
      conv=>lhs;rw [hsp,stz_app,stz_cons,if_pos (show live (L.1.getD i (((0 : Int),ByteArray.empty,([] : List Fld)),(0 : Int))) = true from decide_eq_true (by rw [hid];exact hp))]
    have hst2 : stzL (doL L e).1 = stzL (L.1.take i) ++ (e.2.1,e.2.2) :: stzL (L.1.drop (i + 1)):=by
      rw [hd];show stzL (xW L.1 i (xC e.2.2)) = _;rw [hre,stz_app,stz_cons,if_pos (show live (xC e.2.2,e.2.1) = true from decide_eq_true hp)];rfl
    by_cases hj : j = e.2.1
    · rw [if_pos hj,hj,getF_iff hk,hst2];exact List.mem_append_right _ List.mem_cons_self
    · rw [if_neg hj];refine Option.ext fun f=>?_
      rw [getF_iff hk,getF_iff h,hst,hst2];simp only [List.mem_append,List.mem_cons];refine ⟨fun h=>h.imp id (Or.imp (fun e=>absurd (congrArg Prod.fst e) hj) id),fun h=>h.imp id (Or.imp (fun e=>absurd ((congrArg Prod.fst e).trans hid) hj) id)⟩
theorem step_del {c : Nat} {L : Lst} {e : Edt} (h : LOk c L) (hf : yQ e.2.2) (h1 : e.1 = 2) (h0 : oneN L e = 0) :
    (∀ j,getF (doL L e) j = if j = e.2.1 then none else getF L j) ∧ (doL L e).2.1 = L.2.1 ∧ (doL L e).2.2 = L.2.2 - 1 ∧ getF L e.2.1 ≠ none:=by
  have hk:=doL_ok h hf;unfold oneN at h0;rw [if_neg (by omega),if_pos h1] at h0
  by_cases hat : atE L.1 e.2.1 < 0
  · rw [if_pos hat] at h0;cases h0
  · obtain ⟨i,hi,he,hp,hid⟩:=at_lt hat;have hd : doL L e = (delE L.1 i,L.2.1,L.2.2 - 1):=by
      unfold doL;rw [if_neg (by omega),if_pos h1,if_neg hat,he,Int.toNat_natCast]
    refine ⟨fun j=>?_,by rw [hd],by rw [hd],getF_some hat⟩;have hsp:=del_split hi;have hst : stzL L.1 = stzL (L.1.take i) ++ stzOf (L.1.getD i (((0 : Int),ByteArray.empty,([] : List Fld)),(0 : Int))) :: stzL (L.1.drop (i + 1)):=by
      conv=>lhs;rw [hsp,stz_app,stz_cons,if_pos (show live (L.1.getD i (((0 : Int),ByteArray.empty,([] : List Fld)),(0 : Int))) = true from decide_eq_true (by rw [hid];exact hp))]
    have hst2 : stzL (doL L e).1 = stzL (L.1.take i) ++ stzL (L.1.drop (i + 1)):=by
      rw [hd];exact stz_app _ _
    have hnm : nmsL L.1 = nmsL (L.1.take i) ++ e.2.1 :: nmsL (L.1.drop (i + 1)):=by
      conv=>lhs;rw [hsp,ids_app,ids_cons,hid,if_pos hp]
    have hn:=h.nd;rw [hnm] at hn;obtain ⟨n1,n2,n3⟩:=List.nodup_append.1 hn;refine Option.ext fun f=>?_
    rw [getF_iff hk,hst2]
    by_cases hj : j = e.2.1
    · rw [if_pos hj,List.mem_append];refine ⟨fun hm=>?_,fun e=>by cases e⟩;rw [hj] at hm;rcases hm with hm|hm
      · exact absurd rfl (n3 _ (stz_num hm) _ List.mem_cons_self)
      · exact absurd (stz_num hm) (List.nodup_cons.1 n2).1
    · rw [if_neg hj,getF_iff h,hst];simp only [List.mem_append,List.mem_cons];exact ⟨fun h=>h.imp id .inr,fun h=>h.imp id fun h=>h.elim (fun e=>absurd ((congrArg Prod.fst e).trans hid) hj) id⟩
theorem step_ins {c : Nat} {L : Lst} {e : Edt} (h : LOk c L) (hf : yQ e.2.2) (h1 : e.1 ≠ 1) (h2 : e.1 ≠ 2) (h0 : oneN L e = 0) :
    (∀ j,getF (doL L e) j = if j = L.2.1 then some e.2.2 else getF L j) ∧ (doL L e).2.1 = L.2.1 + 1 ∧ (doL L e).2.2 = L.2.2 + 1 ∧ (e.2.1 = 0 ∨ getF L e.2.1 ≠ none) ∧ (chkR e.2.2).2 = 0:=by
  have hk:=doL_ok h hf;unfold oneN at h0;rw [if_neg h1,if_neg h2] at h0
  by_cases hat : atE L.1 e.2.1 < 0 ∧ e.2.1 ≠ 0
  · rw [if_pos hat] at h0;cases h0
  · rw [if_neg hat] at h0
    by_cases hc : (chkR e.2.2).2 ≠ 0
    · rw [if_pos hc] at h0;exact absurd h0 hc
    · rw [if_neg hc] at h0
      by_cases h4 : 400 ≤ L.2.2
      · rw [if_pos h4] at h0;cases h0
      · obtain ⟨i,hie⟩ : ∃ i,(atE L.1 e.2.1 + 1).toNat = i:=⟨_,rfl⟩;have hd : doL L e = (insE L.1 i (xC e.2.2,L.2.1),L.2.1 + 1,L.2.2 + 1):=by
          unfold doL;rw [if_neg h1,if_neg h2,if_neg hat,if_neg hc,if_neg h4,hie]
        refine ⟨fun j=>?_,by rw [hd],by rw [hd],?_,Classical.not_not.1 hc⟩
        · have hnx:=h.next;have hst : stzL L.1 = stzL (L.1.take i) ++ stzL (L.1.drop i):=by
            conv=>lhs;rw [← List.take_append_drop i L.1,stz_app]
          have hst2 : stzL (doL L e).1 = stzL (L.1.take i) ++ (L.2.1,e.2.2) :: stzL (L.1.drop i):=by
            rw [hd];show stzL (L.1.take i ++ (xC e.2.2,L.2.1) :: L.1.drop i) = _;rw [stz_app,stz_cons,if_pos (show live (xC e.2.2,L.2.1) = true from decide_eq_true (by show 0 < L.2.1;omega))];rfl
          by_cases hj : j = L.2.1
          · rw [if_pos hj,hj,getF_iff hk,hst2];exact List.mem_append_right _ List.mem_cons_self
          · rw [if_neg hj];refine Option.ext fun f=>?_
            rw [getF_iff hk,getF_iff h,hst,hst2];simp only [List.mem_append,List.mem_cons];exact ⟨fun h=>h.imp id fun h=>h.elim (fun e=>absurd (congrArg Prod.fst e) hj) id,fun h=>h.imp id .inr⟩
        · by_cases hz : e.2.1 = 0
          · exact .inl hz
          · exact .inr (getF_some fun hlt=>hat ⟨hlt,hz⟩)
def repA (a : List Edt) (id : Int) : Bool:=a.any fun x=>decide (x.1 = 1) && decide (x.2.1 = id)
def delA (a : List Edt) (id : Int) : Bool:=a.any fun x=>decide (x.1 = 2) && decide (x.2.1 = id)
def tchA (a : List Edt) (id : Int) : Bool:=repA a id || delA a id
def insA : List Edt → Nat
  | []=>0
  | x :: r=>(if x.1 = 3 then 1 else 0) + insA r
def clsh (a : List Edt) (x : Edt) : Bool:=if x.1 = 1 then tchA a x.2.1 else if x.1 = 2 then tchA a x.2.1 && !delA a x.2.1 else if x.1 = 3 then delA a x.2.1 else false
def reb1 (next k : Int) (a : List Edt) (x : Edt) : List Edt:=if next ≤ x.2.1 then [(x.1,x.2.1 + k,x.2.2)] else if x.1 = 2 ∧ delA a x.2.1 = true then [] else [x]
def rebB (next : Int) (a b : List Edt) : List Edt:=b.flatMap (reb1 next (insA a) a)
def takes (L : Lst) : List Edt → Prop
  | []=>True
  | x :: r=>oneN L x = 0 ∧ takes (doL L x) r
def runL (L : Lst) (s : List Edt) : Lst:=s.foldl doL L
def kindsOk (s : List Edt) : Prop:=∀ x ∈ s,x.1 = 1 ∨ x.1 = 2 ∨ x.1 = 3
theorem takes_to : ∀ (s : List Edt) (L : Lst),takes L s → ∀ j,j < s.length → oneN (plays L s j) (s.getD j ((0 : Int),(0 : Int),([] : List Fld))) = 0
  | _ :: _,_,h,0,_=>h.1
  | x :: r,L,h,j + 1,hj=>takes_to r (doL L x) h.2 j (by simpa using hj)
theorem run_plays (L : Lst) (s : List Edt) : plays L s s.length = runL L s:=by unfold plays runL;rw [List.take_length]
theorem run_ok {c : Nat} {L : Lst} : ∀ {s : List Edt},LOk c L → (∀ e ∈ s,yQ e.2.2) → LOk (c + s.length) (runL L s)
  | s,h,hf=>by rw [← run_plays];exact plays_ok h hf s.length (Nat.le_refl _)
structure Ran (L : Lst) (a : List Edt) (P : Lst) : Prop where
  next : P.2.1 = L.2.1 + (insA a : Int)
  unt : ∀ id,id < L.2.1 → tchA a id = false → getF P id = getF L id
  gone : ∀ id,id < L.2.1 → getF L id = none → getF P id = none
  del : ∀ id,id < L.2.1 → delA a id = true → getF P id = none
  keep : ∀ id,id < L.2.1 → getF L id ≠ none → delA a id = false → getF P id ≠ none
structure Sim (L P : Lst) (a : List Edt) (k : Int) (Q Y : Lst) (sk : Int) : Prop where
  old : ∀ id,id < L.2.1 → getF Y id = if tchA a id = true then getF P id else getF Q id
  mid : ∀ id,L.2.1 ≤ id → id < P.2.1 → getF Y id = getF P id
  new : ∀ id,L.2.1 ≤ id → getF Y (id + k) = getF Q id
  next : Y.2.1 = Q.2.1 + k
  mono : L.2.1 ≤ Q.2.1
  keep : ∀ id,id < L.2.1 → getF Q id ≠ none → getF L id ≠ none
  many : Y.2.2 - P.2.2 = Q.2.2 - L.2.2 + sk
theorem ix_ids {id : Int} {a b : List Ent} (h : a.map (·.2) = b.map (·.2)) : ixOf (hasId id) a = ixOf (hasId id) b:=by
  have e : hasId id = (fun n : Int=>decide (n = id)) ∘ (fun x : Ent=>x.2):=rfl;unfold ixOf;rw [e,← List.any_map,← List.any_map,← List.findIdx_map,← List.findIdx_map,h]
theorem at_ids {id : Int} {a b : List Ent} (h : a.map (·.2) = b.map (·.2)) : atE a id = atE b id:=by
  unfold atE;rw [ix_ids h]
def RelE (f n : Int) (r : List Edt) (z : Ent × Ent) : Prop :=
  z.1.2 = z.2.2 ∧ (¬ 0 < z.1.2 → z.1 = z.2) ∧ (0 < z.1.2 → (fate z.1.2 r = none → z.1 = z.2) ∧ ∀ g,fate z.1.2 r = some (g,false) → f ≤ z.1.2 → z.1.2 < n → z.2.1 = xC g)
structure SimS (f : Int) (r : List Edt) (A B : Lst) (Z : List (Ent × Ent)) : Prop where
  fst : A.1 = Z.map Prod.fst
  snd : B.1 = Z.map Prod.snd
  two : B.2 = A.2
  rel : ∀ z ∈ Z,RelE f A.2.1 r z
theorem SimS.at {f : Int} {r : List Edt} {A B : Lst} {Z : List (Ent × Ent)} (S : SimS f r A B Z) (id : Int) : atE B.1 id = atE A.1 id:=by
  apply at_ids;rw [S.fst,S.snd,List.map_map,List.map_map];apply List.map_congr_left;intro z hz;exact (S.rel z hz).1.symm
theorem SimS.start (r : List Edt) (L : Lst) (h : ∀ e ∈ L.1,e.2 < L.2.1) : SimS L.2.1 r L L (L.1.map fun e=>(e,e)):=by
  refine ⟨?_,?_,rfl,?_⟩
  · rw [List.map_map];exact (List.map_id _).symm
  · rw [List.map_map];exact (List.map_id _).symm
  · intro z hz;obtain ⟨e,he,rfl⟩:=List.mem_map.1 hz;exact ⟨rfl,fun _=>rfl,fun _=>⟨fun _=>rfl,fun g _ h1 _=>by have h1 : L.2.1 ≤ e.2:=h1;have:=h e he;omega⟩⟩
theorem SimS.fin {f : Int} {A B : Lst} {Z : List (Ent × Ent)} (S : SimS f [] A B Z) : B = A:=by
  have h1 : B.1 = A.1:=by
    rw [S.fst,S.snd];apply List.map_congr_left;intro z hz;obtain ⟨_,h2,h3⟩:=S.rel z hz
    by_cases hp : 0 < z.1.2
    · exact ((h3 hp).1 rfl).symm
    · exact (h2 hp).symm
  obtain ⟨b1,b2⟩:=B;obtain ⟨a1,a2⟩:=A;have h2 : b2 = a2:=S.two;have h1 : b1 = a1:=h1;rw [h1,h2]
theorem pair_split {Z : List (Ent × Ent)} {i : Nat} (h : i < Z.length) : ∃ z,Z = Z.take i ++ z :: Z.drop (i + 1) ∧ (Z.map Prod.fst).getD i (((0 : Int),ByteArray.empty,([] : List Fld)),(0 : Int)) = z.1 ∧ (Z.map Prod.snd).getD i (((0 : Int),ByteArray.empty,([] : List Fld)),(0 : Int)) = z.2:=by
  refine ⟨Z[i],?_,?_,?_⟩
  · conv=>lhs;rw [← List.take_append_drop i Z,List.drop_eq_getElem_cons h]
  · rw [List.getD_eq_getElem?_getD,List.getElem?_map,List.getElem?_eq_getElem h];rfl
  · rw [List.getD_eq_getElem?_getD,List.getElem?_map,List.getElem?_eq_getElem h];rfl
theorem others {c : Nat} {A : Lst} (hA : LOk c A) {i : Nat} (hi : i < A.1.length) (hp : 0 < (A.1.getD i (((0 : Int),ByteArray.empty,([] : List Fld)),(0 : Int))).2) : ∀ e ∈ A.1.take i ++ A.1.drop (i + 1),e.2 ≠ (A.1.getD i (((0 : Int),ByteArray.empty,([] : List Fld)),(0 : Int))).2:=by
  have hsp:=del_split hi;have hnm : nmsL A.1 = nmsL (A.1.take i) ++ (A.1.getD i (((0 : Int),ByteArray.empty,([] : List Fld)),(0 : Int))).2 :: nmsL (A.1.drop (i + 1)):=by
    conv=>lhs;rw [hsp,ids_app,ids_cons,if_pos hp]
  have hn:=hA.nd;rw [hnm] at hn;obtain ⟨n1,n2,n3⟩:=List.nodup_append.1 hn;have mem : ∀ {es : List Ent} {e : Ent},e ∈ es → 0 < e.2 → e.2 ∈ nmsL es:=by
    intro es e he h0;unfold nmsL;exact List.mem_filter.2 ⟨List.mem_map_of_mem he,decide_eq_true h0⟩
  intro e he heq;rcases List.mem_append.1 he with he|he
  · exact n3 _ (mem he (by rw [heq];exact hp)) _ List.mem_cons_self heq
  · exact (List.nodup_cons.1 n2).1 (by rw [← heq];exact mem he (by rw [heq];exact hp))
theorem rel_other {f n : Int} {x : Edt} {r : List Edt} {z : Ent × Ent} (h : RelE f n (x :: r) z) (hx : z.1.2 = x.2.1 → x.1 ≠ 1 ∧ x.1 ≠ 2) : RelE f n r z:=by
  obtain ⟨h1,h2,h3⟩:=h;refine ⟨h1,h2,fun hp=>?_⟩;have e : fate z.1.2 (x :: r) = fate z.1.2 r:=by
    rw [fate_cons,if_neg (fun h=>(hx h.2.symm).2 h.1),if_neg (fun h=>(hx h.2.symm).1 h.1)]
  rw [← e];exact h3 hp
theorem rel_next {f n : Int} {r : List Edt} {z : Ent × Ent} (h : RelE f n r z) (hx : z.1.2 < n) : RelE f (n + 1) r z :=
  ⟨h.1,h.2.1,fun hp=>⟨(h.2.2 hp).1,fun g hg h1 _=>(h.2.2 hp).2 g hg h1 hx⟩⟩
theorem fate_good {n : Int} {g : List Fld} : ∀ {l : List Edt},(∀ e ∈ l,xS e = 0) → fate n l = some (g,false) → (chkR g).2 = 0
  | [],_,h=>by cases h
  | x :: r,hf,h=>by
    have ih:=fate_good (n:=n) (g:=g) (l:=r) (fun e he=>hf e (by simp [he]));rw [fate_cons] at h;split at h
    · cases h
    · split at h
      · rename_i h2 h1;cases hr : fate n r with
        | none =>
          rw [hr] at h;cases h;have:=hf x (by simp);unfold xS at this;rw [if_neg (by omega),if_pos (.inl h1.1)] at this;exact this
        | some y =>
          rw [hr] at h;cases h;exact ih hr
      · exact ih h
theorem runL_cons (L : Lst) (x : Edt) (r : List Edt) : runL L (x :: r) = runL (doL L x) r:=rfl
theorem runL_app (L : Lst) (a b : List Edt) : runL L (a ++ b) = runL (runL L a) b:=by unfold runL;rw [List.foldl_append]
theorem takes_app : ∀ (L : Lst) (a b : List Edt),takes L (a ++ b) ↔ takes L a ∧ takes (runL L a) b
  | _,[],_=>by simp [takes,runL]
  | L,x :: a,b=>by
    simp only [List.cons_append,takes,takes_app (doL L x) a b,and_assoc];exact Iff.rfl
theorem sim_one {c : Nat} {f : Int} {x : Edt} {r : List Edt} {A B : Lst} {Z : List (Ent × Ent)} (hA : LOk c A) (hfn : f ≤ A.2.1) (S : SimS f (x :: r) A B Z) (hx : oneN A x = 0) (hg : ∀ e ∈ x :: r,xS e = 0) :
    (keepB f (upN A.2.1 x) (fateM r) x = true ∧ oneN B (keepY (upN A.2.1 x) (fateM r) x) = 0 ∧ ∃ Z',SimS f r (doL A x) (doL B (keepY (upN A.2.1 x) (fateM r) x)) Z') ∨
    (keepB f (upN A.2.1 x) (fateM r) x = false ∧ ∃ Z',SimS f r (doL A x) B Z'):=by
  have hxg:=hg x (by simp);have hat:=S.at
  by_cases h1 : x.1 = 1
  · have hN : oneN A x = if atE A.1 x.2.1 < 0 then 7 else (chkR x.2.2).2:=by unfold oneN;rw [if_pos h1]
    rw [hN] at hx
    by_cases hneg : atE A.1 x.2.1 < 0
    · rw [if_pos hneg] at hx;cases hx
    rw [if_neg hneg] at hx;obtain ⟨i,hi,hie,hp,hid⟩:=at_lt hneg;have hAd : doL A x = (xW A.1 i (xC x.2.2),A.2):=by
      unfold doL;rw [if_pos h1,if_neg hneg,if_neg (by rw [hx];decide),hie,Int.toNat_natCast]
    have hiZ : i < Z.length:=by rw [S.fst,List.length_map] at hi;exact hi
    obtain ⟨z,hz,hz1,hz2⟩:=pair_split hiZ;have hzi : z.1.2 = x.2.1:=by rw [← hz1,← S.fst];exact hid
    have hoth:=others hA hi (by rw [hid];exact hp);have hoZ : ∀ y ∈ Z.take i ++ Z.drop (i + 1),RelE f A.2.1 r y:=by
      intro y hy;have hym : y ∈ Z:=by rw [hz];rcases List.mem_append.1 hy with h|h;exact List.mem_append_left _ h;exact List.mem_append_right _ (List.mem_cons_of_mem _ h)
      refine rel_other (S.rel y hym) (fun e=>absurd e ?_);have:=hoth y.1 (by rw [S.fst,← List.map_take,← List.map_drop,← List.map_append];exact List.mem_map_of_mem hy);rw [hid] at this;exact this
    have hrz:=S.rel z (by rw [hz];exact List.mem_append_right _ List.mem_cons_self);have hA1 : xW A.1 i (xC x.2.2) = A.1.take i ++ (xC x.2.2,x.2.1) :: A.1.drop (i + 1):=by
      unfold xW;rw [List.set_eq_take_append_cons_drop,if_pos hi,hid]
    have hup : upN A.2.1 x = A.2.1:=upN_not (by omega);rw [hup];have hky : keepY A.2.1 (fateM r) x = x:=rep_keepY _ _ h1;rw [hky];have hzx : fate z.1.2 (x :: r) = match fate z.1.2 r with|some g=>some g|none=>some (x.2.2,false):=by
      rw [fate_cons,if_neg (by omega),if_pos ⟨h1,hzi.symm⟩]
      try (cases fate z.1.2 r <;> rfl)
    cases hb : keepB f A.2.1 (fateM r) x with
    | true =>
      left
      have hB1 : i < B.1.length:=by rw [S.snd,List.length_map];exact hiZ
      have hBn : ¬ atE B.1 x.2.1 < 0:=by rw [hat];exact hneg
      have hBid : (B.1.getD i (((0 : Int),ByteArray.empty,([] : List Fld)),(0 : Int))).2 = x.2.1:=by rw [S.snd,hz2,← hrz.1];exact hzi
      have hBd : doL B x = (xW B.1 i (xC x.2.2),B.2):=by
        unfold doL;rw [if_pos h1,if_neg hBn,if_neg (by rw [hx];decide),hat,hie,Int.toNat_natCast]
      refine ⟨rfl,by unfold oneN;rw [if_pos h1,if_neg hBn];exact hx,Z.take i ++ ((xC x.2.2,x.2.1),(xC x.2.2,x.2.1)) :: Z.drop (i + 1),?_⟩;have hB2 : xW B.1 i (xC x.2.2) = B.1.take i ++ (xC x.2.2,x.2.1) :: B.1.drop (i + 1):=by
        unfold xW;rw [List.set_eq_take_append_cons_drop,if_pos hB1,hBid]
      refine ⟨?_,?_,?_,?_⟩
      · rw [hAd];show xW A.1 i _ = _;rw [hA1,S.fst,List.map_append,List.map_cons,List.map_take,List.map_drop]
      · rw [hBd];show xW B.1 i _ = _;rw [hB2,S.snd,List.map_append,List.map_cons,List.map_take,List.map_drop]
      · rw [hAd,hBd];exact S.two
      · rw [hAd];intro y hy;rcases List.mem_append.1 hy with h|h
        · exact hoZ y (List.mem_append_left _ h)
        · rcases List.mem_cons.1 h with rfl|h
          · refine ⟨rfl,fun _=>rfl,fun _=>⟨fun _=>rfl,fun g hgf h2 h3=>?_⟩⟩;have hgf : fate x.2.1 r = some (g,false):=hgf;unfold keepB at hb;rw [if_pos h1,fateM_get,hgf] at hb;cases hb
          · exact hoZ y (List.mem_append_right _ h)
    | false =>
      right
      refine ⟨rfl,Z.take i ++ ((xC x.2.2,x.2.1),z.2) :: Z.drop (i + 1),?_,?_,?_,?_⟩
      · rw [hAd];show xW A.1 i _ = _;rw [hA1,S.fst,List.map_append,List.map_cons,List.map_take,List.map_drop]
      · rw [S.snd,List.map_append,List.map_cons]
        conv=>lhs;rw [hz,List.map_append,List.map_cons]
      · rw [hAd];exact S.two
      · rw [hAd];intro y hy;rcases List.mem_append.1 hy with h|h
        · exact hoZ y (List.mem_append_left _ h)
        · rcases List.mem_cons.1 h with rfl|h
          · have hz22 : z.2.2 = x.2.1:=by rw [← hrz.1];exact hzi
            refine ⟨hz22.symm,fun hn=>absurd hp hn,fun _=>⟨fun hn=>?_,fun g hgf h2 h3=>?_⟩⟩
            · have hn : fate x.2.1 r = none:=hn;unfold keepB at hb;rw [if_pos h1,fateM_get,hn] at hb;have hb2 : f ≤ x.2.1 ∧ x.2.1 < A.2.1:=by simpa using hb
              have:=(hrz.2.2 (by rw [hzi];exact hp)).2 x.2.2 (by rw [hzx,hzi,hn]) (by rw [hzi];exact hb2.1) (by rw [hzi];exact hb2.2);show (xC x.2.2,x.2.1) = z.2;rw [← this,← hz22]
            · have hgf : fate x.2.1 r = some (g,false):=hgf;exact (hrz.2.2 (by rw [hzi];exact hp)).2 g (by rw [hzx,hzi,hgf]) (by rw [hzi];exact h2) (by rw [hzi];exact h3)
          · exact hoZ y (List.mem_append_right _ h)
  · by_cases h2 : x.1 = 2
    · left
      have hN : oneN A x = if atE A.1 x.2.1 < 0 then 7 else 0:=by unfold oneN;rw [if_neg h1,if_pos h2]
      rw [hN] at hx
      by_cases hneg : atE A.1 x.2.1 < 0
      · rw [if_pos hneg] at hx;cases hx
      obtain ⟨i,hi,hie,hp,hid⟩:=at_lt hneg;have hky : keepY (upN A.2.1 x) (fateM r) x = x:=by unfold keepY;rw [if_neg (by omega)]
      rw [hky];have hBn : ¬ atE B.1 x.2.1 < 0:=by rw [hat];exact hneg
      have hAd : doL A x = (delE A.1 i,A.2.1,A.2.2 - 1):=by
        unfold doL;rw [if_neg h1,if_pos h2,if_neg hneg,hie,Int.toNat_natCast]
      have hBd : doL B x = (delE B.1 i,B.2.1,B.2.2 - 1):=by
        unfold doL;rw [if_neg h1,if_pos h2,if_neg hBn,hat,hie,Int.toNat_natCast]
      have hoth:=others hA hi (by rw [hid];exact hp);refine ⟨by unfold keepB;rw [if_neg h1],by unfold oneN;rw [if_neg h1,if_pos h2,if_neg hBn],Z.take i ++ Z.drop (i + 1),?_,?_,?_,?_⟩
      · rw [hAd];show delE A.1 i = _;unfold delE;rw [S.fst,List.map_append,List.map_take,List.map_drop]
      · rw [hBd];show delE B.1 i = _;unfold delE;rw [S.snd,List.map_append,List.map_take,List.map_drop]
      · rw [hAd,hBd];show (B.2.1,B.2.2 - 1) = (A.2.1,A.2.2 - 1);rw [S.two]
      · rw [hAd];intro y hy;have hym : y ∈ Z:=by rcases List.mem_append.1 hy with h|h;exact List.mem_of_mem_take h;exact List.mem_of_mem_drop h
        refine rel_other (S.rel y hym) (fun e=>absurd e ?_);have:=hoth y.1 (by rw [S.fst,← List.map_take,← List.map_drop,← List.map_append];exact List.mem_map_of_mem hy);rw [hid] at this;exact this
    · left
      have h3 : x.1 = 3:=by
        unfold xS at hxg;rw [if_neg h2] at hxg
        by_cases h : x.1 = 1 ∨ x.1 = 3
        · exact h.elim (fun h=>absurd h h1) id
        · rw [if_neg h] at hxg;cases hxg
      have hN : oneN A x = if atE A.1 x.2.1 < 0 ∧ x.2.1 ≠ 0 then 7 else if (chkR x.2.2).2 ≠ 0 then (chkR x.2.2).2 else if 400 ≤ A.2.2 then 11 else 0:=by unfold oneN;rw [if_neg h1,if_neg h2]
      rw [hN] at hx
      by_cases hneg : atE A.1 x.2.1 < 0 ∧ x.2.1 ≠ 0
      · rw [if_pos hneg] at hx;cases hx
      rw [if_neg hneg] at hx
      by_cases hc : (chkR x.2.2).2 ≠ 0
      · rw [if_pos hc] at hx;exact absurd hx hc
      rw [if_neg hc] at hx
      by_cases h4 : 400 ≤ A.2.2
      · rw [if_pos h4] at hx;cases hx
      have hup : upN A.2.1 x = A.2.1 + 1:=upN_ins h3;rw [hup];obtain ⟨f',hf'⟩ : ∃ f',f' = fatF (fate A.2.1 r) x.2.2:=⟨_,rfl⟩;have hky : keepY (A.2.1 + 1) (fateM r) x = (x.1,x.2.1,f'):=by unfold keepY;rw [if_pos h3,fateM_get,show A.2.1 + 1 - 1 = A.2.1 by omega,hf']
      rw [hky];have hcf : (chkR f').2 = 0:=by
        rw [hf'];cases hr : fate A.2.1 r with
        | none=>exact Classical.not_not.1 hc
        | some g =>
          obtain ⟨g,b⟩:=g;cases b with
          | true=>exact Classical.not_not.1 hc
          | false=>exact fate_good (fun e he=>hg e (by simp [he])) hr
      have hBneg : ¬ (atE B.1 x.2.1 < 0 ∧ x.2.1 ≠ 0):=by rw [hat];exact hneg
      have hB4 : ¬ 400 ≤ B.2.2:=by rw [S.two];exact h4
      obtain ⟨j,hj⟩ : ∃ j,(atE A.1 x.2.1 + 1).toNat = j:=⟨_,rfl⟩;have hAd : doL A x = (insE A.1 j (xC x.2.2,A.2.1),A.2.1 + 1,A.2.2 + 1):=by
        unfold doL;rw [if_neg h1,if_neg h2,if_neg hneg,if_neg hc,if_neg h4,hj]
      have hBd : doL B (x.1,x.2.1,f') = (insE B.1 j (xC f',B.2.1),B.2.1 + 1,B.2.2 + 1):=by
        unfold doL;simp only;rw [if_neg h1,if_neg h2,if_neg hBneg,if_neg (by rw [hcf];decide),if_neg hB4,hat,hj]
      have hB21 : B.2.1 = A.2.1:=by rw [S.two]
      refine ⟨by unfold keepB;rw [if_neg h1],?_,Z.take j ++ ((xC x.2.2,A.2.1),(xC f',A.2.1)) :: Z.drop j,?_,?_,?_,?_⟩
      · unfold oneN;simp only;rw [if_neg h1,if_neg h2,if_neg hBneg,if_neg (by rw [hcf];decide),if_neg hB4]
      · rw [hAd];show insE A.1 j _ = _;unfold insE;rw [S.fst,List.map_append,List.map_cons,List.map_take,List.map_drop]
      · rw [hBd];show insE B.1 j _ = _;unfold insE;rw [S.snd,hB21,List.map_append,List.map_cons,List.map_take,List.map_drop]
      · rw [hAd,hBd];show (B.2.1 + 1,B.2.2 + 1) = (A.2.1 + 1,A.2.2 + 1);rw [S.two]
      · rw [hAd];intro y hy;have old : y ∈ Z → RelE f (A.2.1 + 1) r y:=fun hym=>by
          refine rel_next (rel_other (S.rel y hym) (fun _=>⟨h1,h2⟩)) ?_;exact (hA.ids y.1 (by rw [S.fst];exact List.mem_map_of_mem hym)).2
        rcases List.mem_append.1 hy with h|h
        · exact old (List.mem_of_mem_take h)
        · rcases List.mem_cons.1 h with rfl|h
          · refine ⟨rfl,fun hn=>absurd hA.next.1 (by have : ¬ 0 < A.2.1:=hn;omega),fun _=>⟨fun hn=>?_,fun g hgf _ _=>?_⟩⟩
            · have hn : fate A.2.1 r = none:=hn;show (xC x.2.2,A.2.1) = (xC f',A.2.1);rw [hf',hn];rfl
            · have hgf : fate A.2.1 r = some (g,false):=hgf;show xC f' = xC g;rw [hf',hgf];rfl
          · exact old (List.mem_of_mem_drop h)
theorem sim_run {f : Int} : ∀ (r : List Edt) {c : Nat} {A B : Lst} {Z : List (Ent × Ent)},LOk c A → f ≤ A.2.1 → SimS f r A B Z → takes A r → (∀ e ∈ r,xS e = 0 ∧ yQ e.2.2) → takes B (sqL f A.2.1 r) ∧ runL B (sqL f A.2.1 r) = runL A r
  | [],_,A,B,Z,_,_,S,_,_=>⟨trivial,S.fin⟩
  | x :: r,c,A,B,Z,hA,hfn,S,ht,hg=>by
    have hA':=doL_ok hA (hg x (by simp)).2;have hn : (doL A x).2.1 = upN A.2.1 x:=by
      by_cases h3 : x.1 = 3
      · rw [(step_ins hA (hg x (by simp)).2 (by omega) (by omega) ht.1).2.1,upN_ins h3]
      · rw [upN_not h3]
        by_cases h1 : x.1 = 1
        · rw [(step_rep hA (hg x (by simp)).2 h1 ht.1).2.1]
        · by_cases h2 : x.1 = 2
          · exact (step_del hA (hg x (by simp)).2 h2 ht.1).2.1
          · exfalso
            have:=(hg x (by simp)).1;unfold xS at this;rw [if_neg h2,if_neg (by omega)] at this;cases this
    have hfn' : f ≤ (doL A x).2.1:=by rw [hn];have:=upN_le A.2.1 x;omega
    have ih:=fun {B : Lst} {Z' : List (Ent × Ent)} (S' : SimS f r (doL A x) B Z')=>sim_run r hA' hfn' S' ht.2 (fun e he=>hg e (by simp [he]))
    rw [sqL,runL_cons];rcases sim_one hA hfn S ht.1 (fun e he=>(hg e he).1) with ⟨hb,h0,Z',S'⟩|⟨hb,Z',S'⟩
    · rw [hb,if_pos rfl];obtain ⟨i1,i2⟩:=ih S';rw [hn] at i1 i2;exact ⟨⟨h0,i1⟩,i2⟩
    · rw [hb,if_neg (by decide)];obtain ⟨i1,i2⟩:=ih S';rw [hn] at i1 i2;exact ⟨i1,i2⟩
theorem good_fate {f : Int} : ∀ {n : Int} {l : List Edt},(∀ e ∈ l,xS e = 0) → ∀ e ∈ sqL f n l,xS e = 0
  | _,[],_,e,he=>by cases he
  | n,x :: r,hf,e,he=>by
    have hr : ∀ e ∈ r,xS e = 0:=fun e he=>hf e (by simp [he])
    rw [sqL] at he;rcases List.mem_append.1 he with h|h
    · split at h
      · rw [List.mem_singleton.1 h]
        by_cases h3 : x.1 = 3
        · unfold keepY;rw [if_pos h3,fateM_get];have hx:=hf x (by simp);unfold xS at hx ⊢;simp only;rw [if_neg (by omega),if_pos (.inr h3)] at hx ⊢;cases hr2 : fate (upN n x - 1) r with
          | none=>exact hx
          | some g =>
            obtain ⟨g,b⟩:=g;cases b with
            | true=>exact hx
            | false=>exact fate_good hr hr2
        · unfold keepY;rw [if_neg h3];exact hf x (by simp)
      · cases h
    · exact good_fate hr e h
theorem sq_some {f : Int} : ∀ {l : List Edt},l ≠ [] → sqL f f l ≠ []
  | [],h=>absurd rfl h
  | x :: r,_=>by
    rw [sqL]
    by_cases h1 : x.1 = 1
    · rw [upN_not (by omega)];cases hb : keepB f f (fateM r) x with
      | true=>rw [if_pos rfl];simp
      | false =>
        rw [if_neg (by decide),List.nil_append];refine sq_some fun hr=>?_
        subst hr;unfold keepB at hb;rw [if_pos h1] at hb;simp [fateM,getM] at hb;omega
    · have hb : keepB f (upN f x) (fateM r) x = true:=by unfold keepB;rw [if_neg h1]
      rw [hb,if_pos rfl];simp
theorem lok_mono {c d : Nat} {L : Lst} (h : LOk c L) (hc : c ≤ d) : LOk d L:=⟨h.flds,h.ids,h.nd,h.many,⟨h.next.1,Int.le_trans h.next.2 (by omega)⟩,Nat.le_trans h.len hc⟩
abbrev TSt0:=Lst × List Edt
def xY (sts : List TSt0) : TSt0:=sts.getD (sts.length - 1) ((([] : List Ent),(0 : Int),(0 : Int)),([] : List Edt))
structure xN (L0 : Lst) (sts : List TSt0) : Prop where
  len : 1 ≤ sts.length ∧ sts.length ≤ 41
  all : ∀ j,j < sts.length → (sts.getD j ((([] : List Ent),(0 : Int),(0 : Int)),([] : List Edt))).1 = runL L0 (sts.getD j ((([] : List Ent),(0 : Int),(0 : Int)),([] : List Edt))).2 ∧ (sts.getD j ((([] : List Ent),(0 : Int),(0 : Int)),([] : List Edt))).2.length = j ∧ takes L0 (sts.getD j ((([] : List Ent),(0 : Int),(0 : Int)),([] : List Edt))).2 ∧ ∀ e ∈ (sts.getD j ((([] : List Ent),(0 : Int),(0 : Int)),([] : List Edt))).2,xS e = 0 ∧ muchB e.2.2 = false
def stepT (sts : List TSt0) (x : Edt) : List TSt0:=if 40 < sts.length ∨ oneN (xY sts).1 x ≠ 0 then sts else sts ++ [(doL (xY sts).1 x,(xY sts).2 ++ [x])]
def backT (sts : List TSt0) (m : Int) : List TSt0:=if m < 0 ∨ (sts.length : Int) - 1 < m then sts else sts.take (m.toNat + 1)
def actT (sts : List TSt0) (x : Edt) : List TSt0 :=
  if x.1 = 1 then stepT sts x else if x.1 = 2 then stepT sts (2,x.2.1,[]) else if x.1 = 3 then stepT sts x else if x.1 = 4 then backT sts x.2.1 else sts
def runT (sts : List TSt0) (s : List Edt) (i : Nat) : List TSt0:=(s.take i).foldl actT sts
theorem runT_snoc (sts : List TSt0) {s : List Edt} {i : Nat} (h : i < s.length) : runT sts s (i + 1) = actT (runT sts s i) (s.getD i ((0 : Int),(0 : Int),([] : List Fld))):=by
  unfold runT;rw [List.take_add_one,List.foldl_append,List.getD_eq_getElem?_getD,List.getElem?_eq_getElem h];rfl
theorem xN.start {L0 : Lst} : xN L0 [(L0,[])]:=⟨by simp,fun j hj=>by
  have : j = 0:=by simpa using hj
  subst this;exact ⟨rfl,rfl,trivial,fun e he=>by cases he⟩⟩
theorem xN.last {L0 : Lst} {sts : List TSt0} (h : xN L0 sts) : (xY sts).1 = runL L0 (xY sts).2 ∧ (xY sts).2.length = sts.length - 1 ∧ takes L0 (xY sts).2 ∧ ∀ e ∈ (xY sts).2,xS e = 0 ∧ muchB e.2.2 = false :=
  h.all _ (by have:=h.len;omega)
theorem one_good {L : Lst} {x : Edt} (hk : x.1 = 1 ∨ (x.1 = 2 ∧ x.2.2 = []) ∨ x.1 = 3) (h : oneN L x = 0) : xS x = 0:=by
  unfold oneN at h;unfold xS;rcases hk with hk|⟨hk,h0⟩|hk
  · rw [if_pos hk] at h;rw [if_neg (by omega),if_pos (.inl hk)];split at h
    · cases h
    · exact h
  · rw [if_pos hk,h0];rfl
  · rw [if_neg (by omega),if_neg (by omega)] at h;rw [if_neg (by omega),if_pos (.inr hk)];split at h
    · cases h
    · split at h
      · exact h
      · rename_i h4;exact Classical.not_not.1 h4
theorem xN.step {L0 : Lst} {sts : List TSt0} (h : xN L0 sts) {x : Edt} (hf : muchB x.2.2 = false) (hk : x.1 = 1 ∨ (x.1 = 2 ∧ x.2.2 = []) ∨ x.1 = 3) : xN L0 (stepT sts x):=by
  unfold stepT;split
  · exact h
  · rename_i hn;have hlen:=h.len;obtain ⟨l1,l2,l3,l4⟩:=h.last;have h40 : ¬ 40 < sts.length:=fun e=>hn (.inl e)
    have hone : oneN (xY sts).1 x = 0:=Classical.not_not.1 fun e=>hn (.inr e)
    refine ⟨by rw [List.length_append];simp only [List.length_cons,List.length_nil];omega,fun j hj=>?_⟩;rw [List.length_append] at hj;simp only [List.length_cons,List.length_nil] at hj;rcases Nat.lt_or_ge j sts.length with hlt|hge
    · have e : (sts ++ [(doL (xY sts).1 x,(xY sts).2 ++ [x])]).getD j ((([] : List Ent),(0 : Int),(0 : Int)),([] : List Edt)) = sts.getD j ((([] : List Ent),(0 : Int),(0 : Int)),([] : List Edt)):=by
        rw [List.getD_eq_getElem?_getD,List.getElem?_append_left hlt,← List.getD_eq_getElem?_getD]
      rw [e];exact h.all j hlt
    · have ej : j = sts.length:=by omega
      subst ej;have e : (sts ++ [(doL (xY sts).1 x,(xY sts).2 ++ [x])]).getD sts.length ((([] : List Ent),(0 : Int),(0 : Int)),([] : List Edt)) = (doL (xY sts).1 x,(xY sts).2 ++ [x]):=by
        rw [List.getD_eq_getElem?_getD,List.getElem?_append_right (Nat.le_refl _),Nat.sub_self];rfl
      rw [e];refine ⟨?_,?_,?_,?_⟩
      · rw [runL_app,← l1];rfl
      · simp only [List.length_append,List.length_cons,List.length_nil];omega
      · rw [takes_app,← l1];exact ⟨l3,hone,trivial⟩
      · intro e he;rcases List.mem_append.1 he with he|he
        · exact l4 e he
        · rw [List.mem_singleton.1 he];exact ⟨one_good hk hone,hf⟩
theorem xN.back {L0 : Lst} {sts : List TSt0} (h : xN L0 sts) (m : Int) : xN L0 (backT sts m):=by
  unfold backT;split
  · exact h
  · have hlen:=h.len;refine ⟨by rw [List.length_take];omega,fun j hj=>?_⟩;rw [List.length_take] at hj;have e : (sts.take (m.toNat + 1)).getD j ((([] : List Ent),(0 : Int),(0 : Int)),([] : List Edt)) = sts.getD j ((([] : List Ent),(0 : Int),(0 : Int)),([] : List Edt)):=by
      rw [List.getD_eq_getElem?_getD,List.getElem?_take,if_pos (by omega),← List.getD_eq_getElem?_getD]
    rw [e];exact h.all j (by omega)
theorem xN.act {L0 : Lst} {sts : List TSt0} (h : xN L0 sts) {x : Edt} (hf : muchB x.2.2 = false) : xN L0 (actT sts x):=by
  unfold actT;split
  · rename_i h1;exact h.step hf (.inl h1)
  · split
    · exact h.step (x:=(2,x.2.1,[])) (show muchB [] = false by decide) (.inr (.inl ⟨rfl,rfl⟩))
    · split
      · rename_i h3;exact h.step hf (.inr (.inr h3))
      · split
        · exact h.back _
        · exact h
theorem xN.run {L0 : Lst} {sts : List TSt0} (h : xN L0 sts) {s : List Edt} (hf : ∀ e ∈ s,muchB e.2.2 = false) : ∀ i,i ≤ s.length → xN L0 (runT sts s i)
  | 0,_=>h
  | i + 1,hi=>by
    rw [runT_snoc _ (by omega)];refine (h.run hf i (by omega)).act (hf _ ?_);rw [List.getD_eq_getElem?_getD,List.getElem?_eq_getElem (by omega)];exact List.getElem_mem _
theorem oneRep_z {κ : Nat} (L L' : Lst) (id : Int) (f : List Fld) (h : qU Tryz.prog 42 [.one (.own 0 0),ii .i64 id,.one (.slk κ rFld f)] (lsO L) 2 (.one (.lit .nilIface)) (lsO L') 2) : qU Tryz.prog 101 [.one (.own 0 0),.agg (toL (rEdk κ) ((1 : Int),id,f))] (lsO L) 2 (.tup [(false,[.lit (.int .i64 0)]),(false,[.lit .nilIface])]) (lsO L') 2:=by
  refine qV (rs:=[4,5]) Tryz.func101 rfl rfl rfl teOk (by decide) rfl ?_;refine qB ?_;refine qK ?_;refine qB ?_;refine qR ?_;refine qB ?_;refine qJ rfl (fun h8=>?_) (fun h8=>?_)
  ·try simp only [decide_eq_true_eq] at h8
   try simp only [zds] at h8
   refine qB ?_;refine Or.inr (Or.inl (zei [] (zei [0,1] (zei _ (zei _ (zei _ (zei _ (zei _ (zai (h) (zai rfl (zai (zai (zai rfl rfl) (zai (zai rfl rfl) True.intro)) (zai rfl ?_))))))))))));refine qL ?_;exact ⟨rfl,⟨rfl,rfl⟩,rfl⟩
  ·try simp only [decide_eq_false_iff_not] at h8
   try simp only [zds] at h8
   simp at h8
theorem oneDel_z {κ : Nat} (L L' : Lst) (id : Int) (f : List Fld) (h : qU Tryz.prog 43 [.one (.own 0 0),ii .i64 id] (lsO L) 2 (.one (.lit .nilIface)) (lsO L') 2) : qU Tryz.prog 101 [.one (.own 0 0),.agg (toL (rEdk κ) ((2 : Int),id,f))] (lsO L) 2 (.tup [(false,[.lit (.int .i64 0)]),(false,[.lit .nilIface])]) (lsO L') 2:=by
  refine qV (rs:=[4,5]) Tryz.func101 rfl rfl rfl teOk (by decide) rfl ?_;refine qB ?_;refine qK ?_;refine qB ?_;refine qR ?_;refine qB ?_;refine qJ rfl (fun h8=>?_) (fun h8=>?_)
  ·try simp only [decide_eq_true_eq] at h8
   try simp only [zds] at h8
   simp at h8
  ·try simp only [decide_eq_false_iff_not] at h8
   try simp only [zds] at h8
   refine qB ?_;refine qJ rfl (fun h16=>?_) (fun h16=>?_)
   ·try simp only [decide_eq_true_eq] at h16
    try simp only [zds] at h16
    refine qB ?_;refine Or.inr (Or.inl (zei [] (zei [0,1] (zei _ (zei _ (zei _ (zei _ (zei _ (zai (h) (zai rfl (zai (zai (zai rfl rfl) (zai (zai rfl rfl) True.intro)) (zai rfl ?_))))))))))));refine qL ?_;exact ⟨rfl,⟨rfl,rfl⟩,rfl⟩
   ·try simp only [decide_eq_false_iff_not] at h16
    try simp only [zds] at h16
    simp at h16
theorem oneIns_z {κ : Nat} (L L' : Lst) (k id m : Int) (f : List Fld) (h1 : k ≠ 1) (h2 : k ≠ 2) (h : qU Tryz.prog 44 [.one (.own 0 0),ii .i64 id,.one (.slk κ rFld f)] (lsO L) 2 (.tup [(false,[.lit (.int .i64 m)]),(false,[.lit .nilIface])]) (lsO L') 2) : qU Tryz.prog 101 [.one (.own 0 0),.agg (toL (rEdk κ) (k,id,f))] (lsO L) 2 (.tup [(false,[.lit (.int .i64 m)]),(false,[.lit .nilIface])]) (lsO L') 2:=by
  refine qV (rs:=[4,5]) Tryz.func101 rfl rfl rfl teOk (by decide) rfl ?_;refine qB ?_;refine qK ?_;refine qB ?_;refine qR ?_;refine qB ?_;refine qJ rfl (fun h8=>?_) (fun h8=>?_)
  ·try simp only [decide_eq_true_eq] at h8
   try simp only [zds] at h8
   exact absurd h8 h1
  ·try simp only [decide_eq_false_iff_not] at h8
   try simp only [zds] at h8
   refine qB ?_;refine qJ rfl (fun h16=>?_) (fun h16=>?_)
   ·try simp only [decide_eq_true_eq] at h16
    try simp only [zds] at h16
    exact absurd h16 h2
   ·try simp only [decide_eq_false_iff_not] at h16
    try simp only [zds] at h16
    refine qO ?_;refine qB ?_;refine Or.inr (Or.inl (zei [] (zei [0,1] (zei _ (zei _ (zei _ (zei _ (zei _ (zai (h) (zai rfl (zai (zai (zai rfl rfl) (zai (zai rfl rfl) True.intro)) (zai rfl ?_))))))))))));refine qL ?_;exact ⟨rfl,⟨rfl,rfl⟩,rfl⟩
theorem oneRep_n {κ : Nat} (L L' : Lst) (k9 : Int) (id : Int) (f : List Fld) (h : qU Tryz.prog 42 [.one (.own 0 0),ii .i64 id,.one (.slk κ rFld f)] (lsO L) 2 (.one (errN k9)) (lsO L') 2) : qU Tryz.prog 101 [.one (.own 0 0),.agg (toL (rEdk κ) ((1 : Int),id,f))] (lsO L) 2 (.tup [(false,[.lit (.int .i64 0)]),(false,[errN k9])]) (lsO L') 2:=by
  refine qV (rs:=[4,5]) Tryz.func101 rfl rfl rfl teOk (by decide) rfl ?_;refine qB ?_;refine qK ?_;refine qB ?_;refine qR ?_;refine qB ?_;refine qJ rfl (fun h8=>?_) (fun h8=>?_)
  ·try simp only [decide_eq_true_eq] at h8
   try simp only [zds] at h8
   refine qB ?_;refine Or.inr (Or.inl (zei [] (zei [0,1] (zei _ (zei _ (zei _ (zei _ (zei _ (zai (h) (zai rfl (zai (zai (zai rfl rfl) (zai (zai rfl rfl) True.intro)) (zai rfl ?_))))))))))));refine qL ?_;exact ⟨rfl,⟨rfl,rfl⟩,rfl⟩
  ·try simp only [decide_eq_false_iff_not] at h8
   try simp only [zds] at h8
   simp at h8
theorem oneDel_n {κ : Nat} (L L' : Lst) (k9 : Int) (id : Int) (f : List Fld) (h : qU Tryz.prog 43 [.one (.own 0 0),ii .i64 id] (lsO L) 2 (.one (errN k9)) (lsO L') 2) : qU Tryz.prog 101 [.one (.own 0 0),.agg (toL (rEdk κ) ((2 : Int),id,f))] (lsO L) 2 (.tup [(false,[.lit (.int .i64 0)]),(false,[errN k9])]) (lsO L') 2:=by
  refine qV (rs:=[4,5]) Tryz.func101 rfl rfl rfl teOk (by decide) rfl ?_;refine qB ?_;refine qK ?_;refine qB ?_;refine qR ?_;refine qB ?_;refine qJ rfl (fun h8=>?_) (fun h8=>?_)
  ·try simp only [decide_eq_true_eq] at h8
   try simp only [zds] at h8
   simp at h8
  ·try simp only [decide_eq_false_iff_not] at h8
   try simp only [zds] at h8
   refine qB ?_;refine qJ rfl (fun h16=>?_) (fun h16=>?_)
   ·try simp only [decide_eq_true_eq] at h16
    try simp only [zds] at h16
    refine qB ?_;refine Or.inr (Or.inl (zei [] (zei [0,1] (zei _ (zei _ (zei _ (zei _ (zei _ (zai (h) (zai rfl (zai (zai (zai rfl rfl) (zai (zai rfl rfl) True.intro)) (zai rfl ?_))))))))))));refine qL ?_;exact ⟨rfl,⟨rfl,rfl⟩,rfl⟩
   ·try simp only [decide_eq_false_iff_not] at h16
    try simp only [zds] at h16
    simp at h16
theorem oneIns_n {κ : Nat} (L L' : Lst) (k9 : Int) (k id m : Int) (f : List Fld) (h1 : k ≠ 1) (h2 : k ≠ 2) (h : qU Tryz.prog 44 [.one (.own 0 0),ii .i64 id,.one (.slk κ rFld f)] (lsO L) 2 (.tup [(false,[.lit (.int .i64 m)]),(false,[errN k9])]) (lsO L') 2) : qU Tryz.prog 101 [.one (.own 0 0),.agg (toL (rEdk κ) (k,id,f))] (lsO L) 2 (.tup [(false,[.lit (.int .i64 m)]),(false,[errN k9])]) (lsO L') 2:=by
  refine qV (rs:=[4,5]) Tryz.func101 rfl rfl rfl teOk (by decide) rfl ?_;refine qB ?_;refine qK ?_;refine qB ?_;refine qR ?_;refine qB ?_;refine qJ rfl (fun h8=>?_) (fun h8=>?_)
  ·try simp only [decide_eq_true_eq] at h8
   try simp only [zds] at h8
   exact absurd h8 h1
  ·try simp only [decide_eq_false_iff_not] at h8
   try simp only [zds] at h8
   refine qB ?_;refine qJ rfl (fun h16=>?_) (fun h16=>?_)
   ·try simp only [decide_eq_true_eq] at h16
    try simp only [zds] at h16
    exact absurd h16 h2
   ·try simp only [decide_eq_false_iff_not] at h16
    try simp only [zds] at h16
    refine qO ?_;refine qB ?_;refine Or.inr (Or.inl (zei [] (zei [0,1] (zei _ (zei _ (zei _ (zei _ (zei _ (zai (h) (zai rfl (zai (zai (zai rfl rfl) (zai (zai rfl rfl) True.intro)) (zai rfl ?_))))))))))));refine qL ?_;exact ⟨rfl,⟨rfl,rfl⟩,rfl⟩
theorem oneRep_f {κ : Nat} (L L' : Lst) (a9 k9 : Int) (id : Int) (f : List Fld) (h : qU Tryz.prog 42 [.one (.own 0 0),ii .i64 id,.one (.slk κ rFld f)] (lsO L) 2 (.one (errF a9 k9)) (lsO L') 2) : qU Tryz.prog 101 [.one (.own 0 0),.agg (toL (rEdk κ) ((1 : Int),id,f))] (lsO L) 2 (.tup [(false,[.lit (.int .i64 0)]),(false,[errF a9 k9])]) (lsO L') 2:=by
  refine qV (rs:=[4,5]) Tryz.func101 rfl rfl rfl teOk (by decide) rfl ?_;refine qB ?_;refine qK ?_;refine qB ?_;refine qR ?_;refine qB ?_;refine qJ rfl (fun h8=>?_) (fun h8=>?_)
  ·try simp only [decide_eq_true_eq] at h8
   try simp only [zds] at h8
   refine qB ?_;refine Or.inr (Or.inl (zei [] (zei [0,1] (zei _ (zei _ (zei _ (zei _ (zei _ (zai (h) (zai rfl (zai (zai (zai rfl rfl) (zai (zai rfl rfl) True.intro)) (zai rfl ?_))))))))))));refine qL ?_;exact ⟨rfl,⟨rfl,rfl⟩,rfl⟩
  ·try simp only [decide_eq_false_iff_not] at h8
   try simp only [zds] at h8
   simp at h8
theorem oneIns_f {κ : Nat} (L L' : Lst) (a9 k9 : Int) (k id m : Int) (f : List Fld) (h1 : k ≠ 1) (h2 : k ≠ 2) (h : qU Tryz.prog 44 [.one (.own 0 0),ii .i64 id,.one (.slk κ rFld f)] (lsO L) 2 (.tup [(false,[.lit (.int .i64 m)]),(false,[errF a9 k9])]) (lsO L') 2) : qU Tryz.prog 101 [.one (.own 0 0),.agg (toL (rEdk κ) (k,id,f))] (lsO L) 2 (.tup [(false,[.lit (.int .i64 m)]),(false,[errF a9 k9])]) (lsO L') 2:=by
  refine qV (rs:=[4,5]) Tryz.func101 rfl rfl rfl teOk (by decide) rfl ?_;refine qB ?_;refine qK ?_;refine qB ?_;refine qR ?_;refine qB ?_;refine qJ rfl (fun h8=>?_) (fun h8=>?_)
  ·try simp only [decide_eq_true_eq] at h8
   try simp only [zds] at h8
   exact absurd h8 h1
  ·try simp only [decide_eq_false_iff_not] at h8
   try simp only [zds] at h8
   refine qB ?_;refine qJ rfl (fun h16=>?_) (fun h16=>?_)
   ·try simp only [decide_eq_true_eq] at h16
    try simp only [zds] at h16
    exact absurd h16 h2
   ·try simp only [decide_eq_false_iff_not] at h16
    try simp only [zds] at h16
    refine qO ?_;refine qB ?_;refine Or.inr (Or.inl (zei [] (zei [0,1] (zei _ (zei _ (zei _ (zei _ (zei _ (zai (h) (zai rfl (zai (zai (zai rfl rfl) (zai (zai rfl rfl) True.intro)) (zai rfl ?_))))))))))));refine qL ?_;exact ⟨rfl,⟨rfl,rfl⟩,rfl⟩
theorem one_cases {κ c : Nat} {L : Lst} (h : LOk c L) (hc : c ≤ 200000) (e : Edt) (hf : yQ e.2.2) :
    (oneN L e = 0 ∧ qU Tryz.prog 101 [.one (.own 0 0),.agg (toL (rEdk κ) e)] (lsO L) 2 (.tup [(false,[.lit (.int .i64 (newN L e))]),(false,[.lit .nilIface])]) (lsO (doL L e)) 2) ∨
    (∃ k9,k9 ≠ 0 ∧ oneN L e = k9 ∧ qU Tryz.prog 101 [.one (.own 0 0),.agg (toL (rEdk κ) e)] (lsO L) 2 (.tup [(false,[.lit (.int .i64 0)]),(false,[errN k9])]) (lsO L) 2) ∨
    (∃ a9 k9,k9 ≠ 0 ∧ oneN L e = k9 ∧ qU Tryz.prog 101 [.one (.own 0 0),.agg (toL (rEdk κ) e)] (lsO L) 2 (.tup [(false,[.lit (.int .i64 0)]),(false,[errF a9 k9])]) (lsO L) 2):=by
  obtain ⟨es,n,m⟩:=L;obtain ⟨k,id,f⟩:=e;have hmany:=h.many;have hnx:=h.next;have hln:=h.len;have hids:=ids_len es;have hil:=List.length_filter_le live es;simp only at hmany hnx hln hf;unfold newN oneN doL;simp only
  by_cases h1 : k = 1
  · subst h1;simp only [if_pos,true_or]
    by_cases h0 : atE es id < 0
    · simp only [if_pos h0];exact .inr (.inl ⟨7,by decide,rfl,oneRep_n _ _ 7 id f (lRep_no es n m id f h0)⟩)
    · simp only [if_neg h0]
      by_cases hck : (chkR f).2 ≠ 0
      · have hb:=lRep_bad (κ:=κ) es n m id f (by omega) hf hck;rcases chk_shape hck with ⟨k9,g1,g2,g3,g4⟩|⟨a9,k9,g1,g2,g3,g4⟩
        · rw [g1] at hb;exact .inr (.inl ⟨k9,g2,g4.symm,oneRep_n _ _ k9 id f hb⟩)
        · rw [g1] at hb;exact .inr (.inr ⟨a9,k9,g2,g4.symm,oneRep_f _ _ a9 k9 id f hb⟩)
      · have hck' : (chkR f).2 = 0:=Classical.not_not.1 hck;simp only [if_neg hck];obtain ⟨i,hi,he,_,_⟩:=at_lt h0;rw [he,Int.toNat_natCast];exact .inl ⟨hck',oneRep_z _ _ id f (lRep_ok es n m id f i hi he hf hck')⟩
  · by_cases h2 : k = 2
    · subst h2;simp only [if_neg (show ¬ (2 : Int) = 1 by decide),if_pos,or_true]
      by_cases h0 : atE es id < 0
      · simp only [if_pos h0];exact .inr (.inl ⟨7,by decide,rfl,oneDel_n _ _ 7 id f (lDel_no es n m id h0)⟩)
      · simp only [if_neg h0];obtain ⟨i,hi,he,_,_⟩:=at_lt h0;rw [he,Int.toNat_natCast];exact .inl ⟨trivial,oneDel_z _ _ id f (lDel_ok es n m id i hi he (by omega) (by omega))⟩
    · simp only [if_neg h1,if_neg h2,if_neg (show ¬ (k = 1 ∨ k = 2) from fun h=>h.elim h1 h2)]
      by_cases h0 : atE es id < 0 ∧ id ≠ 0
      · simp only [if_pos h0];exact .inr (.inl ⟨7,by decide,rfl,oneIns_n _ _ 7 k id 0 f h1 h2 (lIns_no es n m id f h0.1 h0.2)⟩)
      · simp only [if_neg h0]
        by_cases hck : (chkR f).2 ≠ 0
        · have hb:=lIns_bad (κ:=κ) es n m id f h0 hf hck;simp only [if_pos hck];rcases chk_shape hck with ⟨k9,g1,g2,g3,g4⟩|⟨a9,k9,g1,g2,g3,g4⟩
          · rw [g1] at hb;exact .inr (.inl ⟨k9,g2,g4.symm,oneIns_n _ _ k9 k id 0 f h1 h2 hb⟩)
          · rw [g1] at hb;exact .inr (.inr ⟨a9,k9,g2,g4.symm,oneIns_f _ _ a9 k9 k id 0 f h1 h2 hb⟩)
        · have hck' : (chkR f).2 = 0:=Classical.not_not.1 hck;simp only [if_neg hck]
          by_cases h4 : 400 ≤ m
          · simp only [if_pos h4];exact .inr (.inl ⟨11,by decide,rfl,oneIns_n _ _ 11 k id 0 f h1 h2 (lIns_full es n m id f h0 hf hck' h4)⟩)
          · simp only [if_neg h4];obtain ⟨j,hj,hje⟩ : ∃ j : Nat,j ≤ es.length ∧ atE es id + 1 = (j : Int):=by
              rcases at_cases es id with ⟨h1,_⟩|⟨i,h1,h2,_⟩
              · exact ⟨0,Nat.zero_le _,by omega⟩
              · exact ⟨i + 1,by omega,by omega⟩
            rw [hje,Int.toNat_natCast];exact .inl ⟨trivial,oneIns_z _ _ k id n f h1 h2 (lIns_ok es n m id f j hj h0 hje hf hck' (by omega) (by omega) (by omega))⟩
theorem rp1_z (L L' : Lst) (id : Int) (f : List Fld) (h : qU Tryz.prog 42 [.one (.own 0 0),ii .i64 id,.one (.sl rFld f)] (lsO L) 2 (.one (.lit .nilIface)) (lsO L') 2) : qU Tryz.prog 73 [.one (.own 0 0),.one (.addr (.int .i64) id),.one (.addr (.sl rFld) f)] (lsO L) 2 (.one (.lit .nilIface)) (lsO L') 2:=by
  refine qV (rs:=[4]) Tryz.func73 rfl rfl rfl teOk (by decide) rfl ?_;refine qB ?_;refine qB ?_;refine Or.inr (Or.inl (zei [] (zei [0,1] (zei _ (zei _ (zei _ (zei _ (zei _ (zai (h) (zai rfl (zai (zai (zai rfl rfl) (zai (zai rfl rfl) True.intro)) (zai rfl ?_))))))))))));refine qL ?_;exact ⟨rfl,⟨rfl,rfl⟩,rfl⟩
theorem dl1_z (L L' : Lst) (id : Int) (h : qU Tryz.prog 43 [.one (.own 0 0),ii .i64 id] (lsO L) 2 (.one (.lit .nilIface)) (lsO L') 2) : qU Tryz.prog 74 [.one (.own 0 0),.one (.addr (.int .i64) id)] (lsO L) 2 (.one (.lit .nilIface)) (lsO L') 2:=by
  refine qV (rs:=[3]) Tryz.func74 rfl rfl rfl teOk (by decide) rfl ?_;refine qB ?_;refine qB ?_;refine Or.inr (Or.inl (zei [] (zei [0,1] (zei _ (zei _ (zei _ (zei _ (zei _ (zai (h) (zai rfl (zai (zai (zai rfl rfl) (zai (zai rfl rfl) True.intro)) (zai rfl ?_))))))))))));refine qL ?_;exact ⟨rfl,⟨rfl,rfl⟩,rfl⟩
theorem in1_z (L L' : Lst) (g m : Int) (id : Int) (f : List Fld) (h : qU Tryz.prog 44 [.one (.own 0 0),ii .i64 id,.one (.sl rFld f)] (lsO L) 2 (.tup [(false,[.lit (.int .i64 m)]),(false,[.lit .nilIface])]) (lsO L') 2) : qU Tryz.prog 71 [.one (.own 0 0),.one (.addr (.int .i64) id),.one (.addr (.sl rFld) f),.one (.own 2 0)] (lsO L ++ [gvO g]) 3 (.one (.lit .nilIface)) (lsO L' ++ [gvO m]) 3:=by
  refine qV (rs:=[5]) Tryz.func71 rfl rfl rfl teOk (by decide) rfl ?_;refine qB ?_;refine qB ?_;refine Or.inr (Or.inl (zei [] (zei [0,1] (zei _ (zei _ (zei _ (zei _ (zei _ (zai (h) (zai rfl (zai (zai (zai rfl rfl) (zai (zai rfl rfl) True.intro)) (zai rfl ?_))))))))))));refine qB ?_;refine qB ?_;refine qL ?_;exact ⟨rfl,⟨rfl,rfl,rfl⟩,rfl⟩
theorem rp1_n (L L' : Lst) (k9 : Int) (id : Int) (f : List Fld) (h : qU Tryz.prog 42 [.one (.own 0 0),ii .i64 id,.one (.sl rFld f)] (lsO L) 2 (.one (errN k9)) (lsO L') 2) : qU Tryz.prog 73 [.one (.own 0 0),.one (.addr (.int .i64) id),.one (.addr (.sl rFld) f)] (lsO L) 2 (.one (errN k9)) (lsO L') 2:=by
  refine qV (rs:=[4]) Tryz.func73 rfl rfl rfl teOk (by decide) rfl ?_;refine qB ?_;refine qB ?_;refine Or.inr (Or.inl (zei [] (zei [0,1] (zei _ (zei _ (zei _ (zei _ (zei _ (zai (h) (zai rfl (zai (zai (zai rfl rfl) (zai (zai rfl rfl) True.intro)) (zai rfl ?_))))))))))));refine qL ?_;exact ⟨rfl,⟨rfl,rfl⟩,rfl⟩
theorem dl1_n (L L' : Lst) (k9 : Int) (id : Int) (h : qU Tryz.prog 43 [.one (.own 0 0),ii .i64 id] (lsO L) 2 (.one (errN k9)) (lsO L') 2) : qU Tryz.prog 74 [.one (.own 0 0),.one (.addr (.int .i64) id)] (lsO L) 2 (.one (errN k9)) (lsO L') 2:=by
  refine qV (rs:=[3]) Tryz.func74 rfl rfl rfl teOk (by decide) rfl ?_;refine qB ?_;refine qB ?_;refine Or.inr (Or.inl (zei [] (zei [0,1] (zei _ (zei _ (zei _ (zei _ (zei _ (zai (h) (zai rfl (zai (zai (zai rfl rfl) (zai (zai rfl rfl) True.intro)) (zai rfl ?_))))))))))));refine qL ?_;exact ⟨rfl,⟨rfl,rfl⟩,rfl⟩
theorem in1_n (L L' : Lst) (g m : Int) (k9 : Int) (id : Int) (f : List Fld) (h : qU Tryz.prog 44 [.one (.own 0 0),ii .i64 id,.one (.sl rFld f)] (lsO L) 2 (.tup [(false,[.lit (.int .i64 m)]),(false,[errN k9])]) (lsO L') 2) : qU Tryz.prog 71 [.one (.own 0 0),.one (.addr (.int .i64) id),.one (.addr (.sl rFld) f),.one (.own 2 0)] (lsO L ++ [gvO g]) 3 (.one (errN k9)) (lsO L' ++ [gvO m]) 3:=by
  refine qV (rs:=[5]) Tryz.func71 rfl rfl rfl teOk (by decide) rfl ?_;refine qB ?_;refine qB ?_;refine Or.inr (Or.inl (zei [] (zei [0,1] (zei _ (zei _ (zei _ (zei _ (zei _ (zai (h) (zai rfl (zai (zai (zai rfl rfl) (zai (zai rfl rfl) True.intro)) (zai rfl ?_))))))))))));refine qB ?_;refine qB ?_;refine qL ?_;exact ⟨rfl,⟨rfl,rfl,rfl⟩,rfl⟩
theorem rp1_f (L L' : Lst) (a9 k9 : Int) (id : Int) (f : List Fld) (h : qU Tryz.prog 42 [.one (.own 0 0),ii .i64 id,.one (.sl rFld f)] (lsO L) 2 (.one (errF a9 k9)) (lsO L') 2) : qU Tryz.prog 73 [.one (.own 0 0),.one (.addr (.int .i64) id),.one (.addr (.sl rFld) f)] (lsO L) 2 (.one (errF a9 k9)) (lsO L') 2:=by
  refine qV (rs:=[4]) Tryz.func73 rfl rfl rfl teOk (by decide) rfl ?_;refine qB ?_;refine qB ?_;refine Or.inr (Or.inl (zei [] (zei [0,1] (zei _ (zei _ (zei _ (zei _ (zei _ (zai (h) (zai rfl (zai (zai (zai rfl rfl) (zai (zai rfl rfl) True.intro)) (zai rfl ?_))))))))))));refine qL ?_;exact ⟨rfl,⟨rfl,rfl⟩,rfl⟩
theorem in1_f (L L' : Lst) (g m : Int) (a9 k9 : Int) (id : Int) (f : List Fld) (h : qU Tryz.prog 44 [.one (.own 0 0),ii .i64 id,.one (.sl rFld f)] (lsO L) 2 (.tup [(false,[.lit (.int .i64 m)]),(false,[errF a9 k9])]) (lsO L') 2) : qU Tryz.prog 71 [.one (.own 0 0),.one (.addr (.int .i64) id),.one (.addr (.sl rFld) f),.one (.own 2 0)] (lsO L ++ [gvO g]) 3 (.one (errF a9 k9)) (lsO L' ++ [gvO m]) 3:=by
  refine qV (rs:=[5]) Tryz.func71 rfl rfl rfl teOk (by decide) rfl ?_;refine qB ?_;refine qB ?_;refine Or.inr (Or.inl (zei [] (zei [0,1] (zei _ (zei _ (zei _ (zei _ (zei _ (zai (h) (zai rfl (zai (zai (zai rfl rfl) (zai (zai rfl rfl) True.intro)) (zai rfl ?_))))))))))));refine qB ?_;refine qB ?_;refine qL ?_;exact ⟨rfl,⟨rfl,rfl,rfl⟩,rfl⟩
theorem trep_a (sts sts' : List TSt) (id : Int) (f : List Fld) (hf : f.length ≤ 1000000) (htk : qU Tryz.prog 70 [.one (.own 0 0),.agg (toL rEdt (1,id,f)),.one (.clo2 73 (.addr (.int .i64) id) (.addr (.sl rFld) f))] (txO sts) 2 (.one .any) (txO sts') 2) :
    qU Tryz.prog 21 [.one (.own 0 0),ii .i64 id,.one (.sl rFld f)] (txO sts) 2 (.one .any) (txO sts') 2:=by
  refine qV (rs:=[6]) Tryz.func21 rfl rfl rfl teOk (by decide) rfl ?_;refine qB ?_;refine acode_cut (fun (u : Unit)=>True) (fun (u : Unit)=>[(0,.one (.own 0 0)),(4,.one (.own 2 0)),(5,.one (.own 3 0)),(7,.one (.own 4 0))]) (fun (u : Unit)=>[(0,.box 123 [.vec 1]),(1,.vec 120 rSt sts),(2,.box 3 [.lit (.int .i64 id)]),(3,.box 29 [.sl rFld f]),(4,.box 31 (toL rEdt (1,id,f)))]) 5 ?_ ?_
  ·refine yG rfl ?_;refine qC [0,1,4] ?_;refine zai ?_ ?_
   ·refine qC [1,4] ?_;refine zai ?_ ?_
    ·refine qC [2,4] ?_;refine zai ?_ ?_
     ·refine Or.inl ?_;refine zai (rfl) ?_;refine zei _ (zai (yA f hf) ?_);refine qC [3,4] ?_;refine zai ?_ ?_
      ·refine qC [4] ?_;refine qC [5] ?_;refine qQ ?_;exact ⟨(),trivial,qP ⟨rfl,rfl,rfl,rfl⟩ ⟨rfl,rfl,rfl,rfl,rfl⟩ rfl⟩
      ·refine qC [3] ?_;refine qC [5] ?_;refine qQ ?_;exact ⟨(),trivial,qP ⟨rfl,rfl,rfl,rfl⟩ ⟨rfl,rfl,rfl,rfl,rfl⟩ rfl⟩
     ·refine qC [2] ?_;refine Or.inl ?_;refine zai (rfl) ?_;refine zei _ (zai (yA f hf) ?_);refine qC [3] ?_;refine qC [5] ?_;refine qQ ?_;exact ⟨(),trivial,qP ⟨rfl,rfl,rfl,rfl⟩ ⟨rfl,rfl,rfl,rfl,rfl⟩ rfl⟩
    ·refine qC [1] ?_;refine qC [2] ?_;refine Or.inl ?_;refine zai (rfl) ?_;refine zei _ (zai (yA f hf) ?_);refine qC [3] ?_;refine qC [5] ?_;refine qQ ?_;exact ⟨(),trivial,qP ⟨rfl,rfl,rfl,rfl⟩ ⟨rfl,rfl,rfl,rfl,rfl⟩ rfl⟩
   refine zai ?_ ?_
   ·refine qC [0,2,4] ?_;refine zai ?_ ?_
    ·refine qC [2,4] ?_;refine zai ?_ ?_
     ·refine Or.inl ?_;refine zai (rfl) ?_;refine zei _ (zai (yA f hf) ?_);refine qC [3,4] ?_;refine zai ?_ ?_
      ·refine qC [4] ?_;refine qC [5] ?_;refine qQ ?_;exact ⟨(),trivial,qP ⟨rfl,rfl,rfl,rfl⟩ ⟨rfl,rfl,rfl,rfl,rfl⟩ rfl⟩
      ·refine qC [3] ?_;refine qC [5] ?_;refine qQ ?_;exact ⟨(),trivial,qP ⟨rfl,rfl,rfl,rfl⟩ ⟨rfl,rfl,rfl,rfl,rfl⟩ rfl⟩
     ·refine qC [2] ?_;refine Or.inl ?_;refine zai (rfl) ?_;refine zei _ (zai (yA f hf) ?_);refine qC [3] ?_;refine qC [5] ?_;refine qQ ?_;exact ⟨(),trivial,qP ⟨rfl,rfl,rfl,rfl⟩ ⟨rfl,rfl,rfl,rfl,rfl⟩ rfl⟩
    refine zai ?_ ?_
    ·refine Or.inl ?_;refine zai (rfl) ?_;refine zei _ (zai (yA f hf) ?_);refine qC [0,4] ?_;refine zai ?_ ?_
     ·refine qC [3,4] ?_;refine zai ?_ ?_
      ·refine qC [4] ?_;refine qC [5] ?_;refine qQ ?_;exact ⟨(),trivial,qP ⟨rfl,rfl,rfl,rfl⟩ ⟨rfl,rfl,rfl,rfl,rfl⟩ rfl⟩
      ·refine qC [3] ?_;refine qC [5] ?_;refine qQ ?_;exact ⟨(),trivial,qP ⟨rfl,rfl,rfl,rfl⟩ ⟨rfl,rfl,rfl,rfl,rfl⟩ rfl⟩
     ·refine qC [0] ?_;refine qC [3] ?_;refine qC [5] ?_;refine qQ ?_;exact ⟨(),trivial,qP ⟨rfl,rfl,rfl,rfl⟩ ⟨rfl,rfl,rfl,rfl,rfl⟩ rfl⟩
    ·refine qC [0,2] ?_;refine zai ?_ ?_
     ·refine qC [2] ?_;refine Or.inl ?_;refine zai (rfl) ?_;refine zei _ (zai (yA f hf) ?_);refine qC [3] ?_;refine qC [5] ?_;refine qQ ?_;exact ⟨(),trivial,qP ⟨rfl,rfl,rfl,rfl⟩ ⟨rfl,rfl,rfl,rfl,rfl⟩ rfl⟩
     ·refine Or.inl ?_;refine zai (rfl) ?_;refine zei _ (zai (yA f hf) ?_);refine qC [0] ?_;refine qC [3] ?_;refine qC [5] ?_;refine qQ ?_;exact ⟨(),trivial,qP ⟨rfl,rfl,rfl,rfl⟩ ⟨rfl,rfl,rfl,rfl,rfl⟩ rfl⟩
   ·refine qC [0,1] ?_;refine zai ?_ ?_
    ·refine qC [1] ?_;refine qC [2] ?_;refine Or.inl ?_;refine zai (rfl) ?_;refine zei _ (zai (yA f hf) ?_);refine qC [3] ?_;refine qC [5] ?_;refine qQ ?_;exact ⟨(),trivial,qP ⟨rfl,rfl,rfl,rfl⟩ ⟨rfl,rfl,rfl,rfl,rfl⟩ rfl⟩
    ·refine qC [0,2] ?_;refine zai ?_ ?_
     ·refine qC [2] ?_;refine Or.inl ?_;refine zai (rfl) ?_;refine zei _ (zai (yA f hf) ?_);refine qC [3] ?_;refine qC [5] ?_;refine qQ ?_;exact ⟨(),trivial,qP ⟨rfl,rfl,rfl,rfl⟩ ⟨rfl,rfl,rfl,rfl,rfl⟩ rfl⟩
     ·refine Or.inl ?_;refine zai (rfl) ?_;refine zei _ (zai (yA f hf) ?_);refine qC [0] ?_;refine qC [3] ?_;refine qC [5] ?_;refine qQ ?_;exact ⟨(),trivial,qP ⟨rfl,rfl,rfl,rfl⟩ ⟨rfl,rfl,rfl,rfl,rfl⟩ rfl⟩
  ·intro u hcut2;refine qK ?_;refine xZ [2,3] ?_;refine qM ?_;refine Or.inr (Or.inl (zei [] (zei [0,1] (zei _ (zei _ (zei _ (zei _ (zei _ (zai (htk) (zai rfl (zai (zai (zai rfl rfl) (zai (zai rfl rfl) True.intro)) (zai rfl ?_))))))))))));refine qL ?_;exact ⟨rfl,⟨rfl,rfl⟩,rfl⟩
theorem tdel_a (sts sts' : List TSt) (id : Int) (htk' : qU Tryz.prog 70 [.one (.own 0 0),.agg (toL rEdt (2,id,[])),.one (.clo 74 (.addr (.int .i64) id))] (txO sts) 2 (.one .any) (txO sts') 2) :
    qU Tryz.prog 22 [.one (.own 0 0),ii .i64 id] (txO sts) 2 (.one .any) (txO sts') 2:=by
  have htk : qU Tryz.prog 70 [.one (.own 0 0),delA2 id,.one (.clo 74 (.addr (.int .i64) id))] (txO sts) 2 (.one .any) (txO sts') 2:=by
    refine acallo_arg (fun ok ρ w vs h=>?_) htk';obtain ⟨v,r,rfl,h1,v2,r2,rfl,h2,h3⟩:=h;exact ⟨v,_,rfl,h1,v2,_,rfl,del_rep h2,h3⟩
  refine qV (rs:=[4]) Tryz.func22 rfl rfl rfl teOk (by decide) rfl ?_;refine qB ?_;refine qK ?_;refine xZ [2] ?_;refine qM ?_;refine Or.inr (Or.inl (zei [] (zei [0,1] (zei _ (zei _ (zei _ (zei _ (zei _ (zai (htk) (zai rfl (zai (zai (zai rfl rfl) (zai (zai rfl rfl) True.intro)) (zai rfl ?_))))))))))));refine qL ?_;exact ⟨rfl,⟨rfl,rfl⟩,rfl⟩
theorem tins_o (E : C) (r : Int) (sts sts' : List TSt) (id g2 : Int) (f : List Fld) (hf : f.length ≤ 1000000) (htk0 : ((E = .lit .nilIface ∧ g2 = r) ∨ (∃ k9,E = errN k9 ∧ r = 0) ∨ (∃ a9 k9,E = errF a9 k9 ∧ r = 0)) ∧ qU Tryz.prog 70 [.one (.own 0 0),.agg (toL rEdt (3,id,f)),.one (.clo3 71 (.addr (.int .i64) id) (.addr (.sl rFld) f) (.own 2 0))] (txO sts ++ [gvO 0]) 3 (.one E) (txO sts' ++ [gvO g2]) 3) :
    qU Tryz.prog 18 [.one (.own 0 0),ii .i64 id,.one (.sl rFld f)] (txO sts) 2 (.tup [(false,[.lit (.int .i64 r)]),(false,[E])]) (txO sts') 2:=by
  obtain ⟨hcs,htk⟩:=htk0;refine qV (rs:=[6,7]) Tryz.func18 rfl rfl rfl teOk (by decide) rfl ?_;refine qB ?_;refine qB ?_;refine acode_cut (fun (u : Unit)=>True) (fun (u : Unit)=>[(0,.one (.own 0 0)),(4,.one (.own 2 0)),(5,.one (.own 3 0)),(8,.one (.own 4 0)),(9,.one (.own 5 0))]) (fun (u : Unit)=>[(0,.box 123 [.vec 1]),(1,.vec 120 rSt sts),(2,.box 3 [.lit (.int .i64 id)]),(3,.box 29 [.sl rFld f]),(4,.box 3 [.lit (.int .i64 0)]),(5,.box 31 (toL rEdt (3,id,f)))]) 6 ?_ ?_
  ·refine yG rfl ?_;refine qC [0,1,4] ?_;refine zai ?_ ?_
   ·refine qC [1,4] ?_;refine zai ?_ ?_
    ·refine qC [2,4] ?_;refine zai ?_ ?_
     ·refine Or.inl ?_;refine zai (rfl) ?_;refine zei _ (zai (yA f hf) ?_);refine qC [3,4] ?_;refine zai ?_ ?_
      ·refine qC [4] ?_;refine qC [5] ?_;refine qQ ?_;exact ⟨(),trivial,qP ⟨rfl,rfl,rfl,rfl,rfl⟩ ⟨rfl,rfl,rfl,rfl,rfl,rfl⟩ rfl⟩
      ·refine qC [3] ?_;refine qC [5] ?_;refine qQ ?_;exact ⟨(),trivial,qP ⟨rfl,rfl,rfl,rfl,rfl⟩ ⟨rfl,rfl,rfl,rfl,rfl,rfl⟩ rfl⟩
     ·refine qC [2] ?_;refine Or.inl ?_;refine zai (rfl) ?_;refine zei _ (zai (yA f hf) ?_);refine qC [3] ?_;refine qC [5] ?_;refine qQ ?_;exact ⟨(),trivial,qP ⟨rfl,rfl,rfl,rfl,rfl⟩ ⟨rfl,rfl,rfl,rfl,rfl,rfl⟩ rfl⟩
    ·refine qC [1] ?_;refine qC [2] ?_;refine Or.inl ?_;refine zai (rfl) ?_;refine zei _ (zai (yA f hf) ?_);refine qC [3] ?_;refine qC [5] ?_;refine qQ ?_;exact ⟨(),trivial,qP ⟨rfl,rfl,rfl,rfl,rfl⟩ ⟨rfl,rfl,rfl,rfl,rfl,rfl⟩ rfl⟩
   refine zai ?_ ?_
   ·refine qC [0,2,4] ?_;refine zai ?_ ?_
    ·refine qC [2,4] ?_;refine zai ?_ ?_
     ·refine Or.inl ?_;refine zai (rfl) ?_;refine zei _ (zai (yA f hf) ?_);refine qC [3,4] ?_;refine zai ?_ ?_
      ·refine qC [4] ?_;refine qC [5] ?_;refine qQ ?_;exact ⟨(),trivial,qP ⟨rfl,rfl,rfl,rfl,rfl⟩ ⟨rfl,rfl,rfl,rfl,rfl,rfl⟩ rfl⟩
      ·refine qC [3] ?_;refine qC [5] ?_;refine qQ ?_;exact ⟨(),trivial,qP ⟨rfl,rfl,rfl,rfl,rfl⟩ ⟨rfl,rfl,rfl,rfl,rfl,rfl⟩ rfl⟩
     ·refine qC [2] ?_;refine Or.inl ?_;refine zai (rfl) ?_;refine zei _ (zai (yA f hf) ?_);refine qC [3] ?_;refine qC [5] ?_;refine qQ ?_;exact ⟨(),trivial,qP ⟨rfl,rfl,rfl,rfl,rfl⟩ ⟨rfl,rfl,rfl,rfl,rfl,rfl⟩ rfl⟩
    refine zai ?_ ?_
    ·refine Or.inl ?_;refine zai (rfl) ?_;refine zei _ (zai (yA f hf) ?_);refine qC [0,4] ?_;refine zai ?_ ?_
     ·refine qC [3,4] ?_;refine zai ?_ ?_
      ·refine qC [4] ?_;refine qC [5] ?_;refine qQ ?_;exact ⟨(),trivial,qP ⟨rfl,rfl,rfl,rfl,rfl⟩ ⟨rfl,rfl,rfl,rfl,rfl,rfl⟩ rfl⟩
      ·refine qC [3] ?_;refine qC [5] ?_;refine qQ ?_;exact ⟨(),trivial,qP ⟨rfl,rfl,rfl,rfl,rfl⟩ ⟨rfl,rfl,rfl,rfl,rfl,rfl⟩ rfl⟩
     ·refine qC [0] ?_;refine qC [3] ?_;refine qC [5] ?_;refine qQ ?_;exact ⟨(),trivial,qP ⟨rfl,rfl,rfl,rfl,rfl⟩ ⟨rfl,rfl,rfl,rfl,rfl,rfl⟩ rfl⟩
    ·refine qC [0,2] ?_;refine zai ?_ ?_
     ·refine qC [2] ?_;refine Or.inl ?_;refine zai (rfl) ?_;refine zei _ (zai (yA f hf) ?_);refine qC [3] ?_;refine qC [5] ?_;refine qQ ?_;exact ⟨(),trivial,qP ⟨rfl,rfl,rfl,rfl,rfl⟩ ⟨rfl,rfl,rfl,rfl,rfl,rfl⟩ rfl⟩
     ·refine Or.inl ?_;refine zai (rfl) ?_;refine zei _ (zai (yA f hf) ?_);refine qC [0] ?_;refine qC [3] ?_;refine qC [5] ?_;refine qQ ?_;exact ⟨(),trivial,qP ⟨rfl,rfl,rfl,rfl,rfl⟩ ⟨rfl,rfl,rfl,rfl,rfl,rfl⟩ rfl⟩
   ·refine qC [0,1] ?_;refine zai ?_ ?_
    ·refine qC [1] ?_;refine qC [2] ?_;refine Or.inl ?_;refine zai (rfl) ?_;refine zei _ (zai (yA f hf) ?_);refine qC [3] ?_;refine qC [5] ?_;refine qQ ?_;exact ⟨(),trivial,qP ⟨rfl,rfl,rfl,rfl,rfl⟩ ⟨rfl,rfl,rfl,rfl,rfl,rfl⟩ rfl⟩
    ·refine qC [0,2] ?_;refine zai ?_ ?_
     ·refine qC [2] ?_;refine Or.inl ?_;refine zai (rfl) ?_;refine zei _ (zai (yA f hf) ?_);refine qC [3] ?_;refine qC [5] ?_;refine qQ ?_;exact ⟨(),trivial,qP ⟨rfl,rfl,rfl,rfl,rfl⟩ ⟨rfl,rfl,rfl,rfl,rfl,rfl⟩ rfl⟩
     ·refine Or.inl ?_;refine zai (rfl) ?_;refine zei _ (zai (yA f hf) ?_);refine qC [0] ?_;refine qC [3] ?_;refine qC [5] ?_;refine qQ ?_;exact ⟨(),trivial,qP ⟨rfl,rfl,rfl,rfl,rfl⟩ ⟨rfl,rfl,rfl,rfl,rfl,rfl⟩ rfl⟩
  ·intro u hcut3;refine qK ?_;rcases hcs with ⟨rfl,rfl⟩|⟨k9,rfl,rfl⟩|⟨a9,k9,rfl,rfl⟩
   ·refine xZ [2,3] ?_;refine qM ?_;refine Or.inr (Or.inl (zei [] (zei [0,1,4] (zei _ (zei _ (zei _ (zei _ (zei _ (zai (htk) (zai rfl (zai (zai (zai rfl rfl) (zai (zai rfl rfl) (zai (zai rfl rfl) True.intro))) (zai rfl ?_))))))))))));refine qK ?_;refine qB ?_;refine qJ rfl (fun h20=>?_) (fun h20=>?_)
    ·try simp only [Bool.not_eq_true'] at h20
     try simp only [zds] at h20
     simp at h20
    ·try simp only [Bool.not_eq_false'] at h20
     try simp only [zds] at h20
     refine qO ?_;refine qB ?_;refine qL ?_;exact ⟨rfl,⟨rfl,rfl⟩,rfl⟩
   ·refine xZ [2,3] ?_;refine qM ?_;refine Or.inr (Or.inl (zei [] (zei [0,1,4] (zei _ (zei _ (zei _ (zei _ (zei _ (zai (htk) (zai rfl (zai (zai (zai rfl rfl) (zai (zai rfl rfl) (zai (zai rfl rfl) True.intro))) (zai rfl ?_))))))))))));refine qK ?_;refine qB ?_;refine qJ rfl (fun h20=>?_) (fun h20=>?_)
    ·skip
     refine qB ?_;refine qL ?_;exact ⟨rfl,⟨rfl,rfl⟩,rfl⟩
    ·try simp only [zbq] at h20
     try simp only [zds] at h20
     simp at h20
   ·refine xZ [2,3] ?_;refine qM ?_;refine Or.inr (Or.inl (zei [] (zei [0,1,4] (zei _ (zei _ (zei _ (zei _ (zei _ (zai (htk) (zai rfl (zai (zai (zai rfl rfl) (zai (zai rfl rfl) (zai (zai rfl rfl) True.intro))) (zai rfl ?_))))))))))));refine qK ?_;refine qB ?_;refine qJ rfl (fun h20=>?_) (fun h20=>?_)
    ·skip
     refine qB ?_;refine qL ?_;exact ⟨rfl,⟨rfl,rfl⟩,rfl⟩
    ·try simp only [zbq] at h20
     try simp only [zds] at h20
     simp at h20
theorem tins_z (sts sts' : List TSt) (id g2 : Int) (f : List Fld) (hf : f.length ≤ 1000000) (htk : qU Tryz.prog 70 [.one (.own 0 0),.agg (toL rEdt (3,id,f)),.one (.clo3 71 (.addr (.int .i64) id) (.addr (.sl rFld) f) (.own 2 0))] (txO sts ++ [gvO 0]) 3 (.one (.lit .nilIface)) (txO sts' ++ [gvO g2]) 3) :
    qU Tryz.prog 18 [.one (.own 0 0),ii .i64 id,.one (.sl rFld f)] (txO sts) 2 (.tup [(false,[.lit (.int .i64 g2)]),(false,[.lit .nilIface])]) (txO sts') 2:=tins_o _ _ sts sts' id g2 f hf ⟨.inl ⟨rfl,rfl⟩,htk⟩
theorem tins_n (sts sts' : List TSt) (id g2 : Int) (k9 : Int) (f : List Fld) (hf : f.length ≤ 1000000) (htk : qU Tryz.prog 70 [.one (.own 0 0),.agg (toL rEdt (3,id,f)),.one (.clo3 71 (.addr (.int .i64) id) (.addr (.sl rFld) f) (.own 2 0))] (txO sts ++ [gvO 0]) 3 (.one (errN k9)) (txO sts' ++ [gvO g2]) 3) :
    qU Tryz.prog 18 [.one (.own 0 0),ii .i64 id,.one (.sl rFld f)] (txO sts) 2 (.tup [(false,[.lit (.int .i64 0)]),(false,[errN k9])]) (txO sts') 2:=tins_o _ _ sts sts' id g2 f hf ⟨.inr (.inl ⟨_,rfl,rfl⟩),htk⟩
theorem tins_f (sts sts' : List TSt) (id g2 : Int) (a9 k9 : Int) (f : List Fld) (hf : f.length ≤ 1000000) (htk : qU Tryz.prog 70 [.one (.own 0 0),.agg (toL rEdt (3,id,f)),.one (.clo3 71 (.addr (.int .i64) id) (.addr (.sl rFld) f) (.own 2 0))] (txO sts ++ [gvO 0]) 3 (.one (errF a9 k9)) (txO sts' ++ [gvO g2]) 3) :
    qU Tryz.prog 18 [.one (.own 0 0),ii .i64 id,.one (.sl rFld f)] (txO sts) 2 (.tup [(false,[.lit (.int .i64 0)]),(false,[errF a9 k9])]) (txO sts') 2:=tins_o _ _ sts sts' id g2 f hf ⟨.inr (.inr ⟨_,_,rfl,rfl⟩),htk⟩
theorem tbackR_o (sts : List TSt) (m : Int) (h0 : 0 < sts.length) (hm : m < 0 ∨ (sts.length : Int) - 1 < m) : qU Tryz.prog 23 [.one (.own 0 0),ii .i64 m] (txO sts) 2 (.one (errN 1)) (txO sts) 2:=by
  refine qV (rs:=[4]) Tryz.func23 rfl rfl rfl teOk (by decide) rfl ?_;refine qB ?_;refine qK ?_;refine qR ?_;refine qB ?_;refine Or.inr (Or.inr (Or.inl ?_));refine zai rfl ?_;refine zei _ (zai (topen_c sts) ?_);refine qJ rfl (fun h5=>?_) (fun h5=>?_)
  ·try simp only [decide_eq_false_iff_not,Bool.not_eq_true'] at h5
   try simp only [zds] at h5
   exfalso
   simp at h5;have h9 : sts.length = 0:=(by rw [h5];rfl);omega
  ·try simp only [decide_eq_true_eq,Bool.not_eq_false'] at h5
   try simp only [zds] at h5
   refine qB ?_;refine zai (fun h=>trivial) ?_;refine zai (fun h=>trivial) ?_;refine Or.inl ?_;refine zai (rfl) ?_;refine zei _ (zai (fun h=>⟨⟨⟨h,trivial⟩,trivial⟩,tmark_c sts (by omega)⟩) ?_);refine zai (fun h=>⟨⟨h,trivial⟩,⟨h,trivial⟩,trivial⟩) ?_;refine zai (by first|(intro h;rw [h];rfl)|(intro h;cases h)) ?_;refine qJ rfl (fun h10=>?_) (fun h10=>?_)
   ·try simp only [decide_eq_true_eq,Bool.or_eq_true] at h10
    try simp only [zds] at h10
    refine qB ?_;refine qL ?_;exact ⟨rfl,⟨rfl,rfl⟩,rfl⟩
   ·try simp only [decide_eq_false_iff_not,Bool.or_eq_false_iff,Int.not_lt] at h10
    try simp only [zds] at h10
    exfalso
    omega
theorem tbackK_o (sts : List TSt) (m : Nat) (hm : m + 1 ≤ sts.length) (hl : sts.length ≤ 1000000) : qU Tryz.prog 23 [.one (.own 0 0),ii .i64 m] (txO sts) 2 (.one (.lit .nilIface)) (txO (sts.take (m + 1))) 2:=by
  refine qV (rs:=[4]) Tryz.func23 rfl rfl rfl teOk (by decide) rfl ?_;refine qB ?_;refine qK ?_;refine qR ?_;refine qB ?_;refine Or.inr (Or.inr (Or.inl ?_));refine zai rfl ?_;refine zei _ (zai (topen_c sts) ?_);refine qJ rfl (fun h5=>?_) (fun h5=>?_)
  ·try simp only [decide_eq_false_iff_not,Bool.not_eq_true'] at h5
   try simp only [zds] at h5
   exfalso
   simp at h5;have h9 : sts.length = 0:=(by rw [h5];rfl);omega
  ·try simp only [decide_eq_true_eq,Bool.not_eq_false'] at h5
   try simp only [zds] at h5
   refine qB ?_;refine zai (fun h=>trivial) ?_;refine zai (fun h=>trivial) ?_;refine Or.inr (zai (by (simp [gq])) (zai (by repeat' (first|exact True.intro|apply zai|rfl|decide|simp)) ?_));refine Or.inr (Or.inr (Or.inl ?_));refine zai rfl ?_;refine zei _ (zai (tmark_c sts (by omega)) ?_);refine zai (fun h=>⟨⟨h,trivial⟩,trivial⟩) ?_;refine zai (by first|(intro h;rw [h];rfl)|(intro h;cases h)) ?_;refine qJ rfl (fun h10=>?_) (fun h10=>?_)
   ·try simp only [decide_eq_true_eq,Bool.or_eq_true] at h10
    try simp only [zds] at h10
    exfalso
    omega
   ·try simp only [decide_eq_false_iff_not,Bool.or_eq_false_iff,Int.not_lt] at h10
    try simp only [zds] at h10
    refine qO ?_;refine qK ?_;refine acode_part [_,_,_,_,_,_,_] [_,_,_,_] rfl (zai (by omega) (Eq.refl _)) ?_;intro hte rd n cx e1 e2 ρ a w hs;refine cut_soundE (kk:=m + 1) Tryz.underlying121 tyTst rfl rfl rfl rfl (by rw [e1];decide) hs rfl rfl rfl (by omega) (by omega) (fun ρ a hs'=>?_);refine awp_last hte e1 e2 [_,_,_] hs' (Eq.refl _) ?_;clear hs hte hs';refine qB ?_;refine qL ?_;exact ⟨rfl,⟨rfl,rfl⟩,rfl⟩
theorem tcommit0_o (sts : List TSt) (h : sts.length = 1) : qU Tryz.prog 19 [.one (.own 0 0)] (txO sts) 2 (.tup [(false,[.lit (.slice none 0 0)]),(false,[errN 1])]) (txO sts) 2:=by
  refine qV (rs:=[2,3]) Tryz.func19 rfl rfl rfl teOk (by decide) rfl ?_;refine qB ?_;refine qK ?_;refine qR ?_;refine qB ?_;refine Or.inr (Or.inr (Or.inl ?_));refine zai rfl ?_;refine zei _ (zai (topen_c sts) ?_);refine qJ rfl (fun h5=>?_) (fun h5=>?_)
  ·try simp only [decide_eq_false_iff_not,Bool.not_eq_true'] at h5
   try simp only [zds] at h5
   exfalso
   simp at h5;have h9 : sts.length = 0:=(by rw [h5];rfl);omega
  ·try simp only [decide_eq_true_eq,Bool.not_eq_false'] at h5
   try simp only [zds] at h5
   refine qB ?_;refine Or.inr (Or.inr (Or.inl ?_));refine zai rfl ?_;refine zei _ (zai (tmark_c sts (by omega)) ?_);refine qJ rfl (fun h10=>?_) (fun h10=>?_)
   ·try simp only [decide_eq_true_eq] at h10
    try simp only [zds] at h10
    refine qB ?_;refine qL ?_;exact ⟨rfl,⟨rfl,rfl⟩,rfl⟩
   ·try simp only [decide_eq_false_iff_not] at h10
    try simp only [zds] at h10
    exfalso
    omega
theorem last_of {L0 : Lst} {sts : List TSt0} (h : xN L0 sts) {c : Nat} (hL : LOk c L0) : 0 < sts.length ∧ LOk (c + 40) (xY sts).1 ∧ (xY sts).2.length ≤ 1000:=by
  obtain ⟨l1,l2,l3,l4⟩:=h.last;have hl:=h.len;have hr:=run_ok hL fun e he=>much_ok (l4 e he).2
  rw [← l1] at hr;exact ⟨by omega,lok_mono hr (by omega),by omega⟩
theorem tRep_any {c : Nat} {L0 : Lst} (hL0 : LOk c L0) (hc : c ≤ 100000) (sts : List TSt) (h : xN L0 sts) (id : Int) (f : List Fld) (hf : yQ f) :
    qU Tryz.prog 21 [.one (.own 0 0),ii .i64 id,.one (.sl rFld f)] (txO sts) 2 (.one .any) (txO (stepT sts (1,id,f))) 2:=by
  obtain ⟨h0,hLk,hel⟩:=last_of h hL0;have hlen:=hLk.len;have hfl : f.length ≤ 1000000:=Nat.le_trans hf.1 (by decide);refine trep_a sts _ id f hfl ?_;unfold stepT
  by_cases h40 : 40 < sts.length
  · rw [if_pos (.inl h40)];exact acallo_any (tkFull2_o sts _ h40 _)
  · have hd : sts.getD (sts.length - 1) ((([] : List Ent),(0 : Int),(0 : Int)),([] : List Edt)) = ((xY sts).1,(xY sts).2):=rfl
    generalize (xY sts).2 = es at hel hd ⊢
    generalize (xY sts).1 = L at hLk hlen hd ⊢
    obtain ⟨el,n,m⟩:=L;simp only [h40,false_or];unfold oneN doL;simp only [if_pos];simp only at hlen
    by_cases ha : atE el id < 0
    · simp only [if_pos ha];rw [if_pos (by decide)];exact acallo_any (tk2n_o (.int .i64) id (.sl rFld) f 7 sts (el,n,m) (el,n,m) es (1,id,f) h0 (by omega) hd hel (by simp only;omega) (rp1_n _ _ 7 id f (lRep_no el n m id f ha)))
    · simp only [if_neg ha]
      by_cases hck : (chkR f).2 ≠ 0
      · have hb:=lRep_bad (κ:=0) el n m id f (by omega) hf hck;rw [if_pos hck];rcases chk_shape hck with ⟨k9,g1,g2,g3,g4⟩|⟨a9,k9,g1,g2,g3,g4⟩
        · rw [g1] at hb;exact acallo_any (tk2n_o (.int .i64) id (.sl rFld) f k9 sts (el,n,m) (el,n,m) es (1,id,f) h0 (by omega) hd hel (by simp only;omega) (rp1_n _ _ k9 id f hb))
        · rw [g1] at hb;exact acallo_any (tk2f_o (.int .i64) id (.sl rFld) f a9 k9 sts (el,n,m) (el,n,m) es (1,id,f) h0 (by omega) hd hel (by simp only;omega) (rp1_f _ _ a9 k9 id f hb))
      · have hck' : (chkR f).2 = 0:=Classical.not_not.1 hck;rw [if_neg hck,if_neg hck];obtain ⟨i,hi,he,_,_⟩:=at_lt ha;rw [he,Int.toNat_natCast];exact acallo_any (ttake2_o (.int .i64) id (.sl rFld) f sts (el,n,m) _ es (1,id,f) h0 (by omega) hd hel (by simp only;omega) (rp1_z _ _ id f (lRep_ok el n m id f i hi he hf hck')))
theorem tDel_any {c : Nat} {L0 : Lst} (hL0 : LOk c L0) (hc : c ≤ 100000) (sts : List TSt) (h : xN L0 sts) (id : Int) :
    qU Tryz.prog 22 [.one (.own 0 0),ii .i64 id] (txO sts) 2 (.one .any) (txO (stepT sts (2,id,[]))) 2:=by
  obtain ⟨h0,hLk,hel⟩:=last_of h hL0;have hlen:=hLk.len;have hmany:=hLk.many;refine tdel_a sts _ id ?_;unfold stepT
  by_cases h40 : 40 < sts.length
  · rw [if_pos (.inl h40)];exact acallo_any (tkFull2_o sts _ h40 _)
  · have hd : sts.getD (sts.length - 1) ((([] : List Ent),(0 : Int),(0 : Int)),([] : List Edt)) = ((xY sts).1,(xY sts).2):=rfl
    generalize (xY sts).2 = es at hel hd ⊢
    generalize (xY sts).1 = L at hLk hlen hmany hd ⊢
    obtain ⟨el,n,m⟩:=L;have hids:=ids_len el;have hil:=List.length_filter_le live el;simp only [h40,false_or];unfold oneN doL;simp only [if_neg (show ¬ (2 : Int) = 1 by decide),if_pos];simp only at hlen hmany
    by_cases ha : atE el id < 0
    · simp only [if_pos ha];rw [if_pos (by decide)];exact acallo_any (tk1n_o (.int .i64) id 7 sts (el,n,m) (el,n,m) es (2,id,[]) h0 (by omega) hd hel (by simp only;omega) (dl1_n _ _ 7 id (lDel_no el n m id ha)))
    · simp only [if_neg ha];rw [if_neg (by decide)];obtain ⟨i,hi,he,_,_⟩:=at_lt ha;rw [he,Int.toNat_natCast];exact acallo_any (ttake1_o (.int .i64) id sts (el,n,m) _ es (2,id,[]) h0 (by omega) hd hel (by simp only;omega) (dl1_z _ _ id (lDel_ok el n m id i hi he (by omega) (by omega))))
theorem tIns_cases {c : Nat} {L0 : Lst} (hL0 : LOk c L0) (hc : c ≤ 100000) (sts : List TSt) (h : xN L0 sts) (id : Int) (f : List Fld) (hf : yQ f) :
    (∃ n9 : Int,qU Tryz.prog 18 [.one (.own 0 0),ii .i64 id,.one (.sl rFld f)] (txO sts) 2 (.tup [(false,[.lit (.int .i64 n9)]),(false,[.lit .nilIface])]) (txO (stepT sts (3,id,f))) 2) ∨ (∃ k9 : Int,qU Tryz.prog 18 [.one (.own 0 0),ii .i64 id,.one (.sl rFld f)] (txO sts) 2 (.tup [(false,[.lit (.int .i64 0)]),(false,[errN k9])]) (txO (stepT sts (3,id,f))) 2) ∨ (∃ a9 k9 : Int,qU Tryz.prog 18 [.one (.own 0 0),ii .i64 id,.one (.sl rFld f)] (txO sts) 2 (.tup [(false,[.lit (.int .i64 0)]),(false,[errF a9 k9])]) (txO (stepT sts (3,id,f))) 2):=by
  obtain ⟨h0,hLk,hel⟩:=last_of h hL0;have hlen:=hLk.len;have hmany:=hLk.many;have hnx:=hLk.next;have hfl : f.length ≤ 1000000:=Nat.le_trans hf.1 (by decide);unfold stepT
  by_cases h40 : 40 < sts.length
  · rw [if_pos (.inl h40)];exact .inr (.inl ⟨_,tins_n sts _ id 0 1 f hfl (tkFull3_o sts _ 0 h40 _)⟩)
  · have hd : sts.getD (sts.length - 1) ((([] : List Ent),(0 : Int),(0 : Int)),([] : List Edt)) = ((xY sts).1,(xY sts).2):=rfl
    generalize (xY sts).2 = es at hel hd ⊢
    generalize (xY sts).1 = L at hLk hlen hmany hnx hd ⊢
    obtain ⟨el,n,m⟩:=L;have hids:=ids_len el;have hil:=List.length_filter_le live el;simp only [h40,false_or];unfold oneN doL;simp only [if_neg (show ¬ (3 : Int) = 1 by decide),if_neg (show ¬ (3 : Int) = 2 by decide)];simp only at hlen hmany hnx
    by_cases ha : atE el id < 0 ∧ id ≠ 0
    · simp only [if_pos ha];rw [if_pos (by decide)];exact .inr (.inl ⟨_,tins_n sts _ id 0 7 f hfl (tk3n_o (.int .i64) id (.sl rFld) f 0 0 7 sts (el,n,m) (el,n,m) es (3,id,f) h0 (by omega) hd hel (by simp only;omega) (in1_n _ _ 0 0 7 id f (lIns_no el n m id f ha.1 ha.2)))⟩)
    · simp only [if_neg ha]
      by_cases hck : (chkR f).2 ≠ 0
      · have hb:=lIns_bad (κ:=0) el n m id f ha hf hck;simp only [if_pos hck];rcases chk_shape hck with ⟨k9,g1,g2,g3,g4⟩|⟨a9,k9,g1,g2,g3,g4⟩
        · rw [g1] at hb;exact .inr (.inl ⟨_,tins_n sts _ id 0 k9 f hfl (tk3n_o (.int .i64) id (.sl rFld) f 0 0 k9 sts (el,n,m) (el,n,m) es (3,id,f) h0 (by omega) hd hel (by simp only;omega) (in1_n _ _ 0 0 k9 id f hb))⟩)
        · rw [g1] at hb;exact .inr (.inr ⟨_,_,tins_f sts _ id 0 a9 k9 f hfl (tk3f_o (.int .i64) id (.sl rFld) f 0 0 a9 k9 sts (el,n,m) (el,n,m) es (3,id,f) h0 (by omega) hd hel (by simp only;omega) (in1_f _ _ 0 0 a9 k9 id f hb))⟩)
      · have hck' : (chkR f).2 = 0:=Classical.not_not.1 hck;simp only [if_neg hck]
        by_cases h4 : 400 ≤ m
        · simp only [if_pos h4];rw [if_pos (by decide)];exact .inr (.inl ⟨_,tins_n sts _ id 0 11 f hfl (tk3n_o (.int .i64) id (.sl rFld) f 0 0 11 sts (el,n,m) (el,n,m) es (3,id,f) h0 (by omega) hd hel (by simp only;omega) (in1_n _ _ 0 0 11 id f (lIns_full el n m id f ha hf hck' h4)))⟩)
        · simp only [if_neg h4];rw [if_neg (by decide)];obtain ⟨j,hj,hje⟩ : ∃ j : Nat,j ≤ el.length ∧ atE el id + 1 = (j : Int):=by
            rcases at_cases el id with ⟨h1,_⟩|⟨i,h1,h2,_⟩
            · exact ⟨0,Nat.zero_le _,by omega⟩
            · exact ⟨i + 1,by omega,by omega⟩
          rw [hje,Int.toNat_natCast];exact .inl ⟨_,tins_z sts _ id n f hfl (tk3ok_o (.int .i64) id (.sl rFld) f 0 n sts (el,n,m) _ es (3,id,f) h0 (by omega) hd hel (by simp only;omega) (in1_z _ _ 0 n id f (lIns_ok el n m id f j hj ha hje hf hck' (by omega) (by omega) (by omega))))⟩
theorem tBack_any {L0 : Lst} (sts : List TSt) (h : xN L0 sts) (m : Int) :
    qU Tryz.prog 23 [.one (.own 0 0),ii .i64 m] (txO sts) 2 (.one .any) (txO (backT sts m)) 2:=by
  have hl:=h.len;unfold backT
  by_cases hm : m < 0 ∨ (sts.length : Int) - 1 < m
  · rw [if_pos hm];exact acallo_any (tbackR_o sts m (by omega) hm)
  · rw [if_neg hm];have hn : m = (m.toNat : Int):=by omega
    rw [hn,Int.toNat_natCast];exact acallo_any (tbackK_o sts m.toNat (by omega) (by omega))
def txF : List Fld:=[(⟨#[65]⟩,⟨#[50]⟩)]
def tx0 : Lst:=(al0,2,1)
def tx1 : Lst:=(xW al0 0 (xC txF),2,1)
def tx2 : Lst:=(delE (xW al0 0 (xC txF)) 0,2,0)
def te1 : List Edt:=[(1,1,txF)]
def te2 : List Edt:=[(1,1,txF),(2,1,[])]
theorem alive17_c : qY Tryz.prog 8 [] (ib true):=by
  have hof:=of_ok ⟨#[65,58,32,49,10]⟩ (by decide) a1_parse7;rw [show ofT [(3,⟨#[65,58,32,49,10]⟩,[(⟨#[65]⟩,⟨#[49]⟩)])] = tx0 from rfl] at hof;have hbe:=(tbegin_o (k:=1) tx0 (by decide)).x;have hrp:=trepF_o [(tx0,[])] tx0 [] 1 txF 0 (by decide) (by decide +kernel) ⟨by decide,by decide⟩ (by decide +kernel) (by decide) (by decide) rfl (by decide) (by decide);rw [show ([(tx0,[])] : List TSt) ++ [((xW tx0.1 0 (xC txF),tx0.2),[] ++ [(1,1,txF)])] = [(tx0,[]),(tx1,te1)] from rfl] at hrp;have hmk:=tmark_c (k:=1) [(tx0,[]),(tx1,te1)] (by decide);have hdl:=tdel_o [(tx0,[]),(tx1,te1)] tx1 te1 1 0 (by decide) (by decide +kernel) (by decide) (by decide) (by decide) rfl (by decide) (by decide);rw [show ([(tx0,[]),(tx1,te1)] : List TSt) ++ [((delE tx1.1 0,tx1.2.1,tx1.2.2 - 1),te1 ++ [(2,1,[])])] = [(tx0,[]),(tx1,te1),(tx2,te2)] from rfl] at hdl;have hls:=(tlist_o (k:=1) [(tx0,[]),(tx1,te1),(tx2,te2)] tx2 te2 (by decide) rfl (by decide)).x;have hbk:=tback_o [(tx0,[]),(tx1,te1),(tx2,te2)] 1 (by decide) (by decide);rw [show ([(tx0,[]),(tx1,te1),(tx2,te2)] : List TSt).take (1 + 1) = [(tx0,[]),(tx1,te1)] from rfl] at hbk;have hcm:=tcommit_o [(tx0,[]),(tx1,te1)] tx1 te1 (by decide) rfl (by decide) (by decide);have htx:=textL_c (k:=1) al0 2 1 (by decide) (by decide) (by decide +kernel);rw [show bytes (txtL al0) = ⟨#[65,58,32,49,10]⟩ from by decide +kernel] at htx;refine qX (rs:=[0]) Tryz.func8 rfl rfl rfl teOk rfl ?_;refine qB ?_;refine qB ?_;refine Or.inr (Or.inl (zei [] (zei [] (zei _ (zei _ (zei _ (zei _ (zei _ (zai (hof) (zai rfl (zai True.intro (zai rfl ?_))))))))))));refine qK ?_;refine qB ?_;refine zai (fun h=>trivial) ?_;refine zai (fun h=>⟨⟨h,trivial⟩,trivial⟩) ?_;refine zai (by first|(intro h;rw [h];rfl)|(intro h;cases h)) ?_;refine qJ rfl (fun h15=>?_) (fun h15=>?_)
  ·try simp only [Bool.not_eq_true',Bool.or_eq_true] at h15
   try simp only [zds] at h15
   simp at h15
  ·try simp only [Bool.not_eq_false',Bool.or_eq_false_iff] at h15
   try simp only [zds] at h15
   refine qO ?_;refine qB ?_;refine Or.inr (Or.inr (Or.inr (zei [] (zei [] (zei _ (zei _ (zei _ (zei _ (zei _ (zai (hbe) (zai rfl (zai True.intro (zai rfl ?_)))))))))))));refine qK ?_;refine qB ?_;refine zai (fun h=>trivial) ?_;refine zai (fun h=>⟨⟨h,trivial⟩,trivial⟩) ?_;refine zai (by first|(intro h;rw [h];rfl)|(intro h;cases h)) ?_;refine zai (fun h=>trivial) ?_;refine zai (fun h=>trivial) ?_;refine zai (fun h=>⟨⟨h,trivial⟩,trivial⟩) ?_;refine Or.inr (zai (by first|rfl|decide|simp) (zai (by repeat' (first|exact True.intro|apply zai|rfl|decide|simp)) ?_));refine Or.inr (Or.inl (zei [] (zei [5,4] (zei _ (zei _ (zei _ (zei _ (zei _ (zai (hrp) (zai rfl (zai (zai (zai rfl rfl) (zai (zai rfl rfl) True.intro)) (zai rfl ?_))))))))))));refine zai (fun h=>trivial) ?_;refine zai (by first|(intro h;rw [h];rfl)|(intro h;cases h)) ?_;refine qJ rfl (fun h33=>?_) (fun h33=>?_)
   ·try simp only [Bool.not_eq_true',Bool.or_eq_true] at h33
    try simp only [zds] at h33
    simp at h33
   ·try simp only [Bool.not_eq_false',Bool.or_eq_false_iff] at h33
    try simp only [zds] at h33
    refine qO ?_;refine qB ?_;refine Or.inr (Or.inr (Or.inl ?_));refine zai rfl ?_;refine zei _ (zai (hmk) ?_);refine qK ?_;refine qB ?_;refine Or.inr (Or.inl (zei [] (zei [5,4] (zei _ (zei _ (zei _ (zei _ (zei _ (zai (hdl) (zai rfl (zai (zai (zai rfl rfl) (zai (zai rfl rfl) True.intro)) (zai rfl ?_))))))))))));refine zai (fun h=>trivial) ?_;refine Or.inr (zai (by first|rfl|decide|simp) (zai (by repeat' (first|exact True.intro|apply zai|rfl|decide|simp)) ?_));refine Or.inr (Or.inr (Or.inr (zei [] (zei [] (zei _ (zei _ (zei _ (zei _ (zei _ (zai (hls) (zai rfl (zai True.intro (zai rfl ?_)))))))))))));refine Or.inr (zai (by first|rfl|decide|simp) (zai (by repeat' (first|exact True.intro|apply zai|rfl|decide|simp)) ?_));refine Or.inr (Or.inr (Or.inl ?_));refine zai rfl ?_;refine zei _ (zai (len_c tx2.1 tx2.2.1 tx2.2.2) ?_);refine zai (fun h=>trivial) ?_;refine zai (by first|(intro h;rw [h];rfl)|(intro h;cases h)) ?_;refine zai (fun h=>trivial) ?_;refine zai (fun h=>trivial) ?_;refine Or.inr (zai (by first|rfl|decide|simp) (zai (by repeat' (first|exact True.intro|apply zai|rfl|decide|simp)) ?_));refine Or.inr (Or.inl (zei [] (zei [5,4] (zei _ (zei _ (zei _ (zei _ (zei _ (zai (hbk) (zai rfl (zai (zai (zai rfl rfl) (zai (zai rfl rfl) True.intro)) (zai rfl ?_))))))))))));refine zai (fun h=>trivial) ?_;refine zai (by first|(intro h;rw [h];rfl)|(intro h;cases h)) ?_;refine qJ rfl (fun h50=>?_) (fun h50=>?_)
    ·try simp only [decide_eq_false_iff_not,Bool.not_eq_true',Bool.or_eq_true] at h50
     try simp only [zds] at h50
     simp at h50;exact absurd rfl h50
    ·try simp only [decide_eq_true_eq,Bool.not_eq_false',Bool.or_eq_false_iff] at h50
     try simp only [zds] at h50
     refine qO ?_;refine qB ?_;refine Or.inr (Or.inl (zei [] (zei [5,4] (zei _ (zei _ (zei _ (zei _ (zei _ (zai (hcm) (zai rfl (zai (zai (zai rfl rfl) (zai (zai rfl rfl) True.intro)) (zai rfl ?_))))))))))));refine qB ?_;refine zai (fun h=>trivial) ?_;refine zai (fun h=>⟨⟨h,trivial⟩,trivial⟩) ?_;refine zai (fun h=>⟨⟨h,trivial⟩,trivial⟩) ?_;refine zai (by exact fun h=>h) ?_;refine zai (fun h=>trivial) ?_;refine zai (fun h=>⟨⟨⟨h,trivial⟩,trivial⟩,by first|omega|decide|(simp only [zds];omega)|(have h9:=of_decide_eq_true h;omega)|(simp [gq] at h;omega)⟩) ?_;refine zai (fun h=>⟨⟨h,trivial⟩,trivial⟩) ?_;refine zai (fun h=>⟨⟨h,trivial⟩,trivial⟩) ?_;refine zai (fun h=>⟨⟨h,trivial⟩,trivial⟩) ?_;refine zai (by exact fun h=>h) ?_;refine zai (fun h=>trivial) ?_;refine zai (fun h=>⟨⟨h,trivial⟩,trivial⟩) ?_;refine zai (by exact fun h=>h) ?_;refine zai (fun h=>trivial) ?_;refine Or.inr (zai (by first|rfl|decide|simp) (zai (by repeat' (first|exact True.intro|apply zai|rfl|decide|simp)) ?_));refine Or.inr (Or.inr (Or.inl ?_));refine zai rfl ?_;refine zei _ (zai (htx) ?_);refine zai (fun h=>trivial) ?_;refine zai (by exact fun h=>h) ?_;refine qL ?_;exact ib_eq (by decide)
end Q
end Ab
end Go.Proofs.YtojipboabgebfaaGreatDoor
namespace Go.Proofs.YtojipboabgebfaaGreatDoor.As
open Go.RowKit Go.Extern.Stop Go.Stop Go.Extern
theorem valueOf27 (t : Addr) (w : World) : (ReflectliteValue.unpack (.iface 262 (.pointer (some t)))).run Tryz.prog w
    = .ok (.agg #[.pointer (some ⟨4,262,none⟩),.pointer (some ⟨w.heap.size,0,none⟩),.int .u64 150]) (w.alloc (.cells #[.pointer (some t)] 262)):=by kernel_rfl
theorem type27 (a : Addr) (w : World) : (ReflectliteValue.methodAny (ReflectliteValue.valueError "reflectlite.Value.Type" 0) (fun t _ _ _ => ReflectliteType.toType t) #[.agg #[.pointer (some ⟨4, 262, none⟩), .pointer (some a), .int .u64 150]]).run Tryz.prog w
    = .ok (.iface 311 (.agg #[.pointer (some ⟨4,262,none⟩)])) w:=by kernel_rfl
theorem methodKind (h : Value) (w : World) : (Go.method 467 311 (.agg #[h]) "Kind").run Tryz.prog w = .ok (252, h) w := by kernel_rfl
theorem kind27 (w : World) : ((ReflectliteType.abiMethod fun t=>(fun a : Nat=>Value.int IntKind.u8 (a : Int)) <$> Rtype.kind t) #[.pointer (some ⟨4,262,none⟩)]).run Tryz.prog w = .ok (.int .u8 22) w:=by kernel_rfl
theorem kind25 (w : World) : ((ReflectliteType.abiMethod fun t=>(fun a : Nat=>Value.int IntKind.u8 (a : Int)) <$> Rtype.kind t) #[.pointer (some ⟨4,174,none⟩)]).run Tryz.prog w = .ok (.int .u8 22) w:=by kernel_rfl
theorem rlm (z : Sem Value) (f : TypeId → Addr → Nat → Nat → Sem Value) (v : Value) :
    ReflectliteValue.method z f #[v] = (do match ← ReflectliteValue.parts v with|none=>z|some (t,a,fl)=>f t a fl (fl % 32)):=rfl
theorem parts27 (a : Addr) (w : World) : (ReflectliteValue.parts (.agg #[.pointer (some ⟨4,262,none⟩),.pointer (some a),.int .u64 150])).run Tryz.prog w = .ok (some (262,a,150)) w:=by kernel_rfl
theorem isNil27 (a p : Addr) (W : World) (ha : W.cell? a = some (.pointer (some p))) :
    (ReflectliteValue.method (ReflectliteValue.valueError "reflectlite.Value.IsNil" 0) ReflectliteValue.isNil #[.agg #[.pointer (some ⟨4, 262, none⟩), .pointer (some a), .int .u64 150]]).run Tryz.prog W = .ok (.bool false) W := by
  rw [rlm];simp only [Sem.run_bind,parts27,Result.andThen];simp [ReflectliteValue.isNil,loadVar,isAgg,underlying,Tryz.underlying262,ha,Result.andThen]
theorem methodElem (h : Value) (w : World) : (Go.method 467 311 (.agg #[h]) "Elem").run Tryz.prog w = .ok (266, .agg #[h]) w := by kernel_rfl
theorem methodImplements (h : Value) (w : World) : (Go.method 467 311 (.agg #[h]) "Implements").run Tryz.prog w = .ok (267, .agg #[h]) w := by kernel_rfl
theorem methodAssignableTo (h : Value) (w : World) : (Go.method 467 311 (.agg #[h]) "AssignableTo").run Tryz.prog w = .ok (264, .agg #[h]) w := by kernel_rfl
theorem elem27 (w : World) : (ReflectliteType.method ReflectliteType.elem #[.agg #[.pointer (some ⟨4,262,none⟩)]]).run Tryz.prog w = .ok (.iface 311 (.agg #[.pointer (some ⟨4,174,none⟩)])) w:=by kernel_rfl
theorem implements25 (w : World) : (ReflectliteType.relation "Implements" ReflectliteType.implements_ #[.agg #[.pointer (some ⟨4, 174, none⟩)], .iface 311 (.agg #[.pointer (some ⟨4, 37, none⟩)])]).run Tryz.prog w = .ok (.bool true) w := by kernel_rfl
theorem typeOf25 (v : Value) (w : World) : (ReflectliteType.typeOf #[.iface 174 v]).run Tryz.prog w = .ok (.iface 311 (.agg #[.pointer (some ⟨4,174,none⟩)])) w:=by kernel_rfl
theorem assignable25 (w : World) : (ReflectliteType.relation "AssignableTo" ReflectliteType.assignableTo #[.agg #[.pointer (some ⟨4, 174, none⟩)], .iface 311 (.agg #[.pointer (some ⟨4, 174, none⟩)])]).run Tryz.prog w = .ok (.bool true) w := by kernel_rfl
theorem valueOf25 (e : Addr) (w : World) : (ReflectliteValue.unpack (.iface 174 (.pointer (some e)))).run Tryz.prog w
    = .ok (.agg #[.pointer (some ⟨4,174,none⟩),.pointer (some ⟨w.heap.size,0,none⟩),.int .u64 150]) (w.alloc (.cells #[.pointer (some e)] 174)):=by kernel_rfl
theorem elemOf27 (w : World) : (Rtype.elem? 262).run Tryz.prog w = .ok (some 174) w:=by kernel_rfl
theorem mk25 (p : Addr) (w : World) : (ReflectliteValue.mk 174 p ReflectliteValue.flagAddr).run Tryz.prog w = .ok (.agg #[.pointer (some ⟨4,174,none⟩),.pointer (some p),.int .u64 406]) w:=by kernel_rfl
theorem elemV27 (a p : Addr) (W : World) (ha : W.cell? a = some (.pointer (some p))) :
    (ReflectliteValue.method (ReflectliteValue.valueError "reflectlite.Value.Elem" 0) ReflectliteValue.elem #[.agg #[.pointer (some ⟨4, 262, none⟩), .pointer (some a), .int .u64 150]]).run Tryz.prog W
      = .ok (.agg #[.pointer (some ⟨4,174,none⟩),.pointer (some p),.int .u64 406]) W:=by
  rw [rlm];simp only [Sem.run_bind,parts27,Result.andThen];simp [ReflectliteValue.elem,loadVar,isAgg,underlying,Tryz.underlying262,ha,Result.andThen,elemOf27,mk25]
theorem rls (v x : Value) : ReflectliteValue.set #[v,x] = (do
    let (some (dst,a,fl),some (src,b,_)):=(← ReflectliteValue.parts v,← ReflectliteValue.parts x)
      | unsupported (.noEntry "extern/(internal/reflectlite.Value).Set.zeroValue")
    if fl / ReflectliteValue.flagAddr % 2 == 0 then unsupported (.noEntry "extern/(internal/reflectlite.Value).Set.unaddressable")
    let val ← loadVar src b
    if ← Rtype.directlyAssignable dst src then storeVar dst a val
    else if ← Rtype.implements dst src then
      if (← Rtype.kind src) == 20 then
        match val with
        | .nilIface => unsupported (.noEntry "extern/reflectlite: a nil value of one interface type handed on as a value of another")
        | _=>storeVar dst a val
      else storeVar dst a (.iface src val)
    else panicString ("reflectlite.Set: value of type " ++ (← Rtype.spelt src) ++ " is not assignable to type " ++ (← Rtype.spelt dst))
    pure (.tuple #[])):=rfl
theorem parts25a (a : Addr) (w : World) : (ReflectliteValue.parts (.agg #[.pointer (some ⟨4,174,none⟩),.pointer (some a),.int .u64 406])).run Tryz.prog w = .ok (some (174,a,406)) w:=by kernel_rfl
theorem parts25 (a : Addr) (w : World) : (ReflectliteValue.parts (.agg #[.pointer (some ⟨4,174,none⟩),.pointer (some a),.int .u64 150])).run Tryz.prog w = .ok (some (174,a,150)) w:=by kernel_rfl
theorem direct25 (w : World) : (Rtype.directlyAssignable 174 174).run Tryz.prog w = .ok true w:=by kernel_rfl
theorem set25 (ta b e : Addr) (old : Value) (W : World) (hb : W.cell? b = some (.pointer (some e))) (ht : W.cell? ta = some old) (hf : W.frozen? ta = false) :
    (ReflectliteValue.set #[.agg #[.pointer (some ⟨4,174,none⟩),.pointer (some ta),.int .u64 406],.agg #[.pointer (some ⟨4,174,none⟩),.pointer (some b),.int .u64 150]]).run Tryz.prog W
      = .ok (.tuple #[]) (W.setCell ta (.pointer (some e))):=by
  rw [rls];simp only [Sem.run_bind,parts25a,parts25,Result.andThen];simp [ReflectliteValue.flagAddr,loadVar,isAgg,underlying,Tryz.underlying174,hb,Result.andThen,direct25,storeVar,Value.cells,storeCells,Addr.add];rw [run_store Tryz.prog W ta _ _ (by rfl)];simp [ht,hf]
theorem typeOfN (v : Value) (w : World) : (ReflectliteType.typeOf #[.iface 45 v]).run Tryz.prog w = .ok (.iface 311 (.agg #[.pointer (some ⟨4,45,none⟩)])) w:=by kernel_rfl
theorem assignableN (w : World) : (ReflectliteType.relation "AssignableTo" ReflectliteType.assignableTo #[.agg #[.pointer (some ⟨4, 45, none⟩)], .iface 311 (.agg #[.pointer (some ⟨4, 174, none⟩)])]).run Tryz.prog w = .ok (.bool false) w := by kernel_rfl
theorem noAs (v : Value) (xT : TypeId) (w : World) : (Instr.typeAssert (.iface 45 v) xT 316 true).run Tryz.prog w = .ok (.tuple #[.nilIface,.bool false]) w:=run_typeAssert_lacksB Tryz.underlying316 (by kernel_rfl) (by kernel_rfl) v xT w
theorem noUnwrap (v : Value) (xT : TypeId) (w : World) : (Instr.typeAssert (.iface 45 v) xT 319 true).run Tryz.prog w = .ok (.tuple #[.nilIface,.bool false]) w:=run_typeAssert_lacksB Tryz.underlying319 (by kernel_rfl) (by kernel_rfl) v xT w
theorem noUnwraps (v : Value) (xT : TypeId) (w : World) : (Instr.typeAssert (.iface 45 v) xT 320 true).run Tryz.prog w = .ok (.tuple #[.nilIface,.bool false]) w:=run_typeAssert_lacksB Tryz.underlying320 (by kernel_rfl) (by kernel_rfl) v xT w
set_option maxHeartbeats 4000000 in
theorem as_hit (e t : Addr) (old : Value) (w : World) (hg : w.cell? ⟨0,0,none⟩ = some (.iface 311 (.agg #[.pointer (some ⟨4,37,none⟩)]))) (ht0 : w.cell? t = some old) (hf0 : w.frozen? t = false) :
    Calls Tryz.prog 167 #[.iface 174 (.pointer (some e)),.iface 262 (.pointer (some t))] w fun ev w'=>ev = .returned (.bool true) ∧ w' = ((((w.alloc (.cells #[.pointer (some t)] 262)).alloc (.cells #[.pointer (some ⟨4,262,none⟩),.pointer (some ⟨w.heap.size,0,none⟩),.int .u64 150] 288)).alloc (.cells #[.pointer (some ⟨4,262,none⟩),.pointer (some ⟨w.heap.size,0,none⟩),.int .u64 150] 288)).alloc (.cells #[.pointer (some e)] 174)).setCell t (.pointer (some e)):=by
  have h6 := @run_callFunc_extern Tryz.prog 190 _ (fun args => ReflectliteValue.unpack (args.getD 0 (.tuple #[]))) Tryz.func190 (by kernel_rfl) (by kernel_rfl) (by kernel_rfl) (by kernel_rfl);have h7 := @run_callFunc_extern Tryz.prog 191 _ (ReflectliteValue.methodAny (ReflectliteValue.valueError "reflectlite.Value.Type" 0) (fun t _ _ _ => ReflectliteType.toType t)) Tryz.func191 (by kernel_rfl) (by kernel_rfl) (by kernel_rfl) (by kernel_rfl);have h8 := @run_callFunc_extern Tryz.prog 192 _ (ReflectliteValue.method (ReflectliteValue.valueError "reflectlite.Value.IsNil" 0) ReflectliteValue.isNil) Tryz.func192 (by kernel_rfl) (by kernel_rfl) (by kernel_rfl) (by kernel_rfl);have h27 := @run_callFunc_extern Tryz.prog 252 _ (ReflectliteType.abiMethod fun t => do pure (.int .u8 (← Rtype.kind t))) Tryz.func252 (by kernel_rfl) (by kernel_rfl) (by kernel_rfl) (by kernel_rfl);have h37 := @run_callFunc_extern Tryz.prog 266 _ (ReflectliteType.method ReflectliteType.elem) Tryz.func266 (by kernel_rfl) (by kernel_rfl) (by kernel_rfl) (by kernel_rfl);have h38 := @run_callFunc_extern Tryz.prog 267 _ (ReflectliteType.relation "Implements" ReflectliteType.implements_) Tryz.func267 (by kernel_rfl) (by kernel_rfl) (by kernel_rfl) (by kernel_rfl);have h10 := @run_callFunc_extern Tryz.prog 212 _ ReflectliteType.typeOf Tryz.func212 (by kernel_rfl) (by kernel_rfl) (by kernel_rfl) (by kernel_rfl);have h35 := @run_callFunc_extern Tryz.prog 264 _ (ReflectliteType.relation "AssignableTo" ReflectliteType.assignableTo) Tryz.func264 (by kernel_rfl) (by kernel_rfl) (by kernel_rfl) (by kernel_rfl);have h11 := @run_callFunc_extern Tryz.prog 213 _ (ReflectliteValue.method (ReflectliteValue.valueError "reflectlite.Value.Elem" 0) ReflectliteValue.elem) Tryz.func213 (by kernel_rfl) (by kernel_rfl) (by kernel_rfl) (by kernel_rfl);have h12 := @run_callFunc_extern Tryz.prog 214 _ ReflectliteValue.set Tryz.func214 (by kernel_rfl) (by kernel_rfl) (by kernel_rfl) (by kernel_rfl);have tO := typeOf25;have mA := methodAssignableTo;have a25 := assignable25;have v25 := valueOf25;have f6 := valueOf27;have f7 := type27;have mK := methodKind;have mE := methodElem;have mI := methodImplements;have k27 := kind27;have k25 := kind25;have e27 := elem27;have i25 := implements25;have n8 := isNil27 ⟨w.heap.size, 0, none⟩ t ((w.alloc (.cells #[.pointer (some t)] 262)).alloc (.cells #[.pointer (some ⟨4, 262, none⟩), .pointer (some ⟨w.heap.size, 0, none⟩), .int .u64 150] 288)) (by simp);have hlt : 0 < w.heap.size := by
    rcases Nat.lt_or_ge 0 w.heap.size with h|h
    · exact h
    · simp [World.cell?,Array.getElem?_eq_none h] at hg
  have hg2 : ((w.alloc (.cells #[.pointer (some t)] 262)).alloc (.cells #[.pointer (some ⟨4,262,none⟩),.pointer (some ⟨w.heap.size,0,none⟩),.int .u64 150] 288)).cell? ⟨0,0,none⟩ = some (.iface 311 (.agg #[.pointer (some ⟨4,37,none⟩)])):=by
    rw [World.cell?_alloc_lt _ _ ⟨0,0,none⟩ (by simp),World.cell?_alloc_lt _ _ ⟨0,0,none⟩ hlt];exact hg
  have htl : t.block < w.heap.size:=by
    rcases Nat.lt_or_ge t.block w.heap.size with h|h
    · exact h
    · simp [World.cell?,Array.getElem?_eq_none h] at ht0
  have el:=elemV27 ⟨w.heap.size,0,none⟩ t (((w.alloc (.cells #[.pointer (some t)] 262)).alloc (.cells #[.pointer (some ⟨4,262,none⟩),.pointer (some ⟨w.heap.size,0,none⟩),.int .u64 150] 288)).alloc (.cells #[.pointer (some ⟨4,262,none⟩),.pointer (some ⟨w.heap.size,0,none⟩),.int .u64 150] 288)) (by rw [World.cell?_alloc_lt _ _ ⟨w.heap.size,0,none⟩ (by simp;omega)];simp);have st:=set25 t ⟨w.heap.size + 1 + 1 + 1,0,none⟩ e old ((((w.alloc (.cells #[.pointer (some t)] 262)).alloc (.cells #[.pointer (some ⟨4,262,none⟩),.pointer (some ⟨w.heap.size,0,none⟩),.int .u64 150] 288)).alloc (.cells #[.pointer (some ⟨4,262,none⟩),.pointer (some ⟨w.heap.size,0,none⟩),.int .u64 150] 288)).alloc (.cells #[.pointer (some e)] 174))
    (by rw [World.cell?_alloc_at _ _ _ _ (by simp)];rfl)
    (by rw [World.cell?_alloc_lt _ _ t (by simp;omega),World.cell?_alloc_lt _ _ t (by simp;omega),World.cell?_alloc_lt _ _ t (by simp;omega),World.cell?_alloc_lt _ _ t htl];exact ht0)
    (by rw [World.frozen?_alloc_old _ _ t (by simp;omega),World.frozen?_alloc_old _ _ t (by simp;omega),World.frozen?_alloc_old _ _ t (by simp;omega),World.frozen?_alloc_old _ _ t (Nat.ne_of_lt htl)];exact hf0)
  go_enter Tryz.func167,Tryz.ntmps167
  go_wp2
  refine wp_loop_rounds 1 ?_;rw [rounds_succ]
  go_wp2
  go_ret
  exact ⟨rfl,rfl⟩
set_option maxHeartbeats 4000000 in
theorem as_miss (v : Value) (t : Addr) (old : Value) (w : World) (hg : w.cell? ⟨0,0,none⟩ = some (.iface 311 (.agg #[.pointer (some ⟨4,37,none⟩)]))) (ht0 : w.cell? t = some old) (_ : w.frozen? t = false) :
    Calls Tryz.prog 167 #[.iface 45 v,.iface 262 (.pointer (some t))] w fun ev w'=>ev = .returned (.bool false) ∧ w' = ((w.alloc (.cells #[.pointer (some t)] 262)).alloc (.cells #[.pointer (some ⟨4,262,none⟩),.pointer (some ⟨w.heap.size,0,none⟩),.int .u64 150] 288)).alloc (.cells #[.pointer (some ⟨4,262,none⟩),.pointer (some ⟨w.heap.size,0,none⟩),.int .u64 150] 288):=by
  have h6 := @run_callFunc_extern Tryz.prog 190 _ (fun args => ReflectliteValue.unpack (args.getD 0 (.tuple #[]))) Tryz.func190 (by kernel_rfl) (by kernel_rfl) (by kernel_rfl) (by kernel_rfl);have h7 := @run_callFunc_extern Tryz.prog 191 _ (ReflectliteValue.methodAny (ReflectliteValue.valueError "reflectlite.Value.Type" 0) (fun t _ _ _ => ReflectliteType.toType t)) Tryz.func191 (by kernel_rfl) (by kernel_rfl) (by kernel_rfl) (by kernel_rfl);have h8 := @run_callFunc_extern Tryz.prog 192 _ (ReflectliteValue.method (ReflectliteValue.valueError "reflectlite.Value.IsNil" 0) ReflectliteValue.isNil) Tryz.func192 (by kernel_rfl) (by kernel_rfl) (by kernel_rfl) (by kernel_rfl);have h27 := @run_callFunc_extern Tryz.prog 252 _ (ReflectliteType.abiMethod fun t => do pure (.int .u8 (← Rtype.kind t))) Tryz.func252 (by kernel_rfl) (by kernel_rfl) (by kernel_rfl) (by kernel_rfl);have h37 := @run_callFunc_extern Tryz.prog 266 _ (ReflectliteType.method ReflectliteType.elem) Tryz.func266 (by kernel_rfl) (by kernel_rfl) (by kernel_rfl) (by kernel_rfl);have h38 := @run_callFunc_extern Tryz.prog 267 _ (ReflectliteType.relation "Implements" ReflectliteType.implements_) Tryz.func267 (by kernel_rfl) (by kernel_rfl) (by kernel_rfl) (by kernel_rfl);have h10 := @run_callFunc_extern Tryz.prog 212 _ ReflectliteType.typeOf Tryz.func212 (by kernel_rfl) (by kernel_rfl) (by kernel_rfl) (by kernel_rfl);have h35 := @run_callFunc_extern Tryz.prog 264 _ (ReflectliteType.relation "AssignableTo" ReflectliteType.assignableTo) Tryz.func264 (by kernel_rfl) (by kernel_rfl) (by kernel_rfl) (by kernel_rfl);have h11 := @run_callFunc_extern Tryz.prog 213 _ (ReflectliteValue.method (ReflectliteValue.valueError "reflectlite.Value.Elem" 0) ReflectliteValue.elem) Tryz.func213 (by kernel_rfl) (by kernel_rfl) (by kernel_rfl) (by kernel_rfl);have h12 := @run_callFunc_extern Tryz.prog 214 _ ReflectliteValue.set Tryz.func214 (by kernel_rfl) (by kernel_rfl) (by kernel_rfl) (by kernel_rfl);have tO := typeOfN;have q1 := noAs;have q2 := noUnwrap;have q3 := noUnwraps;have mA := methodAssignableTo;have a25 := assignableN;have v25 := valueOf25;have f6 := valueOf27;have f7 := type27;have mK := methodKind;have mE := methodElem;have mI := methodImplements;have k27 := kind27;have k25 := kind25;have e27 := elem27;have i25 := implements25;have n8 := isNil27 ⟨w.heap.size, 0, none⟩ t ((w.alloc (.cells #[.pointer (some t)] 262)).alloc (.cells #[.pointer (some ⟨4, 262, none⟩), .pointer (some ⟨w.heap.size, 0, none⟩), .int .u64 150] 288)) (by simp);have hlt : 0 < w.heap.size := by
    rcases Nat.lt_or_ge 0 w.heap.size with h|h
    · exact h
    · simp [World.cell?,Array.getElem?_eq_none h] at hg
  have hg2 : ((w.alloc (.cells #[.pointer (some t)] 262)).alloc (.cells #[.pointer (some ⟨4,262,none⟩),.pointer (some ⟨w.heap.size,0,none⟩),.int .u64 150] 288)).cell? ⟨0,0,none⟩ = some (.iface 311 (.agg #[.pointer (some ⟨4,37,none⟩)])):=by
    rw [World.cell?_alloc_lt _ _ ⟨0,0,none⟩ (by simp),World.cell?_alloc_lt _ _ ⟨0,0,none⟩ hlt];exact hg
  have htl : t.block < w.heap.size:=by
    rcases Nat.lt_or_ge t.block w.heap.size with h|h
    · exact h
    · simp [World.cell?,Array.getElem?_eq_none h] at ht0
  have el:=elemV27 ⟨w.heap.size,0,none⟩ t (((w.alloc (.cells #[.pointer (some t)] 262)).alloc (.cells #[.pointer (some ⟨4,262,none⟩),.pointer (some ⟨w.heap.size,0,none⟩),.int .u64 150] 288)).alloc (.cells #[.pointer (some ⟨4,262,none⟩),.pointer (some ⟨w.heap.size,0,none⟩),.int .u64 150] 288)) (by rw [World.cell?_alloc_lt _ _ ⟨w.heap.size,0,none⟩ (by simp;omega)];simp)
  go_enter Tryz.func167,Tryz.ntmps167
  go_wp2
  refine wp_loop_rounds 1 ?_;rw [rounds_succ]
  go_wp2
  go_ret
  exact ⟨rfl,rfl⟩
end Go.Proofs.YtojipboabgebfaaGreatDoor.As
namespace Go.Proofs.YtojipboabgebfaaGreatDoor
open Go.RowKit
namespace Ab
set_option maxRecDepth 100000
namespace Q
theorem errCell {ok : Oks} {w : World} (h : GlobAt ok w) : w.cell? ⟨0,0,none⟩ = some (.iface 311 (.agg #[.pointer (some ⟨3 + 1,37,none⟩)])):=h.2.2.2
theorem as_hit' {n0 : Nat} (e t : Addr) (old : Value) (w : World) (hg : w.cell? ⟨0,0,none⟩ = some (.iface 311 (.agg #[.pointer (some ⟨3 + 1,37,none⟩)]))) (ht : w.cell? t = some old) (hf : w.frozen? t = false) (h0 : n0 ≤ t.block) (h1 : n0 ≤ w.heap.size) :
    Calls Tryz.prog 167 #[.iface 174 (.pointer (some e)),.iface 262 (.pointer (some t))] w fun ev w'=>ev = .returned (.bool true) ∧ Below n0 w w' ∧ w'.cell? t = some (.pointer (some e)):=by
  have htl : t.block < w.heap.size:=by
    rcases Nat.lt_or_ge t.block w.heap.size with h|h
    · exact h
    · simp [World.cell?,Array.getElem?_eq_none h] at ht
  refine (As.as_hit e t old w hg ht hf).mono ?_
  rintro ev w' ⟨rfl,rfl⟩
  have hb:=((((Below.refl n0 w).alloc h1 (.cells #[.pointer (some t)] 262)).alloc (by simp;omega) (.cells #[.pointer (some ⟨3 + 1,262,none⟩),.pointer (some ⟨w.heap.size,0,none⟩),.int .u64 150] 288)).alloc (by simp;omega) (.cells #[.pointer (some ⟨3 + 1,262,none⟩),.pointer (some ⟨w.heap.size,0,none⟩),.int .u64 150] 288)).alloc (by simp;omega) (.cells #[.pointer (some e)] 174);refine ⟨rfl,hb.setCell h0 _,World.cell?_setCell_same _ _ _ (u:=old) ?_⟩;rw [World.cell?_alloc_lt _ _ t (by simp;omega),World.cell?_alloc_lt _ _ t (by simp;omega),World.cell?_alloc_lt _ _ t (by simp;omega),World.cell?_alloc_lt _ _ t htl];exact ht
theorem as_miss' {n0 : Nat} (v : Value) (t : Addr) (old : Value) (w : World) (hg : w.cell? ⟨0,0,none⟩ = some (.iface 311 (.agg #[.pointer (some ⟨3 + 1,37,none⟩)]))) (ht : w.cell? t = some old) (hf : w.frozen? t = false) (h1 : n0 ≤ w.heap.size) :
    Calls Tryz.prog 167 #[.iface 45 v,.iface 262 (.pointer (some t))] w fun ev w'=>ev = .returned (.bool false) ∧ Below n0 w w':=by
  refine (As.as_miss v t old w hg ht hf).mono ?_
  rintro ev w' ⟨rfl,rfl⟩
  exact ⟨rfl,(((Below.refl n0 w).alloc h1 _).alloc (by simp;omega) _).alloc (by simp;omega) _⟩
set_option maxHeartbeats 4000000 in
theorem bareN_calls (v : Value) (w : World) (hg : w.cell? ⟨0,0,none⟩ = some (.iface 311 (.agg #[.pointer (some ⟨3 + 1,37,none⟩)]))) (hlt : 0 < w.heap.size) :
    Calls Tryz.prog 140 #[.iface 45 v] w fun e w'=>e = .returned (.iface 45 v) ∧ Below w.heap.size w w':=by
  have hgA : (w.alloc (.cells #[.pointer none] 174)).cell? ⟨0,0,none⟩ = some (.iface 311 (.agg #[.pointer (some ⟨3 + 1,37,none⟩)])):=by
    rw [World.cell?_alloc_lt _ _ ⟨0,0,none⟩ hlt];exact hg
  have htA : (w.alloc (.cells #[.pointer none] 174)).cell? ⟨w.heap.size,0,none⟩ = some (.pointer none):=by simp
  have hfA : (w.alloc (.cells #[.pointer none] 174)).frozen? ⟨w.heap.size,0,none⟩ = false:=by simp
  have hbA : Below w.heap.size w (w.alloc (.cells #[.pointer none] 174)):=(Below.refl _ w).alloc (Nat.le_refl _) _
  go_enter Tryz.func140,Tryz.ntmps140
  go_wp2_with (go_at_call 167;refine (as_miss' (n0:=w.heap.size) v _ _ _ hgA htA hfA (by simp)).mono ?_;rintro e w' ⟨rfl,hb⟩)
  go_ret
  exact ⟨rfl,hbA.trans hb⟩
set_option maxHeartbeats 4000000 in
theorem bareF_calls (b off : Nat) (x : Value) (w : World) (hg : w.cell? ⟨0,0,none⟩ = some (.iface 311 (.agg #[.pointer (some ⟨3 + 1,37,none⟩)]))) (hlt : 0 < w.heap.size) (hx : w.cell? ⟨b,off + 1,none⟩ = some x) :
    Calls Tryz.prog 140 #[.iface 174 (.pointer (some ⟨b,off,none⟩))] w fun e w'=>e = .returned x ∧ Below w.heap.size w w':=by
  have hgA : (w.alloc (.cells #[.pointer none] 174)).cell? ⟨0,0,none⟩ = some (.iface 311 (.agg #[.pointer (some ⟨3 + 1,37,none⟩)])):=by
    rw [World.cell?_alloc_lt _ _ ⟨0,0,none⟩ hlt];exact hg
  have htA : (w.alloc (.cells #[.pointer none] 174)).cell? ⟨w.heap.size,0,none⟩ = some (.pointer none):=by simp
  have hfA : (w.alloc (.cells #[.pointer none] 174)).frozen? ⟨w.heap.size,0,none⟩ = false:=by simp
  have hbA : Below w.heap.size w (w.alloc (.cells #[.pointer none] 174)):=(Below.refl _ w).alloc (Nat.le_refl _) _
  go_enter Tryz.func140,Tryz.ntmps140
  go_wp2_with (go_at_call 167;refine (as_hit' (n0:=w.heap.size) ⟨b,off,none⟩ _ _ _ hgA htA hfA (by simp) (by simp)).mono ?_;rintro e w' ⟨rfl,hb,hc⟩;have hx2 : w'.cell? ⟨b,off + 1,none⟩ = some x:=cell_later (hbA.trans hb) hx)
  go_ret
  exact ⟨rfl,hbA.trans hb⟩
theorem bareN_c (n : Int) : qY Tryz.prog 140 [.one (errN n)] (.one (errN n)):=by
  refine ⟨⟨_,Tryz.func140,rfl,rfl⟩,fun ok w vs hg hvs=>?_⟩;obtain ⟨v,t,rfl,hv,ht⟩:=hvs;rw [show t = [] from ht,show v = _ from hv];exact (bareN_calls (.int .i64 n) w (errCell hg) (Nat.lt_of_lt_of_le (by decide) hg.2.1)).mono fun e w' ⟨he,hb⟩=>⟨_,he,hb,rfl⟩
theorem bareF_c (a n : Int) : qY Tryz.prog 140 [.one (errF a n)] (.one (errN n)):=by
  refine ⟨⟨_,Tryz.func140,rfl,rfl⟩,fun ok w vs hg hvs=>?_⟩;obtain ⟨v,t,rfl,⟨u,rfl,b,off,cs,rfl,_,hlt,hc,hr⟩,ht⟩:=hvs;obtain ⟨c,d,rfl,h1,h2⟩:=hr;rw [show t = [] from ht];have hx : w.cell? ⟨b,off + 1,none⟩ = some (.iface 45 (.int .i64 n)):=by
    rw [hc.2 1 (by decide),show c = _ from h1,show d = _ from h2.1];rfl
  exact (bareF_calls b off _ w (errCell hg) (Nat.lt_of_lt_of_le (by decide) hg.2.1) hx).mono fun e w' ⟨he,hb⟩=>⟨_,he,hb,rfl⟩
end Q
end Ab
end Go.Proofs.YtojipboabgebfaaGreatDoor
namespace Go.Proofs.YtojipboabgebfaaGreatDoor
open Go.RowKit
namespace Ab
set_option maxRecDepth 100000
abbrev rItm3 : Rd Itm:=rItm.kd 3
namespace Q
end Q
end Ab
end Go.Proofs.YtojipboabgebfaaGreatDoor
namespace Go.Proofs.YtojipboabgebfaaGreatDoor
open Go.RowKit
namespace Ab
set_option maxRecDepth 100000
namespace Q
theorem stz_len (es : List Ent) : (stzL es).length = (es.filter live).length:=List.length_map _
theorem stz_at {es : List Ent} {i : Nat} (h : i < (stzL es).length) : (stzL es).getD i ((0 : Int),([] : List Fld)) = stzOf ((es.filter live).getD i (((0 : Int),ByteArray.empty,([] : List Fld)),(0 : Int))):=by
  have h1 : i < (es.filter live).length:=by rw [← stz_len];exact h
  rw [← getD_get h ((0 : Int),([] : List Fld)),← getD_get h1 (((0 : Int),ByteArray.empty,([] : List Fld)),(0 : Int))];exact List.getElem_map stzOf
theorem ids_at {es : List Ent} {i : Nat} (h : i < (stzL es).length) : ∃ h1 : i < (nmsL es).length,((stzL es).getD i ((0 : Int),([] : List Fld))).1 = (nmsL es)[i]:=by
  have h1 : i < (es.filter live).length:=by rw [← stz_len];exact h
  refine ⟨by rw [ids_len];exact h1,?_⟩;rw [stz_at h];simp only [← ids_eq,List.getElem_map];rw [← getD_get h1 (((0 : Int),ByteArray.empty,([] : List Fld)),(0 : Int))];rfl
theorem ids_ne {es : List Ent} (hnd : (nmsL es).Nodup) {i j : Nat} (h : i < (stzL es).length) (hj : j < i) : ((stzL es).getD j ((0 : Int),([] : List Fld))).1 ≠ ((stzL es).getD i ((0 : Int),([] : List Fld))).1:=by
  obtain ⟨g1,g2⟩:=ids_at h;obtain ⟨g3,g4⟩:=ids_at (es:=es) (i:=j) (by omega);rw [g2,g4];exact List.pairwise_iff_getElem.1 hnd j i _ _ hj
structure SeenI (es : List Ent) (n : Int) (i : Nat) (sn : List Bool) : Prop where
  le : i ≤ (stzL es).length
  len : sn.length = n.toNat
  seen : ∀ k : Nat,sn.getD k false = true → ∃ j,j < i ∧ ((stzL es).getD j ((0 : Int),([] : List Fld))).1 = k
theorem SeenI.not {es : List Ent} {n : Int} {i : Nat} {sn : List Bool} (h : SeenI es n i sn) (hnd : (nmsL es).Nodup) (hi : i < (stzL es).length) (hp : 0 < ((stzL es).getD i ((0 : Int),([] : List Fld))).1) : sn.getD (((stzL es).getD i ((0 : Int),([] : List Fld))).1).toNat false = false:=by
  cases e : sn.getD (((stzL es).getD i ((0 : Int),([] : List Fld))).1).toNat false with
  | false=>rfl
  | true =>
    obtain ⟨j,hj,h2⟩:=h.seen _ e;exact absurd (by rw [h2];omega) (ids_ne hnd hi hj)
theorem SeenI.next {es : List Ent} {n : Int} {i : Nat} {sn : List Bool} (h : SeenI es n i sn) (hi : i < (stzL es).length) (hp : 0 < ((stzL es).getD i ((0 : Int),([] : List Fld))).1) : SeenI es n (i + 1) (sn.set (((stzL es).getD i ((0 : Int),([] : List Fld))).1).toNat true):=by
  refine ⟨hi,by rw [List.length_set];exact h.len,fun k hk=>?_⟩
  by_cases e : (((stzL es).getD i ((0 : Int),([] : List Fld))).1).toNat = k
  · exact ⟨i,Nat.lt_succ_self _,by omega⟩
  · rw [List.getD_eq_getElem?_getD,List.getElem?_set_ne e,← List.getD_eq_getElem?_getD] at hk;obtain ⟨j,hj,h2⟩:=h.seen k hk;exact ⟨j,by omega,h2⟩
theorem lsvec_eq {L M : Lst} (h : M = L) : some (Ob.vec 138 rEnt L.1) = some (Ob.vec 138 rEnt M.1):=by rw [h]
abbrev rStz3 : Rd Stz:=rStz.kd 3
theorem stz7_c {κ κ' : Nat} (a b : List Stz) : qY Tryz.prog 47 [.one (.slk κ (rStz.kd κ') a),.one (.sl rStz b)] (ib (decide (a = b))):=by
  refine qX (rs:=[4]) Tryz.func47 rfl rfl rfl teOk rfl ?_;refine qB ?_;refine qK ?_;refine qB ?_;intro l1_1
  try simp only [zds] at l1_1
  intro l1_3
  try simp only [zds] at l1_3
  refine qJ rfl (fun h10=>?_) (fun h10=>?_)
  ·try simp only [decide_eq_false_iff_not,Bool.not_eq_true'] at h10
   try simp only [zds] at h10
   refine qB ?_;refine qL ?_;exact ib_eq (decide_eq_false (fun e=>by rw [e] at h10;omega)).symm
  ·try simp only [decide_eq_true_eq,Bool.not_eq_false'] at h10
   try simp only [zds] at h10
   refine qO ?_;refine qK ?_;refine qB ?_;intro l3_1
   try simp only [zds] at l3_1
   refine qR ?_;refine yJ (fun (i : Nat)=>i ≤ a.length ∧ a.take i = b.take i) (fun (i : Nat)=>[(0,.one (.slk κ (rStz.kd κ') a)),(1,.one (.sl rStz b)),(12,ii .i64 a.length),(13,ii .i64 i)]) (fun (i : Nat)=>[]) 0 (fun (i : Nat)=>a.length - i) 0 (⟨Nat.zero_le _,by simp⟩) (qP ⟨rfl,rfl,rfl,rfl⟩ trivial rfl) ?_;intro i hI0;obtain ⟨hi,ht⟩:=hI0;refine qB ?_;refine qK ?_;refine qJ rfl (fun h14=>?_) (fun h14=>?_)
   ·try simp only [decide_eq_true_eq] at h14
    try simp only [zds] at h14
    have hla : i < a.length:=by omega
    have hlb : i < b.length:=by omega
    refine qO ?_;refine qK ?_;refine qR ?_;refine qB ?_;refine qK ?_;refine acode_draw rfl (by kernel_rfl) ?_;refine zob ?_;refine zob ?_;refine zai (fun h=>trivial) ?_;refine zai (fun h=>trivial) ?_;refine zai (fun h=>⟨⟨⟨h,trivial⟩,⟨h,trivial⟩,trivial⟩,by first|omega|decide|(simp only [zds];omega)|(have h9:=of_decide_eq_true h;omega)|(simp [gq] at h;omega)⟩) ?_;refine zai (fun h=>⟨⟨h,trivial⟩,trivial⟩) ?_;refine zai (fun h=>⟨⟨h,trivial⟩,trivial⟩) ?_;refine zai (fun h=>trivial) ?_;refine zai (fun h=>trivial) ?_;refine zai (fun h=>⟨⟨⟨h,trivial⟩,⟨h,trivial⟩,trivial⟩,by first|omega|decide|(simp only [zds];omega)|(have h9:=of_decide_eq_true h;omega)|(simp [gq] at h;omega)⟩) ?_;refine zai (fun h=>⟨⟨h,trivial⟩,trivial⟩) ?_;refine zai (fun h=>⟨⟨h,trivial⟩,trivial⟩) ?_;refine zai (rfl) ?_;refine zei _ (zai (fun h=>⟨⟨⟨h,trivial⟩,⟨h,trivial⟩,trivial⟩,fieldsk_c (κ:=κ') (a.getD i ((0 : Int),([] : List Fld))).2 (b.getD i ((0 : Int),([] : List Fld))).2⟩) ?_);refine zai (fun h=>⟨⟨h,trivial⟩,trivial⟩) ?_;refine zai (by first|(intro h;rw [h];rfl)|(intro h;cases h)) ?_;refine qJ rfl (fun h40=>?_) (fun h40=>?_)
    ·try simp only [decide_eq_false_iff_not,Bool.not_eq_true',Bool.or_eq_true] at h40
     try simp only [Int.toNat_natCast,qH,qG,qE] at h40
     refine qB ?_;refine qL ?_;exact ib_eq (decide_eq_false (ne_at (i:=i) ((0 : Int),([] : List Fld)) (fun e=>h40.elim (fun h=>h (congrArg Prod.fst e)) (fun h=>h (congrArg Prod.snd e))))).symm
    ·try simp only [decide_eq_true_eq,Bool.not_eq_false',Bool.or_eq_false_iff] at h40
     try simp only [Int.toNat_natCast,qH,qG,qE] at h40
     refine qO ?_;refine qM ?_;refine zob ?_;exact ⟨i + 1,⟨by omega,list_ext_take ((0 : Int),([] : List Fld)) hla hlb ht (Prod.ext h40.1 h40.2)⟩,by first|omega|(simp <;> omega),qP ⟨rfl,rfl,rfl,(yW (by omega))⟩ trivial rfl⟩
   ·try simp only [decide_eq_false_iff_not,Int.not_lt] at h14
    try simp only [zds] at h14
    refine yP ?_;refine qB ?_;refine qL ?_;exact ib_eq (decide_eq_true (by rw [List.take_of_length_le (by omega),List.take_of_length_le (by omega)] at ht;exact ht)).symm
def goodA (x : Edt) : C:=if x.1 = 2 then (if 0 < x.2.2.length then errN 2 else .lit .nilIface) else if x.1 = 1 ∨ x.1 = 3 then chkA x.2.2 else errN 2
theorem goodA_cases (x : Edt) : (xS x = 0 ∧ goodA x = .lit .nilIface) ∨ (∃ n,n ≠ 0 ∧ xS x = n ∧ goodA x = errN n) ∨ ∃ a n,n ≠ 0 ∧ xS x = n ∧ goodA x = errF a n:=by
  unfold xS goodA
  by_cases h2 : x.1 = 2
  · simp only [if_pos h2]
    by_cases h3 : 0 < x.2.2.length
    · simp only [if_pos h3];exact .inr (.inl ⟨2,by decide,rfl,rfl⟩)
    · simp only [if_neg h3];exact .inl ⟨trivial,trivial⟩
  · simp only [if_neg h2]
    by_cases h3 : x.1 = 1 ∨ x.1 = 3
    · simp only [if_pos h3]
      by_cases hc : (chkR x.2.2).2 = 0
      · exact .inl ⟨hc,(chk_good hc).2.2⟩
      · obtain ⟨e,he,hs⟩:=chk_bad hc;rcases hs with ⟨n,hn,rfl,hr⟩|⟨i,n,hn,rfl,hr⟩
        · exact .inr (.inl ⟨n,hn,by rw [hr],he⟩)
        · exact .inr (.inr ⟨i,n,hn,by rw [hr],he⟩)
    · simp only [if_neg h3];exact .inr (.inl ⟨2,by decide,rfl,rfl⟩)
theorem goodA_2 {x : Edt} (h : x.1 = 2) (h3 : 0 < x.2.2.length) : goodA x = errN 2:=by unfold goodA;rw [if_pos h,if_pos h3]
theorem goodA_20 {x : Edt} (h : x.1 = 2) (h3 : ¬ 0 < x.2.2.length) : goodA x = .lit .nilIface:=by unfold goodA;rw [if_pos h,if_neg h3]
theorem goodA_13 {x : Edt} (h : x.1 = 1 ∨ x.1 = 3) : goodA x = chkA x.2.2:=by unfold goodA;rw [if_neg (by omega),if_pos h]
theorem goodA_no {x : Edt} (h : x.1 ≠ 2) (h3 : ¬ (x.1 = 1 ∨ x.1 = 3)) : goodA x = errN 2:=by unfold goodA;rw [if_neg h,if_neg h3]
theorem chkA_cases (l : List Fld) : chkA l = .lit .nilIface ∨ (∃ n,chkA l = errN n) ∨ ∃ a n,chkA l = errF a n:=by
  unfold chkA;split
  · exact .inl rfl
  · split
    · exact .inr (.inl ⟨_,rfl⟩)
    · exact .inr (.inr ⟨_,_,rfl⟩)
theorem good_c {κ : Nat} (x : Edt) (hf : yQ x.2.2) : qY Tryz.prog 139 [.agg (toL (rEdk κ) x)] (.one (goodA x)):=by
  refine qX (rs:=[2]) Tryz.func139 rfl rfl rfl teOk rfl ?_;refine qB ?_;refine qK ?_;refine qB ?_;refine qR ?_;refine qB ?_;refine qJ rfl (fun h5=>?_) (fun h5=>?_)
  ·try simp only [decide_eq_true_eq] at h5
   try simp only [zds] at h5
   refine qK ?_;refine qB ?_;intro l3_2
   try simp only [zds] at l3_2
   refine qJ rfl (fun h10=>?_) (fun h10=>?_)
   ·try simp only [decide_eq_true_eq] at h10
    try simp only [zds] at h10
    refine qB ?_;refine qL ?_;rw [goodA_2 h5 (by omega)];rfl
   ·try simp only [decide_eq_false_iff_not,Int.not_lt] at h10
    try simp only [zds] at h10
    refine qO ?_;refine qB ?_;refine qL ?_;rw [goodA_20 h5 (by omega)];rfl
  ·try simp only [decide_eq_false_iff_not] at h5
   try simp only [zds] at h5
   refine qK ?_;refine qB ?_;refine qJ rfl (fun h12=>?_) (fun h12=>?_)
   ·try simp only [decide_eq_true_eq] at h12
    try simp only [zds] at h12
    refine qO ?_;refine qJ rfl (fun h12=>?_) (fun h12=>?_)
    ·try simp only [decide_eq_true_eq] at h12
     try simp only [zds] at h12
     refine qK ?_;have hk:=pcheck_c (κ:=κ) x.2.2 hf ; rcases chkA_cases x.2.2 with hA|⟨n,hA⟩|⟨a,n,hA⟩ <;> rw [hA] at hk
     ·refine qM ?_;refine Or.inl ?_;refine zai (rfl) ?_;refine zei _ (zai (hk) ?_);refine qL ?_;rw [goodA_13 (by omega),hA];rfl
     ·refine qM ?_;refine Or.inl ?_;refine zai (rfl) ?_;refine zei _ (zai (hk) ?_);refine qL ?_;rw [goodA_13 (by omega),hA];rfl
     ·refine qM ?_;refine Or.inl ?_;refine zai (rfl) ?_;refine zei _ (zai (hk) ?_);refine qL ?_;rw [goodA_13 (by omega),hA];rfl
    ·try simp only [decide_eq_false_iff_not] at h12
     try simp only [zds] at h12
     omega
   ·try simp only [decide_eq_false_iff_not] at h12
    try simp only [zds] at h12
    refine qM ?_;refine qJ rfl (fun h12=>?_) (fun h12=>?_)
    ·try simp only [decide_eq_true_eq] at h12
     try simp only [zds] at h12
     refine qK ?_;have hk:=pcheck_c (κ:=κ) x.2.2 hf ; rcases chkA_cases x.2.2 with hA|⟨n,hA⟩|⟨a,n,hA⟩ <;> rw [hA] at hk
     ·refine qM ?_;refine Or.inl ?_;refine zai (rfl) ?_;refine zei _ (zai (hk) ?_);refine qL ?_;rw [goodA_13 (by omega),hA];rfl
     ·refine qM ?_;refine Or.inl ?_;refine zai (rfl) ?_;refine zei _ (zai (hk) ?_);refine qL ?_;rw [goodA_13 (by omega),hA];rfl
     ·refine qM ?_;refine Or.inl ?_;refine zai (rfl) ?_;refine zei _ (zai (hk) ?_);refine qL ?_;rw [goodA_13 (by omega),hA];rfl
    ·try simp only [decide_eq_false_iff_not] at h12
     try simp only [zds] at h12
     skip
     refine qO ?_;refine qB ?_;refine qL ?_;rw [goodA_no (by omega) (by omega)];rfl
theorem faultN_c (i n : Int) : qY Tryz.prog 102 [ii .i64 i,.one (errN n)] (.one (errF i n)):=by
  refine qX (rs:=[4]) Tryz.func102 rfl rfl rfl teOk rfl ?_;refine qB ?_;refine qB ?_;refine Or.inl ?_;refine zai (rfl) ?_;refine zei _ (zai (bareN_c n) ?_);refine qL ?_;rfl
theorem faultF_c (i a n : Int) : qY Tryz.prog 102 [ii .i64 i,.one (errF a n)] (.one (errF i n)):=by
  refine qX (rs:=[4]) Tryz.func102 rfl rfl rfl teOk rfl ?_;refine qB ?_;refine qB ?_;refine Or.inl ?_;refine zai (rfl) ?_;refine zei _ (zai (bareF_c a n) ?_);refine qL ?_;rfl
def erB (p : Int × Int) : C:=if p.2 = 0 then .lit .nilIface else if p.1 = -9 then errN p.2 else errF p.1 p.2
theorem erB_z : erB (-9,0) = .lit .nilIface:=rfl
theorem erB_n {n : Int} (h : n ≠ 0) : erB (-9,n) = errN n:=by unfold erB;rw [if_neg h,if_pos rfl]
theorem erB_f {i : Nat} {n : Int} (h : n ≠ 0) : erB ((i : Int),n) = errF i n:=by unfold erB;rw [if_neg h,if_neg (show ¬ (i : Int) = -9 by omega)]
theorem check_c9 {κ κ' : Nat} (s : List Edt) (hf : ∀ e ∈ s,yQ e.2.2) (hl : s.length ≤ 1000000) : qY Tryz.prog 100 [.one (.slk κ (rEdk κ') s)] (.one (erB (chkB s))):=by
  refine qX (rs:=[2]) Tryz.func100 rfl rfl rfl teOk rfl ?_;refine qB ?_;refine qK ?_;refine qB ?_;intro l1_1
  try simp only [zds] at l1_1
  refine zai (fun h=>trivial) ?_;refine zai (fun h=>⟨⟨h,trivial⟩,trivial⟩) ?_;refine zai (fun h=>⟨⟨h,trivial⟩,trivial⟩) ?_;refine zai (by first|(intro h;rw [h];rfl)|(intro h;cases h)) ?_;refine qJ rfl (fun h13=>?_) (fun h13=>?_)
  ·try simp only [decide_eq_true_eq,Bool.or_eq_true] at h13
   try simp only [zds] at h13
   refine qB ?_;refine qL ?_;rw [chkB_rng (by omega),erB_n (by decide)];rfl
  ·try simp only [decide_eq_false_iff_not,Bool.or_eq_false_iff,Int.not_lt] at h13
   try simp only [zds] at h13
   refine qO ?_;refine qK ?_;refine qB ?_;intro l3_1
   try simp only [zds] at l3_1
   refine qR ?_;refine yJ (fun (i : Nat)=>i ≤ s.length ∧ ∀ e ∈ s.take i,xS e = 0) (fun (i : Nat)=>[(15,.one (.slk κ (rEdk κ') s)),(16,ii .i64 s.length),(17,ii .i64 i)]) (fun (i : Nat)=>[]) 0 (fun (i : Nat)=>s.length - i) 0 (⟨Nat.zero_le _,by simp⟩) (qP ⟨rfl,rfl,rfl⟩ trivial rfl) ?_;intro i hI0;obtain ⟨hi,hall⟩:=hI0;refine qB ?_;refine qK ?_;refine qJ rfl (fun h18=>?_) (fun h18=>?_)
   ·try simp only [decide_eq_true_eq] at h18
    try simp only [zds] at h18
    have hlt : i < s.length:=(by omega);have hm:=hf _ (yZ hlt ((0 : Int),(0 : Int),([] : List Fld)));have hg:=good_c (κ:=κ') (s.getD i ((0 : Int),(0 : Int),([] : List Fld))) hm;refine qO ?_;refine qK ?_;refine qR ?_;refine qB ?_;refine zob ?_;refine qK ?_;rcases goodA_cases (s.getD i ((0 : Int),(0 : Int),([] : List Fld))) with ⟨hz,hA⟩|⟨n,hn,hz,hA⟩|⟨a,n,hn,hz,hA⟩ <;> rw [hA] at hg
    ·refine qM ?_;refine Or.inl ?_;refine zai (rfl) ?_;refine zei _ (zai (hg) ?_);refine qB ?_;refine qJ rfl (fun h25=>?_) (fun h25=>?_)
     ·try simp only [Bool.not_eq_true'] at h25
      try simp only [zds] at h25
      cases h25
     ·try simp only [Bool.not_eq_false'] at h25
      try simp only [zds] at h25
      refine qO ?_;refine qM ?_;refine zob ?_;exact ⟨i + 1,⟨by omega,take_good hlt hall hz⟩,by first|omega|(simp <;> omega),qP ⟨rfl,rfl,(yW (by omega))⟩ trivial rfl⟩
    ·refine qM ?_;refine Or.inl ?_;refine zai (rfl) ?_;refine zei _ (zai (hg) ?_);refine qB ?_;refine qJ rfl (fun h25=>?_) (fun h25=>?_)
     ·skip
      refine qB ?_;refine Or.inl ?_;refine zai (rfl) ?_;refine zei _ (zai (faultN_c i n) ?_);refine qL ?_;rw [chkB_at (by omega) hlt hall (by rw [hz];exact hn),hz,erB_f hn];rfl
     ·try simp only [zbq] at h25
      try simp only [zds] at h25
      cases h25
    ·refine qM ?_;refine Or.inl ?_;refine zai (rfl) ?_;refine zei _ (zai (hg) ?_);refine qB ?_;refine qJ rfl (fun h25=>?_) (fun h25=>?_)
     ·skip
      refine qB ?_;refine Or.inl ?_;refine zai (rfl) ?_;refine zei _ (zai (faultF_c i a n) ?_);refine qL ?_;rw [chkB_at (by omega) hlt hall (by rw [hz];exact hn),hz,erB_f hn];rfl
     ·try simp only [zbq] at h25
      try simp only [zds] at h25
      cases h25
   ·try simp only [decide_eq_false_iff_not,Int.not_lt] at h18
    try simp only [zds] at h18
    refine yP ?_;refine qB ?_;refine qL ?_;rw [List.take_of_length_le (by omega)] at hall;rw [chkB_no (by omega) hall,erB_z];rfl
theorem lsbox0_eq {L M : Lst} (h : M = L) : some (Ob.box 134 [.vec 0,.lit (.int .i64 L.2.1),.lit (.int .i64 L.2.2)]) = some (Ob.box 134 [.vec 0,.lit (.int .i64 M.2.1),.lit (.int .i64 M.2.2)]):=by rw [h]
theorem took {c : Nat} {L : Lst} {s : List Edt} (h : LOk c L) (hf : ∀ e ∈ s,yQ e.2.2) {i : Nat} (hi : i < s.length) : LOk (c + i) (plays L s i) ∧ yQ (s.getD i ((0 : Int),(0 : Int),([] : List Fld))).2.2:=⟨plays_ok h hf i (by omega),hf _ (yZ hi ((0 : Int),(0 : Int),([] : List Fld)))⟩
theorem doOk_o {κ κ' k c : Nat} (L : Lst) (s : List Edt) (hL : LOk c L) (hc : c + s.length ≤ 200000) (hf : ∀ e ∈ s,yQ e.2.2) (h : (chkB s).2 = 0) (ht : ∀ j,j < s.length → oneN (plays L s j) (s.getD j ((0 : Int),(0 : Int),([] : List Fld))) = 0) :
    qU Tryz.prog 57 [.one (.adk k (rLst k) L),.one (.slk κ (rEdk κ') s)] [] 0 (.tup [(false,[.own 1 0]),(false,[.sl (.int .i64) (idsT L s s.length)]),(false,[.lit .nilIface])]) [(1,.box 134 [.vec 0,.lit (.int .i64 (plays L s s.length).2.1),.lit (.int .i64 (plays L s s.length).2.2)]),(0,.vec 138 rEnt (plays L s s.length).1)] 2:=by
  obtain ⟨hln,hgd⟩:=chkB_zero h;have hk:=check_c9 (κ:=κ) (κ':=κ') s hf (by omega);rw [chkB_good h,erB_z] at hk;have hlen:=hL.len;have hcp:=copyL_o (k:=k) L.1 L.2.1 L.2.2 (by omega);refine qV (rs:=[4,5,6]) Tryz.func57 rfl rfl rfl teOk (by decide) rfl ?_;refine qB ?_;refine qK ?_;refine qB ?_;refine Or.inl ?_;refine zai (rfl) ?_;refine zei _ (zai (hk) ?_);refine qB ?_;refine qJ rfl (fun h17=>?_) (fun h17=>?_)
  ·try simp only [Bool.not_eq_true'] at h17
   try simp only [zds] at h17
   cases h17
  ·try simp only [Bool.not_eq_false'] at h17
   try simp only [zds] at h17
   refine qO ?_;refine qB ?_;refine Or.inr (Or.inl (zei [] (zei [] (zei _ (zei _ (zei _ (zei _ (zei _ (zai (hcp) (zai rfl (zai True.intro (zai rfl ?_))))))))))));refine qB ?_;refine qK ?_;refine qK ?_;refine xR 9 3 (.int .i64) rfl ?_;refine qM ?_;intro l6_1
   try simp only [zds] at l6_1
   refine qR ?_;refine yJ (fun (i : Nat)=>i ≤ s.length) (fun (i : Nat)=>[(8,.one (.own 1 0)),(9,.one (.vec 2)),(21,.one (.slk κ (rEdk κ') s)),(22,ii .i64 s.length),(23,ii .i64 i)]) (fun (i : Nat)=>[(0,.vec 138 rEnt (plays L s i).1),(1,.box 134 [.vec 0,.lit (.int .i64 (plays L s i).2.1),.lit (.int .i64 (plays L s i).2.2)]),(2,.vec 3 (.int .i64) (idsT L s i))]) 3 (fun (i : Nat)=>s.length - i) 0 (Nat.zero_le _) (qP ⟨rfl,rfl,rfl,rfl,rfl⟩ ⟨rfl,rfl,rfl⟩ rfl) ?_;intro i hI0;refine qB ?_;refine qK ?_;refine qJ rfl (fun h24=>?_) (fun h24=>?_)
   ·try simp only [decide_eq_true_eq] at h24
    try simp only [zds] at h24
    have hil : i < s.length:=(by omega);obtain ⟨hLi,hfe⟩:=took hL hf hil;have hsn:=plays_snoc L hil;have hin:=idsT_snoc L s i;have hilen:=idsT_len L s i;refine qO ?_;refine qK ?_;refine qR ?_;refine qB ?_;refine zob ?_;refine qK ?_;rcases one_cases (κ:=κ') hLi (by omega) (s.getD i ((0 : Int),(0 : Int),([] : List Fld))) hfe with ⟨hz,ho⟩|⟨n,hn,hz,ho⟩|⟨a,n,hn,hz,ho⟩
    ·refine qM ?_;refine Or.inr (Or.inl (zei [] (zei [1,0] (zei _ (zei _ (zei _ (zei _ (zei _ (zai (ho) (zai rfl (zai (zai (zai rfl rfl) (zai (zai rfl rfl) True.intro)) (zai rfl ?_))))))))))));refine qK ?_;refine qB ?_;refine qJ rfl (fun h35=>?_) (fun h35=>?_)
     ·try simp only [Bool.not_eq_true'] at h35
      try simp only [zds] at h35
      cases h35
     ·try simp only [Bool.not_eq_false'] at h35
      try simp only [zds] at h35
      refine qO ?_;refine qB ?_;refine qJ rfl (fun h40=>?_) (fun h40=>?_)
      ·try simp only [decide_eq_true_eq] at h40
       try simp only [zds] at h40
       refine qM ?_;refine zai (by first|exact qT (by first|omega|(simp only [List.length_cons,List.length_nil];omega)|(simp;omega)) (by decide)|omega|assumption|decide|(simp only [zds];omega)|(simp <;> omega)) ?_;refine qM ?_;refine zob ?_;exact ⟨i + 1,by omega,by first|omega|(simp <;> omega),qP ⟨rfl,rfl,rfl,rfl,(yW (by omega))⟩ ⟨(lsvec_eq hsn),(lsbox0_eq hsn),(qS (by rw [hin,if_pos (by omega)];try exact rfl))⟩ rfl⟩
      ·try simp only [decide_eq_false_iff_not,Int.not_lt] at h40
       try simp only [zds] at h40
       refine qO ?_;refine qM ?_;refine zob ?_;exact ⟨i + 1,by omega,by first|omega|(simp <;> omega),qP ⟨rfl,rfl,rfl,rfl,(yW (by omega))⟩ ⟨(lsvec_eq hsn),(lsbox0_eq hsn),(qS (by rw [hin,if_neg (by omega),List.append_nil]))⟩ rfl⟩
    ·refine qM ?_;refine Or.inr (Or.inl (zei [] (zei [1,0] (zei _ (zei _ (zei _ (zei _ (zei _ (zai (ho) (zai rfl (zai (zai (zai rfl rfl) (zai (zai rfl rfl) True.intro)) (zai rfl ?_))))))))))));refine qK ?_;refine qB ?_;refine qJ rfl (fun h35=>?_) (fun h35=>?_)
     ·skip
      exact absurd ((ht i hil).symm.trans hz) (by omega)
     ·try simp only [zbq] at h35
      try simp only [zds] at h35
      simp at h35
    ·refine qM ?_;refine Or.inr (Or.inl (zei [] (zei [1,0] (zei _ (zei _ (zei _ (zei _ (zei _ (zai (ho) (zai rfl (zai (zai (zai rfl rfl) (zai (zai rfl rfl) True.intro)) (zai rfl ?_))))))))))));refine qK ?_;refine qB ?_;refine qJ rfl (fun h35=>?_) (fun h35=>?_)
     ·skip
      exact absurd ((ht i hil).symm.trans hz) (by omega)
     ·try simp only [zbq] at h35
      try simp only [zds] at h35
      simp at h35
   ·try simp only [decide_eq_false_iff_not,Int.not_lt] at h24
    try simp only [zds] at h24
    refine yP ?_;refine qB ?_;refine xZ [2] ?_;refine qL ?_;rw [show i = s.length by omega];exact ⟨rfl,⟨rfl,rfl⟩,rfl⟩
end Q
end Ab
end Go.Proofs.YtojipboabgebfaaGreatDoor
namespace Go.Proofs.YtojipboabgebfaaGreatDoor
open Go.RowKit
namespace Ab
set_option maxRecDepth 100000
abbrev rSqz : Rd (Unit × Int × Int):=.st .unk (.st (.int .i64) (.int .i64))
abbrev rFt (κ : Nat) : Rd (List Fld × Bool):=.st (.slk κ rFld) .bool
theorem mp_eq {α : Type} {g : Bool} {R : Rd α} {xs ys : List (Int × α)} (h : xs = ys) : some (Ob.map g R xs) = some (Ob.map g R ys):=by rw [h]
namespace Q
theorem copykE_c {κ κ' : Nat} (s : List Edt) (hf : ∀ e ∈ s,e.2.2.length ≤ 1000000) (hl : s.length ≤ 1000000) : qY Tryz.prog 65 [.one (.slk κ (rEdk κ') s)] (.one (.sl rEdt s)):=by
  refine qX (rs:=[2]) Tryz.func65 rfl rfl rfl teOk rfl ?_;refine qB ?_;refine qB ?_;refine qK ?_;refine qK ?_;refine xR 3 31 rEdt rfl ?_;refine qM ?_;intro l2_1
  try simp only [zds] at l2_1
  refine qR ?_;refine yJ (fun (i : Nat)=>i ≤ s.length) (fun (i : Nat)=>[(3,.one (.vec 0)),(6,.one (.slk κ (rEdk κ') s)),(7,ii .i64 s.length),(8,ii .i64 i)]) (fun (i : Nat)=>[(0,.vec 31 rEdt (s.take i))]) 1 (fun (i : Nat)=>s.length - i) 0 (Nat.zero_le _) (qP ⟨rfl,rfl,rfl,rfl⟩ rfl rfl) ?_;intro i hI0;refine qB ?_;refine qK ?_;refine qJ rfl (fun h9=>?_) (fun h9=>?_)
  ·try simp only [decide_eq_true_eq] at h9
   try simp only [zds] at h9
   have hil : i < s.length:=(by omega);refine qO ?_;refine qK ?_;refine qR ?_;refine qB ?_;refine zob ?_;refine qB ?_;refine Or.inl ?_;refine zai (rfl) ?_;refine zei _ (zai (yA (k:=κ') (s.getD i ((0 : Int),(0 : Int),([] : List Fld))).2.2 (hf _ (yZ hil ((0 : Int),(0 : Int),([] : List Fld))))) ?_);refine qM ?_;refine zai (by exact qT (show (s.take i).length + 1 ≤ 1000000000 by rw [List.length_take];omega) (by decide)) ?_;refine qM ?_;refine zob ?_;exact ⟨i + 1,by omega,by first|omega|(simp <;> omega),qP ⟨rfl,rfl,rfl,(yW (by omega))⟩ (qS (by rw [← xD ((0 : Int),(0 : Int),([] : List Fld)) hil];try exact rfl)) rfl⟩
  ·try simp only [decide_eq_false_iff_not,Int.not_lt] at h9
   try simp only [zds] at h9
   refine yP ?_;refine qB ?_;refine qL ?_;rw [List.take_of_length_le (by omega)];exact rfl
theorem given_c {k : Nat} (u : Unit) (f n id : Int) : qY Tryz.prog 107 [.one (.adk k rSqz (u,f,n)),ii .i64 id] (ib (decide (f ≤ id) && decide (id < n))):=by
  refine qX (rs:=[4]) Tryz.func107 rfl rfl rfl teOk rfl ?_;refine qB ?_;refine qB ?_;refine zai (fun h=>trivial) ?_;refine zai (fun h=>trivial) ?_;refine zai (fun h=>⟨⟨h,trivial⟩,trivial⟩) ?_;refine zai (fun h=>⟨⟨h,trivial⟩,trivial⟩) ?_;refine zai (fun h=>⟨⟨h,trivial⟩,trivial⟩) ?_;refine zai (fun h=>⟨⟨h,trivial⟩,⟨h,trivial⟩,trivial⟩) ?_;refine zai (by exact fun h=>h) ?_;refine qL ?_;rfl
theorem kp_insY (f n : Int) (M : List (Int × Fate)) (x : Edt) (h3 : x.1 = 3) (h : (getM M (n - 1)).isSome = true ∧ ((getM M (n - 1)).getD ([],false)).2 = false) : keepY n M x = (x.1,x.2.1,((getM M (n - 1)).getD ([],false)).1) ∧ keepN n x = n - 1 ∧ keepM M x = M ∧ keepB f n M x = true:=by
  unfold keepY keepN keepM keepB;rw [if_pos h3,if_pos h3,if_neg (by omega),if_neg (by omega),if_neg (by omega)];refine ⟨?_,rfl,rfl,rfl⟩;cases hg : getM M (n - 1) with
  | none=>rw [hg] at h;cases h.1
  | some g =>
    obtain ⟨g,b⟩:=g;rw [hg] at h;cases b with
    | true=>cases h.2
    | false=>rfl
theorem kp_insN (f n : Int) (M : List (Int × Fate)) (x : Edt) (h3 : x.1 = 3) (h : getM M (n - 1) = none ∨ ((getM M (n - 1)).getD ([],false)).2 = true) : keepY n M x = x ∧ keepN n x = n - 1 ∧ keepM M x = M ∧ keepB f n M x = true:=by
  unfold keepY keepN keepM keepB;rw [if_pos h3,if_pos h3,if_neg (by omega),if_neg (by omega),if_neg (by omega)];refine ⟨?_,rfl,rfl,rfl⟩;have : fatF (getM M (n - 1)) x.2.2 = x.2.2:=by
    apply fatF_gone;cases hg : getM M (n - 1) with
    | none=>exact .inl rfl
    | some g =>
      obtain ⟨g,b⟩:=g;rw [hg] at h;cases b with
      | true=>exact .inr ⟨g,rfl⟩
      | false=>rcases h with h|h <;> cases h
  rw [this]
theorem kp_del (f n : Int) (M : List (Int × Fate)) (x : Edt) (h2 : x.1 = 2) : keepY n M x = x ∧ keepN n x = n ∧ keepM M x = setM M x.2.1 ([],true) ∧ keepB f n M x = true:=by
  unfold keepY keepN keepM keepB;rw [if_neg (by omega),if_neg (by omega),if_pos h2,if_neg (by omega)];exact ⟨rfl,rfl,rfl,rfl⟩
theorem kp_rep (f n : Int) (M : List (Int × Fate)) (x : Edt) (h1 : x.1 = 1) : keepY n M x = x ∧ keepN n x = n ∧ keepB f n M x = (!(getM M x.2.1).isSome && !(decide (f ≤ x.2.1) && decide (x.2.1 < n))):=by
  unfold keepY keepN keepB;rw [if_neg (by omega),if_neg (by omega),if_pos h1];exact ⟨rfl,rfl,rfl⟩
theorem kp_repY (M : List (Int × Fate)) (x : Edt) (h1 : x.1 = 1) (h : (getM M x.2.1).isSome = true) : keepM M x = M:=by
  unfold keepM;rw [if_neg (by omega),if_pos h1,if_pos h]
theorem kp_repN (M : List (Int × Fate)) (x : Edt) (h1 : x.1 = 1) (h : (getM M x.2.1).isSome = false) : keepM M x = setM M x.2.1 (x.2.2,false):=by
  unfold keepM;rw [if_neg (by omega),if_pos h1,if_neg (by rw [h];decide)]
theorem kp_oth (f n : Int) (M : List (Int × Fate)) (x : Edt) (h3 : x.1 ≠ 3) (h2 : x.1 ≠ 2) (h1 : x.1 ≠ 1) : keepY n M x = x ∧ keepN n x = n ∧ keepM M x = M ∧ keepB f n M x = true:=by
  unfold keepY keepN keepM keepB;rw [if_neg h3,if_neg h3,if_neg h2,if_neg h1,if_neg h1];exact ⟨rfl,rfl,rfl,rfl⟩
def sqO (f n : Int) (κ : Nat) (M : List (Int × Fate)) : Obs:=[(0,.box 112 [.mp 1,.lit (.int .i64 f),.lit (.int .i64 n)]),(1,.map true (rFt κ) M)]
set_option maxHeartbeats 8000000 in
theorem keep_o0 (f n : Int) (M : List (Int × Fate)) (x : Edt) (hn : x.1 = 3 → -1000000000000 ≤ n ∧ n ≤ 1000000000000) : qU Tryz.prog 66 [.one (.own 0 0),.agg (toL (rEdk 0) x)] (sqO f n 0 M) 2 (.tup [(true,toL (rEdk 0) (keepY n M x)),(false,[.lit (.bool (keepB f n M x))])]) (sqO f (keepN n x) 0 (keepM M x)) 2:=by
  refine acallo_ofc (t:=4) (ty:=31) (u:=5) Tryz.func66 rfl rfl rfl teOk rfl rfl ?_;refine qB ?_;refine qK ?_;refine qB ?_;refine qR ?_;refine qB ?_;refine qJ rfl (fun h12=>?_) (fun h12=>?_)
  ·try simp only [decide_eq_true_eq] at h12
   try simp only [zds] at h12
   refine qB ?_;refine zob ?_;refine acode_cut (fun (u : Unit)=>True) (fun (u : Unit)=>[(0,.one (.own 0 0)),(3,.one (.own 2 0)),(4,.one (.own 3 0)),(6,.one (.own 4 0)),(7,.one (.lit (.bool (getM M (n - 1)).isSome)))]) (fun (u : Unit)=>[(0,.box 112 [.mp 1,.lit (.int .i64 f),.lit (.int .i64 (n - 1))]),(1,.map true (rFt 0) M),(2,.box 31 (toL (rEdk 0) x)),(3,.box 31 [.lit (.int .i64 0),.lit (.int .i64 0),.lit (.slice none 0 0)]),(4,.box 196 (toL (rFt 0) ((getM M (n - 1)).getD ([],false))))]) 5 ?_ ?_
   ·refine yG rfl ?_;refine qN 0 rfl ?_;refine qN 1 rfl ?_;refine qN 2 rfl ?_;refine qN 4 rfl ?_;refine qN 5 rfl ?_;refine qN 6 rfl ?_;refine qC [3,7,12] ?_;refine zai ?_ ?_
    ·refine qC [7,12] ?_;refine zai ?_ ?_
     ·refine qC [8,12] ?_;refine zai ?_ ?_
      ·refine qN 9 rfl ?_;refine qN 10 rfl ?_;refine qN 11 rfl ?_;refine qC [12] ?_;refine qC [13] ?_;refine qN 14 rfl ?_;refine qQ ?_;exact ⟨(),trivial,qP ⟨rfl,rfl,rfl,rfl,rfl⟩ ⟨rfl,rfl,rfl,rfl,rfl⟩ rfl⟩
      ·refine qC [8] ?_;refine qN 9 rfl ?_;refine qN 10 rfl ?_;refine qN 11 rfl ?_;refine qC [13] ?_;refine qN 14 rfl ?_;refine qQ ?_;exact ⟨(),trivial,qP ⟨rfl,rfl,rfl,rfl,rfl⟩ ⟨rfl,rfl,rfl,rfl,rfl⟩ rfl⟩
     ·refine qC [7] ?_;refine qC [8] ?_;refine qN 9 rfl ?_;refine qN 10 rfl ?_;refine qN 11 rfl ?_;refine qC [13] ?_;refine qN 14 rfl ?_;refine qQ ?_;exact ⟨(),trivial,qP ⟨rfl,rfl,rfl,rfl,rfl⟩ ⟨rfl,rfl,rfl,rfl,rfl⟩ rfl⟩
    refine zai ?_ ?_
    ·refine qC [3,12] ?_;refine zai ?_ ?_
     ·refine qC [8,12] ?_;refine zai ?_ ?_
      ·refine qN 9 rfl ?_;refine qN 10 rfl ?_;refine qN 11 rfl ?_;refine qC [12] ?_;refine qC [13] ?_;refine qN 14 rfl ?_;refine qQ ?_;exact ⟨(),trivial,qP ⟨rfl,rfl,rfl,rfl,rfl⟩ ⟨rfl,rfl,rfl,rfl,rfl⟩ rfl⟩
      ·refine qC [8] ?_;refine qN 9 rfl ?_;refine qN 10 rfl ?_;refine qN 11 rfl ?_;refine qC [13] ?_;refine qN 14 rfl ?_;refine qQ ?_;exact ⟨(),trivial,qP ⟨rfl,rfl,rfl,rfl,rfl⟩ ⟨rfl,rfl,rfl,rfl,rfl⟩ rfl⟩
     ·refine qC [3] ?_;refine qC [8] ?_;refine qN 9 rfl ?_;refine qN 10 rfl ?_;refine qN 11 rfl ?_;refine qC [13] ?_;refine qN 14 rfl ?_;refine qQ ?_;exact ⟨(),trivial,qP ⟨rfl,rfl,rfl,rfl,rfl⟩ ⟨rfl,rfl,rfl,rfl,rfl⟩ rfl⟩
    ·refine qC [3,7] ?_;refine zai ?_ ?_
     ·refine qC [7] ?_;refine qC [8] ?_;refine qN 9 rfl ?_;refine qN 10 rfl ?_;refine qN 11 rfl ?_;refine qC [13] ?_;refine qN 14 rfl ?_;refine qQ ?_;exact ⟨(),trivial,qP ⟨rfl,rfl,rfl,rfl,rfl⟩ ⟨rfl,rfl,rfl,rfl,rfl⟩ rfl⟩
     ·refine qC [3] ?_;refine qC [8] ?_;refine qN 9 rfl ?_;refine qN 10 rfl ?_;refine qN 11 rfl ?_;refine qC [13] ?_;refine qN 14 rfl ?_;refine qQ ?_;exact ⟨(),trivial,qP ⟨rfl,rfl,rfl,rfl,rfl⟩ ⟨rfl,rfl,rfl,rfl,rfl⟩ rfl⟩
   ·intro u hcut5;refine qB ?_;refine zai (fun h=>trivial) ?_;refine zai (fun h=>⟨⟨h,trivial⟩,trivial⟩) ?_;refine zai (fun h=>⟨⟨h,trivial⟩,trivial⟩) ?_;refine zai (by exact fun h=>h) ?_;refine qJ rfl (fun h38=>?_) (fun h38=>?_)
    ·try simp only [Bool.and_eq_true,Bool.not_eq_true'] at h38
     try simp only [zds] at h38
     refine qM ?_;refine qB ?_;refine qL ?_
     first|(obtain ⟨e1,e2,e3,e4⟩:=kp_insY f n M x h12 h38;rw [e1,e2,e3,e4];exact ⟨rfl,⟨rfl,rfl⟩,rfl⟩)|(obtain ⟨e1,e2,e3,e4⟩:=kp_insN f n M x h12 (by simpa using h38);rw [e1,e2,e3,e4];exact ⟨rfl,⟨rfl,rfl⟩,rfl⟩)|(obtain ⟨e1,e2,e3,e4⟩:=kp_del f n M x h42;rw [e1,e2,e3,e4];exact ⟨rfl,⟨rfl,rfl⟩,rfl⟩)|(obtain ⟨e1,e2,e3⟩:=kp_rep f n M x h51;rw [e1,e2,e3];exact ⟨rfl,⟨rfl,rfl⟩,rfl⟩)|(obtain ⟨e1,e2,e3,e4⟩:=kp_oth f n M x h12 h42 h51;rw [e1,e2,e3,e4];exact ⟨rfl,⟨rfl,rfl⟩,rfl⟩)
    ·try simp only [Bool.not_eq_false',Bool.and_eq_false_iff] at h38
     try simp only [zds] at h38
     refine qO ?_;refine qB ?_;refine qL ?_
     first|(obtain ⟨e1,e2,e3,e4⟩:=kp_insY f n M x h12 h38;rw [e1,e2,e3,e4];exact ⟨rfl,⟨rfl,rfl⟩,rfl⟩)|(obtain ⟨e1,e2,e3,e4⟩:=kp_insN f n M x h12 (by simpa using h38);rw [e1,e2,e3,e4];exact ⟨rfl,⟨rfl,rfl⟩,rfl⟩)|(obtain ⟨e1,e2,e3,e4⟩:=kp_del f n M x h42;rw [e1,e2,e3,e4];exact ⟨rfl,⟨rfl,rfl⟩,rfl⟩)|(obtain ⟨e1,e2,e3⟩:=kp_rep f n M x h51;rw [e1,e2,e3];exact ⟨rfl,⟨rfl,rfl⟩,rfl⟩)|(obtain ⟨e1,e2,e3,e4⟩:=kp_oth f n M x h12 h42 h51;rw [e1,e2,e3,e4];exact ⟨rfl,⟨rfl,rfl⟩,rfl⟩)
  ·try simp only [decide_eq_false_iff_not] at h12
   try simp only [zds] at h12
   refine qB ?_;refine qJ rfl (fun h42=>?_) (fun h42=>?_)
   ·try simp only [decide_eq_true_eq] at h42
    try simp only [zds] at h42
    refine yG rfl ?_;refine qN 0 rfl ?_;refine qN 1 rfl ?_;refine qN 2 rfl ?_;refine qN 4 rfl ?_;refine qC [3,5,6] ?_;refine zai ?_ ?_
    ·refine qC [5,6] ?_;refine zai ?_ ?_
     ·refine qC [6] ?_;refine qC [7] ?_;refine qQ ?_;refine qB ?_;refine qL ?_
      first|(obtain ⟨e1,e2,e3,e4⟩:=kp_insY f n M x h12 h38;rw [e1,e2,e3,e4];exact ⟨rfl,⟨rfl,rfl⟩,rfl⟩)|(obtain ⟨e1,e2,e3,e4⟩:=kp_insN f n M x h12 (by simpa using h38);rw [e1,e2,e3,e4];exact ⟨rfl,⟨rfl,rfl⟩,rfl⟩)|(obtain ⟨e1,e2,e3,e4⟩:=kp_del f n M x h42;rw [e1,e2,e3,e4];exact ⟨rfl,⟨rfl,rfl⟩,rfl⟩)|(obtain ⟨e1,e2,e3⟩:=kp_rep f n M x h51;rw [e1,e2,e3];exact ⟨rfl,⟨rfl,rfl⟩,rfl⟩)|(obtain ⟨e1,e2,e3,e4⟩:=kp_oth f n M x h12 h42 h51;rw [e1,e2,e3,e4];exact ⟨rfl,⟨rfl,rfl⟩,rfl⟩)
     ·refine qC [5] ?_;refine qC [7] ?_;refine qQ ?_;refine qB ?_;refine qL ?_
      first|(obtain ⟨e1,e2,e3,e4⟩:=kp_insY f n M x h12 h38;rw [e1,e2,e3,e4];exact ⟨rfl,⟨rfl,rfl⟩,rfl⟩)|(obtain ⟨e1,e2,e3,e4⟩:=kp_insN f n M x h12 (by simpa using h38);rw [e1,e2,e3,e4];exact ⟨rfl,⟨rfl,rfl⟩,rfl⟩)|(obtain ⟨e1,e2,e3,e4⟩:=kp_del f n M x h42;rw [e1,e2,e3,e4];exact ⟨rfl,⟨rfl,rfl⟩,rfl⟩)|(obtain ⟨e1,e2,e3⟩:=kp_rep f n M x h51;rw [e1,e2,e3];exact ⟨rfl,⟨rfl,rfl⟩,rfl⟩)|(obtain ⟨e1,e2,e3,e4⟩:=kp_oth f n M x h12 h42 h51;rw [e1,e2,e3,e4];exact ⟨rfl,⟨rfl,rfl⟩,rfl⟩)
    refine zai ?_ ?_
    ·refine qC [3,6] ?_;refine zai ?_ ?_
     ·refine qC [6] ?_;refine qC [7] ?_;refine qQ ?_;refine qB ?_;refine qL ?_
      first|(obtain ⟨e1,e2,e3,e4⟩:=kp_insY f n M x h12 h38;rw [e1,e2,e3,e4];exact ⟨rfl,⟨rfl,rfl⟩,rfl⟩)|(obtain ⟨e1,e2,e3,e4⟩:=kp_insN f n M x h12 (by simpa using h38);rw [e1,e2,e3,e4];exact ⟨rfl,⟨rfl,rfl⟩,rfl⟩)|(obtain ⟨e1,e2,e3,e4⟩:=kp_del f n M x h42;rw [e1,e2,e3,e4];exact ⟨rfl,⟨rfl,rfl⟩,rfl⟩)|(obtain ⟨e1,e2,e3⟩:=kp_rep f n M x h51;rw [e1,e2,e3];exact ⟨rfl,⟨rfl,rfl⟩,rfl⟩)|(obtain ⟨e1,e2,e3,e4⟩:=kp_oth f n M x h12 h42 h51;rw [e1,e2,e3,e4];exact ⟨rfl,⟨rfl,rfl⟩,rfl⟩)
     ·refine qC [3] ?_;refine qC [7] ?_;refine qQ ?_;refine qB ?_;refine qL ?_
      first|(obtain ⟨e1,e2,e3,e4⟩:=kp_insY f n M x h12 h38;rw [e1,e2,e3,e4];exact ⟨rfl,⟨rfl,rfl⟩,rfl⟩)|(obtain ⟨e1,e2,e3,e4⟩:=kp_insN f n M x h12 (by simpa using h38);rw [e1,e2,e3,e4];exact ⟨rfl,⟨rfl,rfl⟩,rfl⟩)|(obtain ⟨e1,e2,e3,e4⟩:=kp_del f n M x h42;rw [e1,e2,e3,e4];exact ⟨rfl,⟨rfl,rfl⟩,rfl⟩)|(obtain ⟨e1,e2,e3⟩:=kp_rep f n M x h51;rw [e1,e2,e3];exact ⟨rfl,⟨rfl,rfl⟩,rfl⟩)|(obtain ⟨e1,e2,e3,e4⟩:=kp_oth f n M x h12 h42 h51;rw [e1,e2,e3,e4];exact ⟨rfl,⟨rfl,rfl⟩,rfl⟩)
    ·refine qC [3,5] ?_;refine zai ?_ ?_
     ·refine qC [5] ?_;refine qC [7] ?_;refine qQ ?_;refine qB ?_;refine qL ?_
      first|(obtain ⟨e1,e2,e3,e4⟩:=kp_insY f n M x h12 h38;rw [e1,e2,e3,e4];exact ⟨rfl,⟨rfl,rfl⟩,rfl⟩)|(obtain ⟨e1,e2,e3,e4⟩:=kp_insN f n M x h12 (by simpa using h38);rw [e1,e2,e3,e4];exact ⟨rfl,⟨rfl,rfl⟩,rfl⟩)|(obtain ⟨e1,e2,e3,e4⟩:=kp_del f n M x h42;rw [e1,e2,e3,e4];exact ⟨rfl,⟨rfl,rfl⟩,rfl⟩)|(obtain ⟨e1,e2,e3⟩:=kp_rep f n M x h51;rw [e1,e2,e3];exact ⟨rfl,⟨rfl,rfl⟩,rfl⟩)|(obtain ⟨e1,e2,e3,e4⟩:=kp_oth f n M x h12 h42 h51;rw [e1,e2,e3,e4];exact ⟨rfl,⟨rfl,rfl⟩,rfl⟩)
     ·refine qC [3] ?_;refine qC [7] ?_;refine qQ ?_;refine qB ?_;refine qL ?_
      first|(obtain ⟨e1,e2,e3,e4⟩:=kp_insY f n M x h12 h38;rw [e1,e2,e3,e4];exact ⟨rfl,⟨rfl,rfl⟩,rfl⟩)|(obtain ⟨e1,e2,e3,e4⟩:=kp_insN f n M x h12 (by simpa using h38);rw [e1,e2,e3,e4];exact ⟨rfl,⟨rfl,rfl⟩,rfl⟩)|(obtain ⟨e1,e2,e3,e4⟩:=kp_del f n M x h42;rw [e1,e2,e3,e4];exact ⟨rfl,⟨rfl,rfl⟩,rfl⟩)|(obtain ⟨e1,e2,e3⟩:=kp_rep f n M x h51;rw [e1,e2,e3];exact ⟨rfl,⟨rfl,rfl⟩,rfl⟩)|(obtain ⟨e1,e2,e3,e4⟩:=kp_oth f n M x h12 h42 h51;rw [e1,e2,e3,e4];exact ⟨rfl,⟨rfl,rfl⟩,rfl⟩)
   ·try simp only [decide_eq_false_iff_not] at h42
    try simp only [zds] at h42
    refine qB ?_;refine qJ rfl (fun h51=>?_) (fun h51=>?_)
    ·try simp only [decide_eq_true_eq] at h51
     try simp only [zds] at h51
     refine acode_cut (fun (u : Unit)=>True) (fun (u : Unit)=>[(0,.one (.own 0 0)),(3,.one (.own 2 0)),(4,.one (.own 3 0)),(9,.one (.lit (.bool (getM M x.2.1).isSome)))]) (fun (u : Unit)=>[(0,.box 112 [.mp 1,.lit (.int .i64 f),.lit (.int .i64 n)]),(1,.map true (rFt 0) M),(2,.box 31 (toL (rEdk 0) x)),(3,.box 31 [.lit (.int .i64 0),.lit (.int .i64 0),.lit (.slice none 0 0)])]) 4 ?_ ?_
     ·refine yG rfl ?_;refine qN 0 rfl ?_;refine qN 1 rfl ?_;refine qN 2 rfl ?_;refine qN 4 rfl ?_;refine qC [3,5,10] ?_;refine zai ?_ ?_
      ·refine qC [5,10] ?_;refine zai ?_ ?_
       ·refine qC [6,10] ?_;refine zai ?_ ?_
        ·refine qN 7 rfl ?_;refine qN 8 rfl ?_;refine qN 9 rfl ?_;refine qC [10] ?_;refine qC [11] ?_;refine qN 12 rfl ?_;refine qQ ?_;exact ⟨(),trivial,qP ⟨rfl,rfl,rfl,rfl⟩ ⟨rfl,rfl,rfl,rfl⟩ rfl⟩
        ·refine qC [6] ?_;refine qN 7 rfl ?_;refine qN 8 rfl ?_;refine qN 9 rfl ?_;refine qC [11] ?_;refine qN 12 rfl ?_;refine qQ ?_;exact ⟨(),trivial,qP ⟨rfl,rfl,rfl,rfl⟩ ⟨rfl,rfl,rfl,rfl⟩ rfl⟩
       ·refine qC [5] ?_;refine qC [6] ?_;refine qN 7 rfl ?_;refine qN 8 rfl ?_;refine qN 9 rfl ?_;refine qC [11] ?_;refine qN 12 rfl ?_;refine qQ ?_;exact ⟨(),trivial,qP ⟨rfl,rfl,rfl,rfl⟩ ⟨rfl,rfl,rfl,rfl⟩ rfl⟩
      refine zai ?_ ?_
      ·refine qC [3,10] ?_;refine zai ?_ ?_
       ·refine qC [6,10] ?_;refine zai ?_ ?_
        ·refine qN 7 rfl ?_;refine qN 8 rfl ?_;refine qN 9 rfl ?_;refine qC [10] ?_;refine qC [11] ?_;refine qN 12 rfl ?_;refine qQ ?_;exact ⟨(),trivial,qP ⟨rfl,rfl,rfl,rfl⟩ ⟨rfl,rfl,rfl,rfl⟩ rfl⟩
        ·refine qC [6] ?_;refine qN 7 rfl ?_;refine qN 8 rfl ?_;refine qN 9 rfl ?_;refine qC [11] ?_;refine qN 12 rfl ?_;refine qQ ?_;exact ⟨(),trivial,qP ⟨rfl,rfl,rfl,rfl⟩ ⟨rfl,rfl,rfl,rfl⟩ rfl⟩
       ·refine qC [3] ?_;refine qC [6] ?_;refine qN 7 rfl ?_;refine qN 8 rfl ?_;refine qN 9 rfl ?_;refine qC [11] ?_;refine qN 12 rfl ?_;refine qQ ?_;exact ⟨(),trivial,qP ⟨rfl,rfl,rfl,rfl⟩ ⟨rfl,rfl,rfl,rfl⟩ rfl⟩
      ·refine qC [3,5] ?_;refine zai ?_ ?_
       ·refine qC [5] ?_;refine qC [6] ?_;refine qN 7 rfl ?_;refine qN 8 rfl ?_;refine qN 9 rfl ?_;refine qC [11] ?_;refine qN 12 rfl ?_;refine qQ ?_;exact ⟨(),trivial,qP ⟨rfl,rfl,rfl,rfl⟩ ⟨rfl,rfl,rfl,rfl⟩ rfl⟩
       ·refine qC [3] ?_;refine qC [6] ?_;refine qN 7 rfl ?_;refine qN 8 rfl ?_;refine qN 9 rfl ?_;refine qC [11] ?_;refine qN 12 rfl ?_;refine qQ ?_;exact ⟨(),trivial,qP ⟨rfl,rfl,rfl,rfl⟩ ⟨rfl,rfl,rfl,rfl⟩ rfl⟩
     ·intro u hcut11;refine acode_cut (fun (u : Unit)=>True) (fun (u : Unit)=>[(0,.one (.own 0 0)),(3,.one (.own 2 0)),(4,.one (.own 3 0)),(9,.one (.lit (.bool (getM M x.2.1).isSome)))]) (fun (u : Unit)=>[(0,.box 112 [.mp 1,.lit (.int .i64 f),.lit (.int .i64 n)]),(1,.map true (rFt 0) (keepM M x)),(2,.box 31 (toL (rEdk 0) x)),(3,.box 31 [.lit (.int .i64 0),.lit (.int .i64 0),.lit (.slice none 0 0)])]) 4 ?_ ?_
      ·refine qB ?_;refine qJ rfl (fun h64=>?_) (fun h64=>?_)
       ·try simp only [Bool.not_eq_true'] at h64
        try simp only [zds] at h64
        refine yG rfl ?_;refine qN 0 rfl ?_;refine qN 1 rfl ?_;refine qN 2 rfl ?_;refine qN 4 rfl ?_;refine qN 6 rfl ?_;refine qC [3,5,7] ?_;refine zai ?_ ?_
        ·refine qC [5,7] ?_;refine zai ?_ ?_
         ·refine qC [7] ?_;refine qC [8] ?_;refine qC [9] ?_;refine qQ ?_;exact ⟨(),trivial,qP ⟨rfl,rfl,rfl,rfl⟩ ⟨rfl,(mp_eq (by first|exact (kp_repN M x h51 (by simpa using h64)).symm|exact (kp_repY M x h51 (by simpa using h64)).symm)),rfl,rfl⟩ rfl⟩
         ·refine qC [5,8] ?_;refine zai ?_ ?_
          ·refine qC [8] ?_;refine qC [9] ?_;refine qQ ?_;exact ⟨(),trivial,qP ⟨rfl,rfl,rfl,rfl⟩ ⟨rfl,(mp_eq (by first|exact (kp_repN M x h51 (by simpa using h64)).symm|exact (kp_repY M x h51 (by simpa using h64)).symm)),rfl,rfl⟩ rfl⟩
          ·refine qC [5] ?_;refine qC [9] ?_;refine qQ ?_;exact ⟨(),trivial,qP ⟨rfl,rfl,rfl,rfl⟩ ⟨rfl,(mp_eq (by first|exact (kp_repN M x h51 (by simpa using h64)).symm|exact (kp_repY M x h51 (by simpa using h64)).symm)),rfl,rfl⟩ rfl⟩
        refine zai ?_ ?_
        ·refine qC [3,7] ?_;refine zai ?_ ?_
         ·refine qC [7] ?_;refine qC [8] ?_;refine qC [9] ?_;refine qQ ?_;exact ⟨(),trivial,qP ⟨rfl,rfl,rfl,rfl⟩ ⟨rfl,(mp_eq (by first|exact (kp_repN M x h51 (by simpa using h64)).symm|exact (kp_repY M x h51 (by simpa using h64)).symm)),rfl,rfl⟩ rfl⟩
         ·refine qC [3,8] ?_;refine zai ?_ ?_
          ·refine qC [8] ?_;refine qC [9] ?_;refine qQ ?_;exact ⟨(),trivial,qP ⟨rfl,rfl,rfl,rfl⟩ ⟨rfl,(mp_eq (by first|exact (kp_repN M x h51 (by simpa using h64)).symm|exact (kp_repY M x h51 (by simpa using h64)).symm)),rfl,rfl⟩ rfl⟩
          ·refine qC [3] ?_;refine qC [9] ?_;refine qQ ?_;exact ⟨(),trivial,qP ⟨rfl,rfl,rfl,rfl⟩ ⟨rfl,(mp_eq (by first|exact (kp_repN M x h51 (by simpa using h64)).symm|exact (kp_repY M x h51 (by simpa using h64)).symm)),rfl,rfl⟩ rfl⟩
        ·refine qC [3,5,8] ?_;refine zai ?_ ?_
         ·refine qC [5,8] ?_;refine zai ?_ ?_
          ·refine qC [8] ?_;refine qC [9] ?_;refine qQ ?_;exact ⟨(),trivial,qP ⟨rfl,rfl,rfl,rfl⟩ ⟨rfl,(mp_eq (by first|exact (kp_repN M x h51 (by simpa using h64)).symm|exact (kp_repY M x h51 (by simpa using h64)).symm)),rfl,rfl⟩ rfl⟩
          ·refine qC [5] ?_;refine qC [9] ?_;refine qQ ?_;exact ⟨(),trivial,qP ⟨rfl,rfl,rfl,rfl⟩ ⟨rfl,(mp_eq (by first|exact (kp_repN M x h51 (by simpa using h64)).symm|exact (kp_repY M x h51 (by simpa using h64)).symm)),rfl,rfl⟩ rfl⟩
         refine zai ?_ ?_
         ·refine qC [3,8] ?_;refine zai ?_ ?_
          ·refine qC [8] ?_;refine qC [9] ?_;refine qQ ?_;exact ⟨(),trivial,qP ⟨rfl,rfl,rfl,rfl⟩ ⟨rfl,(mp_eq (by first|exact (kp_repN M x h51 (by simpa using h64)).symm|exact (kp_repY M x h51 (by simpa using h64)).symm)),rfl,rfl⟩ rfl⟩
          ·refine qC [3] ?_;refine qC [9] ?_;refine qQ ?_;exact ⟨(),trivial,qP ⟨rfl,rfl,rfl,rfl⟩ ⟨rfl,(mp_eq (by first|exact (kp_repN M x h51 (by simpa using h64)).symm|exact (kp_repY M x h51 (by simpa using h64)).symm)),rfl,rfl⟩ rfl⟩
         ·refine qC [3,5] ?_;refine zai ?_ ?_
          ·refine qC [5] ?_;refine qC [9] ?_;refine qQ ?_;exact ⟨(),trivial,qP ⟨rfl,rfl,rfl,rfl⟩ ⟨rfl,(mp_eq (by first|exact (kp_repN M x h51 (by simpa using h64)).symm|exact (kp_repY M x h51 (by simpa using h64)).symm)),rfl,rfl⟩ rfl⟩
          ·refine qC [3] ?_;refine qC [9] ?_;refine qQ ?_;exact ⟨(),trivial,qP ⟨rfl,rfl,rfl,rfl⟩ ⟨rfl,(mp_eq (by first|exact (kp_repN M x h51 (by simpa using h64)).symm|exact (kp_repY M x h51 (by simpa using h64)).symm)),rfl,rfl⟩ rfl⟩
       ·try simp only [Bool.not_eq_false'] at h64
        try simp only [zds] at h64
        refine qO ?_;exact ⟨(),trivial,qP ⟨rfl,rfl,rfl,rfl⟩ ⟨rfl,(mp_eq (by first|exact (kp_repN M x h51 (by simpa using h64)).symm|exact (kp_repY M x h51 (by simpa using h64)).symm)),rfl,rfl⟩ rfl⟩
      ·intro u hcut13;refine qK ?_;refine yG rfl ?_;refine qN 1 rfl ?_;refine qC [0,2] ?_;refine zai ?_ ?_
       ·refine qC [2] ?_;refine qN 3 rfl ?_;refine aord_lightG 4 rfl rfl rfl (by kernel_rfl) ?_;refine zai (fun h=>trivial) ?_;refine aord_lightG 5 rfl rfl rfl (by kernel_rfl) ?_;refine zai (fun h=>trivial) ?_;refine qC [6] ?_;refine zai (fun h=>⟨⟨h,trivial⟩,trivial⟩) ?_;refine qC [7] ?_;refine Or.inl ?_;refine zai (rfl) ?_;refine zei _ (zai (fun h=>⟨⟨⟨h,trivial⟩,⟨h,trivial⟩,trivial⟩,given_c (k:=1) () f n x.2.1⟩) ?_);refine qC [8,10] ?_;refine zai ?_ ?_
        ·refine zai (fun h=>⟨⟨h,trivial⟩,trivial⟩) ?_;refine qN 9 rfl ?_;refine zai (by exact fun h=>h) ?_;refine qC [10] ?_;refine qN 11 rfl ?_;refine qQ ?_;refine qL ?_
         first|(obtain ⟨e1,e2,e3,e4⟩:=kp_insY f n M x h12 h38;rw [e1,e2,e3,e4];exact ⟨rfl,⟨rfl,rfl⟩,rfl⟩)|(obtain ⟨e1,e2,e3,e4⟩:=kp_insN f n M x h12 (by simpa using h38);rw [e1,e2,e3,e4];exact ⟨rfl,⟨rfl,rfl⟩,rfl⟩)|(obtain ⟨e1,e2,e3,e4⟩:=kp_del f n M x h42;rw [e1,e2,e3,e4];exact ⟨rfl,⟨rfl,rfl⟩,rfl⟩)|(obtain ⟨e1,e2,e3⟩:=kp_rep f n M x h51;rw [e1,e2,e3];exact ⟨rfl,⟨rfl,rfl⟩,rfl⟩)|(obtain ⟨e1,e2,e3,e4⟩:=kp_oth f n M x h12 h42 h51;rw [e1,e2,e3,e4];exact ⟨rfl,⟨rfl,rfl⟩,rfl⟩)
        ·refine qC [8] ?_;refine zai (fun h=>⟨⟨h,trivial⟩,trivial⟩) ?_;refine qN 9 rfl ?_;refine zai (by exact fun h=>h) ?_;refine qN 11 rfl ?_;refine qQ ?_;refine qL ?_
         first|(obtain ⟨e1,e2,e3,e4⟩:=kp_insY f n M x h12 h38;rw [e1,e2,e3,e4];exact ⟨rfl,⟨rfl,rfl⟩,rfl⟩)|(obtain ⟨e1,e2,e3,e4⟩:=kp_insN f n M x h12 (by simpa using h38);rw [e1,e2,e3,e4];exact ⟨rfl,⟨rfl,rfl⟩,rfl⟩)|(obtain ⟨e1,e2,e3,e4⟩:=kp_del f n M x h42;rw [e1,e2,e3,e4];exact ⟨rfl,⟨rfl,rfl⟩,rfl⟩)|(obtain ⟨e1,e2,e3⟩:=kp_rep f n M x h51;rw [e1,e2,e3];exact ⟨rfl,⟨rfl,rfl⟩,rfl⟩)|(obtain ⟨e1,e2,e3,e4⟩:=kp_oth f n M x h12 h42 h51;rw [e1,e2,e3,e4];exact ⟨rfl,⟨rfl,rfl⟩,rfl⟩)
       ·refine qN 3 rfl ?_;refine aord_lightG 4 rfl rfl rfl (by kernel_rfl) ?_;refine zai (fun h=>trivial) ?_;refine aord_lightG 5 rfl rfl rfl (by kernel_rfl) ?_;refine zai (fun h=>trivial) ?_;refine qC [0,6] ?_;refine zai ?_ ?_
        ·refine qC [6] ?_;refine zai (fun h=>⟨⟨h,trivial⟩,trivial⟩) ?_;refine qC [7] ?_;refine Or.inl ?_;refine zai (rfl) ?_;refine zei _ (zai (fun h=>⟨⟨⟨h,trivial⟩,⟨h,trivial⟩,trivial⟩,given_c (k:=1) () f n x.2.1⟩) ?_);refine qC [8,10] ?_;refine zai ?_ ?_
         ·refine zai (fun h=>⟨⟨h,trivial⟩,trivial⟩) ?_;refine qN 9 rfl ?_;refine zai (by exact fun h=>h) ?_;refine qC [10] ?_;refine qN 11 rfl ?_;refine qQ ?_;refine qL ?_
          first|(obtain ⟨e1,e2,e3,e4⟩:=kp_insY f n M x h12 h38;rw [e1,e2,e3,e4];exact ⟨rfl,⟨rfl,rfl⟩,rfl⟩)|(obtain ⟨e1,e2,e3,e4⟩:=kp_insN f n M x h12 (by simpa using h38);rw [e1,e2,e3,e4];exact ⟨rfl,⟨rfl,rfl⟩,rfl⟩)|(obtain ⟨e1,e2,e3,e4⟩:=kp_del f n M x h42;rw [e1,e2,e3,e4];exact ⟨rfl,⟨rfl,rfl⟩,rfl⟩)|(obtain ⟨e1,e2,e3⟩:=kp_rep f n M x h51;rw [e1,e2,e3];exact ⟨rfl,⟨rfl,rfl⟩,rfl⟩)|(obtain ⟨e1,e2,e3,e4⟩:=kp_oth f n M x h12 h42 h51;rw [e1,e2,e3,e4];exact ⟨rfl,⟨rfl,rfl⟩,rfl⟩)
         ·refine qC [8] ?_;refine zai (fun h=>⟨⟨h,trivial⟩,trivial⟩) ?_;refine qN 9 rfl ?_;refine zai (by exact fun h=>h) ?_;refine qN 11 rfl ?_;refine qQ ?_;refine qL ?_
          first|(obtain ⟨e1,e2,e3,e4⟩:=kp_insY f n M x h12 h38;rw [e1,e2,e3,e4];exact ⟨rfl,⟨rfl,rfl⟩,rfl⟩)|(obtain ⟨e1,e2,e3,e4⟩:=kp_insN f n M x h12 (by simpa using h38);rw [e1,e2,e3,e4];exact ⟨rfl,⟨rfl,rfl⟩,rfl⟩)|(obtain ⟨e1,e2,e3,e4⟩:=kp_del f n M x h42;rw [e1,e2,e3,e4];exact ⟨rfl,⟨rfl,rfl⟩,rfl⟩)|(obtain ⟨e1,e2,e3⟩:=kp_rep f n M x h51;rw [e1,e2,e3];exact ⟨rfl,⟨rfl,rfl⟩,rfl⟩)|(obtain ⟨e1,e2,e3,e4⟩:=kp_oth f n M x h12 h42 h51;rw [e1,e2,e3,e4];exact ⟨rfl,⟨rfl,rfl⟩,rfl⟩)
        ·refine zai (fun h=>⟨⟨h,trivial⟩,trivial⟩) ?_;refine qC [0,7] ?_;refine zai ?_ ?_
         ·refine qC [7] ?_;refine Or.inl ?_;refine zai (rfl) ?_;refine zei _ (zai (fun h=>⟨⟨⟨h,trivial⟩,⟨h,trivial⟩,trivial⟩,given_c (k:=1) () f n x.2.1⟩) ?_);refine qC [8,10] ?_;refine zai ?_ ?_
          ·refine zai (fun h=>⟨⟨h,trivial⟩,trivial⟩) ?_;refine qN 9 rfl ?_;refine zai (by exact fun h=>h) ?_;refine qC [10] ?_;refine qN 11 rfl ?_;refine qQ ?_;refine qL ?_
           first|(obtain ⟨e1,e2,e3,e4⟩:=kp_insY f n M x h12 h38;rw [e1,e2,e3,e4];exact ⟨rfl,⟨rfl,rfl⟩,rfl⟩)|(obtain ⟨e1,e2,e3,e4⟩:=kp_insN f n M x h12 (by simpa using h38);rw [e1,e2,e3,e4];exact ⟨rfl,⟨rfl,rfl⟩,rfl⟩)|(obtain ⟨e1,e2,e3,e4⟩:=kp_del f n M x h42;rw [e1,e2,e3,e4];exact ⟨rfl,⟨rfl,rfl⟩,rfl⟩)|(obtain ⟨e1,e2,e3⟩:=kp_rep f n M x h51;rw [e1,e2,e3];exact ⟨rfl,⟨rfl,rfl⟩,rfl⟩)|(obtain ⟨e1,e2,e3,e4⟩:=kp_oth f n M x h12 h42 h51;rw [e1,e2,e3,e4];exact ⟨rfl,⟨rfl,rfl⟩,rfl⟩)
          ·refine qC [8] ?_;refine zai (fun h=>⟨⟨h,trivial⟩,trivial⟩) ?_;refine qN 9 rfl ?_;refine zai (by exact fun h=>h) ?_;refine qN 11 rfl ?_;refine qQ ?_;refine qL ?_
           first|(obtain ⟨e1,e2,e3,e4⟩:=kp_insY f n M x h12 h38;rw [e1,e2,e3,e4];exact ⟨rfl,⟨rfl,rfl⟩,rfl⟩)|(obtain ⟨e1,e2,e3,e4⟩:=kp_insN f n M x h12 (by simpa using h38);rw [e1,e2,e3,e4];exact ⟨rfl,⟨rfl,rfl⟩,rfl⟩)|(obtain ⟨e1,e2,e3,e4⟩:=kp_del f n M x h42;rw [e1,e2,e3,e4];exact ⟨rfl,⟨rfl,rfl⟩,rfl⟩)|(obtain ⟨e1,e2,e3⟩:=kp_rep f n M x h51;rw [e1,e2,e3];exact ⟨rfl,⟨rfl,rfl⟩,rfl⟩)|(obtain ⟨e1,e2,e3,e4⟩:=kp_oth f n M x h12 h42 h51;rw [e1,e2,e3,e4];exact ⟨rfl,⟨rfl,rfl⟩,rfl⟩)
         ·refine Or.inl ?_;refine zai (rfl) ?_;refine zei _ (zai (fun h=>⟨⟨⟨h,trivial⟩,⟨h,trivial⟩,trivial⟩,given_c (k:=1) () f n x.2.1⟩) ?_);refine qC [0,8] ?_;refine zai ?_ ?_
          ·refine qC [8,10] ?_;refine zai ?_ ?_
           ·refine zai (fun h=>⟨⟨h,trivial⟩,trivial⟩) ?_;refine qN 9 rfl ?_;refine zai (by exact fun h=>h) ?_;refine qC [10] ?_;refine qN 11 rfl ?_;refine qQ ?_;refine qL ?_
            first|(obtain ⟨e1,e2,e3,e4⟩:=kp_insY f n M x h12 h38;rw [e1,e2,e3,e4];exact ⟨rfl,⟨rfl,rfl⟩,rfl⟩)|(obtain ⟨e1,e2,e3,e4⟩:=kp_insN f n M x h12 (by simpa using h38);rw [e1,e2,e3,e4];exact ⟨rfl,⟨rfl,rfl⟩,rfl⟩)|(obtain ⟨e1,e2,e3,e4⟩:=kp_del f n M x h42;rw [e1,e2,e3,e4];exact ⟨rfl,⟨rfl,rfl⟩,rfl⟩)|(obtain ⟨e1,e2,e3⟩:=kp_rep f n M x h51;rw [e1,e2,e3];exact ⟨rfl,⟨rfl,rfl⟩,rfl⟩)|(obtain ⟨e1,e2,e3,e4⟩:=kp_oth f n M x h12 h42 h51;rw [e1,e2,e3,e4];exact ⟨rfl,⟨rfl,rfl⟩,rfl⟩)
           ·refine qC [8] ?_;refine zai (fun h=>⟨⟨h,trivial⟩,trivial⟩) ?_;refine qN 9 rfl ?_;refine zai (by exact fun h=>h) ?_;refine qN 11 rfl ?_;refine qQ ?_;refine qL ?_
            first|(obtain ⟨e1,e2,e3,e4⟩:=kp_insY f n M x h12 h38;rw [e1,e2,e3,e4];exact ⟨rfl,⟨rfl,rfl⟩,rfl⟩)|(obtain ⟨e1,e2,e3,e4⟩:=kp_insN f n M x h12 (by simpa using h38);rw [e1,e2,e3,e4];exact ⟨rfl,⟨rfl,rfl⟩,rfl⟩)|(obtain ⟨e1,e2,e3,e4⟩:=kp_del f n M x h42;rw [e1,e2,e3,e4];exact ⟨rfl,⟨rfl,rfl⟩,rfl⟩)|(obtain ⟨e1,e2,e3⟩:=kp_rep f n M x h51;rw [e1,e2,e3];exact ⟨rfl,⟨rfl,rfl⟩,rfl⟩)|(obtain ⟨e1,e2,e3,e4⟩:=kp_oth f n M x h12 h42 h51;rw [e1,e2,e3,e4];exact ⟨rfl,⟨rfl,rfl⟩,rfl⟩)
          ·refine zai (fun h=>⟨⟨h,trivial⟩,trivial⟩) ?_;refine qN 9 rfl ?_;refine zai (by exact fun h=>h) ?_;refine qC [0] ?_;refine qC [10] ?_;refine qN 11 rfl ?_;refine qQ ?_;refine qL ?_
           first|(obtain ⟨e1,e2,e3,e4⟩:=kp_insY f n M x h12 h38;rw [e1,e2,e3,e4];exact ⟨rfl,⟨rfl,rfl⟩,rfl⟩)|(obtain ⟨e1,e2,e3,e4⟩:=kp_insN f n M x h12 (by simpa using h38);rw [e1,e2,e3,e4];exact ⟨rfl,⟨rfl,rfl⟩,rfl⟩)|(obtain ⟨e1,e2,e3,e4⟩:=kp_del f n M x h42;rw [e1,e2,e3,e4];exact ⟨rfl,⟨rfl,rfl⟩,rfl⟩)|(obtain ⟨e1,e2,e3⟩:=kp_rep f n M x h51;rw [e1,e2,e3];exact ⟨rfl,⟨rfl,rfl⟩,rfl⟩)|(obtain ⟨e1,e2,e3,e4⟩:=kp_oth f n M x h12 h42 h51;rw [e1,e2,e3,e4];exact ⟨rfl,⟨rfl,rfl⟩,rfl⟩)
    ·try simp only [decide_eq_false_iff_not] at h51
     try simp only [zds] at h51
     refine qO ?_;refine qB ?_;refine qL ?_
     first|(obtain ⟨e1,e2,e3,e4⟩:=kp_insY f n M x h12 h38;rw [e1,e2,e3,e4];exact ⟨rfl,⟨rfl,rfl⟩,rfl⟩)|(obtain ⟨e1,e2,e3,e4⟩:=kp_insN f n M x h12 (by simpa using h38);rw [e1,e2,e3,e4];exact ⟨rfl,⟨rfl,rfl⟩,rfl⟩)|(obtain ⟨e1,e2,e3,e4⟩:=kp_del f n M x h42;rw [e1,e2,e3,e4];exact ⟨rfl,⟨rfl,rfl⟩,rfl⟩)|(obtain ⟨e1,e2,e3⟩:=kp_rep f n M x h51;rw [e1,e2,e3];exact ⟨rfl,⟨rfl,rfl⟩,rfl⟩)|(obtain ⟨e1,e2,e3,e4⟩:=kp_oth f n M x h12 h42 h51;rw [e1,e2,e3,e4];exact ⟨rfl,⟨rfl,rfl⟩,rfl⟩)
end Q
end Ab
end Go.Proofs.YtojipboabgebfaaGreatDoor
namespace Go.Proofs.YtojipboabgebfaaGreatDoor
open Go.RowKit
namespace Ab
set_option maxRecDepth 100000
namespace Q
def RevI (xs : List Edt) (i : Nat) (ys : List Edt) : Prop:=ys.length = xs.length ∧ ∀ k,k < xs.length → ys.getD k ((0 : Int),(0 : Int),([] : List Fld)) = if k < i ∨ xs.length - i ≤ k then xs.getD (xs.length - 1 - k) ((0 : Int),(0 : Int),([] : List Fld)) else xs.getD k ((0 : Int),(0 : Int),([] : List Fld))
theorem getD_set {ys : List Edt} {i k : Nat} {y : Edt} (h : k < ys.length) : (ys.set i y).getD k ((0 : Int),(0 : Int),([] : List Fld)) = if i = k then y else ys.getD k ((0 : Int),(0 : Int),([] : List Fld)):=by
  rw [List.getD_eq_getElem?_getD,List.getElem?_set,List.getD_eq_getElem?_getD];split
  · rename_i e;rw [if_pos (by omega)];rfl
  · rfl
theorem rev_step {xs ys : List Edt} {i : Nat} (h : RevI xs i ys) (hi : 2 * i + 1 < xs.length) : RevI xs (i + 1) ((ys.set i (ys.getD (xs.length - 1 - i) ((0 : Int),(0 : Int),([] : List Fld)))).set (xs.length - 1 - i) (ys.getD i ((0 : Int),(0 : Int),([] : List Fld)))):=by
  obtain ⟨h1,h2⟩:=h;refine ⟨by rw [List.length_set,List.length_set,h1],fun k hk=>?_⟩;rw [getD_set (by rw [List.length_set];omega),getD_set (by omega)]
  by_cases e1 : xs.length - 1 - i = k
  · rw [if_pos e1,if_pos (by omega),h2 i (by omega),if_neg (by omega),← e1];rw [show xs.length - 1 - (xs.length - 1 - i) = i by omega]
  · rw [if_neg e1]
    by_cases e2 : i = k
    · rw [if_pos e2,if_pos (by omega),h2 _ (by omega),if_neg (by omega),e2]
    · rw [if_neg e2,h2 k hk]
      by_cases e3 : k < i ∨ xs.length - i ≤ k
      · rw [if_pos e3,if_pos (by omega)]
      · rw [if_neg e3,if_neg (by omega)]
theorem rev_end {xs ys : List Edt} {i : Nat} (h : RevI xs i ys) (hi : xs.length ≤ 2 * i + 1) : ys = xs.reverse:=by
  obtain ⟨h1,h2⟩:=h;apply List.ext_getElem (by rw [h1,List.length_reverse]);intro k hk hk';have hkx : k < xs.length:=by omega
  have:=h2 k hkx;rw [List.getElem_reverse];have e1 : ys[k] = ys.getD k ((0 : Int),(0 : Int),([] : List Fld)):=(List.getElem_eq_getD ((0 : Int),(0 : Int),([] : List Fld)));have e2 : xs[xs.length - 1 - k] = xs.getD (xs.length - 1 - k) ((0 : Int),(0 : Int),([] : List Fld)):=(List.getElem_eq_getD ((0 : Int),(0 : Int),([] : List Fld)));rw [e1,e2,this];split
  · rfl
  · rw [show xs.length - 1 - k = k by omega]
theorem revE_o0 (xs : List Edt) (hl : xs.length ≤ 1000000) : qU Tryz.prog 67 [.one (.vec 1)] [(0,.box 22 [.vec 1]),(1,.vec 31 (rEdk 0) xs)] 2 (.tup []) [(0,.box 22 [.vec 1]),(1,.vec 31 (rEdk 0) xs.reverse)] 2:=by
  refine qV (rs:=[]) Tryz.func67 rfl rfl rfl teOk (by decide) rfl ?_;refine qB ?_;intro l0_1
  try simp only [zds] at l0_1
  refine zob ?_;refine qR ?_;refine yJ (fun (p : Nat × List Edt)=>RevI xs p.1 p.2 ∧ p.1 ≤ xs.length) (fun (p : Nat × List Edt)=>[(0,.one (.vec 1)),(2,ii .i64 p.1),(3,ii .i64 ((xs.length : Int) - 1 - p.1))]) (fun (p : Nat × List Edt)=>[(0,.box 22 [.vec 1]),(1,.vec 31 (rEdk 0) p.2)]) 2 (fun (p : Nat × List Edt)=>xs.length - p.1) (0,xs) (⟨⟨rfl,fun k hk=>by rw [if_neg (by omega)]⟩,Nat.zero_le _⟩) (qP ⟨rfl,rfl,(yW (by omega))⟩ ⟨rfl,rfl⟩ rfl) ?_;intro p hI0;obtain ⟨hI,hil⟩:=hI0;have hyl:=hI.1;refine qK ?_;refine qB ?_;refine qJ rfl (fun h9=>?_) (fun h9=>?_)
  ·try simp only [decide_eq_true_eq] at h9
   try simp only [zds] at h9
   have hii : 2 * p.1 + 1 < xs.length:=(by omega);have hst:=rev_step hI hii;refine qO ?_;refine qK ?_;refine qR ?_;refine yG rfl ?_;refine qN 0 rfl ?_;refine qN 1 rfl ?_;refine qN 2 rfl ?_;refine qN 3 rfl ?_;refine qN 4 rfl ?_;refine qN 5 rfl ?_;refine qN 6 rfl ?_;refine zob ?_;refine qN 8 rfl ?_;refine qN 9 rfl ?_;refine qN 10 rfl ?_;refine zob ?_;refine qC [7,11] ?_;refine zai ?_ ?_
   ·refine zai (by omega) ?_;refine qC [11] ?_;refine zai (by omega) ?_;refine qN 12 rfl ?_;refine zob ?_;refine qC [13] ?_;refine zai (by omega) ?_;refine qN 14 rfl ?_;refine zai (by first|omega|assumption|decide|(simp only [Int.toNat_natCast,qH,qG,qE];omega)|(simp <;> omega)) ?_;refine qC [15] ?_;refine zai (by (try simp only [List.length_set]);omega) ?_;refine qQ ?_;refine qM ?_;refine zob ?_;refine zob ?_;exact ⟨(p.1 + 1,(p.2.set p.1 (p.2.getD (xs.length - 1 - p.1) ((0 : Int),(0 : Int),([] : List Fld)))).set (xs.length - 1 - p.1) (p.2.getD p.1 ((0 : Int),(0 : Int),([] : List Fld)))),⟨hst,by show p.1 + 1 ≤ xs.length;omega⟩,by first|omega|(simp <;> omega),qP ⟨rfl,(yW (by omega)),(yW (by omega))⟩ ⟨rfl,(qS (by rw [show ((xs.length : Int) - 1 - (p.1 : Int)).toNat = xs.length - 1 - p.1 by omega];try exact rfl))⟩ rfl⟩
   ·refine zai (by omega) ?_;refine qC [7] ?_;refine zai (by omega) ?_;refine qN 12 rfl ?_;refine zob ?_;refine qC [13] ?_;refine zai (by omega) ?_;refine qN 14 rfl ?_;refine zai (by first|omega|assumption|decide|(simp only [Int.toNat_natCast,qH,qG,qE];omega)|(simp <;> omega)) ?_;refine qC [15] ?_;refine zai (by (try simp only [List.length_set]);omega) ?_;refine qQ ?_;refine qM ?_;refine zob ?_;refine zob ?_;exact ⟨(p.1 + 1,(p.2.set p.1 (p.2.getD (xs.length - 1 - p.1) ((0 : Int),(0 : Int),([] : List Fld)))).set (xs.length - 1 - p.1) (p.2.getD p.1 ((0 : Int),(0 : Int),([] : List Fld)))),⟨hst,by show p.1 + 1 ≤ xs.length;omega⟩,by first|omega|(simp <;> omega),qP ⟨rfl,(yW (by omega)),(yW (by omega))⟩ ⟨rfl,(qS (by rw [show ((xs.length : Int) - 1 - (p.1 : Int)).toNat = xs.length - 1 - p.1 by omega];try exact rfl))⟩ rfl⟩
  ·try simp only [decide_eq_false_iff_not,Int.not_lt] at h9
   try simp only [zds] at h9
   refine yP ?_;have e1 : p.2 = xs.reverse:=rev_end hI (by omega);exact ⟨rfl,⟨rfl,qS e1⟩,rfl⟩
def itE (κ : Nat) (l : List Edt) : List (List A):=(List.range l.length).map fun j=>[ii .i64 ((l.length - 1 - j : Nat) : Int),.agg (toL (rEdk κ) (l.getD (l.length - 1 - j) ((0 : Int),(0 : Int),([] : List Fld))))]
theorem itE_len (κ : Nat) (l : List Edt) : (itE κ l).length = l.length:=by unfold itE;rw [List.length_map,List.length_range]
theorem itE_get (κ : Nat) (l : List Edt) {i : Nat} (h : i < (itE κ l).length) : (itE κ l)[i] = [ii .i64 ((l.length - 1 - i : Nat) : Int),.agg (toL (rEdk κ) (l.getD (l.length - 1 - i) ((0 : Int),(0 : Int),([] : List Fld))))]:=by
  simp only [itE,List.getElem_map,List.getElem_range]
theorem itE_at (κ : Nat) (l : List Edt) {p : Nat} (h : p < l.length) : ∃ hk : l.length - (p + 1) < (itE κ l).length,(itE κ l)[l.length - (p + 1)] = [ii .i64 (p : Int),.agg (toL (rEdk κ) (l.getD p ((0 : Int),(0 : Int),([] : List Fld))))]:=by
  refine ⟨by rw [itE_len];omega,?_⟩;simp only [itE,List.getElem_map,List.getElem_range];rw [show l.length - 1 - (l.length - (p + 1)) = p by omega]
theorem backE_iter {κ : Nat} (l : List Edt) : AIter Tryz.prog 106 [.one (.addr (.sl (rEdk κ)) l)] (itE κ l):=by
  refine aiter_of Tryz.func106 rfl rfl rfl teOk rfl ?_;intro ll ι Pr J U n0 hU hab hy;refine yS ?_;refine xI hab hU rfl ?_;refine qM ?_;intro hln;have hln : l.length ≤ 9223372036854775807:=hln;refine zai (by omega) ?_;refine ⟨_,_,_,le_refl,?_⟩;refine acodeY_block ?_;refine acodeY_loop (κ:=Nat) (fun i=>i ≤ l.length) (fun i=>l.length - i) (fun i=>[(0,.one (.lit (.func (.yield ll) #[] #[]))),(1,.one (.addr (.sl (rEdk κ)) l)),(3,ii .i64 ((i : Int) - 1))]) (fun _=>[]) 0 (fun i=>i) l.length (Nat.le_refl _) hab hU (qP ⟨rfl,rfl,rfl⟩ trivial rfl) (Nat.sub_self _) ?_;intro i hi;have hi : i ≤ l.length:=hi;refine yS ?_;refine yS ?_;refine xI hab hU rfl ?_;refine qM ?_;refine ⟨_,_,_,le_refl,?_⟩;refine acodeY_cond rfl (fun hc=>?_) (fun hc=>?_)
  ·have hc : (0 : Int) ≤ (i : Int) - 1:=of_decide_eq_true hc;obtain ⟨p,rfl⟩ : ∃ p,i = p + 1:=⟨i - 1,by omega⟩;have hpl : p < l.length:=by omega
   obtain ⟨hk,hx⟩:=itE_at κ l hpl;rw [show ((p + 1 : Nat) : Int) - 1 = (p : Int) by omega];refine acodeY_skip ?_;refine yS ?_;refine acodeY_block ?_;refine yS ?_;refine acodeY_yield (pre:=[_,_,_,_,_,_]) (post:=[_]) _ rfl rfl rfl hab hU hy hk ?_;refine zai (by first|omega|(simp only [Int.toNat_natCast];omega)) ?_;refine ⟨_,_,_,le_refl,rfl,?_,by rw [hx];rfl,?_⟩
   ·rw [hx];rfl
   ·intro st;refine ⟨_,_,_,le_refl,?_⟩;refine acodeY_cond rfl (fun ht=>?_) (fun ht=>?_)
    ·refine acodeY_ret ?_;rw [Bool.not_not] at ht;subst ht;exact ⟨.inl rfl,fun e=>by cases e⟩
    ·rw [Bool.not_not] at ht;subst ht;refine acodeY_skip ?_;refine xI hab hU rfl ?_;refine qM ?_;refine zai (by omega) ?_;refine ⟨_,_,_,?_,⟨p,by omega,Nat.lt_succ_self _,rfl,by omega,rfl,rfl,rfl⟩⟩;exact qP ⟨rfl,rfl,rfl⟩ trivial rfl
  ·have hc : ¬ (0 : Int) ≤ (i : Int) - 1:=of_decide_eq_false hc;refine acodeY_exit ?_;exact ⟨.inr rfl,fun _=>by rw [itE_len];omega⟩
def tyE (κ : Nat) : TyI:=⟨.slice 31,1,24,[.slice none 0 0],some ⟨_,.sl (rEdk κ)⟩,false⟩
theorem backE_c0 (l : List Edt) : qY Tryz.prog 64 [.one (.sl (rEdk 0) l)] (.one (.clo 106 (.addr (.sl (rEdk 0)) l))):=by
  refine qX (rs:=[2]) Tryz.func64 rfl rfl rfl teOk rfl ?_;refine qB ?_;refine qB ?_;refine xZ [0] ?_;refine qL ?_;rfl
end Q
end Ab
end Go.Proofs.YtojipboabgebfaaGreatDoor
namespace Go.Proofs.YtojipboabgebfaaGreatDoor
open Go.RowKit
namespace Ab
set_option maxRecDepth 100000
namespace Q
set_option maxHeartbeats 8000000 in
theorem squeeze_c {κ κ' : Nat} (next : Int) (s : List Edt) (hf : ∀ e ∈ s,e.2.2.length ≤ 1000000) (hl : s.length ≤ 100000) : qY Tryz.prog 11 [ii .i64 next,.one (.slk κ (rEdk κ') s)] (.one (.sl rEdt (sqz next s))):=by
  refine qX (rs:=[4]) Tryz.func11 rfl rfl rfl teOk rfl ?_;refine qB ?_;refine qK ?_;refine qB ?_;refine zai (fun h=>trivial) ?_;refine zai (fun h=>⟨⟨h,trivial⟩,trivial⟩) ?_;refine zai (by first|(intro h;rw [h];rfl)|(intro h;cases h)) ?_;refine qJ rfl (fun h18=>?_) (fun h18=>?_)
  ·try simp only [decide_eq_true_eq,Bool.or_eq_true] at h18
   try simp only [zds] at h18
   refine qB ?_;refine xR 4 31 (rEdk 0) rfl ?_;refine qL ?_;rw [sqz_no (by omega)];exact rfl
  ·try simp only [decide_eq_false_iff_not,Bool.or_eq_false_iff,Int.not_lt] at h18
   try simp only [zds] at h18
   refine qO ?_;refine qB ?_;refine qK ?_;refine qB ?_;intro l4_1
   try simp only [zds] at l4_1
   refine qR ?_;refine yJ (fun (i : Nat)=>i ≤ s.length) (fun (i : Nat)=>[(1,.one (.slk κ (rEdk κ') s)),(5,.one (.own 2 0)),(24,.one (.slk κ (rEdk κ') s)),(25,ii .i64 s.length),(26,ii .i64 i)]) (fun (i : Nat)=>[(0,.map true (rFt 0) []),(1,.box 112 [.mp 0,.lit (.int .i64 next),.lit (.int .i64 (next + (insC (s.take i) : Int)))]),(2,.box 109 [.own 1 0])]) 3 (fun (i : Nat)=>s.length - i) 0 (Nat.zero_le _) (qP ⟨rfl,rfl,rfl,rfl,rfl⟩ ⟨rfl,((by rw [show next + (insC (s.take 0) : Int) = next by simp [insC]];try exact rfl)),rfl⟩ rfl) ?_;intro i hI0;refine qB ?_;refine qK ?_;refine qJ rfl (fun h27=>?_) (fun h27=>?_)
   ·try simp only [decide_eq_true_eq] at h27
    try simp only [zds] at h27
    have hil : i < s.length:=(by omega);have hsn:=insC_snoc hil;have hle:=insC_le (s.take i);rw [List.length_take] at hle;refine qO ?_;refine qK ?_;refine qR ?_;refine qB ?_;refine zob ?_;refine qB ?_;refine qJ rfl (fun h32=>?_) (fun h32=>?_)
    ·try simp only [decide_eq_true_eq] at h32
     try simp only [Int.toNat_natCast,qG,qE] at h32
     have h32 : (s.getD i ((0 : Int),(0 : Int),([] : List Fld))).1 = 3:=h32;rw [if_pos h32] at hsn;refine qM ?_;refine zob ?_;refine qM ?_;refine zob ?_;exact ⟨i + 1,by omega,by first|omega|(simp <;> omega),qP ⟨rfl,rfl,rfl,rfl,(yW (by omega))⟩ ⟨rfl,((by rw [hsn];first|rfl|(rw [show next + ((insC (s.take i) + 1 : Nat) : Int) = next + (insC (s.take i) : Int) + 1 by omega];done)|(rw [show next + ((insC (s.take i) + 1 : Nat) : Int) = next + (insC (s.take i) : Int) + 1 by omega];rfl))),rfl⟩ rfl⟩
    ·try simp only [decide_eq_false_iff_not] at h32
     try simp only [Int.toNat_natCast,qG,qE] at h32
     have h32 : ¬ (s.getD i ((0 : Int),(0 : Int),([] : List Fld))).1 = 3:=h32;rw [if_neg h32] at hsn;refine qO ?_;refine qM ?_;refine zob ?_;exact ⟨i + 1,by omega,by first|omega|(simp <;> omega),qP ⟨rfl,rfl,rfl,rfl,(yW (by omega))⟩ ⟨rfl,((by rw [hsn];first|rfl|(rw [show next + ((insC (s.take i) + 1 : Nat) : Int) = next + (insC (s.take i) : Int) + 1 by omega];done)|(rw [show next + ((insC (s.take i) + 1 : Nat) : Int) = next + (insC (s.take i) : Int) + 1 by omega];rfl))),rfl⟩ rfl⟩
   ·try simp only [decide_eq_false_iff_not,Int.not_lt] at h27
    try simp only [zds] at h27
    refine yP ?_;have hi : i = s.length:=(by omega);subst hi;refine qB ?_;refine qK ?_;refine qB ?_;refine Or.inl ?_;refine zai (rfl) ?_;refine zei _ (zai (copykE_c s hf (by omega)) ?_);refine Or.inl ?_;refine zai (rfl) ?_;refine zei _ (zai (backE_c0 s) ?_);refine qR ?_;refine yN 3 0 31 (rEdk 0) rfl rfl rfl ?_;refine acode_range (caps:=[.one (.addr (.sl (rEdk 0)) s)]) (xs:=itE 0 s) [(5,.one (.own 2 0)),(8,.one (.own 3 0)),(43,.one (.clo 106 (.addr (.sl (rEdk 0)) s)))] 5 (fun st j (i : Nat)=>st = false ∧ i = j) (fun i=>[(0,.map true (rFt 0) (fateM (s.drop (s.length - i)))),(1,.box 112 [.mp 0,.lit (.int .i64 next),.lit (.int .i64 (next + (insC (s.take (s.length - i)) : Int)))]),(2,.box 109 [.own 1 0]),(3,.box 22 [.vec 4]),(4,.vec 31 (rEdk 0) ((sqL next (next + (insC (s.take (s.length - i)) : Int)) (s.drop (s.length - i))).reverse))]) (fun _=>.ret) 0 rfl rfl (backE_iter s) (qP ⟨rfl,rfl,rfl⟩ ⟨mp_eq (by rw [Nat.sub_zero,List.drop_length];rfl),(by rw [Nat.sub_zero,List.take_length];try exact rfl),rfl,rfl,qS (by rw [Nat.sub_zero,List.drop_length];rfl)⟩ rfl) ⟨rfl,rfl⟩ (fun j hj=>by simp [itE]) rfl rfl rfl (fun _ _ _=>rfl) rfl ?_ ?_ ?_
    ·intro j i hk hp;obtain ⟨_,rfl⟩:=hp;have hx:=itE_get 0 s hk;rw [itE_len] at hk;rw [hx];obtain ⟨eA,eB,eC⟩:=sq_back next s hk;have hle:=insC_le (s.take (s.length - i));rw [List.length_take] at hle;have hsl:=sqL_le next (next + (insC (s.take (s.length - i)) : Int)) (s.drop (s.length - i));rw [List.length_drop] at hsl;refine qM ?_;refine qR ?_;refine qB ?_;refine Or.inr (Or.inl (zei [] (zei [1,0] (zei _ (zei _ (zei _ (zei _ (zei _ (zai (keep_o0 next (next + (insC (s.take (s.length - i)) : Int)) (fateM (s.drop (s.length - i))) (s.getD (s.length - 1 - i) ((0 : Int),(0 : Int),([] : List Fld))) (fun _=>⟨by omega,by omega⟩)) (zai rfl (zai (zai (zai rfl rfl) (zai (zai rfl rfl) True.intro)) (zai rfl ?_))))))))))));refine qB ?_;refine qJ rfl (fun h52=>?_) (fun h52=>?_)
     ·try simp only [zbq] at h52
      try simp only [zds] at h52
      rw [if_pos (by simpa using h52)] at eC;refine qM ?_;refine zai (by exact qT (show (sqL next (next + (insC (s.take (s.length - i)) : Int)) (s.drop (s.length - i))).reverse.length + 1 ≤ 1000000000 by rw [List.length_reverse];omega) (by decide)) ?_;exact ⟨i + 1,⟨rfl,rfl⟩,qP trivial ⟨mp_eq (by rw [eA]),(by rw [eB];try exact rfl),rfl,rfl,qS (by rw [eC];try exact rfl)⟩ rfl⟩
     ·try simp only [zbq] at h52
      try simp only [zds] at h52
      rw [if_neg (by simpa using h52),List.append_nil] at eC;refine qO ?_;exact ⟨i + 1,⟨rfl,rfl⟩,qP trivial ⟨mp_eq (by rw [eA]),(by rw [eB];try exact rfl),rfl,rfl,qS (by rw [eC];try exact rfl)⟩ rfl⟩
    ·intro i hp;obtain ⟨_,rfl⟩:=hp;rw [itE_len,Nat.sub_self,List.drop_zero];have e0 : next + (insC (s.take 0) : Int) = next:=(by simp [insC]);rw [e0];have hsl:=sqL_le next next s;refine qB ?_;refine Or.inr (Or.inl (zei [] (zei [3,4] (zei _ (zei _ (zei _ (zei _ (zei _ (zai (revE_o0 (sqL next next s).reverse (by rw [List.length_reverse];omega)) (zai rfl (zai (zai (zai rfl rfl) (zai (zai rfl rfl) True.intro)) (zai rfl ?_))))))))))));refine qB ?_;refine qL ?_;rw [sqz_yes (by omega)];rw [List.reverse_reverse];exact rfl
    ·intro j i hp;exact absurd hp.1 (by decide)
end Q
end Ab
end Go.Proofs.YtojipboabgebfaaGreatDoor
namespace Go.Proofs.YtojipboabgebfaaGreatDoor
open Go.RowKit
namespace Ab
set_option maxRecDepth 100000
namespace Q
def unkR (l : List (List Fld)) : List (List (Unit × Unit)):=l.map fun r=>r.map fun _=>((),())
def plainI (x : Itm) : Bool:=decide ((chkR x.2.2).2 = 0) && decide (x.1 = 3) && decide (bytes (foldL x.2.2) = x.2.1)
abbrev rItmU : Rd (Int × ByteArray × List (Unit × Unit)):=.st (.int .i64) (.st .str (.slk 7 rUnk2))
def unkI (l : List Itm) : List (Int × ByteArray × List (Unit × Unit)):=l.map fun x=>(x.1,x.2.1,x.2.2.map fun _=>((),()))
abbrev rStzU : Rd (Int × List (Unit × Unit)):=.st (.int .i64) (.slk 7 rUnk2)
def unkS (l : List Stz) : List (Int × List (Unit × Unit)):=l.map fun x=>(x.1,x.2.map fun _=>((),()))
end Q
end Ab
end Go.Proofs.YtojipboabgebfaaGreatDoor
namespace Go.Proofs.YtojipboabgebfaaGreatDoor
open Go.RowKit
namespace Ab
set_option maxRecDepth 100000
abbrev rEdtV : Rd (Int × Int × List (Unit × Unit)):=.st (.int .i64) (.st (.int .i64) (.slk 7 rUnk2))
namespace Q
def unkD (l : List Edt) : List (Int × Int × List (Unit × Unit)):=l.map fun x=>(x.1,x.2.1,x.2.2.map fun _=>((),()))
theorem flds_fate {n : Int} {g : List Fld} : ∀ {l : List Edt},(∀ e ∈ l,yQ e.2.2) → fate n l = some (g,false) → yQ g
  | [],_,h=>by cases h
  | x :: r,hf,h=>by
    have ih:=flds_fate (n:=n) (g:=g) (l:=r) (fun e he=>hf e (by simp [he]));rw [fate_cons] at h;split at h
    · cases h
    · split at h
      · cases hr : fate n r with
        | none =>
          rw [hr] at h;cases h;exact hf x (by simp)
        | some y =>
          rw [hr] at h;cases h;exact ih hr
      · exact ih h
theorem flds_fatF {n : Int} {l : List Edt} (hf : ∀ e ∈ l,yQ e.2.2) {f : List Fld} (h : yQ f) : yQ (fatF (getM (fateM l) n) f):=by
  rw [fateM_get];cases hr : fate n l with
  | none=>exact h
  | some y =>
    obtain ⟨y,c⟩:=y;cases c with
    | true=>exact h
    | false=>exact flds_fate hf hr
theorem flds_sq {f : Int} : ∀ {n : Int} {l : List Edt},(∀ e ∈ l,yQ e.2.2) → ∀ e ∈ sqL f n l,yQ e.2.2
  | _,[],_,e,he=>by cases he
  | n,x :: r,hf,e,he=>by
    have hr : ∀ e ∈ r,yQ e.2.2:=fun e he=>hf e (by simp [he])
    rw [sqL] at he;rcases List.mem_append.1 he with h|h
    · split at h
      · rw [List.mem_singleton.1 h];unfold keepY;split
        · exact flds_fatF hr (hf x (by simp))
        · exact hf x (by simp)
      · cases h
    · exact flds_sq hr e h
theorem mem_sqz {next : Int} {l : List Edt} (hf : ∀ e ∈ l,yQ e.2.2) : ∀ e ∈ sqz next l,yQ e.2.2:=by
  unfold sqz;split
  · exact flds_sq hf
  · intro e he;cases he
end Q
end Ab
end Go.Proofs.YtojipboabgebfaaGreatDoor
namespace Go.Proofs.YtojipboabgebfaaGreatDoor
open Go.RowKit
namespace Ab
set_option maxRecDepth 100000
namespace Q
def BlankI (x : Itm) : Prop:=∃ t : ByteArray,x = (1,t ++ ⟨#[10]⟩,[]) ∧ yE (ls t) = 1 ∧ (10 : UInt8) ∉ ls t
def Good1 (x : Itm) : Prop:=BlankI x ∨ (x.1 ≠ 1 ∧ Blk x)
def BIP (p : PSt) : Prop:=(∀ x ∈ p.its,x.1 = 1 → BlankI x) ∧ p.recs = (cntR p.its : Int)
theorem isRec1 (t : ByteArray) : isRec (1,t,[]) = false:=by unfold isRec;simp
theorem close_bi {p : PSt} (h : BIP p) : BIP (xQ p):=by
  unfold xQ;split
  · exact h
  · by_cases hf : p.flds = []
    · simp only [if_pos hf];refine ⟨fun x hx hx1=>?_,?_⟩
      · rcases List.mem_append.1 hx with hx|hx
        · exact h.1 x hx hx1
        · rw [List.mem_singleton.1 hx] at hx1;cases hx1
      · simp only [cntR_app];rw [h.2];simp [cntR,isRec]
    · simp only [if_neg hf];refine ⟨fun x hx hx1=>?_,?_⟩
      · rcases List.mem_append.1 hx with hx|hx
        · exact h.1 x hx hx1
        · rw [List.mem_singleton.1 hx] at hx1;cases hx1
      · simp only [cntR_app];rw [h.2];simp [cntR,isRec]
theorem flush_bi {p q : PSt} (h : BIP p) (hf : yO p = .inr q) : BIP q:=by
  unfold BIP;rw [(flush_same hf).1,flush_recs hf];exact h
theorem end_bi {p q : PSt} (h : BIP p) (hf : endS p = .inr q) : BIP q:=by
  unfold endS at hf;cases e : yO p with
  | inl x=>rw [e] at hf;cases hf
  | inr r=>rw [e] at hf;cases hf;exact close_bi (flush_bi h e)
theorem take_bi {p q : PSt} {l : Lne} (h : BIP p) (hf : yR p l = .inr q) (hn : (10 : UInt8) ∉ ls l.2.2.1) : BIP q:=by
  unfold yR at hf;cases e : yM p l (yE (ls l.2.2.1)) with
  | inl x=>rw [e] at hf;cases hf
  | inr r =>
    rw [e] at hf;have hr : BIP r:=by
      unfold yM at e;split at e
      · split at e
        · cases e
        · split at e
          · cases e;exact h
          · exact flush_bi (p:={ p with lns:=p.lns ++ [l.2.2.1] }) h e
      · split at e
        · exact end_bi h e
        · exact flush_bi h e
    simp only at hf;unfold lineS at hf;split at hf
    · cases hf
    · split at hf
      · rename_i hk;cases hf;refine ⟨fun x hx hx1=>?_,?_⟩
        · rcases List.mem_append.1 hx with hx|hx
          · exact hr.1 x hx hx1
          · exact ⟨l.2.2.1,List.mem_singleton.1 hx,hk,hn⟩
        · simp only [cntR_app];rw [hr.2];simp [cntR,isRec1]
      · split at hf
        · cases hf;exact hr
        · cases hf;exact hr
theorem run_bi : ∀ (L : List Lne) (p q : PSt),BIP p → runS p L = .inr q → (∀ l ∈ L,(10 : UInt8) ∉ ls l.2.2.1) → BIP q
  | [],p,q,hp,h,_=>by cases h;exact hp
  | l :: r,p,q,hp,h,hn=>by
    simp only [runS] at h;cases e : yR p l with
    | inl x=>rw [e] at h;cases h
    | inr p1 =>
      rw [e] at h;exact run_bi r p1 q (take_bi hp e (hn l List.mem_cons_self)) h (fun x hx=>hn x (List.mem_cons_of_mem _ hx))
theorem parse_good {s : ByteArray} {l : List Itm} (hp : xK s = .inr l) : (∀ x ∈ l,Good1 x) ∧ cntR l ≤ 400:=by
  have hb:=parse_blks hp;unfold xK at hp;cases e : runS pst0 (yX s) with
  | inl x=>rw [e] at hp;cases hp
  | inr p =>
    rw [e] at hp;simp only at hp;cases e2 : endS p with
    | inl x=>rw [e2] at hp;cases hp
    | inr q =>
      rw [e2] at hp;cases hp;have hno : ∀ l ∈ yX s,(10 : UInt8) ∉ ls l.2.2.1:=fun l hl=>by
        have h1 : l.2.2 ∈ (yX s).map (·.2.2):=List.mem_map_of_mem hl;rw [lines_text] at h1;exact linesB_no _ _ _ h1
      have h1 : BIP q:=end_bi (run_bi _ _ _ ⟨(fun _ h=>by cases h),rfl⟩ e hno) e2;have h2:=(end_par (run_par _ _ _ ⟨[],0,[],pst0,rel_0,rfl,rfl,rfl,(fun _ h=>by cases h),(fun _ h=>by cases h)⟩ e hno) e2).2.2.2;refine ⟨fun x hx=>?_,by have:=h1.2;omega⟩
      by_cases hx1 : x.1 = 1
      · exact .inl (h1.1 x hx hx1)
      · exact .inr ⟨hx1,hb x hx hx1⟩
def HF (p : PSt) : Prop:=p.lns ≠ [] ∨ p.flds ≠ []
theorem good_itm {f : List Fld} (hc : (chkR f).2 = 0) : Good1 (xC f):=by
  obtain ⟨⟨g1,g2,g3⟩,_,_⟩:=chk_good hc;obtain ⟨q,e1,e2,e3,e4,e5⟩:=fields_run f pst0 [] g3 (ready_idle rfl rfl) (by simpa using g2) (by decide) g1;obtain ⟨r,q2,f1,f2,f3,f4⟩:=end_run e2 (by simpa using g1) e5;have hno : ∀ t ∈ (f.flatMap fun f=>lineB f.1 f.2),(10 : UInt8) ∉ ls t:=fun t ht=>by
    obtain ⟨y,hy,ht⟩:=List.mem_flatMap.1 ht;exact lines_no (v:=y.2.data.toList) (check_ok (g3 y hy)).1 (ls t) (by rw [← lineB_map2];exact List.mem_map_of_mem ht)
  have hL : ∀ l ∈ (f.flatMap fun f=>lineB f.1 f.2).map mkL,l.2.2.2 = true ∧ (10 : UInt8) ∉ ls l.2.2.1:=fun l hl=>by
    obtain ⟨t,ht,rfl⟩:=List.mem_map.1 hl;exact ⟨rfl,hno t ht⟩
  have hgl : glue (((f.flatMap fun f=>lineB f.1 f.2).map mkL).map (·.2.2)) = foldL f:=by rw [glue_mk,endL_flat]
  rw [List.nil_append] at f3;have e3' : q.its = []:=e3;rw [e3',List.nil_append] at f3;have hp:=parse_of (lines_of hL) e1 f1;rw [hgl,f3] at hp;have hr:=raws_text hp;have hrr : r = bytes (foldL f):=by
    have h1 : rawsL [((3 : Int),r,f)] = foldL f:=by
      have:=congrArg (fun b : ByteArray=>b.data.toList) hr
      simpa [bytes] using this
    have h2 : ls r = foldL f:=by simpa [rawsL] using h1
    exact ls_inj h2
  refine .inr ⟨by show (3 : Int) ≠ 1;decide,_,q,q2,hL,e1,e3',e4,f1,?_,?_⟩
  · rw [f3,hrr];rfl
  · rw [hgl];exact (yB _).symm
structure LGd (B : Nat) (L : Lst) : Prop where
  good : ∀ e ∈ L.1,Good1 e.1 ∧ isRec e.1 = live e
  m4 : L.2.2 ≤ 400
  sz : szI (itmL L.1) ≤ B
theorem itmL_app (a b : List Ent) : itmL (a ++ b) = itmL a ++ itmL b:=List.map_append
theorem sz_cons (x : Itm) (l : List Itm) : szI (x :: l) = x.2.1.size + szI l:=by simp [szI]
theorem sz_split (es : List Ent) (i : Nat) : szI (itmL es) = szI (itmL (es.take i)) + szI (itmL (es.drop i)):=by
  conv=>lhs;rw [← List.take_append_drop i es,itmL_app,szI_app]
theorem sz_repl {es : List Ent} {i : Nat} {x : Itm} (h : i < es.length) : szI (itmL (xW es i x)) ≤ szI (itmL es) + x.2.1.size:=by
  have e1 : xW es i x = es.take i ++ (x,(es.getD i (((0 : Int),ByteArray.empty,([] : List Fld)),(0 : Int))).2) :: es.drop (i + 1):=List.set_eq_take_append_cons_drop .. |>.trans (if_pos h)
  rw [e1,itmL_app,szI_app];have e2 : itmL ((x,(es.getD i (((0 : Int),ByteArray.empty,([] : List Fld)),(0 : Int))).2) :: es.drop (i + 1)) = x :: itmL (es.drop (i + 1)):=rfl;have e3 : itmL ((es.getD i (((0 : Int),ByteArray.empty,([] : List Fld)),(0 : Int))) :: es.drop (i + 1)) = (es.getD i (((0 : Int),ByteArray.empty,([] : List Fld)),(0 : Int))).1 :: itmL (es.drop (i + 1)):=rfl;have e4:=congrArg (fun l=>szI (itmL l)) (del_split h);simp only [itmL_app,szI_app,e3,sz_cons] at e4;rw [e2,sz_cons];omega
theorem sz_del {es : List Ent} {i : Nat} : szI (itmL (delE es i)) ≤ szI (itmL es):=by
  unfold delE;rw [itmL_app,szI_app,sz_split es i];have:=sz_split (es.drop i) 1;rw [List.drop_drop] at this;rw [show i + 1 = i + 1 from rfl];omega
theorem sz_ins {es : List Ent} {i : Nat} {x : Ent} : szI (itmL (insE es i x)) = szI (itmL es) + x.1.2.1.size:=by
  unfold insE;rw [itmL_app,szI_app,sz_split es i];have e2 : itmL (x :: es.drop i) = x.1 :: itmL (es.drop i):=rfl;rw [e2,sz_cons];omega
theorem itm_sz {f : List Fld} (hm : muchB f = false) (hc : (chkR f).2 = 0) : (xC f).2.1.size ≤ 24120:=by
  obtain ⟨⟨_,g2,_⟩,g4,_⟩:=chk_good hc;exact foldB_size hm g4 g2
theorem doL_gd {c B : Nat} {L : Lst} {e : Edt} (h : LOk c L) (hg : LGd B L) (hm : muchB e.2.2 = false) : LGd (B + 24120) (doL L e):=by
  have h0 : LGd (B + 24120) L:=⟨hg.good,hg.m4,by have:=hg.sz;omega⟩;have hat : ∀ id,¬ atE L.1 id < 0 → ∃ i : Nat,i < L.1.length ∧ atE L.1 id = i ∧ 0 < id ∧ (L.1.getD i (((0 : Int),ByteArray.empty,([] : List Fld)),(0 : Int))).2 = id:=fun id hn=>by
    rcases at_cases L.1 id with ⟨h1,_⟩|⟨i,h1,h2,h3,h4,_⟩
    · omega
    · exact ⟨i,h1,h2,h3,h4⟩
  unfold doL;split
  · split
    · exact h0
    · rename_i hn;obtain ⟨i,hi,he,hp,hid⟩:=hat _ hn;rw [he,Int.toNat_natCast];split
      · exact h0
      · rename_i hc;have hc : (chkR e.2.2).2 = 0:=Classical.not_not.1 hc;refine ⟨fun x hx=>?_,hg.m4,?_⟩
        · rcases mem_repl hx with hx|rfl
          · exact hg.good x hx
          · refine ⟨good_itm hc,?_⟩;show true = live _;unfold live;rw [decide_eq_true (by simp only;omega)]
        · have:=sz_repl (x:=xC e.2.2) hi;have:=itm_sz hm hc;have:=hg.sz;show szI (itmL (xW L.1 i (xC e.2.2))) ≤ _;omega
  · split
    · split
      · exact h0
      · rename_i hn;obtain ⟨i,hi,he,hp,hid⟩:=hat _ hn;rw [he,Int.toNat_natCast];refine ⟨fun x hx=>hg.good x (mem_del hx),by have:=hg.m4;show L.2.2 - 1 ≤ 400;omega,?_⟩;have:=sz_del (es:=L.1) (i:=i);have:=hg.sz;show szI (itmL (delE L.1 i)) ≤ _;omega
    · split
      · exact h0
      · rename_i hn;split
        · exact h0
        · rename_i hc;have hc : (chkR e.2.2).2 = 0:=Classical.not_not.1 hc;split
          · exact h0
          · rename_i h4;refine ⟨fun x hx=>?_,by show L.2.2 + 1 ≤ 400;omega,?_⟩
            · rcases mem_ins hx with hx|rfl
              · exact hg.good x hx
              · refine ⟨good_itm hc,?_⟩;have:=h.next.1;show true = live _;unfold live;rw [decide_eq_true (by simp only;omega)]
            · show szI (itmL (insE L.1 _ _)) ≤ _;rw [sz_ins];have:=itm_sz hm hc;have:=hg.sz;simp only;omega
theorem num_good : ∀ (l : List Itm) (n : Int),1 ≤ n → (∀ x ∈ l,Good1 x) → ∀ e ∈ numI n l,Good1 e.1 ∧ isRec e.1 = live e
  | [],_,_,_,e,he=>by cases he
  | x :: r,n,hn,hg,e,he=>by
    unfold numI at he;split at he
    · rename_i hr;rcases List.mem_cons.1 he with rfl|he
      · refine ⟨hg x List.mem_cons_self,?_⟩;rw [hr];unfold live;rw [decide_eq_true (by simp only;omega)]
      · exact num_good r (n + 1) (by omega) (fun y hy=>hg y (List.mem_cons_of_mem _ hy)) e he
    · rename_i hr;rcases List.mem_cons.1 he with rfl|he
      · refine ⟨hg x List.mem_cons_self,?_⟩;rw [hr];rfl
      · exact num_good r n hn (fun y hy=>hg y (List.mem_cons_of_mem _ hy)) e he
theorem ofT_gd {s : ByteArray} {l : List Itm} (hp : xK s = .inr l) : LGd s.size (ofT l):=by
  obtain ⟨h1,h2⟩:=parse_good hp;refine ⟨num_good l 1 (Int.le_refl _) h1,by show (cntR l : Int) ≤ 400;omega,?_⟩;show szI (itmL (numI 1 l)) ≤ _;unfold itmL;rw [numI_items];have h3:=raws_text hp;rw [← raws_sz,← h3,yY];exact Nat.le_refl _
theorem plays_gd {c B : Nat} {L : Lst} {s : List Edt} (h : LOk c L) (hg : LGd B L) (hm : ∀ e ∈ s,muchB e.2.2 = false) : ∀ i,i ≤ s.length → LGd (B + 24120 * i) (plays L s i)
  | 0,_=>by simpa [plays] using hg
  | i + 1,hi=>by
    rw [plays_snoc L (by omega)];have h1:=plays_ok h (fun e he=>much_ok (hm e he)) i (by omega);have h2:=doL_gd h1 (plays_gd h hg hm i (by omega)) (hm _ (yZ (show i < s.length by omega) ((0 : Int),(0 : Int),([] : List Fld))));exact ⟨h2.good,h2.m4,by have:=h2.sz;omega⟩
abbrev zRL9 : List C:=[.lit (.slice none 0 0),.lit (.int .i64 0)]
abbrev lsO12 (L : Lst) : Obs:=[(1,.box 134 [.vec 2,.lit (.int .i64 L.2.1),.lit (.int .i64 L.2.2)]),(2,.vec 138 rEnt L.1)]
def alS : List Edt:=[(2,1,[]),(1,1,[(⟨#[65]⟩,ByteArray.empty)])]
theorem txt_ok {L : Lst} (hl : L.1.length ≤ 1000000) (hs : szI (itmL L.1) ≤ 50000000) : szI (apartL (itmL L.1)) ≤ 100000000:=by
  have hal:=apart_len (itmL L.1) 1;have hil : (itmL L.1).length = L.1.length:=List.length_map _;show szI (apartK 1 (itmL L.1)) ≤ _;omega
theorem act1 {sts : List TSt0} {x : Edt} (h : x.1 = 1) : actT sts x = stepT sts (1,x.2.1,x.2.2):=by
  unfold actT;rw [if_pos h,← h]
theorem act2 {sts : List TSt0} {x : Edt} (h : x.1 = 2) : actT sts x = stepT sts (2,x.2.1,[]):=by
  unfold actT;rw [if_neg (by omega),if_pos h]
theorem act3 {sts : List TSt0} {x : Edt} (h : x.1 = 3) : actT sts x = stepT sts (3,x.2.1,x.2.2):=by
  unfold actT;rw [if_neg (by omega),if_neg (by omega),if_pos h,← h]
theorem act4 {sts : List TSt0} {x : Edt} (h : x.1 = 4) : actT sts x = backT sts x.2.1:=by
  unfold actT;rw [if_neg (by omega),if_neg (by omega),if_neg (by omega),if_pos h]
theorem act0 {sts : List TSt0} {x : Edt} (h1 : x.1 ≠ 1) (h2 : x.1 ≠ 2) (h3 : x.1 ≠ 3) (h4 : x.1 ≠ 4) : actT sts x = sts:=by
  unfold actT;rw [if_neg h1,if_neg h2,if_neg h3,if_neg h4]
theorem TCom_big (s : ByteArray) (a : List Edt) (h : 2000 < s.size ∨ heavyB a = true) : qY Tryz.prog 7 [is s,.one (.sl rEdt a)] (ib true):=by
  have hva:=heavy_c a;refine qX (rs:=[4]) Tryz.func7 rfl rfl rfl teOk rfl ?_;refine qB ?_;refine qK ?_;refine qB ?_;refine Or.inl ?_;refine zai (rfl) ?_;refine zei _ (zai (alive17_c) ?_);refine qJ rfl (fun h19=>?_) (fun h19=>?_)
  ·try simp only [Bool.not_eq_true'] at h19
   try simp only [zds] at h19
   simp at h19
  ·try simp only [Bool.not_eq_false'] at h19
   try simp only [zds] at h19
   refine qO ?_;refine qK ?_;refine qB ?_;refine zai (fun h=>trivial) ?_;refine Or.inl ?_;refine zai (rfl) ?_;refine zei _ (zai (fun h=>⟨⟨⟨h,trivial⟩,trivial⟩,hva⟩) ?_);refine zai (by first|(intro h;rw [h];rfl)|(intro h;cases h)) ?_;refine qJ rfl (fun h26=>?_) (fun h26=>?_)
   ·try simp only [decide_eq_true_eq,Bool.or_eq_true] at h26
    try simp only [zds] at h26
    refine qB ?_;refine qL ?_;rfl
   ·try simp only [decide_eq_false_iff_not,Bool.or_eq_false_iff,Int.not_lt] at h26
    try simp only [zds] at h26
    obtain ⟨g1,g2⟩:=h26;exact absurd h (fun h=>by rcases h with h|h;omega;rw [h] at g2;cases g2)
theorem TCom_err (s : ByteArray) (a : List Edt) (hs : ¬ 2000 < s.size) (ha : heavyB a = false) {at_ n : Int} (hp : xK s = .inl (at_,n)) : qY Tryz.prog 7 [is s,.one (.sl rEdt a)] (ib true):=by
  have hva:=heavy_c a;rw [ha] at hva;have hl:=of_err s (by omega) hp;refine qX (rs:=[4]) Tryz.func7 rfl rfl rfl teOk rfl ?_;refine qB ?_;refine qK ?_;refine qB ?_;refine Or.inl ?_;refine zai (rfl) ?_;refine zei _ (zai (alive17_c) ?_);refine qJ rfl (fun h19=>?_) (fun h19=>?_)
  ·try simp only [Bool.not_eq_true'] at h19
   try simp only [zds] at h19
   simp at h19
  ·try simp only [Bool.not_eq_false'] at h19
   try simp only [zds] at h19
   refine qO ?_;refine qK ?_;refine qB ?_;refine zai (fun h=>trivial) ?_;refine Or.inl ?_;refine zai (rfl) ?_;refine zei _ (zai (fun h=>⟨⟨⟨h,trivial⟩,trivial⟩,hva⟩) ?_);refine zai (by first|(intro h;rw [h];rfl)|(intro h;cases h)) ?_;refine qJ rfl (fun h26=>?_) (fun h26=>?_)
   ·try simp only [decide_eq_true_eq,Bool.or_eq_true] at h26
    try simp only [zds] at h26
    exfalso
    simp at h26;omega
   ·try simp only [decide_eq_false_iff_not,Bool.or_eq_false_iff,Int.not_lt] at h26
    try simp only [zds] at h26
    refine qO ?_;refine qB ?_;refine Or.inl ?_;refine zai (rfl) ?_;refine zei _ (zai (hl) ?_);refine qK ?_;refine qB ?_;refine qJ rfl (fun h33=>?_) (fun h33=>?_)
    ·skip
     refine qB ?_;refine qL ?_;rfl
    ·try simp only [zbq] at h33
     try simp only [zds] at h33
     simp at h33
theorem TCom_zero (s : ByteArray) (a : List Edt) (hs : ¬ 2000 < s.size) (ha : heavyB a = false) {l : List Itm} (hp : xK s = .inr l) (h1 : (runT [(ofT l,[])] a a.length).length = 1) : qY Tryz.prog 7 [is s,.one (.sl rEdt a)] (ib true):=by
  have hva:=heavy_c a;rw [ha] at hva;obtain ⟨hsa,hma⟩:=heavy_ok ha;have hl:=of_ok s (by omega) hp;have hlk:=of_lok (by omega) hp;have hgd:=ofT_gd hp;obtain ⟨L,hL⟩ : ∃ L,ofT l = L:=⟨_,rfl⟩;rw [hL] at hlk hgd hl h1;have hLl:=hlk.len;have hLs:=hgd.sz;have htx:=textL_c (k:=1) L.1 L.2.1 L.2.2 (by omega) hlk.f1 (txt_ok (by omega) (by omega));have hbe:=(tbegin_o (k:=1) L (by omega)).x;have hch0:=(xN.start (L0:=L)).run hma;have hchE:=hch0 a.length (Nat.le_refl _);obtain ⟨l1,l2,l3,l4⟩:=hchE.last;obtain ⟨sts,hsts⟩ : ∃ sts,runT [(L,[])] a a.length = sts:=⟨_,rfl⟩;rw [hsts] at h1 hchE l1 l2 l3 l4;have hes : (xY sts).2 = []:=List.length_eq_zero_iff.1 (by omega);rw [hes] at l1;have hls:=(tlist_o (k:=1) sts L [] (by omega) (show xY sts = (L,[]) from Prod.ext l1 hes) (by omega)).x;have hcm:=tcommit0_o sts h1;refine qX (rs:=[4]) Tryz.func7 rfl rfl rfl teOk rfl ?_;refine qB ?_;refine qK ?_;refine qB ?_;refine Or.inl ?_;refine zai (rfl) ?_;refine zei _ (zai (alive17_c) ?_);refine qJ rfl (fun h19=>?_) (fun h19=>?_)
  ·try simp only [Bool.not_eq_true'] at h19
   try simp only [zds] at h19
   simp at h19
  ·try simp only [Bool.not_eq_false'] at h19
   try simp only [zds] at h19
   refine qO ?_;refine qK ?_;refine qB ?_;refine zai (fun h=>trivial) ?_;refine Or.inl ?_;refine zai (rfl) ?_;refine zei _ (zai (fun h=>⟨⟨⟨h,trivial⟩,trivial⟩,hva⟩) ?_);refine zai (by first|(intro h;rw [h];rfl)|(intro h;cases h)) ?_;refine qJ rfl (fun h26=>?_) (fun h26=>?_)
   ·try simp only [decide_eq_true_eq,Bool.or_eq_true] at h26
    try simp only [zds] at h26
    exfalso
    simp at h26;omega
   ·try simp only [decide_eq_false_iff_not,Bool.or_eq_false_iff,Int.not_lt] at h26
    try simp only [zds] at h26
    refine qO ?_;refine qB ?_;refine Or.inr (Or.inl (zei [] (zei [] (zei _ (zei _ (zei _ (zei _ (zei _ (zai (hl) (zai rfl (zai True.intro (zai rfl ?_))))))))))));refine qK ?_;refine qB ?_;refine qJ rfl (fun h33=>?_) (fun h33=>?_)
    ·try simp only [Bool.not_eq_true'] at h33
     try simp only [zds] at h33
     simp at h33
    ·try simp only [Bool.not_eq_false'] at h33
     try simp only [zds] at h33
     refine qO ?_;refine qB ?_;refine Or.inr (Or.inr (Or.inr (zei [] (zei [] (zei _ (zei _ (zei _ (zei _ (zei _ (zai (hbe) (zai rfl (zai True.intro (zai rfl ?_)))))))))))));refine qK ?_;refine qB ?_;refine qJ rfl (fun h40=>?_) (fun h40=>?_)
     ·try simp only [Bool.not_eq_true'] at h40
      try simp only [zds] at h40
      simp at h40
     ·try simp only [Bool.not_eq_false'] at h40
      try simp only [zds] at h40
      refine qO ?_;refine qK ?_;refine qB ?_;intro l11_1
      try simp only [zds] at l11_1
      refine qR ?_;refine yJ (fun (i : Nat)=>i ≤ a.length) (fun (i : Nat)=>[(5,.one (.own 0 0)),(7,.one (.own 5 0)),(41,.one (.sl rEdt a)),(42,ii .i64 a.length),(43,ii .i64 i)]) (fun (i : Nat)=>[(0,.box 134 [.vec 1,.lit (.int .i64 L.2.1),.lit (.int .i64 L.2.2)]),(1,.vec 138 rEnt L.1),(5,.box 123 [.vec 4]),(4,.vec 120 rSt (runT [(L,[])] a i))]) 6 (fun (i : Nat)=>a.length - i) 0 (Nat.zero_le _) (qP ⟨rfl,rfl,rfl,rfl,rfl⟩ ⟨rfl,rfl,rfl,rfl⟩ rfl) ?_;intro i hI0;have hch:=hch0 i hI0;refine qB ?_;refine qK ?_;refine qJ rfl (fun h44=>?_) (fun h44=>?_)
      ·try simp only [decide_eq_true_eq] at h44
       try simp only [zds] at h44
       have hil : i < a.length:=(by omega);have hsn:=runT_snoc [(L,[])] hil;have hfe:=much_ok (hma _ (yZ hil ((0 : Int),(0 : Int),([] : List Fld))));refine qO ?_;refine qK ?_;refine qR ?_;refine qB ?_;refine zob ?_;refine qB ?_;refine qR ?_;refine qB ?_;refine qJ rfl (fun h49=>?_) (fun h49=>?_)
       ·try simp only [decide_eq_true_eq] at h49
        try simp only [Int.toNat_natCast,qH,qG,qE] at h49
        refine qM ?_;refine Or.inr (Or.inl (zei [] (zei [5,4] (zei _ (zei _ (zei _ (zei _ (zei _ (zai (tRep_any hlk (by omega) (runT [(L,[])] a i) hch (a.getD i ((0 : Int),(0 : Int),([] : List Fld))).2.1 (a.getD i ((0 : Int),(0 : Int),([] : List Fld))).2.2 hfe) (zai rfl (zai (zai (zai rfl rfl) (zai (zai rfl rfl) True.intro)) (zai rfl ?_))))))))))));refine qM ?_;refine zob ?_;exact ⟨i + 1,by omega,by first|omega|(simp <;> omega),qP ⟨rfl,rfl,rfl,rfl,(yW (by omega))⟩ ⟨rfl,rfl,rfl,(qS (by rw [hsn];first|rw [act1 h49]|rw [act2 h57]|rw [act3 h63]|rw [act4 h74]|rw [act0 h49 h57 h63 h74]))⟩ rfl⟩
       ·try simp only [decide_eq_false_iff_not] at h49
        try simp only [Int.toNat_natCast,qH,qG,qE] at h49
        refine qB ?_;refine qJ rfl (fun h57=>?_) (fun h57=>?_)
        ·try simp only [decide_eq_true_eq] at h57
         try simp only [Int.toNat_natCast,qH,qG,qE] at h57
         refine qM ?_;refine Or.inr (Or.inl (zei [] (zei [5,4] (zei _ (zei _ (zei _ (zei _ (zei _ (zai (tDel_any hlk (by omega) (runT [(L,[])] a i) hch (a.getD i ((0 : Int),(0 : Int),([] : List Fld))).2.1) (zai rfl (zai (zai (zai rfl rfl) (zai (zai rfl rfl) True.intro)) (zai rfl ?_))))))))))));refine qM ?_;refine zob ?_;exact ⟨i + 1,by omega,by first|omega|(simp <;> omega),qP ⟨rfl,rfl,rfl,rfl,(yW (by omega))⟩ ⟨rfl,rfl,rfl,(qS (by rw [hsn];first|rw [act1 h49]|rw [act2 h57]|rw [act3 h63]|rw [act4 h74]|rw [act0 h49 h57 h63 h74]))⟩ rfl⟩
        ·try simp only [decide_eq_false_iff_not] at h57
         try simp only [Int.toNat_natCast,qH,qG,qE] at h57
         refine qB ?_;refine qJ rfl (fun h63=>?_) (fun h63=>?_)
         ·try simp only [decide_eq_true_eq] at h63
          try simp only [Int.toNat_natCast,qH,qG,qE] at h63
          rcases tIns_cases hlk (by omega) (runT [(L,[])] a i) hch (a.getD i ((0 : Int),(0 : Int),([] : List Fld))).2.1 (a.getD i ((0 : Int),(0 : Int),([] : List Fld))).2.2 hfe with ⟨n9,hin⟩|⟨k9,hin⟩|⟨a9,k9,hin⟩
          ·refine qM ?_;refine Or.inr (Or.inl (zei [] (zei [5,4] (zei _ (zei _ (zei _ (zei _ (zei _ (zai (hin) (zai rfl (zai (zai (zai rfl rfl) (zai (zai rfl rfl) True.intro)) (zai rfl ?_))))))))))));refine qM ?_;refine zob ?_;exact ⟨i + 1,by omega,by first|omega|(simp <;> omega),qP ⟨rfl,rfl,rfl,rfl,(yW (by omega))⟩ ⟨rfl,rfl,rfl,(qS (by rw [hsn];first|rw [act1 h49]|rw [act2 h57]|rw [act3 h63]|rw [act4 h74]|rw [act0 h49 h57 h63 h74]))⟩ rfl⟩
          ·refine qM ?_;refine Or.inr (Or.inl (zei [] (zei [5,4] (zei _ (zei _ (zei _ (zei _ (zei _ (zai (hin) (zai rfl (zai (zai (zai rfl rfl) (zai (zai rfl rfl) True.intro)) (zai rfl ?_))))))))))));refine qM ?_;refine zob ?_;exact ⟨i + 1,by omega,by first|omega|(simp <;> omega),qP ⟨rfl,rfl,rfl,rfl,(yW (by omega))⟩ ⟨rfl,rfl,rfl,(qS (by rw [hsn];first|rw [act1 h49]|rw [act2 h57]|rw [act3 h63]|rw [act4 h74]|rw [act0 h49 h57 h63 h74]))⟩ rfl⟩
          ·refine qM ?_;refine Or.inr (Or.inl (zei [] (zei [5,4] (zei _ (zei _ (zei _ (zei _ (zei _ (zai (hin) (zai rfl (zai (zai (zai rfl rfl) (zai (zai rfl rfl) True.intro)) (zai rfl ?_))))))))))));refine qM ?_;refine zob ?_;exact ⟨i + 1,by omega,by first|omega|(simp <;> omega),qP ⟨rfl,rfl,rfl,rfl,(yW (by omega))⟩ ⟨rfl,rfl,rfl,(qS (by rw [hsn];first|rw [act1 h49]|rw [act2 h57]|rw [act3 h63]|rw [act4 h74]|rw [act0 h49 h57 h63 h74]))⟩ rfl⟩
         ·try simp only [decide_eq_false_iff_not] at h63
          try simp only [Int.toNat_natCast,qH,qG,qE] at h63
          refine qB ?_;refine qJ rfl (fun h74=>?_) (fun h74=>?_)
          ·try simp only [decide_eq_true_eq] at h74
           try simp only [Int.toNat_natCast,qH,qG,qE] at h74
           refine qM ?_;refine Or.inr (Or.inl (zei [] (zei [5,4] (zei _ (zei _ (zei _ (zei _ (zei _ (zai (tBack_any (runT [(L,[])] a i) hch (a.getD i ((0 : Int),(0 : Int),([] : List Fld))).2.1) (zai rfl (zai (zai (zai rfl rfl) (zai (zai rfl rfl) True.intro)) (zai rfl ?_))))))))))));refine qM ?_;refine zob ?_;exact ⟨i + 1,by omega,by first|omega|(simp <;> omega),qP ⟨rfl,rfl,rfl,rfl,(yW (by omega))⟩ ⟨rfl,rfl,rfl,(qS (by rw [hsn];first|rw [act1 h49]|rw [act2 h57]|rw [act3 h63]|rw [act4 h74]|rw [act0 h49 h57 h63 h74]))⟩ rfl⟩
          ·try simp only [decide_eq_false_iff_not] at h74
           try simp only [Int.toNat_natCast,qH,qG,qE] at h74
           refine qO ?_;refine qM ?_;refine zob ?_;exact ⟨i + 1,by omega,by first|omega|(simp <;> omega),qP ⟨rfl,rfl,rfl,rfl,(yW (by omega))⟩ ⟨rfl,rfl,rfl,(qS (by rw [hsn];first|rw [act1 h49]|rw [act2 h57]|rw [act3 h63]|rw [act4 h74]|rw [act0 h49 h57 h63 h74]))⟩ rfl⟩
      ·try simp only [decide_eq_false_iff_not,Int.not_lt] at h44
       try simp only [zds] at h44
       refine yP ?_;have hie : i = a.length:=(by omega);subst hie;rw [hsts];refine qB ?_;refine Or.inr (Or.inr (Or.inr (zei [] (zei [] (zei _ (zei _ (zei _ (zei _ (zei _ (zai (hls) (zai rfl (zai True.intro (zai rfl ?_)))))))))))));refine qB ?_;refine Or.inr (Or.inl (zei [] (zei [5,4] (zei _ (zei _ (zei _ (zei _ (zei _ (zai (hcm) (zai rfl (zai (zai (zai rfl rfl) (zai (zai rfl rfl) True.intro)) (zai rfl ?_))))))))))));refine qK ?_;refine qB ?_;refine qJ rfl (fun h89=>?_) (fun h89=>?_)
       ·skip
        refine qB ?_;refine Or.inr (Or.inr (Or.inl ?_));refine zai rfl ?_;refine zei _ (zai (htx) ?_);refine Or.inr (Or.inr (Or.inl ?_));refine zai rfl ?_;refine zei _ (zai (htx) ?_);refine qL ?_;exact ib_eq (by simp)
       ·try simp only [zbq] at h89
        try simp only [zds] at h89
        simp at h89
theorem TCom_ok (s : ByteArray) (a : List Edt) (hs : ¬ 2000 < s.size) (ha : heavyB a = false) {l : List Itm} (hp : xK s = .inr l) (h1 : ¬ (runT [(ofT l,[])] a a.length).length = 1) : qY Tryz.prog 7 [is s,.one (.sl rEdt a)] (ib true):=by
  have hva:=heavy_c a;rw [ha] at hva;obtain ⟨hsa,hma⟩:=heavy_ok ha;have hl:=of_ok s (by omega) hp;have hlk:=of_lok (by omega) hp;have hgd:=ofT_gd hp;obtain ⟨L,hL⟩ : ∃ L,ofT l = L:=⟨_,rfl⟩;rw [hL] at hlk hgd hl h1;have hLl:=hlk.len;have hLs:=hgd.sz;have htx:=textL_c (k:=1) L.1 L.2.1 L.2.2 (by omega) hlk.f1 (txt_ok (by omega) (by omega));have hbe:=(tbegin_o (k:=1) L (by omega)).x;have hch0:=(xN.start (L0:=L)).run hma;have hchE:=hch0 a.length (Nat.le_refl _);obtain ⟨l1,l2,l3,l4⟩:=hchE.last;obtain ⟨sts,hsts⟩ : ∃ sts,runT [(L,[])] a a.length = sts:=⟨_,rfl⟩;rw [hsts] at h1 hchE l1 l2 l3 l4;have hlen:=hchE.len;obtain ⟨es,hes⟩ : ∃ es,(xY sts).2 = es:=⟨_,rfl⟩;rw [hes] at l1 l2 l3 l4;have hnx:=hlk.next;have hfe' : ∀ e ∈ es,yQ e.2.2:=fun e he=>much_ok (l4 e he).2
  have hfl : ∀ e ∈ es,e.2.2.length ≤ 1000000:=fun e he=>Nat.le_trans (hfe' e he).1 (by decide)
  have hce : (chkB es).2 = 0:=by rw [chkB_no (by omega) fun e he=>(l4 e he).1]
  have hsq:=sqz_yes (next:=L.2.1) (l:=es) (by omega);have hzf:=mem_sqz (next:=L.2.1) hfe';have hzl:=sqz_le L.2.1 es;have hzg : ∀ e ∈ sqz L.2.1 es,xS e = 0:=by rw [hsq];exact good_fate fun e he=>(l4 e he).1
  have hz1 : sqz L.2.1 es ≠ []:=by rw [hsq];exact sq_some (List.ne_nil_of_length_pos (by omega))
  have hz2:=List.length_pos_iff.2 hz1;have hcz : (chkB (sqz L.2.1 es)).2 = 0:=by rw [chkB_no (by omega) hzg]
  obtain ⟨hr1,hr2⟩:=sim_run es hlk (Int.le_refl _) (SimS.start es L fun e he=>(hlk.ids e he).2) l3 (fun e he=>⟨(l4 e he).1,hfe' e he⟩);rw [← hsq] at hr1 hr2;have hdx:=(doOk_o (κ:=0) (κ':=0) (k:=1) L es hlk (by omega) hfe' hce (takes_to _ _ l3)).x;have hdy:=(doOk_o (κ:=0) (κ':=0) (k:=1) L (sqz L.2.1 es) hlk (by omega) hzf hcz (takes_to _ _ hr1)).x;have hpl:=run_ok hlk hfe';have hpg:=plays_gd hlk hgd (fun e he=>(l4 e he).2) es.length (Nat.le_refl _);rw [run_plays] at hdx hdy hpg;rw [hr2] at hdy;have hls:=(tlist_o (k:=1) sts (runL L es) es (by omega) (show xY sts = (runL L es,es) from Prod.ext l1 hes) (by have:=hpl.len;omega)).x;have hcm:=tcommit_o sts (runL L es) es (by omega) (show xY sts = (runL L es,es) from Prod.ext l1 hes) hfl (by omega);obtain ⟨W,hW⟩ : ∃ W,runL L es = W:=⟨_,rfl⟩;rw [hW] at hdx hdy hpl hpg hls;have hWl:=hpl.len;have hWs:=hpg.sz;have htw:=textL_c (k:=1) W.1 W.2.1 W.2.2 (by omega) hpl.f1 (txt_ok (by omega) (by omega));have hsw:=stanzasL_c (k:=1) W.1 W.2.1 W.2.2 (by omega) hpl.f1;have hnw:=next_c (k:=1) W.1 W.2.1 W.2.2;refine qX (rs:=[4]) Tryz.func7 rfl rfl rfl teOk rfl ?_;refine qB ?_;refine qK ?_;refine qB ?_;refine Or.inl ?_;refine zai (rfl) ?_;refine zei _ (zai (alive17_c) ?_);refine qJ rfl (fun h19=>?_) (fun h19=>?_)
  ·try simp only [Bool.not_eq_true'] at h19
   try simp only [zds] at h19
   simp at h19
  ·try simp only [Bool.not_eq_false'] at h19
   try simp only [zds] at h19
   refine qO ?_;refine qK ?_;refine qB ?_;refine zai (fun h=>trivial) ?_;refine Or.inl ?_;refine zai (rfl) ?_;refine zei _ (zai (fun h=>⟨⟨⟨h,trivial⟩,trivial⟩,hva⟩) ?_);refine zai (by first|(intro h;rw [h];rfl)|(intro h;cases h)) ?_;refine qJ rfl (fun h26=>?_) (fun h26=>?_)
   ·try simp only [decide_eq_true_eq,Bool.or_eq_true] at h26
    try simp only [zds] at h26
    exfalso
    simp at h26;omega
   ·try simp only [decide_eq_false_iff_not,Bool.or_eq_false_iff,Int.not_lt] at h26
    try simp only [zds] at h26
    refine qO ?_;refine qB ?_;refine Or.inr (Or.inl (zei [] (zei [] (zei _ (zei _ (zei _ (zei _ (zei _ (zai (hl) (zai rfl (zai True.intro (zai rfl ?_))))))))))));refine qK ?_;refine qB ?_;refine qJ rfl (fun h33=>?_) (fun h33=>?_)
    ·try simp only [Bool.not_eq_true'] at h33
     try simp only [zds] at h33
     simp at h33
    ·try simp only [Bool.not_eq_false'] at h33
     try simp only [zds] at h33
     refine qO ?_;refine qB ?_;refine Or.inr (Or.inr (Or.inr (zei [] (zei [] (zei _ (zei _ (zei _ (zei _ (zei _ (zai (hbe) (zai rfl (zai True.intro (zai rfl ?_)))))))))))));refine qK ?_;refine qB ?_;refine qJ rfl (fun h40=>?_) (fun h40=>?_)
     ·try simp only [Bool.not_eq_true'] at h40
      try simp only [zds] at h40
      simp at h40
     ·try simp only [Bool.not_eq_false'] at h40
      try simp only [zds] at h40
      refine qO ?_;refine qK ?_;refine qB ?_;intro l11_1
      try simp only [zds] at l11_1
      refine qR ?_;refine yJ (fun (i : Nat)=>i ≤ a.length) (fun (i : Nat)=>[(5,.one (.own 0 0)),(7,.one (.own 5 0)),(41,.one (.sl rEdt a)),(42,ii .i64 a.length),(43,ii .i64 i)]) (fun (i : Nat)=>[(0,.box 134 [.vec 1,.lit (.int .i64 L.2.1),.lit (.int .i64 L.2.2)]),(1,.vec 138 rEnt L.1),(5,.box 123 [.vec 4]),(4,.vec 120 rSt (runT [(L,[])] a i))]) 6 (fun (i : Nat)=>a.length - i) 0 (Nat.zero_le _) (qP ⟨rfl,rfl,rfl,rfl,rfl⟩ ⟨rfl,rfl,rfl,rfl⟩ rfl) ?_;intro i hI0;have hch:=hch0 i hI0;refine qB ?_;refine qK ?_;refine qJ rfl (fun h44=>?_) (fun h44=>?_)
      ·try simp only [decide_eq_true_eq] at h44
       try simp only [zds] at h44
       have hil : i < a.length:=(by omega);have hsn:=runT_snoc [(L,[])] hil;have hfe:=much_ok (hma _ (yZ hil ((0 : Int),(0 : Int),([] : List Fld))));refine qO ?_;refine qK ?_;refine qR ?_;refine qB ?_;refine zob ?_;refine qB ?_;refine qR ?_;refine qB ?_;refine qJ rfl (fun h49=>?_) (fun h49=>?_)
       ·try simp only [decide_eq_true_eq] at h49
        try simp only [Int.toNat_natCast,qH,qG,qE] at h49
        refine qM ?_;refine Or.inr (Or.inl (zei [] (zei [5,4] (zei _ (zei _ (zei _ (zei _ (zei _ (zai (tRep_any hlk (by omega) (runT [(L,[])] a i) hch (a.getD i ((0 : Int),(0 : Int),([] : List Fld))).2.1 (a.getD i ((0 : Int),(0 : Int),([] : List Fld))).2.2 hfe) (zai rfl (zai (zai (zai rfl rfl) (zai (zai rfl rfl) True.intro)) (zai rfl ?_))))))))))));refine qM ?_;refine zob ?_;exact ⟨i + 1,by omega,by first|omega|(simp <;> omega),qP ⟨rfl,rfl,rfl,rfl,(yW (by omega))⟩ ⟨rfl,rfl,rfl,(qS (by rw [hsn];first|rw [act1 h49]|rw [act2 h57]|rw [act3 h63]|rw [act4 h74]|rw [act0 h49 h57 h63 h74]))⟩ rfl⟩
       ·try simp only [decide_eq_false_iff_not] at h49
        try simp only [Int.toNat_natCast,qH,qG,qE] at h49
        refine qB ?_;refine qJ rfl (fun h57=>?_) (fun h57=>?_)
        ·try simp only [decide_eq_true_eq] at h57
         try simp only [Int.toNat_natCast,qH,qG,qE] at h57
         refine qM ?_;refine Or.inr (Or.inl (zei [] (zei [5,4] (zei _ (zei _ (zei _ (zei _ (zei _ (zai (tDel_any hlk (by omega) (runT [(L,[])] a i) hch (a.getD i ((0 : Int),(0 : Int),([] : List Fld))).2.1) (zai rfl (zai (zai (zai rfl rfl) (zai (zai rfl rfl) True.intro)) (zai rfl ?_))))))))))));refine qM ?_;refine zob ?_;exact ⟨i + 1,by omega,by first|omega|(simp <;> omega),qP ⟨rfl,rfl,rfl,rfl,(yW (by omega))⟩ ⟨rfl,rfl,rfl,(qS (by rw [hsn];first|rw [act1 h49]|rw [act2 h57]|rw [act3 h63]|rw [act4 h74]|rw [act0 h49 h57 h63 h74]))⟩ rfl⟩
        ·try simp only [decide_eq_false_iff_not] at h57
         try simp only [Int.toNat_natCast,qH,qG,qE] at h57
         refine qB ?_;refine qJ rfl (fun h63=>?_) (fun h63=>?_)
         ·try simp only [decide_eq_true_eq] at h63
          try simp only [Int.toNat_natCast,qH,qG,qE] at h63
          rcases tIns_cases hlk (by omega) (runT [(L,[])] a i) hch (a.getD i ((0 : Int),(0 : Int),([] : List Fld))).2.1 (a.getD i ((0 : Int),(0 : Int),([] : List Fld))).2.2 hfe with ⟨n9,hin⟩|⟨k9,hin⟩|⟨a9,k9,hin⟩
          ·refine qM ?_;refine Or.inr (Or.inl (zei [] (zei [5,4] (zei _ (zei _ (zei _ (zei _ (zei _ (zai (hin) (zai rfl (zai (zai (zai rfl rfl) (zai (zai rfl rfl) True.intro)) (zai rfl ?_))))))))))));refine qM ?_;refine zob ?_;exact ⟨i + 1,by omega,by first|omega|(simp <;> omega),qP ⟨rfl,rfl,rfl,rfl,(yW (by omega))⟩ ⟨rfl,rfl,rfl,(qS (by rw [hsn];first|rw [act1 h49]|rw [act2 h57]|rw [act3 h63]|rw [act4 h74]|rw [act0 h49 h57 h63 h74]))⟩ rfl⟩
          ·refine qM ?_;refine Or.inr (Or.inl (zei [] (zei [5,4] (zei _ (zei _ (zei _ (zei _ (zei _ (zai (hin) (zai rfl (zai (zai (zai rfl rfl) (zai (zai rfl rfl) True.intro)) (zai rfl ?_))))))))))));refine qM ?_;refine zob ?_;exact ⟨i + 1,by omega,by first|omega|(simp <;> omega),qP ⟨rfl,rfl,rfl,rfl,(yW (by omega))⟩ ⟨rfl,rfl,rfl,(qS (by rw [hsn];first|rw [act1 h49]|rw [act2 h57]|rw [act3 h63]|rw [act4 h74]|rw [act0 h49 h57 h63 h74]))⟩ rfl⟩
          ·refine qM ?_;refine Or.inr (Or.inl (zei [] (zei [5,4] (zei _ (zei _ (zei _ (zei _ (zei _ (zai (hin) (zai rfl (zai (zai (zai rfl rfl) (zai (zai rfl rfl) True.intro)) (zai rfl ?_))))))))))));refine qM ?_;refine zob ?_;exact ⟨i + 1,by omega,by first|omega|(simp <;> omega),qP ⟨rfl,rfl,rfl,rfl,(yW (by omega))⟩ ⟨rfl,rfl,rfl,(qS (by rw [hsn];first|rw [act1 h49]|rw [act2 h57]|rw [act3 h63]|rw [act4 h74]|rw [act0 h49 h57 h63 h74]))⟩ rfl⟩
         ·try simp only [decide_eq_false_iff_not] at h63
          try simp only [Int.toNat_natCast,qH,qG,qE] at h63
          refine qB ?_;refine qJ rfl (fun h74=>?_) (fun h74=>?_)
          ·try simp only [decide_eq_true_eq] at h74
           try simp only [Int.toNat_natCast,qH,qG,qE] at h74
           refine qM ?_;refine Or.inr (Or.inl (zei [] (zei [5,4] (zei _ (zei _ (zei _ (zei _ (zei _ (zai (tBack_any (runT [(L,[])] a i) hch (a.getD i ((0 : Int),(0 : Int),([] : List Fld))).2.1) (zai rfl (zai (zai (zai rfl rfl) (zai (zai rfl rfl) True.intro)) (zai rfl ?_))))))))))));refine qM ?_;refine zob ?_;exact ⟨i + 1,by omega,by first|omega|(simp <;> omega),qP ⟨rfl,rfl,rfl,rfl,(yW (by omega))⟩ ⟨rfl,rfl,rfl,(qS (by rw [hsn];first|rw [act1 h49]|rw [act2 h57]|rw [act3 h63]|rw [act4 h74]|rw [act0 h49 h57 h63 h74]))⟩ rfl⟩
          ·try simp only [decide_eq_false_iff_not] at h74
           try simp only [Int.toNat_natCast,qH,qG,qE] at h74
           refine qO ?_;refine qM ?_;refine zob ?_;exact ⟨i + 1,by omega,by first|omega|(simp <;> omega),qP ⟨rfl,rfl,rfl,rfl,(yW (by omega))⟩ ⟨rfl,rfl,rfl,(qS (by rw [hsn];first|rw [act1 h49]|rw [act2 h57]|rw [act3 h63]|rw [act4 h74]|rw [act0 h49 h57 h63 h74]))⟩ rfl⟩
      ·try simp only [decide_eq_false_iff_not,Int.not_lt] at h44
       try simp only [zds] at h44
       refine yP ?_;have hie : i = a.length:=(by omega);subst hie;rw [hsts];refine qB ?_;refine Or.inr (Or.inr (Or.inr (zei [] (zei [] (zei _ (zei _ (zei _ (zei _ (zei _ (zai (hls) (zai rfl (zai True.intro (zai rfl ?_)))))))))))));refine qB ?_;refine Or.inr (Or.inl (zei [] (zei [5,4] (zei _ (zei _ (zei _ (zei _ (zei _ (zai (hcm) (zai rfl (zai (zai (zai rfl rfl) (zai (zai rfl rfl) True.intro)) (zai rfl ?_))))))))))));refine qK ?_;refine qB ?_;refine qJ rfl (fun h89=>?_) (fun h89=>?_)
       ·try simp only [Bool.not_eq_true'] at h89
        try simp only [zds] at h89
        simp at h89
       ·try simp only [Bool.not_eq_false'] at h89
        try simp only [zds] at h89
        refine qO ?_;refine qB ?_;refine Or.inr (Or.inr (Or.inl ?_));refine zai rfl ?_;refine zei _ (zai (next_c L.1 L.2.1 L.2.2) ?_);refine Or.inr (Or.inr (Or.inl ?_));refine zai rfl ?_;refine zei _ (zai (squeeze_c (κ:=0) (κ':=0) L.2.1 es hfl (by omega)) ?_);refine qB ?_;refine Or.inr (Or.inr (Or.inr (zei [] (zei [] (zei _ (zei _ (zei _ (zei _ (zei _ (zai (hdx) (zai rfl (zai True.intro (zai rfl ?_)))))))))))));refine qB ?_;refine Or.inr (Or.inr (Or.inr (zei [] (zei [] (zei _ (zei _ (zei _ (zei _ (zei _ (zai (hdy) (zai rfl (zai True.intro (zai rfl ?_)))))))))))));refine qB ?_;refine zai (fun h=>trivial) ?_;refine zai (fun h=>⟨⟨h,trivial⟩,trivial⟩) ?_;refine zai (by exact fun h=>h) ?_;refine zai (fun h=>trivial) ?_;refine zai (fun h=>⟨⟨h,trivial⟩,trivial⟩) ?_;refine zai (fun h=>trivial) ?_;refine zai (fun h=>⟨⟨h,trivial⟩,trivial⟩) ?_;refine zai (fun h=>⟨⟨h,trivial⟩,⟨h,trivial⟩,trivial⟩) ?_;refine zai (by exact fun h=>h) ?_;refine zai (fun h=>trivial) ?_;refine Or.inr (zai (by simp [gq,hzl]) (zai (by repeat' (first|exact True.intro|apply zai|rfl|(simp [gq,hzl];done))) ?_));refine Or.inr (Or.inr (Or.inl ?_));refine zai rfl ?_;refine zei _ (zai (htw) ?_);refine zai (fun h=>trivial) ?_;refine Or.inr (zai (by simp [gq,hzl]) (zai (by repeat' (first|exact True.intro|apply zai|rfl|(simp [gq,hzl];done))) ?_));refine Or.inr (Or.inr (Or.inl ?_));refine zai rfl ?_;refine zei _ (zai (htw) ?_);refine zai (fun h=>trivial) ?_;refine zai (by exact fun h=>h) ?_;refine zai (fun h=>trivial) ?_;refine Or.inr (zai (by simp [gq,hzl]) (zai (by repeat' (first|exact True.intro|apply zai|rfl|(simp [gq,hzl];done))) ?_));refine Or.inr (Or.inr (Or.inl ?_));refine zai rfl ?_;refine zei _ (zai (htw) ?_);refine zai (fun h=>trivial) ?_;refine Or.inr (zai (by simp [gq,hzl]) (zai (by repeat' (first|exact True.intro|apply zai|rfl|(simp [gq,hzl];done))) ?_));refine Or.inr (Or.inr (Or.inl ?_));refine zai rfl ?_;refine zei _ (zai (htw) ?_);refine zai (fun h=>trivial) ?_;refine zai (by exact fun h=>h) ?_;refine zai (fun h=>trivial) ?_;refine Or.inr (zai (by simp [gq,hzl]) (zai (by repeat' (first|exact True.intro|apply zai|rfl|(simp [gq,hzl];done))) ?_));refine Or.inr (Or.inr (Or.inl ?_));refine zai rfl ?_;refine zei _ (zai (hnw) ?_);refine zai (fun h=>trivial) ?_;refine Or.inr (zai (by simp [gq,hzl]) (zai (by repeat' (first|exact True.intro|apply zai|rfl|(simp [gq,hzl];done))) ?_));refine Or.inr (Or.inr (Or.inl ?_));refine zai rfl ?_;refine zei _ (zai (hnw) ?_);refine zai (fun h=>trivial) ?_;refine zai (by exact fun h=>h) ?_;refine zai (fun h=>trivial) ?_;refine Or.inr (zai (by simp [gq,hzl]) (zai (by repeat' (first|exact True.intro|apply zai|rfl|(simp [gq,hzl];done))) ?_));refine Or.inr (Or.inr (Or.inl ?_));refine zai rfl ?_;refine zei _ (zai (hsw) ?_);refine zai (fun h=>trivial) ?_;refine Or.inr (zai (by simp [gq,hzl]) (zai (by repeat' (first|exact True.intro|apply zai|rfl|(simp [gq,hzl];done))) ?_));refine Or.inr (Or.inr (Or.inl ?_));refine zai rfl ?_;refine zei _ (zai (hsw) ?_);refine Or.inr (zai (by simp [gq,hzl]) (zai (by repeat' (first|exact True.intro|apply zai|rfl|(simp [gq,hzl];done))) ?_));refine Or.inr (Or.inr (Or.inl ?_));refine zai rfl ?_;refine zei _ (zai (stz7_c (κ:=0) (κ':=0) _ _) ?_);refine qL ?_;exact ib_eq (by simp [hzl])
theorem TxnCommits_c (s : ByteArray) (a : List Edt) : qY Tryz.prog 7 [is s,.one (.sl rEdt a)] (ib true):=by
  by_cases h : 2000 < s.size ∨ heavyB a = true
  · exact TCom_big s a h
  · have hs : ¬ 2000 < s.size:=fun e=>h (.inl e)
    have ha : heavyB a = false:=by simpa using fun e=>h (.inr e)
    rcases hp : xK s with ⟨i,n⟩|l
    · exact TCom_err s a hs ha hp
    · by_cases h0 : (runT [(ofT l,[])] a a.length).length = 1
      · exact TCom_zero s a hs ha hp h0
      · exact TCom_ok s a hs ha hp h0
end Q
end Ab
end Go.Proofs.YtojipboabgebfaaGreatDoor
namespace Go.Proofs.YtojipboabgebfaaGreatDoor
open Go.RowKit
namespace Ab
set_option maxRecDepth 100000
theorem o_str : Opens Tryz.prog 9 .str:=opens_str Tryz.underlying9 (by kernel_rfl)
theorem o_int : Opens Tryz.prog 3 (.int .i64):=opens_int Tryz.underlying3 (by kernel_rfl)
theorem o_field : Opens Tryz.prog 107 (.st .str .str):=opens_st Tryz.underlying107 (by kernel_rfl) (.cons rfl o_str (.one rfl o_str))
theorem o_fields : Opens Tryz.prog 29 (.sl (.st .str .str)):=opens_sl (by decide) Tryz.underlying29 (by kernel_rfl) o_field
theorem maxAt {W : World} (h : W.ShapedOpen Tryz.prog) : MaxCell W:=cell_of_shapedOpen_int (g:=1) (t:=3) (zero:=#[.int .i64 0]) h (of_decide_eq_true (by kernel_rfl)) (by kernel_rfl) rfl (by kernel_rfl) (by kernel_rfl) Tryz.underlying3
theorem lt_of_cell0 {W : World} {b : Nat} {v : Value} (h : W.cell? ⟨b,0,none⟩ = some v) : b < W.heap.size:=by
  rcases Nat.lt_or_ge b W.heap.size with h1|h1
  · exact h1
  · exfalso
    simp only [World.cell?,Array.getElem?_eq_none h1] at h;cases h
theorem o_edit : Opens Tryz.prog 31 (.st (.int .i64) (.st (.int .i64) (.sl (.st .str .str)))):=opens_st Tryz.underlying31 (by kernel_rfl) (.cons rfl o_int (.cons rfl o_int (.one rfl o_fields)))
theorem o_edits : Opens Tryz.prog 22 (.sl (.st (.int .i64) (.st (.int .i64) (.sl (.st .str .str))))):=opens_sl (by decide) Tryz.underlying22 (by kernel_rfl) o_edit
theorem open_edits {H : Type} {enc : TypeId × Value → H} {W : World} {base : Nat} {v : Value} {d : DataW H} {p : List MemPlace} (hv : Value.okWide Tryz.prog W .any base 22 v) (h : DataW.Trod enc Tryz.prog W 0 (fun _=>true) true 22 v d p) :
    ∃ xs,(C.sl (.st (.int .i64) (.st (.int .i64) (.sl (.st .str .str)))) xs).rep AllOk yL W v:=open_sl Tryz.underlying22 o_edits hv h
theorem et : Tryz.prog.globalNamed "errors.errorType" = some 0 := by kernel_rfl
theorem rt : (Tryz.prog.cutTypes.find? (·.1 == "internal/reflectlite.rtype")).map (·.2) = some 311 := by kernel_rfl
theorem oneRow : ((List.range Tryz.prog.types.size).filter fun t=>Tryz.prog.rowNamed t [101,114,114,111,114]) = [37]:=by kernel_rfl
theorem errHandle : typeHandle Tryz.prog 37 = .pointer (some ⟨3 + 1,37,none⟩):=by kernel_rfl
abbrev errDatum : String × DataW Unit := ("errors.errorType", .iface "internal/reflectlite.rtype" (.agg [.ptr (.lit (.string [101, 114, 114, 111, 114]))]))
theorem errAt {W : World} {l : List (String × DataW Unit)} (hm : errDatum ∈ l) (h : laidMetH Tryz.prog l W) : W.cell? ⟨0,0,none⟩ = some (.iface 311 (.agg #[.pointer (some ⟨3 + 1,37,none⟩)])):=by
  obtain ⟨name,u,ty,e1,e2,e3,e4,e5⟩:=(laidMetH_iff.1 h).2 _ (List.mem_filter.2 ⟨hm,rfl⟩);have en : name = [101,114,114,111,114]:=(Option.some.inj e1).symm;subst en;obtain rfl:=Option.some.inj (rt.symm.trans e2);have hm : ty ∈ (List.range Tryz.prog.types.size).filter fun t=>Tryz.prog.rowNamed t [101,114,114,111,114]:=List.mem_filter.2 ⟨List.mem_range.2 e3,e4⟩
  rw [oneRow] at hm;obtain rfl:=List.mem_singleton.1 hm;rw [errHandle] at e5
  simpa using World.var?_cell et e5 0
theorem globAtH {W : World} (h : W.ShapedOpen Tryz.prog) {l : List (String × DataW Unit)} (hm : errDatum ∈ l) (hL : laidMetH Tryz.prog l W) : GlobAt AllOk W:=by
  have hc : GlobCell W:=⟨maxAt h,errAt hm hL⟩;refine ⟨fun _ _=>trivial,?_,hc⟩;obtain ⟨⟨m,h1⟩,h2⟩:=hc;have h1:=lt_of_cell0 h1;have h2:=lt_of_cell0 h2;unfold nGlob;omega
theorem laidMet_lay {P : Program} {w0 : World} {laid : List (String × DataW Unit)} (args : Array Value)
    (hf : w0.layFits P laid [] = true) (hi : w0.layIfaces P laid (w0.layVars P laid) = true) : laidMet P laid ((w0.layVars P laid).forCall (fun _ _=>0) ⟨#[],args,[]⟩).memory:=by
  have e1 : (laid.filter fun x=>(laid.map (·.1)).contains x.1) = laid:=List.filter_eq_self.2 fun x hx=>List.contains_iff_mem.2 (List.mem_map.2 ⟨x,hx,rfl⟩)
  have e2 : (laid.filter fun x=>!(laid.map (·.1)).contains x.1) = []:=List.filter_eq_nil_iff.2 fun x hx=>by rw [List.contains_iff_mem.2 (List.mem_map.2 ⟨x,hx,rfl⟩)];simp
  have h : laidMet P laid (w0.layVars P laid):=laidMet_layVars (w0:=w0) (laid.map (·.1)) [] (by rw [e1]) (by rw [e1];exact hf) (by rw [e1];exact hi) (by rw [e2];exact LaidIn.none);exact h.of_heap (by simp [World.memory,World.forCall,Input.heap])
noncomputable def errWorld (os : Os) : World :=
  let w0:=World.holding Tryz.prog os ⟨#[],#[],[]⟩
  { w0 with heap:=w0.heap.modify 0 fun
      | .cells _ t frozen=>.cells #[.iface 311 (.agg #[.pointer (some ⟨3 + 1,37,none⟩)])] t frozen
      | o=>o }
noncomputable def laidWit (os : Os) (l : List (String × DataW Unit)) : World:=(errWorld os).layVars Tryz.prog (l.filter fun x=>x.2.handleName?.isNone)
theorem laidWit_os (os : Os) (l : List (String × DataW Unit)) : (laidWit os l).os = os:=World.layVars_os _ _ _
end Ab
end Go.Proofs.YtojipboabgebfaaGreatDoor
