/-
  The texts of this proof, joined: abstract values, the library, the functions of the program and what they compute (part 5). No condition.
-/
import Derived.Lib.UnsafeStr
import Derived.Shelf.RegionOpenPlain
import Derived.Shelf.Spec.SlicesInsert
import Derived.Lib.AppendZerosOnto
import Derived.Laws.NewBlocks
import Derived.Test.YtojipboabgebfaaGreatDoorK1
import Derived.Test.YtojipboabgebfaaGreatDoorK2
import Derived.Test.YtojipboabgebfaaGreatDoorK3
import Derived.Test.YtojipboabgebfaaGreatDoorK4
namespace Go.Proofs.YtojipboabgebfaaGreatDoor
open Go.RowKit
namespace Ab
set_option maxRecDepth 100000
namespace Q
theorem flush_recs {p q : PSt} (h : yO p = .inr q) : q.recs = p.recs:=by
  unfold yO at h;split at h
  · cases h;rfl
  · split at h
    · cases h
    · split at h
      · cases h
      · cases h;rfl
theorem close_recs (p : PSt) : p.recs ≤ (xQ p).recs ∧ (xQ p).recs ≤ p.recs + 1:=by
  unfold xQ;split
  · exact ⟨Int.le_refl _,by simp only;omega⟩
  · simp only;split <;> omega
theorem end_recs {p q : PSt} (h : endS p = .inr q) : p.recs ≤ q.recs ∧ q.recs ≤ p.recs + 1:=by
  unfold endS at h;cases e : yO p with
  | inl x=>rw [e] at h;cases h
  | inr r =>
    rw [e] at h;cases h;rw [← flush_recs e];exact close_recs r
theorem ahead_recs {p q : PSt} {l : Lne} {k : Int} (h : yM p l k = .inr q) : p.recs ≤ q.recs ∧ (k ≠ 1 → q.recs = p.recs):=by
  unfold yM at h;split at h
  · split at h
    · cases h
    · split at h
      · cases h;exact ⟨Int.le_refl _,fun _=>rfl⟩
      · have:=flush_recs h;simp only at this;exact ⟨by omega,fun _=>this⟩
  · split at h
    · rename_i h1;exact ⟨(end_recs h).1,fun e=>absurd h1 e⟩
    · have:=flush_recs h;exact ⟨by omega,fun _=>this⟩
theorem line_recs {p q : PSt} {l : Lne} {k : Int} (h : lineS p l k = .inr q) : q.recs = p.recs:=by
  unfold lineS at h;split at h
  · cases h
  · split at h
    · cases h;rfl
    · split at h <;> (cases h;rfl)
theorem take_recs {p q : PSt} {l : Lne} (h : yR p l = .inr q) : p.recs ≤ q.recs ∧ (yE (ls l.2.2.1) ≠ 1 → q.recs = p.recs):=by
  unfold yR at h;cases e : yM p l (yE (ls l.2.2.1)) with
  | inl x=>rw [e] at h;cases h
  | inr r =>
    rw [e] at h;rw [line_recs h];exact ahead_recs e
theorem take_its {p q : PSt} {l : Lne} (h : yR p l = .inr q) (hk : yE (ls l.2.2.1) ≠ 1) : q.its = p.its:=by
  unfold yR at h;cases e : yM p l (yE (ls l.2.2.1)) with
  | inl x=>rw [e] at h;cases h
  | inr r =>
    rw [e] at h;have h1 : r.its = p.its:=by
      unfold yM at e;split at e
      · split at e
        · cases e
        · split at e
          · cases e;rfl
          · exact (flush_same e).1
      · exact (flush_same e).1
    rw [← h1];simp only at h;unfold lineS at h;split at h
    · cases h
    · split at h <;> (cases h;rfl)
structure Fwd (I : List Itm) (c : Int) (p q : PSt) : Prop where
  lns : p.lns = q.lns
  full : q.lns ≠ [] → q.full = false → p.full = false
  its : p.its = I ++ q.its
  blk : p.blk = q.blk
  flds : p.flds = q.flds
  recs : p.recs = q.recs + c
  c0 : 0 ≤ c
section
variable {I : List Itm} {c : Int} {p q q1 : PSt}
end
def Blk (x : Itm) : Prop:=∃ (L : List Lne) (q qe : PSt),(∀ l ∈ L,l.2.2.2 = true ∧ (10 : UInt8) ∉ ls l.2.2.1) ∧ runS pst0 L = .inr q ∧ q.its = [] ∧ q.recs = 0 ∧ endS q = .inr qe ∧ qe.its = [x] ∧ glue (L.map (·.2.2)) = ls x.2.1
theorem end_one {q qe : PSt} (h : endS q = .inr qe) (h0 : q.its = []) : qe.its = [] ∨ ∃ x,qe.its = [x]:=by
  unfold endS at h;cases e : yO q with
  | inl x=>rw [e] at h;cases h
  | inr r =>
    rw [e] at h;cases h;have h1:=(flush_same e).1;unfold xQ;split
    · left;simp only;rw [h1,h0]
    · right;simp only;rw [h1,h0];exact ⟨_,rfl⟩
def Par (p : PSt) : Prop:=∃ (I : List Itm) (c : Int) (L : List Lne) (q : PSt),Rel I c p q ∧ runS pst0 L = .inr q ∧ q.its = [] ∧ q.recs = 0 ∧ (∀ l ∈ L,l.2.2.2 = true ∧ (10 : UInt8) ∉ ls l.2.2.1) ∧ ∀ x ∈ I,x.1 ≠ 1 → Blk x
theorem end_par {p pe : PSt} (hp : Par p) (h : endS p = .inr pe) : (∀ x ∈ pe.its,x.1 ≠ 1 → Blk x) ∧ Idle pe ∧ 0 ≤ pe.recs ∧ pe.recs ≤ 400:=by
  obtain ⟨I,c,L,q,hrel,hrun,hits,hrec,hL,hI⟩:=hp;obtain ⟨qe,h1,h2⟩:=end_rel hrel h;obtain ⟨_,_,hid⟩:=end_took h;have hqr:=end_recs h1;refine ⟨fun x hx hx1=>?_,hid,by have:=h2.recs;have:=h2.c0;omega,h2.r4⟩;rw [h2.its] at hx;rcases List.mem_append.1 hx with hx|hx
  · exact hI x hx hx1
  · rcases end_one h1 hits with e|⟨y,e⟩
    · rw [e] at hx;cases hx
    · rw [e] at hx;obtain rfl:=List.mem_singleton.1 hx;refine ⟨L,q,qe,hL,hrun,hits,hrec,h1,e,?_⟩;obtain ⟨_,_,hidq⟩:=end_took h1;have c1:=end_cont h1;have c2:=run_cont _ _ _ hrun;have c3 : contP qe = rawsL qe.its:=by unfold contP;rw [hidq.2.1];simp [endL]
      have c4 : contP pst0 = []:=rfl;rw [c4,List.nil_append] at c2;rw [← c2,← c1,c3,e];simp [rawsL]
theorem take_par {p p1 : PSt} {l : Lne} (hp : Par p) (h : yR p l = .inr p1) (hn : (10 : UInt8) ∉ ls l.2.2.1) : Par p1:=by
  by_cases hk : yE (ls l.2.2.1) = 1
  · unfold yR at h;rw [hk] at h;cases e : yM p l 1 with
    | inl x=>rw [e] at h;cases h
    | inr pe =>
      rw [e] at h;have e' : endS p = .inr pe:=e;obtain ⟨hb,hid,h0,h4⟩:=end_par hp e';simp only at h;unfold lineS at h;split at h
      · cases h
      · rw [if_pos rfl] at h;cases h;refine ⟨_,_,[],pst0,rel_self (pe.its ++ [(1,l.2.2.1 ++ ⟨#[10]⟩,[])]) ⟨hid.1,hid.2.1,hid.2.2⟩ rfl h0 h4,rfl,rfl,rfl,(fun _ h=>by cases h),fun x hx hx1=>?_⟩;rcases List.mem_append.1 hx with hx|hx
        · exact hb x hx hx1
        · rw [List.mem_singleton.1 hx] at hx1;exact absurd rfl hx1
  · obtain ⟨I,c,L,q,hrel,hrun,hits,hrec,hL,hI⟩:=hp;obtain ⟨a,b,t⟩:=l;obtain ⟨q1,h1,h2⟩:=take_rel (a':=a) (b':=b) hrel h;refine ⟨I,c,L ++ [(a,b,t)],q1,h2,?_,(take_its h1 hk).trans hits,((take_recs h1).2 hk).trans hrec,fun x hx=>?_,hI⟩
    · rw [run_app _ _ _ _ hrun];simp only [runS,h1]
    · rcases List.mem_append.1 hx with hx|hx
      · exact hL x hx
      · rw [List.mem_singleton.1 hx];exact ⟨(take_took h).1,hn⟩
theorem run_par : ∀ (L : List Lne) (p q : PSt),Par p → runS p L = .inr q → (∀ l ∈ L,(10 : UInt8) ∉ ls l.2.2.1) → Par q
  | [],p,q,hp,h,_=>by cases h;exact hp
  | l :: r,p,q,hp,h,hn=>by
    simp only [runS] at h;cases e : yR p l with
    | inl x=>rw [e] at h;cases h
    | inr p1 =>
      rw [e] at h;exact run_par r p1 q (take_par hp e (hn l List.mem_cons_self)) h (fun x hx=>hn x (List.mem_cons_of_mem _ hx))
theorem parse_blks {s : ByteArray} {l : List Itm} (hp : xK s = .inr l) : ∀ x ∈ l,x.1 ≠ 1 → Blk x:=by
  unfold xK at hp;cases e : runS pst0 (yX s) with
  | inl x=>rw [e] at hp;cases hp
  | inr p =>
    rw [e] at hp;simp only at hp;cases e2 : endS p with
    | inl x=>rw [e2] at hp;cases hp
    | inr q =>
      rw [e2] at hp;cases hp;refine (end_par (run_par _ _ _ ⟨[],0,[],pst0,rel_0,rfl,rfl,rfl,(fun _ h=>by cases h),(fun _ h=>by cases h)⟩ e fun l hl=>?_) e2).1;have h1 : l.2.2 ∈ (yX s).map (·.2.2):=List.mem_map_of_mem hl;rw [lines_text] at h1;exact linesB_no _ _ _ h1
theorem apart_len : ∀ (l : List Itm) (k : Int),szI (apartK k l) ≤ szI l + l.length
  | [],_=>by simp [apartK,szI]
  | x :: r,k=>by
    have ih:=apart_len r x.1;have h10 : ByteArray.size ⟨#[10]⟩ = 1:=rfl;unfold apartK;unfold szI at ih ⊢;split <;> (simp only [List.map_cons,List.sum_cons,List.length_cons,h10];omega)
theorem raws_sz (l : List Itm) : (rawsL l).length = szI l:=by
  induction l with
  | nil=>rfl
  | cons x r ih =>
    unfold rawsL szI at *;simp only [List.flatMap_cons,List.length_append,List.map_cons,List.sum_cons,ih];rw [yI]
theorem filter_at {α : Type} (p : α → Bool) (d : α) : ∀ (l : List α) (j : Nat),j < l.length → p (l.getD j d) = true → ((l.take j).filter p).length < (l.filter p).length ∧ (l.filter p).getD ((l.take j).filter p).length d = l.getD j d
  | [],j,h,_=>by simp at h
  | x :: r,0,h,hp=>by
    have hp : p x = true:=by simpa using hp
    simp [hp]
  | x :: r,j + 1,h,hp=>by
    obtain ⟨h1,h2⟩:=filter_at p d r j (by simpa using h) (by simpa using hp);rw [List.take_succ_cons,List.filter_cons,List.filter_cons]
    by_cases hx : p x = true
    · simp only [hx,if_true,List.length_cons,List.getD_cons_succ];exact ⟨by omega,h2⟩
    · simp only [hx,List.getD_cons_succ];exact ⟨h1,h2⟩
def mix1 (l : List Itm) (k : Nat) : List Itm:=if k < l.length ∧ (l.getD k ((0 : Int),ByteArray.empty,([] : List Fld))).1 ≠ 1 then [l.getD k ((0 : Int),ByteArray.empty,([] : List Fld))] else []
def mixL (turn : Bool) (l m : List Itm) (i : Nat) : List Itm:=(List.range i).flatMap fun k=>mix1 l k ++ if turn then mix1 m k else []
abbrev Ent:=Itm × Int
abbrev rEnt : Rd Ent:=.st rItm (.int .i64)
abbrev Lst:=List Ent × Int × Int
abbrev rLst (k : Nat) : Rd Lst:=.st (.slk k rEnt) (.st (.int .i64) (.int .i64))
abbrev Stz:=Int × List Fld
abbrev rStz : Rd Stz:=.st (.int .i64) (.sl rFld)
def isRec (x : Itm) : Bool:=decide (x.1 = 3)
def cntR (l : List Itm) : Nat:=(l.filter isRec).length
def numI (n : Int) : List Itm → List Ent
  | []=>[]
  | x :: r=>match isRec x with
    | true=>(x,n) :: numI (n + 1) r
    | false=>(x,0) :: numI n r
theorem cntR_app (a b : List Itm) : cntR (a ++ b) = cntR a + cntR b:=by simp [cntR]
theorem numI_snoc : ∀ (l : List Itm) (n : Int) (x : Itm),numI n (l ++ [x]) = numI n l ++ [(x,if isRec x then n + cntR l else 0)]
  | [],n,x=>by
    cases h : isRec x <;> simp [numI,h,cntR]
  | y :: r,n,x=>by
    have ih:=fun m=>numI_snoc r m x
    cases h : isRec y with
    | true =>
      have e : n + 1 + (cntR r : Int) = n + (cntR (y :: r) : Int):=by simp [cntR,h];omega
      simp only [List.cons_append,numI,h,ih,e]
    | false =>
      have e : (cntR r : Int) = (cntR (y :: r) : Int):=by simp [cntR,h]
      simp only [List.cons_append,numI,h,ih,e]
theorem numI_len : ∀ (l : List Itm) (n : Int),(numI n l).length = l.length
  | [],_=>rfl
  | x :: r,n=>by
    unfold numI;split <;> simp [numI_len r]
theorem numI_items : ∀ (l : List Itm) (n : Int),(numI n l).map (·.1) = l
  | [],_=>rfl
  | x :: r,n=>by
    unfold numI;split <;> simp [numI_items r]
def ofT (l : List Itm) : Lst:=(numI 1 l,1 + (cntR l : Int),(cntR l : Int))
def hasId (id : Int) (e : Ent) : Bool:=decide (e.2 = id)
def atE (es : List Ent) (id : Int) : Int:=if id < 1 then -1 else ixOf (hasId id) es
theorem at_cases (es : List Ent) (id : Int) : (atE es id = -1 ∧ ∀ e ∈ es,0 < id → e.2 ≠ id) ∨ ∃ i : Nat,i < es.length ∧ atE es id = i ∧ 0 < id ∧ (es.getD i (((0 : Int),ByteArray.empty,([] : List Fld)),(0 : Int))).2 = id ∧ ∀ e ∈ es.take i,e.2 ≠ id:=by
  unfold atE
  by_cases h : id < 1
  · exact .inl ⟨if_pos h,fun e _ h0=>by omega⟩
  · rw [if_neg h];rcases ixOf_cases (hasId id) es (((0 : Int),ByteArray.empty,([] : List Fld)),(0 : Int)) with ⟨h1,h2⟩|⟨i,h1,h2,h3,h4⟩
    · refine .inl ⟨h1,fun e he _=>?_⟩;have:=List.any_eq_false.1 h2 e he
      simpa [hasId] using this
    · refine .inr ⟨i,h1,h2,by omega,by simpa [hasId] using h4,fun e he=>?_⟩;have:=List.any_eq_false.1 h3 e he
      simpa [hasId] using this
def xW (es : List Ent) (i : Nat) (x : Itm) : List Ent:=es.set i (x,(es.getD i (((0 : Int),ByteArray.empty,([] : List Fld)),(0 : Int))).2)
def delE (es : List Ent) (i : Nat) : List Ent:=es.take i ++ es.drop (i + 1)
def insE (es : List Ent) (i : Nat) (e : Ent) : List Ent:=es.take i ++ e :: es.drop i
def live (e : Ent) : Bool:=decide (0 < e.2)
def stzOf (e : Ent) : Stz:=(e.2,e.1.2.2)
def stzL (es : List Ent) : List Stz:=(es.filter live).map stzOf
def itmL (es : List Ent) : List Itm:=es.map (·.1)
def plcL (es : List Ent) (id : Int) : Int:=ixOf (hasId id) (es.filter live)
def rowsL (es : List Ent) : List (List Fld):=(stzL es).map (·.2)
def getL (es : List Ent) (id : Int) : List Fld:=(es.getD (atE es id).toNat (((0 : Int),ByteArray.empty,([] : List Fld)),(0 : Int))).1.2.2
def rawL (es : List Ent) (id : Int) : ByteArray:=(es.getD (atE es id).toNat (((0 : Int),ByteArray.empty,([] : List Fld)),(0 : Int))).1.2.1
def txtL (es : List Ent) : List UInt8:=rawsL (apartL (itmL es))
def recsT (l : List Itm) : List (List Fld):=(l.filter fun x=>decide (x.1 = 3)).map (·.2.2)
def fldL (a : List Fld) : List ByteArray:=a.flatMap fun f=>lineB f.1 f.2
def textT : List (List Fld) → List ByteArray
  | []=>[]
  | [a]=>fldL a
  | a :: b :: r=>fldL a ++ (⟨#[]⟩ :: textT (b :: r))
def GoodS (a : List Fld) : Prop:=a ≠ [] ∧ a.length ≤ 40 ∧ ∀ f ∈ a,yV f = 0
def badAt : Int → List Fld → Int × Int
  | _,[]=>(-9,0)
  | i,f :: r=>if yV f ≠ 0 then (i,yV f) else badAt (i + 1) r
def chkR (l : List Fld) : Int × Int:=if l = [] then (-9,2) else if 40 < l.length then (-9,11) else badAt 0 l
def chkA (l : List Fld) : C:=if (chkR l).2 = 0 then .lit .nilIface else if (chkR l).1 = -9 then errN (chkR l).2 else errF (chkR l).1 (chkR l).2
theorem badAt_hit : ∀ (l : List Fld) (i : Nat) (k : Int),i < l.length → (∀ f ∈ l.take i,yV f = 0) → yV (l.getD i (ByteArray.empty,ByteArray.empty)) ≠ 0 → badAt k l = (k + i,yV (l.getD i (ByteArray.empty,ByteArray.empty)))
  | [],i,k,h,_,_=>by simp at h
  | f :: r,0,k,_,_,hb=>by
    unfold badAt;rw [if_pos (by simpa using hb)];simp
  | f :: r,i + 1,k,h,ht,hb=>by
    unfold badAt;rw [if_neg (by simpa using ht f (by simp))];rw [badAt_hit r i (k + 1) (by simpa using h) (fun g hg=>ht g (by simp [hg])) (by simpa using hb)];simp only [List.getD_cons_succ]
    congr 1
    omega
theorem badAt_no : ∀ (l : List Fld) (k : Int),(∀ f ∈ l,yV f = 0) → badAt k l = (-9,0)
  | [],_,_=>rfl
  | f :: r,k,h=>by
    unfold badAt;rw [if_neg (by simpa using h f (by simp))];exact badAt_no r (k + 1) (fun g hg=>h g (by simp [hg]))
theorem chkA_nil {l : List Fld} (h : chkR l = (-9,0)) : chkA l = .lit .nilIface:=by unfold chkA;rw [h];rfl
theorem chkA_no {l : List Fld} {n : Int} (h : chkR l = (-9,n)) (hn : n ≠ 0) : chkA l = errN n:=by unfold chkA;rw [h,if_neg hn,if_pos rfl]
theorem chkA_at {l : List Fld} {i n : Int} (h : chkR l = (i,n)) (hn : n ≠ 0) (hi : 0 ≤ i) : chkA l = errF i n:=by unfold chkA;rw [h,if_neg hn,if_neg (by show ¬ i = -9;omega)]
theorem pcheck_c {κ : Nat} (l : List Fld) (hl : yQ l) : qY Tryz.prog 163 [.one (.slk κ rFld l)] (.one (chkA l)):=by
  have hln:=hl.1;refine qX (rs:=[2]) Tryz.func163 rfl rfl rfl teOk rfl ?_;refine qB ?_;refine qK ?_;refine qR ?_;refine qB ?_;intro l1_1
  try simp only [zds] at l1_1
  refine qJ rfl (fun h6=>?_) (fun h6=>?_)
  ·try simp only [decide_eq_true_eq] at h6
   try simp only [zds] at h6
   refine qB ?_;refine qL ?_;rw [chkA_no (l:=l) (n:=2) (by unfold chkR;rw [if_pos (List.eq_nil_of_length_eq_zero (by omega))]) (by decide)];rfl
  ·try simp only [decide_eq_false_iff_not] at h6
   try simp only [zds] at h6
   refine qB ?_;intro l3_1
   try simp only [zds] at l3_1
   refine qJ rfl (fun h11=>?_) (fun h11=>?_)
   ·try simp only [decide_eq_true_eq] at h11
    try simp only [zds] at h11
    refine qB ?_;refine qL ?_;rw [chkA_no (l:=l) (n:=11) (by unfold chkR;rw [if_neg (fun e=>h6 (by rw [e];rfl)),if_pos (by omega)]) (by decide)];rfl
   ·try simp only [decide_eq_false_iff_not,Int.not_lt] at h11
    try simp only [zds] at h11
    refine qO ?_;refine qK ?_;refine qB ?_;intro l5_1
    try simp only [zds] at l5_1
    refine qR ?_;refine yJ (fun (i : Nat)=>i ≤ l.length ∧ ∀ f ∈ l.take i,yV f = 0) (fun (i : Nat)=>[(16,.one (.slk κ rFld l)),(17,ii .i64 l.length),(18,ii .i64 i)]) (fun (i : Nat)=>[]) 0 (fun (i : Nat)=>l.length - i) 0 (⟨Nat.zero_le _,by simp⟩) (qP ⟨rfl,rfl,rfl⟩ trivial rfl) ?_;intro i hI1;obtain ⟨hi,hall⟩:=hI1;refine qB ?_;refine qK ?_;refine qJ rfl (fun h19=>?_) (fun h19=>?_)
    ·try simp only [decide_eq_true_eq] at h19
     try simp only [zds] at h19
     have hlt : i < l.length:=(by omega);have hm:=hl.2 _ (yZ hlt (ByteArray.empty,ByteArray.empty));have hne : l ≠ []:=(fun e=>by rw [e] at hlt;simp at hlt);refine qO ?_;refine qK ?_;refine qR ?_;refine qB ?_;refine zob ?_;refine qK ?_;rcases check_cases (l.getD i (ByteArray.empty,ByteArray.empty)) with hc|hc|hc
     ·refine qM ?_;refine Or.inl ?_;refine zai (rfl) ?_;refine zei _ (zai (check_v (l.getD i (ByteArray.empty,ByteArray.empty)) _ (by omega) hc) ?_);refine qB ?_;refine qJ rfl (fun h26=>?_) (fun h26=>?_)
      ·skip
       refine qB ?_;refine qL ?_;rw [chkA_at (l:=l) (i:=i) (n:=5) (by unfold chkR;rw [if_neg hne,if_neg (by omega),badAt_hit l i 0 hlt hall (by rw [hc];decide),hc];simp) (by decide) (by omega)];rfl
      ·try simp only [zbq] at h26
       try simp only [zds] at h26
       cases h26
     ·refine qM ?_;refine Or.inl ?_;refine zai (rfl) ?_;refine zei _ (zai (check_v (l.getD i (ByteArray.empty,ByteArray.empty)) _ (by omega) hc) ?_);refine qB ?_;refine qJ rfl (fun h26=>?_) (fun h26=>?_)
      ·skip
       refine qB ?_;refine qL ?_;rw [chkA_at (l:=l) (i:=i) (n:=6) (by unfold chkR;rw [if_neg hne,if_neg (by omega),badAt_hit l i 0 hlt hall (by rw [hc];decide),hc];simp) (by decide) (by omega)];rfl
      ·try simp only [zbq] at h26
       try simp only [zds] at h26
       cases h26
     ·refine qM ?_;refine Or.inl ?_;refine zai (rfl) ?_;refine zei _ (zai (check_v (l.getD i (ByteArray.empty,ByteArray.empty)) _ (by omega) hc) ?_);refine qB ?_;refine qJ rfl (fun h26=>?_) (fun h26=>?_)
      ·try simp only [Bool.not_eq_true'] at h26
       try simp only [zds] at h26
       cases h26
      ·try simp only [Bool.not_eq_false'] at h26
       try simp only [zds] at h26
       refine qO ?_;refine qM ?_;refine zob ?_;exact ⟨i + 1,⟨by omega,by rw [← xD (ByteArray.empty,ByteArray.empty) hlt];intro f hf;rcases List.mem_append.1 hf with h|h;exact hall f h;rw [List.mem_singleton.1 h];exact hc⟩,by first|omega|(simp <;> omega),qP ⟨rfl,rfl,(yW (by omega))⟩ trivial rfl⟩
    ·try simp only [decide_eq_false_iff_not,Int.not_lt] at h19
     try simp only [zds] at h19
     refine yP ?_;refine qB ?_;refine qL ?_;rw [List.take_of_length_le (by omega)] at hall;rw [chkA_nil (by unfold chkR;rw [if_neg (fun e=>h6 (by rw [e];rfl)),if_neg (by omega)];exact badAt_no l 0 hall)];rfl
theorem badAt_zero : ∀ (l : List Fld) (k : Int),(badAt k l).2 = 0 → (∀ f ∈ l,yV f = 0)
  | [],_,_,f,hf=>by cases hf
  | g :: r,k,h,f,hf=>by
    unfold badAt at h;split at h
    · rename_i hg;exact absurd h hg
    · rename_i hg;rcases List.mem_cons.1 hf with rfl|hf
      · exact Classical.not_not.1 hg
      · exact badAt_zero r (k + 1) h f hf
theorem chk_good {l : List Fld} (h : (chkR l).2 = 0) : GoodS l ∧ badF l = 0 ∧ chkA l = .lit .nilIface:=by
  have hA : chkA l = .lit .nilIface:=by unfold chkA;rw [if_pos h]
  unfold chkR at h;split at h
  · cases h
  · rename_i h0;split at h
    · cases h
    · rename_i h4;have:=badAt_zero l 0 h;exact ⟨⟨h0,by omega,this⟩,badF_ok this,hA⟩
theorem chk_bad {l : List Fld} (h : (chkR l).2 ≠ 0) : ∃ e,chkA l = e ∧ ((∃ n,n ≠ 0 ∧ e = errN n ∧ chkR l = (-9,n)) ∨ ∃ i n,n ≠ 0 ∧ e = errF i n ∧ chkR l = (i,n)):=by
  refine ⟨_,rfl,?_⟩;unfold chkA;rw [if_neg h]
  by_cases h9 : (chkR l).1 = -9
  · rw [if_pos h9];exact .inl ⟨_,h,rfl,Prod.ext h9 rfl⟩
  · rw [if_neg h9];exact .inr ⟨_,_,h,rfl,rfl⟩
theorem pstanza_ok {κ : Nat} {l : List Fld} (hl : yQ l) (h : (chkR l).2 = 0) : qY Tryz.prog 132 [.one (.slk κ rFld l)] (.tup [(false,[.lit (.string (bytes (foldL l)))]),(false,[.lit .nilIface])]):=by
  obtain ⟨h1,h2,h3⟩:=chk_good h;have hc:=pcheck_c (κ:=κ) l hl;rw [h3] at hc;refine qX (rs:=[2,3]) Tryz.func132 rfl rfl rfl teOk rfl ?_;refine qB ?_;refine qK ?_;refine qB ?_;refine Or.inl ?_;refine zai (rfl) ?_;refine zei _ (zai (hc) ?_);refine qB ?_;refine qJ rfl (fun h8=>?_) (fun h8=>?_)
  ·try simp only [Bool.not_eq_true'] at h8
   try simp only [zds] at h8
   cases h8
  ·try simp only [Bool.not_eq_false'] at h8
   try simp only [zds] at h8
   refine qO ?_;refine qB ?_;refine Or.inl ?_;refine zai (rfl) ?_;refine zei _ (zai (fold_yes hl h2) ?_);refine qL ?_;rfl
theorem pstanza_err {κ : Nat} {l : List Fld} (hl : yQ l) (h : (chkR l).2 ≠ 0) : qY Tryz.prog 132 [.one (.slk κ rFld l)] (.tup [(false,[.lit (.string ⟨#[]⟩)]),(false,[chkA l])]):=by
  have hc:=pcheck_c (κ:=κ) l hl;obtain ⟨e,he,hs⟩:=chk_bad h;rw [he] at hc ⊢;rcases hs with ⟨n,hn,rfl,_⟩|⟨i,n,hn,rfl,_⟩
  ·
    refine qX (rs:=[2,3]) Tryz.func132 rfl rfl rfl teOk rfl ?_;refine qB ?_;refine qK ?_;refine qB ?_;refine Or.inl ?_;refine zai (rfl) ?_;refine zei _ (zai (hc) ?_);refine qB ?_;refine qJ rfl (fun h8=>?_) (fun h8=>?_)
    ·skip
     refine qB ?_;refine qL ?_;rfl
    ·try simp only [zbq] at h8
     try simp only [zds] at h8
     cases h8
  ·
    refine qX (rs:=[2,3]) Tryz.func132 rfl rfl rfl teOk rfl ?_;refine qB ?_;refine qK ?_;refine qB ?_;refine Or.inl ?_;refine zai (rfl) ?_;refine zei _ (zai (hc) ?_);refine qB ?_;refine qJ rfl (fun h8=>?_) (fun h8=>?_)
    ·skip
     refine qB ?_;refine qL ?_;rfl
    ·try simp only [zbq] at h8
     try simp only [zds] at h8
     cases h8
theorem yA {k : Nat} (l : List Fld) (hl : l.length ≤ 1000000) : qY Tryz.prog 69 [.one (.slk k rFld l)] (.one (.sl rFld l)):=by
  refine qX (rs:=[2]) Tryz.func69 rfl rfl rfl teOk rfl ?_;refine qB ?_;refine qK ?_;refine qK ?_;refine acode_isnil (q:=k) [_] _ (R:=rFld) (xs:=l) rfl rfl rfl rfl (e:=107) rfl rfl ?_;refine ⟨rfl,fun b hb=>?_⟩;refine qJ rfl (fun h4=>?_) (fun h4=>?_)
  ·have hl0:=hb h4;subst hl0;refine qB ?_;refine xR 2 107 rFld rfl ?_;refine qL ?_;rfl
  ·refine qO ?_;refine qB ?_;refine zai (by first|exact qT (show l.length ≤ 1000000000 by omega) (by decide)|exact qT (show 0 + l.length ≤ 1000000000 by omega) (by decide)) ?_;refine qL ?_;rfl
theorem copied_c (x : Itm) (hx : x.2.2.length ≤ 1000000) : qY Tryz.prog 170 [.agg (toL rItm x)] (.agg (toL rItm x)):=by
  refine acall_ofc (rs:=[.cell 2 136]) Tryz.func170 rfl rfl rfl teOk rfl ?_;refine qB ?_;refine qB ?_;refine Or.inl ?_;refine zai (rfl) ?_;refine zei _ (zai (yA x.2.2 hx) ?_);refine qB ?_;refine qL ?_;rfl
theorem render_c (l m : List Itm) (hm : m.length ≤ 1000000) (hs : szI m ≤ 100000000) (ha : qY Tryz.prog 143 [.one (.sl rItm l)] (.one (.sl rItm m))) : qY Tryz.prog 104 [.one (.sl rItm l)] (is (bytes (rawsL m))):=by
  refine qX (rs:=[2]) Tryz.func104 rfl rfl rfl teOk rfl ?_;refine qB ?_;refine qB ?_;refine Or.inl ?_;refine zai (rfl) ?_;refine zei _ (zai (ha) ?_);refine Or.inl ?_;refine zai (rfl) ?_;refine zei _ (zai (joinI_c m hm hs) ?_);refine qL ?_;rfl
theorem apartK_snoc : ∀ (l : List Itm) (k : Int) (x : Itm),apartK k (l ++ [x]) = apartK k l ++ (if lastK k l ≠ 1 ∧ x.1 ≠ 1 then [(1,⟨#[10]⟩,[]),x] else [x])
  | [],k,x=>by
    unfold lastK;rw [List.nil_append];unfold apartK
    by_cases h : k ≠ 1 ∧ x.1 ≠ 1
    · rw [if_pos h,if_pos h];rfl
    · rw [if_neg h,if_neg h];rfl
  | y :: r,k,x=>by
    have ih:=apartK_snoc r y.1 x;rw [List.cons_append];unfold apartK lastK;rw [ih]
    by_cases h : k ≠ 1 ∧ y.1 ≠ 1
    · rw [if_pos h,if_pos h];rfl
    · rw [if_neg h,if_neg h];rfl
theorem lastK_take {l : List Itm} {i : Nat} (h : i < l.length) (k : Int) : lastK k (l.take (i + 1)) = (l.getD i ((0 : Int),ByteArray.empty,([] : List Fld))).1:=by
  rw [List.take_succ_eq_append_getElem h,lastK_app,getD_get h ((0 : Int),ByteArray.empty,([] : List Fld))];rfl
theorem apart_snoc (l : List Itm) (i : Nat) (h : i < l.length) : apartL (l.take (i + 1)) = apartL (l.take i) ++ (if (0 < i ∧ (l.getD (i - 1) ((0 : Int),ByteArray.empty,([] : List Fld))).1 ≠ 1) ∧ (l.getD i ((0 : Int),ByteArray.empty,([] : List Fld))).1 ≠ 1 then [(1,⟨#[10]⟩,[]),l.getD i ((0 : Int),ByteArray.empty,([] : List Fld))] else [l.getD i ((0 : Int),ByteArray.empty,([] : List Fld))]):=by
  unfold apartL;rw [List.take_succ_eq_append_getElem h,apartK_snoc,getD_get h ((0 : Int),ByteArray.empty,([] : List Fld))];have e : lastK 1 (l.take i) ≠ 1 ↔ (0 < i ∧ (l.getD (i - 1) ((0 : Int),ByteArray.empty,([] : List Fld))).1 ≠ 1):=by
    cases i with
    | zero=>simp [lastK]
    | succ i=>rw [lastK_take (by omega),Nat.add_sub_cancel];simp
  congr 1
  by_cases hh : lastK 1 (l.take i) ≠ 1 ∧ (l.getD i ((0 : Int),ByteArray.empty,([] : List Fld))).1 ≠ 1
  · rw [if_pos hh,if_pos ⟨e.1 hh.1,hh.2⟩]
  · rw [if_neg hh,if_neg (fun g=>hh ⟨e.2 g.1,g.2⟩)]
theorem apartK_len : ∀ (l : List Itm) (k : Int),(apartK k l).length ≤ 2 * l.length
  | [],_=>by simp [apartK]
  | x :: r,k=>by
    have:=apartK_len r x.1;unfold apartK;split <;> (simp only [List.length_cons];omega)
theorem apart_c (l : List Itm) (hl : l.length ≤ 1000000) (hf : ∀ x ∈ l,x.2.2.length ≤ 1000000) : qY Tryz.prog 143 [.one (.sl rItm l)] (.one (.sl rItm (apartL l))):=by
  refine qX (rs:=[2]) Tryz.func143 rfl rfl rfl teOk rfl ?_;refine qB ?_;refine qB ?_;refine qK ?_;refine qK ?_;refine xR 3 136 rItm rfl ?_;refine qM ?_;intro l2_1
  try simp only [zds] at l2_1
  refine qR ?_;refine yJ (fun (i : Nat)=>i ≤ l.length) (fun (i : Nat)=>[(0,.one (.sl rItm l)),(3,.one (.vec 0)),(6,.one (.sl rItm l)),(7,ii .i64 l.length),(8,ii .i64 i)]) (fun (i : Nat)=>[(0,.vec 136 rItm (apartL (l.take i)))]) 1 (fun (i : Nat)=>l.length - i) 0 (Nat.zero_le _) (qP ⟨rfl,rfl,rfl,rfl,rfl⟩ rfl rfl) ?_;intro i hI0;refine qB ?_;refine qK ?_;refine qJ rfl (fun h9=>?_) (fun h9=>?_)
  ·try simp only [decide_eq_true_eq] at h9
   try simp only [zds] at h9
   have hil : i < l.length:=(by omega);have hsn:=apart_snoc l i hil;have hal:=apartK_len (l.take i) 1;rw [List.length_take] at hal;have hal : (apartL (l.take i)).length ≤ 2 * min i l.length:=hal;have e1 : ((i : Int) - 1).toNat = i - 1:=(by omega);refine qO ?_;refine qK ?_;refine qR ?_;refine qB ?_;refine zob ?_;refine qK ?_;refine qB ?_;refine zai (fun h=>trivial) ?_;refine zai (fun h=>⟨⟨h,trivial⟩,trivial⟩) ?_;refine zai (fun h=>⟨⟨h,trivial⟩,trivial⟩) ?_;refine zai (by exact fun h=>h) ?_;refine zai (fun h=>trivial) ?_;refine zai (fun h=>trivial) ?_;refine zai (fun h=>⟨⟨⟨h,trivial⟩,trivial⟩,by first|omega|decide|(simp only [zds];omega)|(have h9:=of_decide_eq_true h;omega)|(simp [gq] at h;omega)⟩) ?_;refine zai (fun h=>⟨⟨⟨h,trivial⟩,⟨h,trivial⟩,trivial⟩,by first|omega|decide|(simp only [zds];omega)|(have h9:=of_decide_eq_true h;omega)|(simp [gq] at h;omega)⟩) ?_;refine zai (fun h=>⟨⟨h,trivial⟩,trivial⟩) ?_;refine zai (fun h=>⟨⟨h,trivial⟩,trivial⟩) ?_;refine zai (fun h=>⟨⟨h,trivial⟩,trivial⟩) ?_;refine zai (by exact fun h=>h) ?_;refine qJ rfl (fun h28=>?_) (fun h28=>?_)
   ·try simp only [decide_eq_true_eq,decide_eq_false_iff_not,Bool.and_eq_true,Bool.not_eq_true'] at h28
    try simp only [Int.toNat_natCast,qH,qG,qF,qE] at h28
    rw [e1] at h28;rw [if_pos ⟨⟨by omega,h28.2⟩,h28.1.2⟩] at hsn;refine qM ?_;refine zai (by exact qT (show (apartL (l.take i)).length + 1 ≤ 1000000000 by omega) (by decide)) ?_;refine qM ?_;refine Or.inl ?_;refine zai (rfl) ?_;refine zei _ (zai (copied_c (l.getD i ((0 : Int),ByteArray.empty,([] : List Fld))) (hf _ (yZ hil ((0 : Int),ByteArray.empty,([] : List Fld))))) ?_);refine zai (by exact qT (by rw [List.length_append];show (apartL (l.take i)).length + 1 + 1 ≤ 1000000000;omega) (by decide)) ?_;refine qM ?_;refine zob ?_;exact ⟨i + 1,by omega,by first|omega|(simp <;> omega),qP ⟨rfl,rfl,rfl,rfl,(yW (by omega))⟩ (qS (by rw [hsn];(try rw [List.append_assoc]);(try exact rfl))) rfl⟩
   ·try simp only [decide_eq_true_eq,decide_eq_false_iff_not,Bool.not_eq_false',Bool.and_eq_false_iff,Int.not_lt] at h28
    try simp only [Int.toNat_natCast,qH,qG,qF,qE] at h28
    rw [e1] at h28;rw [if_neg (fun h=>h28.elim (fun g=>g.elim (fun g=>by omega) (fun g=>h.2 g)) (fun g=>h.1.2 g))] at hsn;refine qO ?_;refine qM ?_;refine Or.inl ?_;refine zai (rfl) ?_;refine zei _ (zai (copied_c (l.getD i ((0 : Int),ByteArray.empty,([] : List Fld))) (hf _ (yZ hil ((0 : Int),ByteArray.empty,([] : List Fld))))) ?_);refine zai (by exact qT (show (apartL (l.take i)).length + 1 ≤ 1000000000 by omega) (by decide)) ?_;refine qM ?_;refine zob ?_;exact ⟨i + 1,by omega,by first|omega|(simp <;> omega),qP ⟨rfl,rfl,rfl,rfl,(yW (by omega))⟩ (qS (by rw [hsn];(try rw [List.append_assoc]);(try exact rfl))) rfl⟩
  ·try simp only [decide_eq_false_iff_not,Int.not_lt] at h9
   try simp only [zds] at h9
   refine yP ?_;refine qB ?_;refine qL ?_;rw [List.take_of_length_le (by omega)];rfl
def al6 : List (List Fld):=[[(⟨#[65]⟩,⟨#[49]⟩)],[(⟨#[66]⟩,⟨#[50]⟩)]]
end Q
end Ab
end Go.Proofs.YtojipboabgebfaaGreatDoor
namespace Go.Proofs.YtojipboabgebfaaGreatDoor
open Go.RowKit
namespace Ab
set_option maxRecDepth 100000
abbrev Edt:=Int × Int × List Fld
abbrev rEdt : Rd Edt:=.st (.int .i64) (.st (.int .i64) (.sl rFld))
namespace Q
def heavyB (l : List Edt) : Bool:=decide (51 < l.length) || l.any fun e=>muchB e.2.2
theorem heavy_c (l : List Edt) : qY Tryz.prog 9 [.one (.sl rEdt l)] (ib (heavyB l)):=by
  refine qX (rs:=[2]) Tryz.func9 rfl rfl rfl teOk rfl ?_;refine qB ?_;refine qK ?_;refine qB ?_;intro l1_1
  try simp only [zds] at l1_1
  refine qR ?_;refine yJ (fun (i : Nat)=>i ≤ l.length ∧ i ≤ 51 ∧ (l.take i).any (fun e=>muchB e.2.2) = false) (fun (i : Nat)=>[(5,.one (.sl rEdt l)),(6,ii .i64 l.length),(7,ii .i64 i)]) (fun (i : Nat)=>[]) 0 (fun (i : Nat)=>l.length - i) 0 (⟨Nat.zero_le _,Nat.zero_le _,rfl⟩) (qP ⟨rfl,rfl,rfl⟩ trivial rfl) ?_;intro i hI0;obtain ⟨hi,hi2,hn⟩:=hI0;refine qB ?_;refine qK ?_;refine qJ rfl (fun h8=>?_) (fun h8=>?_)
  ·try simp only [decide_eq_true_eq] at h8
   try simp only [zds] at h8
   have hil : i < l.length:=(by omega);have hsn:=take_any l (fun e : Edt=>muchB e.2.2) ((0 : Int),(0 : Int),([] : List Fld)) i hil;rw [hn,Bool.false_or] at hsn;refine qO ?_;refine qK ?_;refine qR ?_;refine qB ?_;refine zob ?_;refine qB ?_;refine zai (fun h=>trivial) ?_;refine zai (fun h=>⟨⟨h,trivial⟩,trivial⟩) ?_;refine Or.inl ?_;refine zai (rfl) ?_;refine zei _ (zai (fun h=>⟨⟨⟨h,trivial⟩,trivial⟩,much_c _⟩) ?_);refine zai (by first|(intro h;rw [h];rfl)|(intro h;cases h)) ?_;refine qJ rfl (fun h18=>?_) (fun h18=>?_)
   ·try simp only [decide_eq_true_eq,Bool.or_eq_true] at h18
    try simp only [Int.toNat_natCast,qH,qG,qE] at h18
    refine qB ?_;refine qL ?_;refine ib_eq (Eq.symm ?_);unfold heavyB;rcases h18 with h|h
    rw [decide_eq_true (show 51 < l.length by omega)];rfl;rw [show l.any (fun e : Edt=>muchB e.2.2) = true from List.any_eq_true.2 ⟨_,yZ hil ((0 : Int),(0 : Int),([] : List Fld)),h⟩,Bool.or_true]
   ·try simp only [decide_eq_false_iff_not,Bool.or_eq_false_iff,Int.not_lt] at h18
    try simp only [Int.toNat_natCast,qH,qG,qE] at h18
    refine qO ?_;refine qM ?_;refine zob ?_;exact ⟨i + 1,⟨by omega,by omega,by rw [hsn];exact h18.2⟩,by first|omega|(simp <;> omega),qP ⟨rfl,rfl,(yW (by omega))⟩ trivial rfl⟩
  ·try simp only [decide_eq_false_iff_not,Int.not_lt] at h8
   try simp only [zds] at h8
   refine yP ?_;refine qB ?_;refine qL ?_;rw [List.take_of_length_le (by omega)] at hn;refine ib_eq (Eq.symm ?_);unfold heavyB;rw [hn,decide_eq_false (by omega)];rfl
def spF : Fld:=(⟨#[115,112,111,105,108,116]⟩,⟨#[115,112,111,105,108,116]⟩)
theorem fieldsk_c {κ : Nat} (a b : List Fld) : qY Tryz.prog 59 [.one (.slk κ rFld a),.one (.sl rFld b)] (ib (decide (a = b))):=by
  refine qX (rs:=[4]) Tryz.func59 rfl rfl rfl teOk rfl ?_;refine qB ?_;refine qK ?_;refine qB ?_;intro l1_1
  try simp only [zds] at l1_1
  intro l1_3
  try simp only [zds] at l1_3
  refine qJ rfl (fun h10=>?_) (fun h10=>?_)
  ·try simp only [decide_eq_false_iff_not,Bool.not_eq_true'] at h10
   try simp only [zds] at h10
   refine qB ?_;refine qL ?_;exact ib_eq (decide_eq_false (fun e=>by rw [e] at h10;omega)).symm
  ·try simp only [decide_eq_true_eq,Bool.not_eq_false'] at h10
   try simp only [zds] at h10
   refine qO ?_;refine qK ?_;refine qB ?_;intro l3_1
   try simp only [zds] at l3_1
   refine qR ?_;refine yJ (fun (i : Nat)=>i ≤ a.length ∧ a.take i = b.take i) (fun (i : Nat)=>[(0,.one (.slk κ rFld a)),(1,.one (.sl rFld b)),(12,ii .i64 a.length),(13,ii .i64 i)]) (fun (i : Nat)=>[]) 0 (fun (i : Nat)=>a.length - i) 0 (⟨Nat.zero_le _,by simp⟩) (qP ⟨rfl,rfl,rfl,rfl⟩ trivial rfl) ?_;intro i hI0;obtain ⟨hi,ht⟩:=hI0;refine qB ?_;refine qK ?_;refine qJ rfl (fun h14=>?_) (fun h14=>?_)
   ·try simp only [decide_eq_true_eq] at h14
    try simp only [zds] at h14
    have hla : i < a.length:=by omega
    have hlb : i < b.length:=by omega
    refine qO ?_;refine qK ?_;refine qR ?_;refine qB ?_;refine qK ?_;refine acode_draw rfl (by kernel_rfl) ?_;refine zob ?_;refine zob ?_;refine zai (by rfl) ?_;refine qJ rfl (fun h24=>?_) (fun h24=>?_)
    ·try simp only [decide_eq_false_iff_not,Bool.not_eq_true',Bool.and_eq_false_iff] at h24
     try simp only [Int.toNat_natCast,qG,qF] at h24
     refine qB ?_;refine qL ?_;exact ib_eq (decide_eq_false (ne_at (i:=i) (ByteArray.empty,ByteArray.empty) (fun e=>h24.elim (fun h=>h (congrArg Prod.fst e)) (fun h=>h (congrArg Prod.snd e))))).symm
    ·try simp only [decide_eq_true_eq,Bool.and_eq_true,Bool.not_eq_false'] at h24
     try simp only [Int.toNat_natCast,qG,qF] at h24
     refine qO ?_;refine qM ?_;refine zob ?_;exact ⟨i + 1,⟨by omega,list_ext_take (ByteArray.empty,ByteArray.empty) hla hlb ht (Prod.ext h24.1 h24.2)⟩,by first|omega|(simp <;> omega),qP ⟨rfl,rfl,rfl,(yW (by omega))⟩ trivial rfl⟩
   ·try simp only [decide_eq_false_iff_not,Int.not_lt] at h14
    try simp only [zds] at h14
    refine yP ?_;refine qB ?_;refine qL ?_;exact ib_eq (decide_eq_true (by rw [List.take_of_length_le (by omega),List.take_of_length_le (by omega)] at ht;exact ht)).symm
end Q
end Ab
end Go.Proofs.YtojipboabgebfaaGreatDoor
namespace Go.Proofs.YtojipboabgebfaaGreatDoor
open Go.RowKit
namespace Ab
set_option maxRecDepth 100000
set_option maxHeartbeats 2000000
namespace Q
abbrev z4 : List Value:=[.int .i64 0,.string ⟨#[]⟩,.slice none 0 0,.int .i64 0]
theorem step_append_runI {P : Program} {ops : Array Oper} {o : Oper} {a : Act} {w : World} {K : Act → World → Prop} {Q : Exit → Act → World → Prop} {E : Prop}
    (hg : o.guard = none) (d x : Operand) (dT sT : TypeId) (hop : o.op = Op.call { callee:=Callee.builtin Builtin.append,args:=#[d,x],argTypes:=#[dT,sT] })
    (v u : Value) (hd : a.eval d = v) (hx : a.eval x = u) {v' : Value} {w' : World} (hr : (Builtin.append_ #[dT,sT] o.type #[v,u]).run P w = .ok v' w') (hK : K (a.put o.dst v') w') :
    if Region.wanted o (yielded ops a.tmps) = true then Oper.wp P o a w K Q else E:=by
  have hw : Region.wanted o (yielded ops a.tmps) = true:=by simp [Region.wanted,hg]
  rw [if_pos hw];unfold Oper.wp;simp [execOp,hop,resolve,invoke,builtin,hd,hx,hr,Result.andThen];exact hK
theorem wpList_clear_runI {P : Program} (w : World) {ops : Array Oper} {rest : List Oper} {o : Oper} {a : Act} {Q : Exit → Act → World → Prop} (hgd : o.guard = none) (d : Operand) (t : TypeId)
    (ho : o.op = .call { callee:=.builtin .clear,args:=#[d],argTypes:=#[t] }) (v : Value) (hd : a.eval d = v) {v' : Value} {w' : World}
    (hr : (Builtin.clear_ #[t] o.type #[v]).run P w = .ok v' w') (h : wpList P ops Q rest (a.put o.dst v') w') : wpList P ops Q (o :: rest) a w :=
  wpList_plain hgd fun K hK=>by
    unfold Oper.wp execOp;simp only [ho,resolve,invoke,builtin,Sem.run_bind,Sem.run_pure,Result.andThen_ok,List.map_toArray,List.map_cons,List.map_nil,hd,hr];exact hK _ _ h
theorem zs_len {P : Program} {t : TypeId} {i : TyI} (h : TyOk P t i) (n : Nat) : (Builtin.zeroCells i.zeroV.cells n).toList.length = n * i.size:=by
  rw [Array.length_toList,size_zeroCells,h.zeroCells,List.size_toArray,h.zlen]
theorem zs_one {P : Program} {t : TypeId} {i : TyI} (h : TyOk P t i) (n : Nat) : ∀ v ∈ (Builtin.zeroCells i.zeroV.cells n).toList,v.oneCell' = true:=by
  intro v hv;unfold Builtin.zeroCells at hv;rw [h.zeroCells] at hv;simp only [Array.toList_map,Array.toList_range,List.mem_map,List.mem_range,List.size_toArray] at hv;obtain ⟨k,hk,rfl⟩:=hv;have hlt : k % i.zero.length < i.zero.length:=Nat.mod_lt _ (by
    rcases Nat.eq_zero_or_pos i.zero.length with h0|h0
    · rw [h0,Nat.mul_zero] at hk;omega
    · exact h0)
  have e : (i.zero.toArray)[k % i.zero.length]! = i.zero[k % i.zero.length]:=by simp [hlt]
  rw [e];exact plain_one (h.zplain _ (List.getElem_mem hlt))
theorem run_clear_row {P : Program} {t e ty : TypeId} {ei : TyI} (ht : P.underlying t = some (.slice e)) (he : TyOk P e ei) (w : World) (b o n c : Nat) {cur : Array Value} {T : TypeId} (hb : w.heap[b]? = some (.cells cur T (0,0))) (hn : 0 < n) (hfit : o + n * ei.size ≤ cur.size) :
    (Builtin.clear_ #[t] ty #[.slice (some ⟨b,o,none⟩) n c]).run P w = .ok (.tuple #[]) (w.setRow b (cur.toList.take o ++ (Builtin.zeroCells ei.zeroV.cells n).toList ++ cur.toList.drop (o + n * ei.size)).toArray):=by
  have hst:=run_storeCells_at P b o T (Builtin.zeroCells ei.zeroV.cells n).toList 0 cur w hb (by rw [zs_len he];omega) (zs_one he n);simp only [Nat.add_zero,zs_len he] at hst;obtain ⟨m,rfl⟩ : ∃ m,n = m + 1:=⟨n - 1,by omega⟩;simp [Builtin.clear_,run_underlying ht,he.zeroValue,hst]
theorem tyEnt : TyOk Tryz.prog 138 ty138:=tyOk138
theorem del_w (b cap n i j : Nat) (cur : Array Value) (w : World) (hb : w.heap[b]? = some (.cells cur 138 (0,0))) (hcs : cur.size = cap * 4) (hnc : n ≤ cap) (_hcm : cap ≤ maxLen) (hij : i < j) (hj : j ≤ n) (h1 : ∀ v ∈ cur.toList.take (n * 4),v.oneCell' = true) :
    Calls Tryz.prog 90 #[.slice (some ⟨b,0,none⟩) n cap,.int .i64 i,.int .i64 j] w fun e w'=>e = .returned (.slice (some ⟨b,0,none⟩) (n - (j - i)) cap) ∧ ∃ cur',Grew w w' (some b) ∧ w'.heap[b]? = some (.cells cur' 138 (0,0)) ∧ cur'.size = cap * 4 ∧ cur'.toList.take ((n - (j - i)) * 4) = cur.toList.take (i * 4) ++ (cur.toList.drop (j * 4)).take ((n - j) * 4):=by
  have mixed : Tryz.prog.follows .mixedOrders = true:=by kernel_rfl
  have hic : i ≤ cap:=by omega
  have hjc : j ≤ cap:=by omega
  obtain ⟨news,hnews⟩ : ∃ news,(cur.toList.drop (j * 4)).take ((n - j) * 4) = news:=⟨_,rfl⟩;have hlen : news.length = (n - j) * 4:=by
    rw [← hnews,List.length_take,List.length_drop,Array.length_toList,hcs];have : (n - j) * 4 ≤ cap * 4 - j * 4:=by omega
    omega
  obtain ⟨i0,hi0,hz0,hz1,hz2⟩:=tyEnt.info;obtain ⟨A,hA,hsrc⟩ : ∃ A : Addr,(if cap = j then (some ⟨b,0,none⟩ : Option Addr) else some ⟨b,j * 4,none⟩) = some A ∧ (∀ t u,news[t]? = some u → w.drew.cell? (A.add t) = some u):=by
    by_cases h : cap = j
    · refine ⟨_,if_pos h,fun t u hu=>?_⟩;have h0 : news.length = 0:=by rw [hlen];omega
      rw [List.length_eq_zero_iff.1 h0] at hu;simp at hu
    · refine ⟨_,if_neg h,fun t u hu=>?_⟩;have ht:=(List.getElem?_eq_some_iff.1 hu).1;rw [← hnews,List.getElem?_take_of_lt (by omega),List.getElem?_drop] at hu;rw [Go.WideShapes.add_plain];show w.cell? _ = _;simp only [World.cell?,hb,Option.isSome_none,Bool.false_eq_true,if_false];rw [← hu];simp
  have hone : ∀ u ∈ news,u.oneCell' = true:=by
    intro u hu;rw [← hnews,show (n - j) * 4 = n * 4 - j * 4 by omega,← List.drop_take] at hu;exact h1 u (List.mem_of_mem_drop hu)
  obtain ⟨cur1,hcur1⟩ : ∃ c : Array Value,(cur.toList.take (i * 4) ++ news ++ cur.toList.drop (i * 4 + news.length)).toArray = c:=⟨_,rfl⟩;have hsz1 : cur1.size = cap * 4:=by
    rw [← hcur1];simp only [List.size_toArray,List.length_append,List.length_take,List.length_drop,Array.length_toList,hcs,hlen];omega
  obtain ⟨W1,hW1⟩ : ∃ W1,w.drew.setRow b cur1 = W1:=⟨_,rfl⟩;have hap : ∀ ty,(Builtin.append_ #[132,132] ty #[.slice (some ⟨b,0,none⟩) i cap,.slice (some A) (n - j) (cap - j)]).run Tryz.prog w.drew = .ok (.slice (some ⟨b,0,none⟩) (i + (n - j)) cap) W1:=by
    intro ty;have:=run_append_room (P:=Tryz.prog) w.drew 132 ty 138 i0 Tryz.underlying132 hi0 b i cap cur hb A (n - j) (cap - j) news (by rw [hlen,hz0];rfl) hsrc hone (by omega) (by rw [hz0,hlen,hcs];show i * 4 + _ ≤ _;omega);rw [show i0.size = 4 from hz0,hcur1,hW1] at this;exact this
  have hb1 : W1.heap[b]? = some (.cells cur1 138 (0,0)):=by rw [← hW1];exact setRow_heap w.drew b cur cur1 _ _ hb
  have hk : i + (n - j) < n:=by omega
  have hkc : ¬ cap = i + (n - j):=by omega
  obtain ⟨W2,cur2,hW2,hcl⟩ : ∃ W2 cur2,W2 = W1.setRow b cur2 ∧ cur2.size = cap * 4 ∧ cur2.toList.take ((i + (n - j)) * 4) = cur1.toList.take ((i + (n - j)) * 4) ∧ ∀ ty,(Builtin.clear_ #[132] ty #[.slice (some ⟨b,(i + (n - j)) * 4,none⟩) (n - (i + (n - j))) (cap - (i + (n - j)))]).run Tryz.prog W1 = .ok (.tuple #[]) W2:=by
    have hz:=zs_len tyEnt (n - (i + (n - j)));have hz4 : ty138.size = 4:=rfl;rw [hz4] at hz;refine ⟨_,_,rfl,?_,?_,fun ty=>run_clear_row Tryz.underlying132 tyEnt W1 b _ _ _ hb1 (by omega) (by rw [hsz1,hz4];omega)⟩
    · simp only [List.size_toArray,List.length_append,List.length_take,List.length_drop,Array.length_toList,hsz1,hz,hz4];omega
    · rw [List.append_assoc,List.take_append_of_le_length (by rw [List.length_take,Array.length_toList,hsz1];omega),List.take_take,Nat.min_self]
  obtain ⟨hsz2,htk,hcl⟩:=hcl;have fin : W2.heap[b]? = some (.cells cur2 138 (0,0)) ∧ Grew w W2 (some b):=by
    rw [hW2];exact ⟨setRow_heap W1 b cur1 cur2 _ _ hb1,by rw [← hW1,setRow_setRow];exact ⟨rfl,rfl,rfl,by simp,fun k hk hne=>setRow_other w.drew b k _ (fun e=>hne (by rw [e]))⟩⟩
  have hres : cur2.toList.take ((i + (n - j)) * 4) = cur.toList.take (i * 4) ++ news:=by
    rw [htk,← hcur1,List.take_append_of_le_length (by simp only [List.length_append,List.length_take,Array.length_toList,hcs,hlen];omega),List.take_of_length_le (by simp only [List.length_append,List.length_take,Array.length_toList,hcs,hlen];omega)]
  have hnn : n - (j - i) = i + (n - j):=by omega
  rw [hnn];rw [← hnews] at hres;clear hW2 hW1 htk hcur1 hb hb1 hsrc hone hlen hnews h1
  go_enter Tryz.func90,Tryz.ntmps90
  go_wp2
  go_region_law_o (refine step_append_runI rfl (.tmp 22) (.tmp 25) 132 132 rfl (.slice (some ⟨b,0,none⟩) i cap) (.slice (some A) (n - j) (cap - j)) (by simp [Act.eval,Act.put]) (by simp [Act.eval,Act.put]) (hap _) ?_)
  go_wp2_with (at_builtin;refine wpList_clear_runI _ rfl _ _ rfl _ rfl (hcl _) ?_)
  go_ret
  exact ⟨rfl,cur2,fin.2,fin.1,hsz2,hres⟩
end Q
end Ab
end Go.Proofs.YtojipboabgebfaaGreatDoor
namespace Go.Proofs.YtojipboabgebfaaGreatDoor
open Go.RowKit
namespace Ab
set_option maxRecDepth 100000
set_option maxHeartbeats 4000000
namespace Q
theorem run_copy_k {P : Program} (w : World) (dT sT ty elem : TypeId) {ei : TyI} (hu : P.underlying dT = some (.slice elem)) (he : TyOk P elem ei) (g o dLen dCap : Nat) (a : Addr) (sLen sCap n : Nat) (cur : Array Value) (t : TypeId) (cs : List Value)
    (hg : w.heap[g]? = some (.cells cur t (0,0))) (hm : Nat.min sLen dLen = n) (hn : cs.length = n * ei.size) (hsrc : ∀ j v,cs[j]? = some v → w.cell? (a.add j) = some v) (hfit : o + cs.length ≤ cur.size) (h1 : ∀ v ∈ cs,v.oneCell' = true) :
    (Builtin.copy_ #[dT,sT] ty #[.slice (some ⟨g,o,none⟩) dLen dCap,.slice (some a) sLen sCap]).run P w = .ok (goInt n) (w.setRow g (cur.toList.take o ++ cs ++ cur.toList.drop (o + cs.length)).toArray):=by
  have hl:=run_loadCells_list (P:=P) w a cs hsrc;have hst:=run_storeCells_at P g o t cs 0 cur w hg (by simpa using hfit) h1;simp only [Nat.add_zero] at hst;simp [Builtin.copy_,run_underlying hu,Builtin.lenOf,Builtin.firstCells,he.sizeOf,hm,← hn,hl,hst]
def RowTo (w w' : World) (v u : Value) (n : Nat) (cs : List Value) : Prop :=
  w'.ownsRow 0 138 4 u n cs ∧ Grew w w' (blk (some v)) ∧ (∀ b,blk (some u) = some b → blk (some v) = some b ∨ (w.heap.size ≤ b ∧ b < w'.heap.size)) ∧ ∃ a n c,u = .slice a n c
theorem rowCells {w : World} {b n cap : Nat} {cs : List Value} (h : w.ownsRow 0 138 4 (.slice (some ⟨b,0,none⟩) n cap) n cs) : ∃ cur,w.heap[b]? = some (.cells cur 138 (0,0)) ∧ n ≤ cap ∧ cap ≤ maxLen ∧ cur.size = cap * 4 ∧ cur.toList.take (n * 4) = cs ∧ cs.length = n * 4:=by
  rcases h.2 with ⟨h0,_⟩|⟨g,c,cur,hsl,_,hg,hnc,hcm,hcs,htake⟩
  · cases h0
  · injection hsl with e1 e2 e3
    injection e1 with e1
    injection e1 with e1 _ _
    subst e1 e3;exact ⟨cur,hg,hnc,hcm,hcs,htake,h.1⟩
theorem ins_end (n : Nat) (v : Value) (cs ns : List Value) (vb vc : Nat) (w : World) (hown : w.ownsRow 0 138 4 v n cs) (hown2 : w.ownsRow 0 138 4 (.slice (some ⟨vb,0,none⟩) 1 vc) 1 ns) (h1 : ∀ u ∈ ns,u.oneCell' = true) (hn : n ≤ 1000000) :
    Calls Tryz.prog 91 #[v,.int .i64 n,.slice (some ⟨vb,0,none⟩) 1 vc] w fun e w'=>∃ u,e = .returned u ∧ RowTo w w' v u (n + 1) (cs ++ ns):=by
  obtain ⟨v',w',hr,h2,h3,h4,h5⟩:=Ab.run_app (P:=Tryz.prog) (w:=w) (ty:=132) Tryz.underlying132 tyEnt (by decide) hown (ad:=⟨vb,0,none⟩) (m:=1) (c:=vc) (news:=ns) hown2.1 (fun j u hj=>hown2.cells (g:=vb) rfl j u hj) h1 Nat.one_pos (by unfold maxLen;omega) (qT (show n + 1 ≤ 1000000000 by omega) (show ty138.bytes ≤ 1000 by decide));have mixed : Tryz.prog.follows .mixedOrders = true:=by kernel_rfl
  have fin : RowTo w w' v v' (n + 1) (cs ++ ns):=⟨h2,h3,h4,h5⟩;obtain ⟨va,vn,vcap,hv,hvn⟩ : ∃ a m c,v = .slice a m c ∧ m = n:=by
    rcases hown.2 with ⟨h0,hz⟩|⟨g,c,cur,hsl,_⟩
    · exact ⟨_,_,_,h0,hz.symm⟩
    · exact ⟨_,_,_,hsl,rfl⟩
  subst hvn;subst hv;have hcap : vn ≤ vcap:=by
    rcases hown.2 with ⟨h0,hz⟩|⟨g,c,cur,hsl,_,_,hnc,_⟩
    · omega
    · injection hsl with _ _ e3;omega
  clear hown hown2 h1 h2 h3 h4 h5
  by_cases hq : vcap = vn
  · subst hq
    go_enter Tryz.func91,Tryz.ntmps91
    go_wp2_with (at_builtin;refine Lib.wpList_append_run _ rfl _ _ _ _ rfl _ _ rfl rfl _ _ hr ?_)
    go_ret
    exact ⟨_,rfl,fin⟩
  · go_enter Tryz.func91,Tryz.ntmps91
    go_wp2_with (at_builtin;refine Lib.wpList_append_run _ rfl _ _ _ _ rfl _ _ rfl rfl _ _ hr ?_)
    go_ret
    exact ⟨_,rfl,fin⟩
theorem take4 {α : Type} (l : List α) (a b : Nat) (h : a ≤ b) : (l.take b).take a = l.take a:=by rw [List.take_take,Nat.min_eq_left h]
theorem ins_shift (n i : Nat) (b cap : Nat) (cs ns : List Value) (vb vc : Nat) (w : World) (hi : i < n) (hroom : n + 1 ≤ cap) (hown : w.ownsRow 0 138 4 (.slice (some ⟨b,0,none⟩) n cap) n cs) (hown2 : w.ownsRow 0 138 4 (.slice (some ⟨vb,0,none⟩) 1 vc) 1 ns) (hne : vb ≠ b) (h1 : ∀ u ∈ ns,u.oneCell' = true) (h1c : ∀ u ∈ cs,u.oneCell' = true) :
    Calls Tryz.prog 91 #[.slice (some ⟨b,0,none⟩) n cap,.int .i64 i,.slice (some ⟨vb,0,none⟩) 1 vc] w fun e w'=>∃ u,e = .returned u ∧ RowTo w w' (.slice (some ⟨b,0,none⟩) n cap) u (n + 1) (cs.take (i * 4) ++ ns ++ cs.drop (i * 4)):=by
  obtain ⟨cur,hb,hnc,hcm,hcz,htk,hcl⟩:=rowCells hown;obtain ⟨cur2,hvb,hvc,_,hcz2,htk2,hnl⟩:=rowCells hown2;have hz4 : ty138.size = 4:=rfl;have hdl : (cs.drop (i * 4)).length = (n - i) * 4:=by rw [List.length_drop,hcl];omega
  have hov : ∀ lb cb,(callFunc 133 #[.slice (some ⟨vb,0,none⟩) 1 vc,.slice (some ⟨b,(i + 1) * 4,none⟩) lb cb]).run Tryz.prog w = .ok (.value (.bool false)) w:=fun lb cb=>by
    rw [run_callFunc_extern Tryz.func133 (by kernel_rfl) (by kernel_rfl) (by kernel_rfl) (e:=Extern.SlicesOverlaps.overlaps #[132,132] #[4]) (by kernel_rfl),
      Lib.run_overlaps_apart w 132 4 138 Tryz.underlying132 4 (fun w=>tyEnt.sizeOf w) ⟨vb,0,none⟩ ⟨b,(i + 1) * 4,none⟩ 1 vc lb cb hne 138 138 cur2.size cur.size (by simp [World.shape?,hvb]) (by simp [World.shape?,hb]) (by omega) (by simp [World.frozen?,hvb]) (by simp [World.frozen?,hvb])]
    rfl
  obtain ⟨cur1,hcur1⟩ : ∃ c : Array Value,(cur.toList.take ((i + 1) * 4) ++ cs.drop (i * 4) ++ cur.toList.drop ((i + 1) * 4 + (cs.drop (i * 4)).length)).toArray = c:=⟨_,rfl⟩;have hsz1 : cur1.size = cap * 4:=by
    rw [← hcur1];simp only [List.size_toArray,List.length_append,List.length_take,hdl,List.length_drop (l:=cur.toList),Array.length_toList,hcz];omega
  have hcsrc : ∀ j v,(cs.drop (i * 4))[j]? = some v → w.cell? ⟨b,i * 4 + j,none⟩ = some v:=by
    intro j v hj;have hlt:=(List.getElem?_eq_some_iff.1 hj).1;rw [List.getElem?_drop,← htk,List.getElem?_take_of_lt (by omega)] at hj;simp only [World.cell?,hb,Option.isSome_none,Bool.false_eq_true,if_false];rw [← hj];simp
  have hcp1 : ∀ ty dc sc,(Builtin.copy_ #[132,132] ty #[.slice (some ⟨b,(i + 1) * 4,none⟩) (n - i) dc,.slice (some ⟨b,i * 4,none⟩) (n + 1 - i) sc]).run Tryz.prog w.drew = .ok (goInt ((n - i : Nat) : Int)) (w.drew.setRow b cur1):=fun ty dc sc=>by
    rw [← hcur1];exact run_copy_k w.drew _ _ ty 138 Tryz.underlying132 tyEnt b ((i + 1) * 4) (n - i) dc ⟨b,i * 4,none⟩ (n + 1 - i) sc (n - i) cur _ (cs.drop (i * 4)) hb (by simp only [Nat.min_def];split <;> omega) (by rw [hdl,hz4]) (fun j v hj=>by rw [Go.WideShapes.add_plain];exact hcsrc j v hj) (by rw [hdl,hcz];omega) (fun v hv=>h1c v (List.mem_of_mem_drop hv))
  obtain ⟨W1,hW1⟩ : ∃ W1,w.drew.setRow b cur1 = W1:=⟨_,rfl⟩;rw [hW1] at hcp1;have hb1 : W1.heap[b]? = some (.cells cur1 138 (0,0)):=by rw [← hW1];exact setRow_heap w.drew b cur cur1 _ _ hb
  have hvb1 : W1.heap[vb]? = w.heap[vb]?:=by rw [← hW1];exact setRow_other w.drew b vb _ hne
  obtain ⟨curn,hcurn⟩ : ∃ c : Array Value,(cur1.toList.take (i * 4) ++ ns ++ cur1.toList.drop (i * 4 + ns.length)).toArray = c:=⟨_,rfl⟩;have hszn : curn.size = cap * 4:=by
    rw [← hcurn];simp only [List.size_toArray,List.length_append,List.length_take,hnl,List.length_drop,Array.length_toList,hsz1];omega
  have hcp2 : ∀ (W : World),(∀ k : Nat,W.heap[k]? = W1.heap[k]?) → ∀ ty dc,(Builtin.copy_ #[132,132] ty #[.slice (some ⟨b,i * 4,none⟩) (n + 1 - i) dc,.slice (some ⟨vb,0,none⟩) 1 vc]).run Tryz.prog W = .ok (goInt 1) (W.setRow b curn):=fun W hW ty dc=>by
    rw [← hcurn];exact run_copy_k W _ _ ty 138 Tryz.underlying132 tyEnt b (i * 4) (n + 1 - i) dc ⟨vb,0,none⟩ 1 vc 1 cur1 _ ns (by rw [hW];exact hb1) (by simp only [Nat.min_def];split <;> omega) (by rw [hnl,hz4]) (fun j v hj=>by
      rw [Go.WideShapes.add_plain];have h0:=hown2.cells (g:=vb) rfl j v hj;rw [Go.WideShapes.add_plain] at h0;rw [← h0];simp only [World.cell?,hW,hvb1]) (by rw [hnl,hsz1];omega) h1
  have hrow : curn.toList.take ((n + 1) * 4) = cs.take (i * 4) ++ ns ++ cs.drop (i * 4):=by
    rw [← hcurn];have e1 : cur1.toList.take (i * 4) = cs.take (i * 4):=by
      rw [← hcur1,List.append_assoc,List.take_append_of_le_length (by simp only [List.length_take,Array.length_toList,hcz];omega),take4 _ _ _ (by omega),← htk,take4 _ _ _ (by omega)]
    have e2 : cur1.toList.drop (i * 4 + ns.length) = cs.drop (i * 4) ++ cur.toList.drop ((i + 1) * 4 + (cs.drop (i * 4)).length):=by
      rw [← hcur1,hnl,List.append_assoc,show i * 4 + 1 * 4 = (cur.toList.take ((i + 1) * 4)).length by simp only [List.length_take,Array.length_toList,hcz];omega,List.drop_left]
    rw [e1,e2,← List.append_assoc,List.take_append_of_le_length (by simp only [List.length_append,List.length_take,hcl,hnl,hdl];omega),List.take_of_length_le (by simp only [List.length_append,List.length_take,hcl,hnl,hdl];omega)]
  have fin : ∀ W : World,(∀ k : Nat,W.heap[k]? = W1.heap[k]?) → W.heap.size = W1.heap.size → W.os = W1.os → W.tape = W1.tape → W.output = W1.output → RowTo w (W.setRow b curn) (.slice (some ⟨b,0,none⟩) n cap) (.slice (some ⟨b,0,none⟩) (n + 1) cap) (n + 1) (cs.take (i * 4) ++ ns ++ cs.drop (i * 4)):=by
    intro W hW hs ho ht hu;refine ⟨⟨by simp only [List.length_append,List.length_take,hcl,hnl,hdl];omega,.inr ⟨b,cap,curn,rfl,Nat.zero_le _,setRow_heap W b cur1 curn _ _ (by rw [hW];exact hb1),hroom,hcm,hszn,hrow⟩⟩,⟨?_,?_,?_,?_,?_⟩,fun _ h=>.inl h,_,_,_,rfl⟩
    · show W.os = _;rw [ho,← hW1];rfl
    · show W.tape = _;rw [ht,← hW1];rfl
    · show W.output = _;rw [hu,← hW1];rfl
    · rw [show (W.setRow b curn).heap.size = W.heap.size by simp,hs,← hW1];simp
    · intro k hk hkb;have hkb' : k ≠ b:=fun e=>hkb (by rw [e];rfl)
      rw [setRow_other W b k _ hkb',hW,← hW1];exact setRow_other w.drew b k _ hkb'
  have mixed : Tryz.prog.follows .mixedOrders = true:=by kernel_rfl
  have hz2 : ¬ ((i : Int) = (n : Int)):=by omega
  have hc63 : cap ≤ 9223372036854775807:=by unfold maxLen at hcm;omega
  have hw1 : IntKind.i64.wrap ((i : Int) + 1) = (i : Int) + 1:=by rw [IntKind.wrap_i64];omega
  have hw2 : IntKind.i64.wrap ((n : Int) + 1) = (n : Int) + 1:=by rw [IntKind.wrap_i64];omega
  have hin : i ≤ n:=by omega
  have hb1' : (0 : Int) ≤ (i : Int) + 1:=by omega
  have htn : ((i : Int) + 1).toNat = i + 1:=by omega
  have hb2 : ¬ (cap = i + 1):=by omega
  have hb4 : ¬ (cap = i):=by omega
  have hb3 : (i : Int) ≤ (n : Int) + 1:=by omega
  clear hcur1 hcurn hW1 hown hown2 h1 h1c hcsrc hrow hdl hcl hnl htk htk2
  go_enter Tryz.func91,Tryz.ntmps91
  go_wp2_with (simp only [hov])
  go_region_law_o (refine step_copy_runI rfl _ _ 132 132 rfl _ _ (by simp [Act.eval,Act.put]) (by simp [Act.eval,Act.put]) (hcp1 _ _ _) ?_)
  go_wp2_with (at_builtin;refine wpList_copy_runI _ rfl _ _ 132 132 rfl _ _ rfl rfl (hcp2 _ (fun _=>rfl) _ _) ?_)
  go_ret
  exact ⟨_,rfl,fin _ (fun _=>rfl) rfl rfl rfl rfl⟩
theorem ins_grow (n i : Nat) (b cap : Nat) (cs ns : List Value) (vb vc : Nat) (w : World) (hi : i < n) (hroom : cap < n + 1) (hn1 : n ≤ 1000000) (hown : w.ownsRow 0 138 4 (.slice (some ⟨b,0,none⟩) n cap) n cs) (hown2 : w.ownsRow 0 138 4 (.slice (some ⟨vb,0,none⟩) 1 vc) 1 ns) (h1 : ∀ u ∈ ns,u.oneCell' = true) (h1c : ∀ u ∈ cs,u.oneCell' = true) :
    Calls Tryz.prog 91 #[.slice (some ⟨b,0,none⟩) n cap,.int .i64 i,.slice (some ⟨vb,0,none⟩) 1 vc] w fun e w'=>∃ u,e = .returned u ∧ RowTo w w' (.slice (some ⟨b,0,none⟩) n cap) u (n + 1) (cs.take (i * 4) ++ ns ++ cs.drop (i * 4)):=by
  obtain ⟨cur,hb,hnc,hcm,hcz,htk,hcl⟩:=rowCells hown;obtain ⟨cur2,hvb,hvc,_,hcz2,htk2,hnl⟩:=rowCells hown2;have hbw : b < w.heap.size:=(Array.getElem?_eq_some_iff.1 hb).1;have hvw : vb < w.heap.size:=(Array.getElem?_eq_some_iff.1 hvb).1;have hz4 : ty138.size = 4:=rfl;have hdl : (cs.drop (i * 4)).length = (n - i) * 4:=by rw [List.length_drop,hcl];omega
  obtain ⟨i0,hi0,hz0,hzb,hzz⟩:=tyEnt.info;have hkk : (n : Int) + 1 - (i : Int) = ((n + 1 - i : Nat) : Int):=by omega
  have hik : i + (n + 1 - i) = n + 1:=by omega
  have hold : (Builtin.firstCells i0.size i (.slice (some ⟨b,0,none⟩) i cap)).run Tryz.prog w.drew = .ok (cs.take (i * 4)).toArray w.drew:=by
    rw [hz0,hz4];exact run_firstCells_some w.drew 4 i ⟨b,0,none⟩ i cap (cs.take (i * 4)) (by rw [List.length_take];omega) (fun j v hj=>by
      have hlt:=(List.getElem?_eq_some_iff.1 hj).1;rw [List.length_take] at hlt;rw [List.getElem?_take_of_lt (by omega)] at hj;exact hown.cells (g:=b) rfl j v hj)
  obtain ⟨G,hG⟩ : ∃ G,grownCap w (n + 1) cap 138 = G:=⟨_,rfl⟩;obtain ⟨ROW,hROW⟩ : ∃ ROW : Array Value,(cs.take (i * 4)).toArray ++ Builtin.zeroCells ty138.zeroV.cells (n + 1 - i) ++ Builtin.zeroCells ty138.zeroV.cells (G - (n + 1)) = ROW:=⟨_,rfl⟩;have hGn : n + 1 ≤ G:=by rw [← hG];exact grownCap_ge w _ _ _
  have hGm : G ≤ maxLen:=by rw [← hG];exact grownCap_le_maxLen w (n + 1) cap _ (by unfold maxLen;omega)
  have hRs : ROW.size = G * 4:=by
    have e1:=zs_len tyEnt (n + 1 - i);have e2:=zs_len tyEnt (G - (n + 1));rw [Array.length_toList,hz4] at e1 e2;rw [← hROW];simp only [Array.size_append,List.size_toArray,List.length_take,e1,e2];omega
  have hRt : ROW.toList.take (i * 4) = cs.take (i * 4):=by
    rw [← hROW];simp only [Array.toList_append,List.append_assoc];rw [List.take_append_of_le_length (by simp only [List.length_take];omega),take4 _ _ _ (by omega)]
  have hrz : ∀ ty,(Builtin.append_ #[132,3] ty #[.slice (some ⟨b,0,none⟩) i cap,.int .i64 ((n : Int) + 1 - (i : Int))]).run Tryz.prog w = .ok (.slice (some ⟨w.heap.size,0,none⟩) (n + 1) G) (w.drew.alloc (.cells ROW 138)):=fun ty=>by
    have h:=Lib.run_append_grow_zeros w 132 3 ty 138 i0 _ .i64 .i64 Tryz.underlying132 Tryz.underlying3 hi0 hzz (some ⟨b,0,none⟩) i cap (cs.take (i * 4)) hold (n + 1 - i) (by omega) (by rw [hz0,hz4];decide) (by omega) (by omega) (by rw [hzb,show ty138.bytes = 56 from rfl];omega) (by rw [hzb,hik];exact growslice_fits hroom (qT (show n + 1 ≤ 1000000000 by omega) (show ty138.bytes ≤ 1000 by decide)));rw [hik,hG,hROW] at h;rw [hkk];exact h
  obtain ⟨W1,hW1⟩ : ∃ W1,w.drew.alloc (.cells ROW 138) = W1:=⟨_,rfl⟩;have hN1 : W1.heap[w.heap.size]? = some (.cells ROW 138 (0,0)):=by rw [← hW1];exact heap_new w.drew _
  have hO1 : ∀ k,k < w.heap.size → W1.heap[k]? = w.heap[k]?:=fun k hk=>by rw [← hW1];exact Lib.alloc_old w.drew _ k hk
  obtain ⟨curA,hcurA⟩ : ∃ c : Array Value,(ROW.toList.take (i * 4) ++ ns ++ ROW.toList.drop (i * 4 + ns.length)).toArray = c:=⟨_,rfl⟩;have hszA : curA.size = G * 4:=by
    rw [← hcurA];simp only [List.size_toArray,List.length_append,List.length_take,hnl,List.length_drop,Array.length_toList,hRs];omega
  have hcpA : ∀ (W : World),(∀ k : Nat,W.heap[k]? = W1.heap[k]?) → ∀ ty dc,(Builtin.copy_ #[132,132] ty #[.slice (some ⟨w.heap.size,i * 4,none⟩) (n + 1 - i) dc,.slice (some ⟨vb,0,none⟩) 1 vc]).run Tryz.prog W = .ok (goInt 1) (W.setRow w.heap.size curA):=fun W hW ty dc=>by
    rw [← hcurA];exact run_copy_k W _ _ ty 138 Tryz.underlying132 tyEnt w.heap.size (i * 4) (n + 1 - i) dc ⟨vb,0,none⟩ 1 vc 1 ROW _ ns (by rw [hW];exact hN1) (by simp only [Nat.min_def];split <;> omega) (by rw [hnl,hz4]) (fun j v hj=>by
      rw [Go.WideShapes.add_plain];have h0:=hown2.cells (g:=vb) rfl j v hj;rw [Go.WideShapes.add_plain] at h0;rw [← h0];simp only [World.cell?,hW,hO1 vb hvw]) (by rw [hnl,hRs];omega) h1
  obtain ⟨W2,hW2⟩ : ∃ W2,W1.setRow w.heap.size curA = W2:=⟨_,rfl⟩;have hN2 : W2.heap[w.heap.size]? = some (.cells curA 138 (0,0)):=by rw [← hW2];exact setRow_heap W1 _ ROW curA _ _ hN1
  have hO2 : ∀ k,k < w.heap.size → W2.heap[k]? = w.heap[k]?:=fun k hk=>by rw [← hW2,setRow_other W1 _ k _ (by omega)];exact hO1 k hk
  obtain ⟨curn,hcurn⟩ : ∃ c : Array Value,(curA.toList.take ((i + 1) * 4) ++ cs.drop (i * 4) ++ curA.toList.drop ((i + 1) * 4 + (cs.drop (i * 4)).length)).toArray = c:=⟨_,rfl⟩;have hszn : curn.size = G * 4:=by
    rw [← hcurn];simp only [List.size_toArray,List.length_append,List.length_take,hdl,List.length_drop (l:=curA.toList),Array.length_toList,hszA];omega
  have hcpB : ∀ (W : World),(∀ k : Nat,W.heap[k]? = W2.heap[k]?) → ∀ ty dc sc,(Builtin.copy_ #[132,132] ty #[.slice (some ⟨w.heap.size,(i + 1) * 4,none⟩) (n - i) dc,.slice (some ⟨b,i * 4,none⟩) (n - i) sc]).run Tryz.prog W = .ok (goInt ((n - i : Nat) : Int)) (W.setRow w.heap.size curn):=fun W hW ty dc sc=>by
    rw [← hcurn];exact run_copy_k W _ _ ty 138 Tryz.underlying132 tyEnt w.heap.size ((i + 1) * 4) (n - i) dc ⟨b,i * 4,none⟩ (n - i) sc (n - i) curA _ (cs.drop (i * 4)) (by rw [hW];exact hN2) (by simp only [Nat.min_def];split <;> omega) (by rw [hdl,hz4]) (fun j v hj=>by
      rw [Go.WideShapes.add_plain];rw [List.getElem?_drop] at hj;have h0:=hown.cells (g:=b) rfl _ v hj;rw [Go.WideShapes.add_plain,Nat.zero_add] at h0;rw [← h0];simp only [World.cell?,hW,hO2 b hbw]) (by rw [hdl,hszA];omega) (fun v hv=>h1c v (List.mem_of_mem_drop hv))
  have hrow : curn.toList.take ((n + 1) * 4) = cs.take (i * 4) ++ ns ++ cs.drop (i * 4):=by
    have e1 : curA.toList.take ((i + 1) * 4) = cs.take (i * 4) ++ ns:=by
      have hlen : (ROW.toList.take (i * 4) ++ ns).length = (i + 1) * 4:=by
        rw [List.length_append,List.length_take,Array.length_toList,hRs,hnl];omega
      rw [← hcurA,← hlen,List.take_left,hRt]
    rw [← hcurn,e1,List.take_append_of_le_length (by simp only [List.length_append,List.length_take,hcl,hnl,hdl];omega),List.take_of_length_le (by simp only [List.length_append,List.length_take,hcl,hnl,hdl];omega)]
  have fin : ∀ W : World,(∀ k : Nat,W.heap[k]? = W2.heap[k]?) → W.heap.size = W2.heap.size → W.os = W2.os → W.tape = W2.tape → W.output = W2.output → RowTo w (W.setRow w.heap.size curn) (.slice (some ⟨b,0,none⟩) n cap) (.slice (some ⟨w.heap.size,0,none⟩) (n + 1) G) (n + 1) (cs.take (i * 4) ++ ns ++ cs.drop (i * 4)):=by
    intro W hW hs ho ht hu;have hsz : (W.setRow w.heap.size curn).heap.size = w.heap.size + 1:=by rw [show (W.setRow w.heap.size curn).heap.size = W.heap.size by simp,hs,← hW2,← hW1];simp
    refine ⟨⟨by simp only [List.length_append,List.length_take,hcl,hnl,hdl];omega,.inr ⟨w.heap.size,G,curn,rfl,Nat.zero_le _,setRow_heap W _ curA curn _ _ (by rw [hW];exact hN2),hGn,hGm,hszn,hrow⟩⟩,⟨?_,?_,?_,by omega,?_⟩,fun b' h=>.inr ?_,_,_,_,rfl⟩
    · show W.os = _;rw [ho,← hW2,← hW1];rfl
    · show W.tape = _;rw [ht,← hW2,← hW1];rfl
    · show W.output = _;rw [hu,← hW2,← hW1];rfl
    · intro k hk _;rw [setRow_other W _ k _ (by omega),hW];exact hO2 k hk
    · cases h;exact ⟨Nat.le_refl _,by rw [hsz];exact Nat.lt_succ_self _⟩
  have mixed : Tryz.prog.follows .mixedOrders = true:=by kernel_rfl
  have hz2 : ¬ ((i : Int) = (n : Int)):=by omega
  have hz3 : (cap : Int) < (n : Int) + 1:=by omega
  have hw1 : IntKind.i64.wrap ((i : Int) + 1) = (i : Int) + 1:=by rw [IntKind.wrap_i64];omega
  have hw2 : IntKind.i64.wrap ((n : Int) + 1) = (n : Int) + 1:=by rw [IntKind.wrap_i64];omega
  have hin : i ≤ n:=by omega
  have hb1' : (0 : Int) ≤ (i : Int) + 1:=by omega
  have htn : ((i : Int) + 1).toNat = i + 1:=by omega
  have hGi : ¬ (G = i):=by omega
  have hGim : ¬ (G = i + 1):=by omega
  have hci : ¬ (cap = i):=by omega
  have hb3 : (i : Int) ≤ (n : Int):=by omega
  have hG63 : G ≤ 9223372036854775807:=by unfold maxLen at hGm;omega
  rw [← hW1] at hW2;have hA : ∀ k : Nat,((w.alloc (.cells ROW 138)).drew).heap[k]? = W1.heap[k]?:=fun k=>by rw [← hW1];rfl
  have hB : ∀ k : Nat,(((w.alloc (.cells ROW 138)).drew.setRow w.heap.size curA).drew).heap[k]? = W2.heap[k]?:=fun k=>by rw [← hW2];rfl
  have hfin:=fin _ hB (by rw [← hW2];rfl) (by rw [← hW2];rfl) (by rw [← hW2];rfl) (by rw [← hW2];rfl);have hcA:=hcpA _ hA;have hcB:=hcpB _ hB;rw [hW1] at hrz;rw [← hW1] at hrz;clear hcpA hcpB fin hA hB hkk hik hold hG hROW hRs hRt hcurA hcurn hW1 hW2 hN1 hN2 hO1 hO2 hown hown2 h1 h1c hrow hdl hcl hnl htk htk2 hroom
  go_enter Tryz.func91,Tryz.ntmps91
  go_wp2_with (first
    | (at_builtin;refine Lib.wpList_append_run _ rfl _ _ _ _ rfl _ _ rfl rfl _ _ (hrz _) ?_)
    | (at_builtin;refine wpList_copy_runI _ rfl _ _ 132 132 rfl _ _ rfl rfl (hcA _ _) ?_))
  go_region_law_o (refine step_copy_runI rfl _ _ 132 132 rfl (.slice (some ⟨w.heap.size,(i + 1) * 4,none⟩) (n - i) (G - (i + 1))) (.slice (some ⟨b,i * 4,none⟩) (n - i) (cap - i)) (by simp [Act.eval,Act.put]) (by simp [Act.eval,Act.put]) (hcB _ _ _) ?_)
  go_wp2
  go_ret
  exact ⟨_,rfl,hfin⟩
end Q
end Ab
end Go.Proofs.YtojipboabgebfaaGreatDoor
namespace Go.Proofs.YtojipboabgebfaaGreatDoor
open Go.RowKit
namespace Ab
set_option maxRecDepth 100000
namespace Q
theorem flat_take {n : Nat} : ∀ (css : List (List Value)) (k : Nat),(∀ c ∈ css,c.length = n) → (css.take k).flatten = css.flatten.take (k * n)
  | [],_,_=>by simp
  | c :: r,0,_=>by simp
  | c :: r,k + 1,h=>by
    have h0 : c.length = n:=h c (by simp);have ih:=flat_take r k fun d hd=>h d (by simp [hd])
    rw [List.take_succ_cons,List.flatten_cons,List.flatten_cons,ih,Nat.add_mul,Nat.one_mul,Nat.add_comm (k * n) n]
    conv=>rhs;rw [← h0]
    rw [List.take_length_add_append,h0]
theorem flat_drop {n : Nat} : ∀ (css : List (List Value)) (k : Nat),(∀ c ∈ css,c.length = n) → (css.drop k).flatten = css.flatten.drop (k * n)
  | [],_,_=>by simp
  | c :: r,0,_=>by simp
  | c :: r,k + 1,h=>by
    have h0 : c.length = n:=h c (by simp);have ih:=flat_drop r k fun d hd=>h d (by simp [hd])
    rw [List.drop_succ_cons,List.flatten_cons,ih,Nat.add_mul,Nat.one_mul,Nat.add_comm (k * n) n,← List.drop_drop,← h0,List.drop_left,h0]
section
variable {cx : Cx} {ob : Obs} {nx : Nat} {ρ : Nat → Option Value} {w w' : World}
theorem ent_lens {ok : Oks} {xs : List Ent} {css : List (List Value)} (h1 : css.length = xs.length) (h2 : ∀ i (h : i < xs.length),rEnt.is ok w (css.getD i []) xs[i]) : ∀ c ∈ css,c.length = 4:=css_lens h1 h2
theorem ent_ones {ok : Oks} {xs : List Ent} {css : List (List Value)} (h1 : css.length = xs.length) (h2 : ∀ i (h : i < xs.length),rEnt.is ok w (css.getD i []) xs[i]) : ∀ v ∈ css.flatten,v.oneCell' = true:=css_ones h1 h2
theorem row_st (hs : StOk cx [] ob nx ρ ⟨#[],[]⟩ w) {xs xs' : List Ent} (hg : getO ob 0 = some (.vec 138 rEnt xs)) {v u : Value} (hv : ρ 0 = some v) {css' : List (List Value)} (hl : css'.length = xs'.length)
    (hR : ∀ i (h : i < xs'.length),rEnt.is (okOf cx ρ ob) w (css'.getD i []) xs'[i]) (hrow : RowTo w w' v u xs'.length css'.flatten) :
    ∃ ρ',StOk cx [] (setO 0 (.vec 138 rEnt xs') (subOb 0 .any ob)) nx ρ' ⟨#[],[]⟩ w' ∧ (C.vec 0).rep (okOf cx ρ' (setO 0 (.vec 138 rEnt xs') (subOb 0 .any ob))) ρ' w' u:=by
  obtain ⟨h1,h2,h3,h4⟩:=hrow;rw [← hv] at h2;have h3' : ∀ b,blk (some u) = some b → blk (ρ 0) = some b ∨ (w.heap.size ≤ b ∧ b < w'.heap.size):=by rw [hv];exact h3
  have hkp:=okOf_swap (o':=.vec 138 rEnt xs') hs hg h2 (fun b hb=>(h3' b hb).imp (fun h=>h) (·.1));refine ⟨upd ρ 0 u,hs.swap hg h2 h3' ⟨u,yU,css',hl,fun i hi=>Rd.kept _ hkp (hR i hi),h1⟩,yU,h4⟩
end
theorem getD_app {α : Type} (a b : List α) (i : Nat) (d : α) : (a ++ b).getD i d = if i < a.length then a.getD i d else b.getD (i - a.length) d:=by
  simp only [List.getD_eq_getElem?_getD];split
  · rename_i h;rw [List.getElem?_append_left h]
  · rename_i h;rw [List.getElem?_append_right (by omega)]
theorem delete_x (xs : List Ent) (i j : Nat) (hij : i < j) (hj : j ≤ xs.length) : ACallX Tryz.prog 90 [.one (.vec 0),ii .i64 i,ii .i64 j] [(0,.vec 138 rEnt xs)] 1 (.one (.vec 0)) [(0,.vec 138 rEnt (xs.take i ++ xs.drop j))] 1 []:=by
  refine ⟨⟨_,Tryz.func90,rfl,rfl⟩,fun cx ρ w vs _ _ _ hs hvs=>?_⟩;obtain ⟨v,r1,rfl,⟨hv,_⟩,vi,r2,rfl,hvi,vj,r3,rfl,hvj,hr3⟩:=hvs;rw [show r3 = [] from hr3,show vi = _ from hvi,show vj = _ from hvj];obtain ⟨v',hv',css,h1,h2,hown⟩ : ∃ v,ρ 0 = some v ∧ VecOk (okOf cx ρ [(0,.vec 138 rEnt xs)]) w v 138 rEnt xs:=hs.obs (0,.vec 138 rEnt xs) (by simp);rw [hv] at hv';obtain rfl:=Option.some.inj hv';have hfl:=ent_lens h1 h2;have hon:=ent_ones h1 h2;rcases id hown.2 with ⟨_,h0⟩|⟨b,cap,cur,rfl,_⟩
  · omega
  obtain ⟨cur,hb,hnc,hcm,hcz,htk,hcl⟩:=rowCells hown;refine (del_w b cap xs.length i j cur w hb hcz hnc hcm hij hj (by rw [htk];exact hon)).mono ?_
  rintro e w' ⟨rfl,cur',hgr,hb',hcz',hrow⟩
  have hnl : xs.length - (j - i) = (xs.take i ++ xs.drop j).length:=by rw [List.length_append,List.length_take,List.length_drop];omega
  have hf : (css.take i ++ css.drop j).flatten = cur.toList.take (i * 4) ++ (cur.toList.drop (j * 4)).take ((xs.length - j) * 4):=by
    rw [List.flatten_append,flat_take css i hfl,flat_drop css j hfl,← htk,take4 _ _ _ (by omega),List.drop_take]
    congr 2
    omega
  have hown' : w'.ownsRow 0 138 4 (.slice (some ⟨b,0,none⟩) (xs.length - (j - i)) cap) (xs.length - (j - i)) (css.take i ++ css.drop j).flatten:=by
    rw [hf,← hrow];have hcl' : cur'.toList.length = cap * 4:=by simpa using hcz'
    exact ⟨by rw [List.length_take,hcl'];omega,.inr ⟨b,cap,cur',rfl,Nat.zero_le _,hb',by omega,hcm,hcz',rfl⟩⟩
  rw [hnl] at hown' ⊢;obtain ⟨ρ',h3,h4⟩:=row_st (xs':=xs.take i ++ xs.drop j) (css':=css.take i ++ css.drop j) (u:=.slice (some ⟨b,0,none⟩) (xs.take i ++ xs.drop j).length cap) hs rfl hv (by simp [h1]) (fun k hk=>by
    rw [List.length_append,List.length_take,List.length_drop] at hk;rw [getD_app,List.getElem_append];simp only [List.length_take,h1];split
    · rename_i hlt;have:=h2 k (by omega);rw [List.getElem_take];rw [List.getD_eq_getElem?_getD] at this ⊢;rw [List.getElem?_take_of_lt (by omega)];exact this
    · rename_i hlt;have:=h2 (j + (k - min i xs.length)) (by omega);rw [List.getElem_drop];rw [List.getD_eq_getElem?_getD] at this ⊢;rw [List.getElem?_drop];exact this) ⟨hown',hgr,fun _ h=>.inl h,_,_,_,rfl⟩
  exact ⟨_,ρ',rfl,h3,h4,fun k hk=>by cases hk⟩
theorem insert_x (xs : List Ent) (e : Ent) (i : Nat) (hi : i ≤ xs.length) (hn : xs.length ≤ 1000000) : ACallX Tryz.prog 91 [.one (.vec 0),ii .i64 i,.one (.vec 1)] [(0,.vec 138 rEnt xs),(1,.vec 138 rEnt [e])] 2 (.one (.vec 0)) [(0,.vec 138 rEnt (insE xs i e)),(1,.vec 138 rEnt [e])] 2 []:=by
  refine ⟨⟨_,Tryz.func91,rfl,rfl⟩,fun cx ρ w vs _ _ _ hs hvs=>?_⟩;obtain ⟨v,r1,rfl,⟨hv,_⟩,vi,r2,rfl,hvi,v2,r3,rfl,⟨hv2,_⟩,hr3⟩:=hvs;rw [show r3 = [] from hr3,show vi = _ from hvi];obtain ⟨v',hv',css,h1,h2,hown⟩ : ∃ v,ρ 0 = some v ∧ VecOk (okOf cx ρ [(0,.vec 138 rEnt xs),(1,.vec 138 rEnt [e])]) w v 138 rEnt xs:=hs.obs (0,.vec 138 rEnt xs) (by simp);rw [hv] at hv';obtain rfl:=Option.some.inj hv';obtain ⟨v2',hv2',ess,g1,g2,hown2⟩ : ∃ v,ρ 1 = some v ∧ VecOk (okOf cx ρ [(0,.vec 138 rEnt xs),(1,.vec 138 rEnt [e])]) w v 138 rEnt [e]:=hs.obs (1,.vec 138 rEnt [e]) (by simp);rw [hv2] at hv2';obtain rfl:=Option.some.inj hv2';obtain ⟨es,rfl⟩ : ∃ es,ess = [es]:=List.length_eq_one_iff.1 g1;have hge:=g2 0 Nat.one_pos;have hel : es.length = 4:=Rd.len rEnt hge;have hfl:=ent_lens h1 h2;have hon:=ent_ones h1 h2;have hon2:=ent_ones g1 g2;rcases id hown2.2 with ⟨_,h0⟩|⟨vb,vc,cur2,hv2e,_⟩
  · simp at h0
  have hv2e : v2 = .slice (some ⟨vb,0,none⟩) 1 vc:=hv2e;subst hv2e;rw [show ([es] : List (List Value)).flatten = es by simp] at hown2 hon2;have hrow : Calls Tryz.prog 91 #[v,.int .i64 i,.slice (some ⟨vb,0,none⟩) 1 vc] w fun e' w'=>∃ u,e' = .returned u ∧ RowTo w w' v u (xs.length + 1) (css.flatten.take (i * 4) ++ es ++ css.flatten.drop (i * 4)):=by
    have hcl : css.flatten.length = xs.length * 4:=hown.1;rcases Nat.lt_or_ge i xs.length with hlt|hge'
    · rcases id hown.2 with ⟨_,h0⟩|⟨b,cap,cur,rfl,_⟩
      · omega
      have hne : vb ≠ b:=fun e'=>hs.sep (0,.vec 138 rEnt xs) (by simp) (1,.vec 138 rEnt [e]) (by simp) Nat.zero_ne_one b (by rw [hv];rfl) (by rw [hv2,e'];rfl)
      by_cases hroom : xs.length + 1 ≤ cap
      · exact ins_shift xs.length i b cap css.flatten es vb vc w hlt hroom hown hown2 hne hon2 hon
      · exact ins_grow xs.length i b cap css.flatten es vb vc w hlt (by omega) hn hown hown2 hon2 hon
    · obtain rfl : i = xs.length:=by omega
      have:=ins_end xs.length v css.flatten es vb vc w hown hown2 hon2 hn;rw [List.take_of_length_le (by omega),List.drop_of_length_le (by omega),List.append_nil];exact this
  refine hrow.mono ?_
  rintro e' w' ⟨u,rfl,hrt⟩
  have hf : (css.take i ++ es :: css.drop i).flatten = css.flatten.take (i * 4) ++ es ++ css.flatten.drop (i * 4):=by
    rw [List.flatten_append,List.flatten_cons,flat_take css i hfl,flat_drop css i hfl,List.append_assoc]
  have hnl : xs.length + 1 = (insE xs i e).length:=by unfold insE;rw [List.length_append,List.length_cons,List.length_take,List.length_drop];omega
  rw [← hf,hnl] at hrt;obtain ⟨ρ',h3,h4⟩:=row_st (xs':=insE xs i e) hs rfl hv (by rw [← hnl];simp [h1];omega) (fun k hk=>by
    rw [← hnl] at hk;simp only [insE,getD_app,List.getElem_append,List.length_take,h1];split
    · rename_i hlt;have:=h2 k (by omega);rw [List.getElem_take];rw [List.getD_eq_getElem?_getD] at this ⊢;rw [List.getElem?_take_of_lt (by omega)];exact this
    · rename_i hlt;obtain ⟨q,hq⟩ : ∃ q,k - min i xs.length = q:=⟨_,rfl⟩;simp only [hq];cases q with
      | zero=>exact hge
      | succ q =>
        have:=h2 (i + q) (by omega);simp only [List.getElem_cons_succ,List.getD_cons_succ,List.getElem_drop];rw [List.getD_eq_getElem?_getD] at this ⊢;rw [List.getElem?_drop];exact this) hrt
  exact ⟨_,ρ',rfl,h3,h4,fun k hk=>by cases hk⟩
theorem cloneE_o {k : Nat} (es : List Ent) (hl : es.length ≤ 1000000) : qU Tryz.prog 108 [.one (.slk k rEnt es)] [] 0 (.one (.vec 0)) [(0,.vec 138 rEnt es)] 1:=by
  refine qV (rs:=[2]) Tryz.func108 rfl rfl rfl teOk (by decide) rfl ?_;refine qB ?_;refine qK ?_;refine qK ?_;refine acode_isnil (q:=k) [_] _ (R:=rEnt) (xs:=es) rfl rfl rfl rfl (e:=138) rfl rfl ?_;refine ⟨rfl,fun b hb=>?_⟩;refine qJ rfl (fun h4=>?_) (fun h4=>?_)
  ·have hl0:=hb h4;subst hl0;refine qB ?_;refine xR 2 138 rEnt rfl ?_;refine qL ?_;exact ⟨rfl,rfl,rfl⟩
  ·refine qO ?_;refine qB ?_;refine zai (by first|exact qT (show es.length ≤ 1000000000 by omega) (by decide)|exact qT (show 0 + es.length ≤ 1000000000 by omega) (by decide)) ?_;refine qL ?_;exact ⟨rfl,rfl,rfl⟩
def itEs (es : List Ent) : List (List A):=(es.filter live).map fun e=>[A.agg (toL rEnt e)]
def cntL (es : List Ent) : Nat:=(es.filter live).length
theorem cntL_snoc {es : List Ent} {i : Nat} (h : i < es.length) : cntL (es.take (i + 1)) = cntL (es.take i) + if live (es.getD i (((0 : Int),ByteArray.empty,([] : List Fld)),(0 : Int))) then 1 else 0:=by
  unfold cntL;rw [← xD (((0 : Int),ByteArray.empty,([] : List Fld)),(0 : Int)) h,List.filter_append,List.length_append]
  generalize es.getD i (((0 : Int),ByteArray.empty,([] : List Fld)),(0 : Int)) = x
  cases hk : live x <;> simp [hk]
theorem itEs_at {es : List Ent} {i : Nat} (h : i < es.length) (hl : live (es.getD i (((0 : Int),ByteArray.empty,([] : List Fld)),(0 : Int))) = true) : ∃ hk : cntL (es.take i) < (itEs es).length,(itEs es)[cntL (es.take i)] = [A.agg (toL rEnt (es.getD i (((0 : Int),ByteArray.empty,([] : List Fld)),(0 : Int))))]:=by
  obtain ⟨h1,h2⟩:=filter_at live (((0 : Int),ByteArray.empty,([] : List Fld)),(0 : Int)) es i h hl;have h1' : cntL (es.take i) < (es.filter live).length:=h1;refine ⟨by unfold itEs;rw [List.length_map];exact h1',?_⟩;have h3 : (es.filter live)[cntL (es.take i)]'h1' = es.getD i (((0 : Int),ByteArray.empty,([] : List Fld)),(0 : Int)):=(getD_get h1' (((0 : Int),ByteArray.empty,([] : List Fld)),(0 : Int))).trans h2;exact (List.getElem_map (fun e=>[A.agg (toL rEnt e)])).trans (congrArg (fun e=>[A.agg (toL rEnt e)]) h3)
theorem all_iter {k : Nat} (es : List Ent) (n m : Int) : AIter Tryz.prog 141 [.one (.ref (.adk k (rLst k) (es,n,m)))] (itEs es):=by
  refine aiter_of Tryz.func141 rfl rfl rfl teOk rfl ?_;intro l ι Pr J U n0 hU hab hy;refine yS ?_;refine yS ?_;refine xI hab hU rfl ?_;refine qM ?_;refine ⟨_,_,_,le_refl,?_⟩;refine acodeY_cond rfl (fun h6=>?_) (fun h6=>?_)
  ·simp at h6
  refine acodeY_skip ?_;refine yS ?_;refine xI hab hU rfl ?_;refine qM ?_;intro hln;have hln : es.length ≤ 9223372036854775807:=hln;refine ⟨_,_,_,le_refl,?_⟩;refine acodeY_block ?_;refine acodeY_loop (κ:=Nat) (fun i=>i ≤ es.length) (fun i=>cntL (es.take i)) (fun i=>[(0,.one (.lit (.func (.yield l) #[] #[]))),(10,.one (.slk k rEnt es)),(11,ii .i64 es.length),(12,ii .i64 i)]) (fun _=>[]) 0 (fun i=>es.length - i) 0 (Nat.zero_le _) hab hU (qP ⟨rfl,rfl,rfl,rfl⟩ trivial rfl) rfl ?_;intro i hi;have hi : i ≤ es.length:=hi;refine acodeY_lowQ hab hU ?_;refine yS ?_;refine xI hab hU rfl ?_;refine qM ?_;refine ⟨_,_,_,le_refl,?_⟩;refine yS ?_;refine acodeY_cond rfl (fun h13=>?_) (fun h13=>?_)
  ·simp only [decide_eq_true_eq] at h13;have hlt : i < es.length:=by omega
   have hsn:=cntL_snoc hlt;refine acodeY_skip ?_;refine yS ?_;refine acodeY_block ?_;refine yS ?_;refine xI hab hU rfl ?_;refine qM ?_;refine zai (by omega) ?_;refine ⟨_,_,_,le_refl,?_⟩;refine yS ?_;refine acodeY_yieldG (pre:=[_,_,_,_,_,_]) (post:=[_,_]) _ (live (es.getD i (((0 : Int),ByteArray.empty,([] : List Fld)),(0 : Int)))) rfl rfl rfl rfl rfl hab hU hy ?_;refine zai (fun _=>trivial) ?_;refine zai (fun _=>trivial) ?_;refine ⟨_,_,_,le_refl,⟨_,rfl,rfl⟩,fun hq=>?_,fun hq=>?_⟩
   ·obtain ⟨hk,hx⟩:=itEs_at hlt hq;refine ⟨hk,⟨⟨hq,trivial⟩,⟨hq,trivial⟩,trivial⟩,rfl,hx.symm,by rw [hx];rfl,fun st=>?_⟩;refine zai (fun _=>⟨⟨rfl,trivial⟩,trivial⟩) ?_;refine zai (fun h=>h) ?_;refine ⟨_,_,_,le_refl,?_⟩;refine acodeY_cond rfl (fun h24=>?_) (fun h24=>?_)
    ·have h24 : (live (es.getD i (((0 : Int),ByteArray.empty,([] : List Fld)),(0 : Int))) && !!st) = true:=h24;rw [hq,Bool.true_and,Bool.not_not] at h24;subst h24;refine acodeY_ret ?_;exact ⟨_,.inl rfl,.inl rfl,fun e=>by cases e⟩
    ·have h24 : (live (es.getD i (((0 : Int),ByteArray.empty,([] : List Fld)),(0 : Int))) && !!st) = false:=h24;rw [hq,Bool.true_and,Bool.not_not] at h24;subst h24;refine acodeY_skip ?_;refine xI hab hU rfl ?_;refine qM ?_;refine zai (by omega) ?_;refine ⟨_,_,_,qP (tm':=[(0,.one (.lit (.func (.yield l) #[] #[]))),(10,.one (.slk k rEnt es)),(11,ii .i64 es.length),(12,ii .i64 (i + 1 : Nat))]) (ob':=[]) (nx':=1) ⟨rfl,rfl,rfl,yW (by omega)⟩ trivial rfl,0,.inr rfl,⟨i + 1,hlt,by omega,rfl,?_,rfl,rfl,rfl⟩⟩;rw [hsn,if_pos hq]
   ·refine zai (fun h=>absurd (h.symm.trans hq) (by decide)) ?_;refine zai (fun h=>h) ?_;refine ⟨_,_,_,le_refl,?_⟩;refine acodeY_cond rfl (fun h24=>?_) (fun h24=>?_)
    ·have h24 : (live (es.getD i (((0 : Int),ByteArray.empty,([] : List Fld)),(0 : Int))) && _) = true:=h24;rw [hq] at h24;cases h24
    ·refine acodeY_skip ?_;refine xI hab hU rfl ?_;refine qM ?_;refine zai (by omega) ?_;refine ⟨_,_,_,qP (tm':=[(0,.one (.lit (.func (.yield l) #[] #[]))),(10,.one (.slk k rEnt es)),(11,ii .i64 es.length),(12,ii .i64 (i + 1 : Nat))]) (ob':=[]) (nx':=1) ⟨rfl,rfl,rfl,yW (by omega)⟩ trivial rfl,0,.inr rfl,⟨i + 1,hlt,by omega,rfl,?_,rfl,rfl,rfl⟩⟩;rw [hsn,if_neg (by rw [hq];decide)];rfl
  ·simp only [decide_eq_false_iff_not] at h13;refine acodeY_exit ?_;refine ⟨_,.inl rfl,.inr rfl,fun _=>?_⟩;rw [List.take_of_length_le (by omega)];simp only [itEs,List.length_map,cntL]
theorem all_c {k : Nat} (L : Lst) : qY Tryz.prog 103 [.one (.adk k (rLst k) L)] (.one (.clo 141 (.ref (.adk k (rLst k) L)))):=by
  refine qX (rs:=[2]) Tryz.func103 rfl rfl rfl teOk rfl ?_;refine qB ?_;refine qB ?_;refine xZ [0] ?_;refine qL ?_;rfl
theorem index_E (f : FuncId) {k : Nat} {β : Type} (S : Rd β) (y : β) (l : List Ent) (p : Ent → Bool) (hp : ∀ x ∈ l,qY Tryz.prog f [.agg (toL rEnt x),.one (.addr S y)] (ib (p x))) : qY Tryz.prog 130 [.one (.slk k rEnt l),.one (.clo f (.addr S y))] (ii .i64 (ixOf p l)):=by
  refine qX (rs:=[4]) Tryz.func130 rfl rfl rfl teOk rfl ?_;refine qB ?_;refine qK ?_;refine qB ?_;intro l1_1
  try simp only [zds] at l1_1
  refine qR ?_;refine yJ (fun (i : Nat)=>i ≤ l.length ∧ (l.take i).any p = false) (fun (i : Nat)=>[(0,.one (.slk k rEnt l)),(1,.one (.clo f (.addr S y))),(7,ii .i64 l.length),(8,ii .i64 i)]) (fun (i : Nat)=>[]) 0 (fun (i : Nat)=>l.length - i) 0 (⟨Nat.zero_le _,rfl⟩) (qP ⟨rfl,rfl,rfl,rfl⟩ trivial rfl) ?_;intro i hI0;obtain ⟨hi,hn⟩:=hI0;refine qB ?_;refine qK ?_;refine qJ rfl (fun h9=>?_) (fun h9=>?_)
  ·try simp only [decide_eq_true_eq] at h9
   try simp only [zds] at h9
   refine qO ?_;refine qK ?_;refine qR ?_;refine qB ?_;refine qB ?_;refine zob ?_;refine Or.inl ?_;refine zai (rfl) ?_;refine zei _ (zai (hp _ (yZ (show i < l.length by omega) _)) ?_);refine qJ rfl (fun h16=>?_) (fun h16=>?_)
   ·try simp only [zbq] at h16
    try simp only [Int.toNat_natCast,qH,qG,qF,qE] at h16
    refine qB ?_;refine qL ?_;exact yW (ixOf_at (((0 : Int),ByteArray.empty,([] : List Fld)),(0 : Int)) (by omega) hn h16).symm
   ·try simp only [zbq] at h16
    try simp only [Int.toNat_natCast,qH,qG,qF,qE] at h16
    refine qO ?_;refine qM ?_;refine zob ?_;exact ⟨i + 1,⟨by omega,by rw [take_any l p (((0 : Int),ByteArray.empty,([] : List Fld)),(0 : Int)) i (by omega),hn];exact h16⟩,by first|omega|(simp <;> omega),qP ⟨rfl,rfl,rfl,rfl⟩ trivial rfl⟩
  ·try simp only [decide_eq_false_iff_not,Int.not_lt] at h9
   try simp only [zds] at h9
   refine yP ?_;refine qB ?_;refine qL ?_;have e : i = l.length:=by omega
   subst e;rw [List.take_length] at hn;exact yW (ixOf_none hn).symm
theorem at1_c (id : Int) (e : Ent) : qY Tryz.prog 131 [.agg (toL rEnt e),.one (.addr (.int .i64) id)] (ib (hasId id e)):=by
  refine qX (rs:=[3]) Tryz.func131 rfl rfl rfl teOk rfl ?_;refine qB ?_;refine qB ?_;refine qL ?_;rfl
theorem at_c {k : Nat} (es : List Ent) (n m id : Int) : qY Tryz.prog 88 [.one (.adk k (rLst k) (es,n,m)),ii .i64 id] (ii .i64 (atE es id)):=by
  refine qX (rs:=[4]) Tryz.func88 rfl rfl rfl teOk rfl ?_;refine qB ?_;refine qK ?_;refine qB ?_;refine zai (fun h=>trivial) ?_;refine zai (fun h=>⟨⟨h,trivial⟩,trivial⟩) ?_;refine zai (by first|(intro h;rw [h];rfl)|(intro h;cases h)) ?_;refine qJ rfl (fun h10=>?_) (fun h10=>?_)
  ·try simp only [decide_eq_true_eq,Bool.or_eq_true] at h10
   try simp only [zds] at h10
   have h10 : id < 1:=h10.elim (fun h=>by cases h) (fun h=>h);refine qB ?_;refine qL ?_;exact yW (by unfold atE;rw [if_pos h10])
  ·try simp only [decide_eq_false_iff_not,Bool.or_eq_false_iff,Int.not_lt] at h10
   try simp only [zds] at h10
   have h10 : ¬ id < 1:=(by simp at h10;omega);refine qO ?_;refine qB ?_;refine Or.inl ?_;refine zai (rfl) ?_;refine zei _ (zai (index_E _ (.int .i64) id es (hasId id) (fun x _=>at1_c id x)) ?_);refine qL ?_;exact yW (by unfold atE;rw [if_neg h10])
theorem next_c {k : Nat} (es : List Ent) (n m : Int) : qY Tryz.prog 61 [.one (.adk k (rLst k) (es,n,m))] (ii .i64 n):=by
  refine qX (rs:=[2]) Tryz.func61 rfl rfl rfl teOk rfl ?_;refine qB ?_;refine qK ?_;refine qB ?_;refine qJ rfl (fun h4=>?_) (fun h4=>?_)
  ·try simp only [zbq] at h4
   try simp only [zds] at h4
   simp at h4
  ·skip
   refine qO ?_;refine qB ?_;refine qL ?_;rfl
theorem len_c {k : Nat} (es : List Ent) (n m : Int) : qY Tryz.prog 62 [.one (.adk k (rLst k) (es,n,m))] (ii .i64 m):=by
  refine qX (rs:=[2]) Tryz.func62 rfl rfl rfl teOk rfl ?_;refine qB ?_;refine qK ?_;refine qB ?_;refine qJ rfl (fun h4=>?_) (fun h4=>?_)
  ·try simp only [zbq] at h4
   try simp only [zds] at h4
   simp at h4
  ·skip
   refine qO ?_;refine qB ?_;refine qL ?_;rfl
theorem at_lt {es : List Ent} {id : Int} (h : ¬ atE es id < 0) : ∃ i : Nat,i < es.length ∧ atE es id = i ∧ 0 < id ∧ (es.getD i (((0 : Int),ByteArray.empty,([] : List Fld)),(0 : Int))).2 = id:=by
  rcases at_cases es id with ⟨h1,_⟩|⟨i,h1,h2,h3,h4,_⟩
  · omega
  · exact ⟨i,h1,h2,h3,h4⟩
theorem itEs_len (es : List Ent) : (itEs es).length = (es.filter live).length:=List.length_map _
theorem itEs_get (es : List Ent) {i : Nat} (h : i < (itEs es).length) : ∃ e ∈ es,(es.filter live).getD i (((0 : Int),ByteArray.empty,([] : List Fld)),(0 : Int)) = e ∧ i < (es.filter live).length ∧ (itEs es)[i] = [A.agg (toL rEnt e)]:=by
  have h1 : i < (es.filter live).length:=by rw [← itEs_len];exact h
  refine ⟨_,(List.mem_filter.1 (yZ h1 (((0 : Int),ByteArray.empty,([] : List Fld)),(0 : Int)))).1,rfl,h1,?_⟩;exact (List.getElem_map (fun e=>[A.agg (toL rEnt e)])).trans (congrArg (fun e=>[A.agg (toL rEnt e)]) (getD_get h1 (((0 : Int),ByteArray.empty,([] : List Fld)),(0 : Int))))
def stT (es : List Ent) (i : Nat) : List Stz:=((es.filter live).take i).map stzOf
theorem stT_snoc {es : List Ent} {i : Nat} (h : i < (es.filter live).length) : stT es (i + 1) = stT es i ++ [stzOf ((es.filter live).getD i (((0 : Int),ByteArray.empty,([] : List Fld)),(0 : Int)))]:=by
  unfold stT;rw [← xD (((0 : Int),ByteArray.empty,([] : List Fld)),(0 : Int)) h,List.map_append];rfl
theorem stT_len {es : List Ent} {i : Nat} : (stT es i).length ≤ i:=by
  unfold stT;rw [List.length_map,List.length_take];omega
theorem live_len (es : List Ent) : (es.filter live).length ≤ es.length:=List.length_filter_le _ _
theorem stanzasL_c {k : Nat} (es : List Ent) (n m : Int) (hl : es.length ≤ 1000000) (hf : ∀ e ∈ es,e.1.2.2.length ≤ 1000000) : qY Tryz.prog 58 [.one (.adk k (rLst k) (es,n,m))] (.one (.sl rStz (stzL es))):=by
  have hll:=live_len es;refine qX (rs:=[2]) Tryz.func58 rfl rfl rfl teOk rfl ?_;refine qB ?_;refine qB ?_;refine qK ?_;refine qB ?_;refine Or.inl ?_;refine zai (rfl) ?_;refine zei _ (zai (all_c (es,n,m)) ?_);refine qR ?_;refine yN 0 0 78 rStz rfl rfl rfl ?_;refine acode_range (caps:=[.one (.ref (.adk k (rLst k) (es,n,m)))]) (xs:=itEs es) [(3,.one (.own 0 0)),(6,.one (.clo 141 (.ref (.adk k (rLst k) (es,n,m)))))] 2 (fun st j (i : Nat)=>st = false ∧ i = j) (fun i=>[(0,.box 68 [.vec 1]),(1,.vec 78 rStz (stT es i))]) (fun _=>.ret) 0 rfl rfl (all_iter es n m) (qP ⟨rfl,rfl⟩ ⟨rfl,rfl⟩ rfl) ⟨rfl,rfl⟩ (fun j hj=>by simp [itEs]) rfl rfl rfl (fun _ _ _=>rfl) rfl ?_ ?_ ?_
  ·intro j i hk hp;obtain ⟨_,rfl⟩:=hp;obtain ⟨e,he,hg,hi,hx⟩:=itEs_get es hk;rw [hx];have hsn:=stT_snoc hi;rw [hg] at hsn;have hsl:=@stT_len es i;refine qM ?_;refine qR ?_;refine yG rfl ?_;refine qN 1 rfl ?_;refine qN 3 rfl ?_;refine qN 4 rfl ?_;refine qC [0,2,5] ?_;refine zai ?_ ?_
   ·refine qC [2,5] ?_;refine zai ?_ ?_
    ·refine qC [5] ?_;refine qC [6] ?_;refine Or.inl ?_;refine zai (rfl) ?_;refine zei _ (zai (yA e.1.2.2 (hf e he)) ?_);refine qC [7] ?_;refine qC [8] ?_;refine qC [9] ?_;refine zai (by exact qT (show (stT es i).length + 1 ≤ 1000000000 by omega) (by decide)) ?_;refine qC [10] ?_;refine qQ ?_;exact ⟨i + 1,⟨rfl,rfl⟩,qP trivial ⟨rfl,qS (by rw [hsn];exact rfl)⟩ rfl⟩
    ·refine qC [2,6] ?_;refine zai ?_ ?_
     ·refine qC [6] ?_;refine Or.inl ?_;refine zai (rfl) ?_;refine zei _ (zai (yA e.1.2.2 (hf e he)) ?_);refine qC [7] ?_;refine qC [8] ?_;refine qC [9] ?_;refine zai (by exact qT (show (stT es i).length + 1 ≤ 1000000000 by omega) (by decide)) ?_;refine qC [10] ?_;refine qQ ?_;exact ⟨i + 1,⟨rfl,rfl⟩,qP trivial ⟨rfl,qS (by rw [hsn];exact rfl)⟩ rfl⟩
     ·refine Or.inl ?_;refine zai (rfl) ?_;refine zei _ (zai (yA e.1.2.2 (hf e he)) ?_);refine qC [2] ?_;refine qC [7] ?_;refine qC [8] ?_;refine qC [9] ?_;refine zai (by exact qT (show (stT es i).length + 1 ≤ 1000000000 by omega) (by decide)) ?_;refine qC [10] ?_;refine qQ ?_;exact ⟨i + 1,⟨rfl,rfl⟩,qP trivial ⟨rfl,qS (by rw [hsn];exact rfl)⟩ rfl⟩
   refine zai ?_ ?_
   ·refine qC [0,5] ?_;refine zai ?_ ?_
    ·refine qC [5] ?_;refine qC [6] ?_;refine Or.inl ?_;refine zai (rfl) ?_;refine zei _ (zai (yA e.1.2.2 (hf e he)) ?_);refine qC [7] ?_;refine qC [8] ?_;refine qC [9] ?_;refine zai (by exact qT (show (stT es i).length + 1 ≤ 1000000000 by omega) (by decide)) ?_;refine qC [10] ?_;refine qQ ?_;exact ⟨i + 1,⟨rfl,rfl⟩,qP trivial ⟨rfl,qS (by rw [hsn];exact rfl)⟩ rfl⟩
    ·refine qC [0,6] ?_;refine zai ?_ ?_
     ·refine qC [6] ?_;refine Or.inl ?_;refine zai (rfl) ?_;refine zei _ (zai (yA e.1.2.2 (hf e he)) ?_);refine qC [7] ?_;refine qC [8] ?_;refine qC [9] ?_;refine zai (by exact qT (show (stT es i).length + 1 ≤ 1000000000 by omega) (by decide)) ?_;refine qC [10] ?_;refine qQ ?_;exact ⟨i + 1,⟨rfl,rfl⟩,qP trivial ⟨rfl,qS (by rw [hsn];exact rfl)⟩ rfl⟩
     ·refine Or.inl ?_;refine zai (rfl) ?_;refine zei _ (zai (yA e.1.2.2 (hf e he)) ?_);refine qC [0,7] ?_;refine zai ?_ ?_
      ·refine qC [7] ?_;refine qC [8] ?_;refine qC [9] ?_;refine zai (by exact qT (show (stT es i).length + 1 ≤ 1000000000 by omega) (by decide)) ?_;refine qC [10] ?_;refine qQ ?_;exact ⟨i + 1,⟨rfl,rfl⟩,qP trivial ⟨rfl,qS (by rw [hsn];exact rfl)⟩ rfl⟩
      ·refine qC [0,8] ?_;refine zai ?_ ?_
       ·refine qC [8] ?_;refine qC [9] ?_;refine zai (by exact qT (show (stT es i).length + 1 ≤ 1000000000 by omega) (by decide)) ?_;refine qC [10] ?_;refine qQ ?_;exact ⟨i + 1,⟨rfl,rfl⟩,qP trivial ⟨rfl,qS (by rw [hsn];exact rfl)⟩ rfl⟩
       ·refine qC [0] ?_;refine qC [9] ?_;refine zai (by exact qT (show (stT es i).length + 1 ≤ 1000000000 by omega) (by decide)) ?_;refine qC [10] ?_;refine qQ ?_;exact ⟨i + 1,⟨rfl,rfl⟩,qP trivial ⟨rfl,qS (by rw [hsn];exact rfl)⟩ rfl⟩
   ·refine qC [0,2,6] ?_;refine zai ?_ ?_
    ·refine qC [2,6] ?_;refine zai ?_ ?_
     ·refine qC [6] ?_;refine Or.inl ?_;refine zai (rfl) ?_;refine zei _ (zai (yA e.1.2.2 (hf e he)) ?_);refine qC [7] ?_;refine qC [8] ?_;refine qC [9] ?_;refine zai (by exact qT (show (stT es i).length + 1 ≤ 1000000000 by omega) (by decide)) ?_;refine qC [10] ?_;refine qQ ?_;exact ⟨i + 1,⟨rfl,rfl⟩,qP trivial ⟨rfl,qS (by rw [hsn];exact rfl)⟩ rfl⟩
     ·refine Or.inl ?_;refine zai (rfl) ?_;refine zei _ (zai (yA e.1.2.2 (hf e he)) ?_);refine qC [2] ?_;refine qC [7] ?_;refine qC [8] ?_;refine qC [9] ?_;refine zai (by exact qT (show (stT es i).length + 1 ≤ 1000000000 by omega) (by decide)) ?_;refine qC [10] ?_;refine qQ ?_;exact ⟨i + 1,⟨rfl,rfl⟩,qP trivial ⟨rfl,qS (by rw [hsn];exact rfl)⟩ rfl⟩
    refine zai ?_ ?_
    ·refine qC [0,6] ?_;refine zai ?_ ?_
     ·refine qC [6] ?_;refine Or.inl ?_;refine zai (rfl) ?_;refine zei _ (zai (yA e.1.2.2 (hf e he)) ?_);refine qC [7] ?_;refine qC [8] ?_;refine qC [9] ?_;refine zai (by exact qT (show (stT es i).length + 1 ≤ 1000000000 by omega) (by decide)) ?_;refine qC [10] ?_;refine qQ ?_;exact ⟨i + 1,⟨rfl,rfl⟩,qP trivial ⟨rfl,qS (by rw [hsn];exact rfl)⟩ rfl⟩
     ·refine Or.inl ?_;refine zai (rfl) ?_;refine zei _ (zai (yA e.1.2.2 (hf e he)) ?_);refine qC [0,7] ?_;refine zai ?_ ?_
      ·refine qC [7] ?_;refine qC [8] ?_;refine qC [9] ?_;refine zai (by exact qT (show (stT es i).length + 1 ≤ 1000000000 by omega) (by decide)) ?_;refine qC [10] ?_;refine qQ ?_;exact ⟨i + 1,⟨rfl,rfl⟩,qP trivial ⟨rfl,qS (by rw [hsn];exact rfl)⟩ rfl⟩
      ·refine qC [0,8] ?_;refine zai ?_ ?_
       ·refine qC [8] ?_;refine qC [9] ?_;refine zai (by exact qT (show (stT es i).length + 1 ≤ 1000000000 by omega) (by decide)) ?_;refine qC [10] ?_;refine qQ ?_;exact ⟨i + 1,⟨rfl,rfl⟩,qP trivial ⟨rfl,qS (by rw [hsn];exact rfl)⟩ rfl⟩
       ·refine qC [0] ?_;refine qC [9] ?_;refine zai (by exact qT (show (stT es i).length + 1 ≤ 1000000000 by omega) (by decide)) ?_;refine qC [10] ?_;refine qQ ?_;exact ⟨i + 1,⟨rfl,rfl⟩,qP trivial ⟨rfl,qS (by rw [hsn];exact rfl)⟩ rfl⟩
    ·refine Or.inl ?_;refine zai (rfl) ?_;refine zei _ (zai (yA e.1.2.2 (hf e he)) ?_);refine qC [0,2] ?_;refine zai ?_ ?_
     ·refine qC [2] ?_;refine qC [7] ?_;refine qC [8] ?_;refine qC [9] ?_;refine zai (by exact qT (show (stT es i).length + 1 ≤ 1000000000 by omega) (by decide)) ?_;refine qC [10] ?_;refine qQ ?_;exact ⟨i + 1,⟨rfl,rfl⟩,qP trivial ⟨rfl,qS (by rw [hsn];exact rfl)⟩ rfl⟩
     ·refine qC [0,7] ?_;refine zai ?_ ?_
      ·refine qC [7] ?_;refine qC [8] ?_;refine qC [9] ?_;refine zai (by exact qT (show (stT es i).length + 1 ≤ 1000000000 by omega) (by decide)) ?_;refine qC [10] ?_;refine qQ ?_;exact ⟨i + 1,⟨rfl,rfl⟩,qP trivial ⟨rfl,qS (by rw [hsn];exact rfl)⟩ rfl⟩
      ·refine qC [0,8] ?_;refine zai ?_ ?_
       ·refine qC [8] ?_;refine qC [9] ?_;refine zai (by exact qT (show (stT es i).length + 1 ≤ 1000000000 by omega) (by decide)) ?_;refine qC [10] ?_;refine qQ ?_;exact ⟨i + 1,⟨rfl,rfl⟩,qP trivial ⟨rfl,qS (by rw [hsn];exact rfl)⟩ rfl⟩
       ·refine qC [0] ?_;refine qC [9] ?_;refine zai (by exact qT (show (stT es i).length + 1 ≤ 1000000000 by omega) (by decide)) ?_;refine qC [10] ?_;refine qQ ?_;exact ⟨i + 1,⟨rfl,rfl⟩,qP trivial ⟨rfl,qS (by rw [hsn];exact rfl)⟩ rfl⟩
  ·intro i hp;obtain ⟨_,rfl⟩:=hp;refine qB ?_;refine qL ?_;rw [show stT es (itEs es).length = stzL es from by unfold stT stzL;rw [itEs_len,List.take_length]];exact rfl
  ·intro j i hp;exact absurd hp.1 (by decide)
theorem itmL_snoc {es : List Ent} {i : Nat} (h : i < es.length) : itmL (es.take (i + 1)) = itmL (es.take i) ++ [(es.getD i (((0 : Int),ByteArray.empty,([] : List Fld)),(0 : Int))).1]:=by
  unfold itmL;rw [← xD (((0 : Int),ByteArray.empty,([] : List Fld)),(0 : Int)) h,List.map_append];rfl
theorem itmsL_c {k : Nat} (es : List Ent) (n m : Int) (hl : es.length ≤ 1000000) (hf : ∀ e ∈ es,e.1.2.2.length ≤ 1000000) : qY Tryz.prog 105 [.one (.adk k (rLst k) (es,n,m))] (.one (.sl rItm (itmL es))):=by
  refine qX (rs:=[2]) Tryz.func105 rfl rfl rfl teOk rfl ?_;refine qB ?_;refine qB ?_;refine qK ?_;refine qB ?_;refine qJ rfl (fun h8=>?_) (fun h8=>?_)
  ·try simp only [zbq] at h8
   try simp only [zds] at h8
   simp at h8
  ·skip
   refine qO ?_;refine qK ?_;refine qK ?_;refine xR 3 136 rItm rfl ?_;refine qM ?_;intro l4_4;refine qR ?_;refine yJ (fun (i : Nat)=>i ≤ es.length) (fun (i : Nat)=>[(3,.one (.vec 0)),(12,.one (.slk k rEnt es)),(13,ii .i64 es.length),(14,ii .i64 i)]) (fun (i : Nat)=>[(0,.vec 136 rItm (itmL (es.take i)))]) 1 (fun (i : Nat)=>es.length - i) 0 (Nat.zero_le _) (qP ⟨rfl,rfl,rfl,rfl⟩ rfl rfl) ?_;intro i hI0;refine qB ?_;refine qK ?_;refine qJ rfl (fun h15=>?_) (fun h15=>?_)
   ·try simp only [decide_eq_true_eq] at h15
    try simp only [zds] at h15
    have hil : i < es.length:=(by omega);have hsn:=itmL_snoc hil;refine qO ?_;refine qK ?_;refine qR ?_;refine qB ?_;refine zob ?_;refine qB ?_;refine qB ?_;refine Or.inl ?_;refine zai (rfl) ?_;refine zei _ (zai (yA (es.getD i (((0 : Int),ByteArray.empty,([] : List Fld)),(0 : Int))).1.2.2 (hf _ (yZ hil (((0 : Int),ByteArray.empty,([] : List Fld)),(0 : Int))))) ?_);refine qM ?_;refine zai (by exact qT (show (itmL (es.take i)).length + 1 ≤ 1000000000 by unfold itmL;rw [List.length_map,List.length_take];omega) (by decide)) ?_;refine qM ?_;refine zob ?_;exact ⟨i + 1,by omega,by first|omega|(simp <;> omega),qP ⟨rfl,rfl,rfl,(yW (by omega))⟩ (qS (by rw [hsn];try exact rfl)) rfl⟩
   ·try simp only [decide_eq_false_iff_not,Int.not_lt] at h15
    try simp only [zds] at h15
    refine yP ?_;refine qB ?_;refine qL ?_;rw [List.take_of_length_le (by omega)];exact rfl
theorem textL_c {k : Nat} (es : List Ent) (n m : Int) (hl : es.length ≤ 400000) (hf : ∀ e ∈ es,e.1.2.2.length ≤ 1000000) (hs : szI (apartL (itmL es)) ≤ 100000000) : qY Tryz.prog 60 [.one (.adk k (rLst k) (es,n,m))] (is (bytes (txtL es))):=by
  have h1 : (itmL es).length ≤ 1000000:=by unfold itmL;rw [List.length_map];omega
  have h2 : ∀ x ∈ itmL es,x.2.2.length ≤ 1000000:=fun x hx=>by obtain ⟨e,he,rfl⟩:=List.mem_map.1 hx;exact hf e he
  have h3 : (apartL (itmL es)).length ≤ 1000000:=by
    have:=apartK_len (itmL es) 1;have h4 : (apartL (itmL es)).length ≤ 2 * (itmL es).length:=this;rw [show (itmL es).length = es.length from List.length_map _] at h4;omega
  have hr:=render_c (itmL es) (apartL (itmL es)) h3 hs (apart_c _ h1 h2);refine qX (rs:=[2]) Tryz.func60 rfl rfl rfl teOk rfl ?_;refine qB ?_;refine qB ?_;refine Or.inl ?_;refine zai (rfl) ?_;refine zei _ (zai (itmsL_c es n m (by omega) hf) ?_);refine Or.inl ?_;refine zai (rfl) ?_;refine zei _ (zai (hr) ?_);refine qL ?_;rfl
def prPl (es : List Ent) (id : Int) : Bool → Nat → Nat × Int → Prop
  | false,j,x=>x.1 = j ∧ x.2 = 0 ∧ ((es.filter live).take x.1).any (hasId id) = false
  | true,_,x=>x.2 = plcL es id
theorem cntR_at {l : List Itm} {i : Nat} (h : i < l.length) : cntR (l.take (i + 1)) = cntR (l.take i) + if isRec (l.getD i ((0 : Int),ByteArray.empty,([] : List Fld))) then 1 else 0:=by
  rw [← xD ((0 : Int),ByteArray.empty,([] : List Fld)) h,cntR_app]
  generalize l.getD i ((0 : Int),ByteArray.empty,([] : List Fld)) = x
  cases hk : isRec x
  · simp [cntR,hk]
  · simp [cntR,hk]
theorem numI_at {l : List Itm} {i : Nat} (h : i < l.length) : numI 1 (l.take (i + 1)) = numI 1 (l.take i) ++ [(l.getD i ((0 : Int),ByteArray.empty,([] : List Fld)),if isRec (l.getD i ((0 : Int),ByteArray.empty,([] : List Fld))) then 1 + (cntR (l.take i) : Int) else 0)]:=by
  rw [← xD ((0 : Int),ByteArray.empty,([] : List Fld)) h];exact numI_snoc (l.take i) 1 _
theorem cntR_le (l : List Itm) : cntR l ≤ l.length:=List.length_filter_le _ _
def lsO (l : Lst) : Obs:=[(0,.box 134 [.vec 1,.lit (.int .i64 l.2.1),.lit (.int .i64 l.2.2)]),(1,.vec 138 rEnt l.1)]
theorem lbox_eq {a b c d : Int} (h1 : a = c) (h2 : b = d) : some (Ob.box 134 [.vec 1,.lit (.int .i64 a),.lit (.int .i64 b)]) = some (Ob.box 134 [.vec 1,.lit (.int .i64 c),.lit (.int .i64 d)]):=by rw [h1,h2]
theorem of_ok (s : ByteArray) (hs : s.size ≤ 60000) {l : List Itm} (hp : xK s = .inr l) : qU Tryz.prog 29 [is s] [] 0 (.tup [(false,[.own 0 0]),(false,[.lit .nilIface])]) (lsO (ofT l)) 2:=by
  have hpa:=parse_a s hs;rw [hp] at hpa;obtain ⟨hl1,hl2⟩:=items_flds hs hp;refine qV (rs:=[2,3]) Tryz.func29 rfl rfl rfl teOk (by decide) rfl ?_;refine qB ?_;refine qB ?_;refine Or.inl ?_;refine zai (rfl) ?_;refine zei _ (zai (hpa) ?_);refine qK ?_;refine qB ?_;refine qJ rfl (fun h16=>?_) (fun h16=>?_)
  ·try simp only [Bool.not_eq_true'] at h16
   try simp only [zds] at h16
   cases h16
  ·try simp only [Bool.not_eq_false'] at h16
   try simp only [zds] at h16
   refine qO ?_;refine qB ?_;refine qK ?_;refine qK ?_;refine yN 0 0 138 rEnt rfl rfl rfl ?_;refine qM ?_;intro l5_1
   try simp only [zds] at l5_1
   refine qR ?_;refine yJ (fun (i : Nat)=>i ≤ l.length) (fun (i : Nat)=>[(0,is s),(6,.one (.own 0 0)),(20,.one (.sl rItm l)),(21,ii .i64 l.length),(22,ii .i64 i)]) (fun (i : Nat)=>[(0,.box 134 [.vec 1,.lit (.int .i64 (1 + (cntR (l.take i) : Int))),.lit (.int .i64 (cntR (l.take i)))]),(1,.vec 138 rEnt (numI 1 (l.take i)))]) 2 (fun (i : Nat)=>l.length - i) 0 (Nat.zero_le _) (qP ⟨rfl,rfl,rfl,rfl,rfl⟩ ⟨rfl,rfl⟩ rfl) ?_;intro i hI0;refine qB ?_;refine qK ?_;refine qJ rfl (fun h23=>?_) (fun h23=>?_)
   ·try simp only [decide_eq_true_eq] at h23
    try simp only [zds] at h23
    have hil : i < l.length:=(by omega);have hsn:=numI_at hil;have hcn:=cntR_at hil;have hcl:=cntR_le (l.take i);rw [List.length_take] at hcl;refine qO ?_;refine qK ?_;refine qR ?_;refine qB ?_;refine zob ?_;refine qB ?_;refine qK ?_;refine qB ?_;refine qJ rfl (fun h30=>?_) (fun h30=>?_)
    ·try simp only [decide_eq_true_eq] at h30
     try simp only [Int.toNat_natCast,qH,qG,qF,qE] at h30
     have hk : isRec (l.getD i ((0 : Int),ByteArray.empty,([] : List Fld))) = true:=decide_eq_true h30;rw [hk,if_pos rfl] at hsn hcn;refine qB ?_;refine qB ?_;refine zob ?_;refine qM ?_;refine zob ?_;refine yG rfl ?_;refine qN 0 rfl ?_;refine qN 1 rfl ?_;refine qN 2 rfl ?_;refine qN 3 rfl ?_;refine qC [4,5] ?_;refine zai ?_ ?_
     ·refine qC [5] ?_;refine qC [6] ?_;refine qC [7] ?_;refine zai (by exact qT (show (numI 1 (l.take i)).length + 1 ≤ 1000000000 by rw [numI_len,List.length_take];omega) (by decide)) ?_;refine qN 8 rfl ?_;refine qN 9 rfl ?_;refine qC [10] ?_;refine qQ ?_;refine qM ?_;refine zob ?_;exact ⟨i + 1,by omega,by first|omega|(simp <;> omega),qP ⟨rfl,rfl,rfl,rfl,rfl⟩ ⟨(lbox_eq (by omega) (by omega)),(qS (by rw [hsn];exact rfl))⟩ rfl⟩
     ·refine qC [4,6] ?_;refine zai ?_ ?_
      ·refine qC [6] ?_;refine qC [7] ?_;refine zai (by exact qT (show (numI 1 (l.take i)).length + 1 ≤ 1000000000 by rw [numI_len,List.length_take];omega) (by decide)) ?_;refine qN 8 rfl ?_;refine qN 9 rfl ?_;refine qC [10] ?_;refine qQ ?_;refine qM ?_;refine zob ?_;exact ⟨i + 1,by omega,by first|omega|(simp <;> omega),qP ⟨rfl,rfl,rfl,rfl,rfl⟩ ⟨(lbox_eq (by omega) (by omega)),(qS (by rw [hsn];exact rfl))⟩ rfl⟩
      ·refine qC [4] ?_;refine qC [7] ?_;refine zai (by exact qT (show (numI 1 (l.take i)).length + 1 ≤ 1000000000 by rw [numI_len,List.length_take];omega) (by decide)) ?_;refine qN 8 rfl ?_;refine qN 9 rfl ?_;refine qC [10] ?_;refine qQ ?_;refine qM ?_;refine zob ?_;exact ⟨i + 1,by omega,by first|omega|(simp <;> omega),qP ⟨rfl,rfl,rfl,rfl,rfl⟩ ⟨(lbox_eq (by omega) (by omega)),(qS (by rw [hsn];exact rfl))⟩ rfl⟩
    ·try simp only [decide_eq_false_iff_not] at h30
     try simp only [Int.toNat_natCast,qH,qG,qF,qE] at h30
     have hk : isRec (l.getD i ((0 : Int),ByteArray.empty,([] : List Fld))) = false:=decide_eq_false h30;rw [hk,if_neg Bool.false_ne_true] at hsn hcn;refine qO ?_;refine yG rfl ?_;refine qN 0 rfl ?_;refine qN 1 rfl ?_;refine qN 2 rfl ?_;refine qN 3 rfl ?_;refine qC [4,5] ?_;refine zai ?_ ?_
     ·refine qC [5] ?_;refine qC [6] ?_;refine qC [7] ?_;refine zai (by exact qT (show (numI 1 (l.take i)).length + 1 ≤ 1000000000 by rw [numI_len,List.length_take];omega) (by decide)) ?_;refine qN 8 rfl ?_;refine qN 9 rfl ?_;refine qC [10] ?_;refine qQ ?_;refine qM ?_;refine zob ?_;exact ⟨i + 1,by omega,by first|omega|(simp <;> omega),qP ⟨rfl,rfl,rfl,rfl,rfl⟩ ⟨(lbox_eq (by omega) (by omega)),(qS (by rw [hsn];exact rfl))⟩ rfl⟩
     ·refine qC [4,6] ?_;refine zai ?_ ?_
      ·refine qC [6] ?_;refine qC [7] ?_;refine zai (by exact qT (show (numI 1 (l.take i)).length + 1 ≤ 1000000000 by rw [numI_len,List.length_take];omega) (by decide)) ?_;refine qN 8 rfl ?_;refine qN 9 rfl ?_;refine qC [10] ?_;refine qQ ?_;refine qM ?_;refine zob ?_;exact ⟨i + 1,by omega,by first|omega|(simp <;> omega),qP ⟨rfl,rfl,rfl,rfl,rfl⟩ ⟨(lbox_eq (by omega) (by omega)),(qS (by rw [hsn];exact rfl))⟩ rfl⟩
      ·refine qC [4] ?_;refine qC [7] ?_;refine zai (by exact qT (show (numI 1 (l.take i)).length + 1 ≤ 1000000000 by rw [numI_len,List.length_take];omega) (by decide)) ?_;refine qN 8 rfl ?_;refine qN 9 rfl ?_;refine qC [10] ?_;refine qQ ?_;refine qM ?_;refine zob ?_;exact ⟨i + 1,by omega,by first|omega|(simp <;> omega),qP ⟨rfl,rfl,rfl,rfl,rfl⟩ ⟨(lbox_eq (by omega) (by omega)),(qS (by rw [hsn];exact rfl))⟩ rfl⟩
   ·try simp only [decide_eq_false_iff_not,Int.not_lt] at h23
    try simp only [zds] at h23
    refine yP ?_;refine qB ?_;refine qL ?_;rw [List.take_of_length_le (by omega)];exact ⟨rfl,⟨rfl,rfl⟩,rfl⟩
theorem of_err (s : ByteArray) (hs : s.size ≤ 60000) {at_ n : Int} (hp : xK s = .inl (at_,n)) : qY Tryz.prog 29 [is s] (.tup [(false,[.lit (.pointer none)]),(false,[errF at_ n])]):=by
  have hpa:=parse_a s hs;rw [hp] at hpa;refine qX (rs:=[2,3]) Tryz.func29 rfl rfl rfl teOk rfl ?_;refine qB ?_;refine qB ?_;refine Or.inl ?_;refine zai (rfl) ?_;refine zei _ (zai (hpa) ?_);refine qK ?_;refine qB ?_;refine qJ rfl (fun h16=>?_) (fun h16=>?_)
  ·skip
   refine qB ?_;refine qL ?_;rfl
  ·try simp only [zbq] at h16
   try simp only [zds] at h16
   cases h16
def SmallF (l : List Fld) : Prop:=∀ f ∈ l,f.1.size ≤ 1000 ∧ f.2.size ≤ 1000
structure GP (p : PSt) : Prop where
  flds : SmallF p.flds
  room : p.lns ≠ [] → p.full = false → p.flds.length < 40
  len : p.flds.length ≤ 40
  its : ∀ x ∈ p.its,SmallF x.2.2 ∧ x.2.2.length ≤ 40
theorem smallF_nil : SmallF []:=fun f hf=>by cases hf
theorem flush_gp {p q : PSt} (h : GP p) (hf : yO p = .inr q) : GP q:=by
  unfold yO at hf;split at hf
  · cases hf;exact h
  · rename_i h0;split at hf
    · cases hf
    · split at hf
      · cases hf
      · rename_i h1 h2;cases hf;have hr:=h.room h0 (by simpa using h2);refine ⟨fun f hf=>?_,fun h=>absurd rfl h,by simp only [List.length_append,List.length_cons,List.length_nil];omega,h.its⟩;rcases List.mem_append.1 hf with hf|hf
        · exact h.flds f hf
        · rw [List.mem_singleton.1 hf];rcases unf_cases (p.lns.map ls) with ⟨n,hn,e⟩|⟨k,v,e,hk,hv⟩
          · rw [e];exact ⟨by show (bytes []).size ≤ 1000;decide,by show (bytes []).size ≤ 1000;decide⟩
          · rw [e];simp only [yY];refine ⟨?_,hv⟩;unfold keyOk at hk;simp only [Bool.and_eq_true,decide_eq_true_eq] at hk;omega
theorem close_gp {q : PSt} (h : GP q) : GP (xQ q):=by
  unfold xQ;split
  · exact ⟨smallF_nil,fun _ _=>(by show 0 < 40;decide),(by show 0 ≤ 40;decide),h.its⟩
  · refine ⟨smallF_nil,fun _ _=>(by show 0 < 40;decide),(by show 0 ≤ 40;decide),fun x hx=>?_⟩;rcases List.mem_append.1 hx with hx|hx
    · exact h.its x hx
    · rw [List.mem_singleton.1 hx];exact ⟨h.flds,h.len⟩
theorem end_gp {p q : PSt} (h : GP p) (hf : endS p = .inr q) : GP q:=by
  unfold endS at hf;split at hf
  · cases hf
  · rename_i r e;cases hf;exact close_gp (flush_gp h e)
theorem begin_gp {p : PSt} (l : Lne) (h : GP p) : GP (xP p l):=by
  refine ⟨h.flds,fun _ hf=>?_,h.len,h.its⟩;have:=h.len;unfold xP at hf;simp only [Bool.or_eq_false_iff,decide_eq_false_iff_not] at hf;show p.flds.length < 40;omega
theorem ahead_gp {p q : PSt} {l : Lne} {k : Int} (h : GP p) (hf : yM p l k = .inr q) : GP q:=by
  unfold yM at hf;split at hf
  · split at hf
    · cases hf
    · rename_i h0;have h2 : GP { p with lns:=p.lns ++ [l.2.2.1] }:=⟨h.flds,fun _=>h.room h0,h.len,h.its⟩;split at hf
      · cases hf;exact h2
      · exact flush_gp h2 hf
  · split at hf
    · exact end_gp h hf
    · exact flush_gp h hf
theorem line_gp {p q : PSt} {l : Lne} {k : Int} (h : GP p) (hf : lineS p l k = .inr q) : GP q:=by
  unfold lineS at hf;split at hf
  · cases hf
  · split at hf
    · cases hf;refine ⟨h.flds,h.room,h.len,fun x hx=>?_⟩;rcases List.mem_append.1 hx with hx|hx
      · exact h.its x hx
      · rw [List.mem_singleton.1 hx];exact ⟨smallF_nil,by show 0 ≤ 40;decide⟩
    · split at hf
      · cases hf;have:=begin_gp l h;exact ⟨this.flds,this.room,this.len,this.its⟩
      · cases hf;exact ⟨h.flds,h.room,h.len,h.its⟩
theorem take_gp {p q : PSt} {l : Lne} (h : GP p) (hf : yR p l = .inr q) : GP q:=by
  unfold yR at hf;split at hf
  · cases hf
  · rename_i r e;exact line_gp (ahead_gp h e) hf
theorem run_gp : ∀ (L : List Lne) {p q : PSt},GP p → runS p L = .inr q → GP q
  | [],p,q,h,hf=>by
    cases hf;exact h
  | l :: r,p,q,h,hf=>by
    unfold runS at hf;split at hf
    · cases hf
    · rename_i t e;exact run_gp r (take_gp h e) hf
theorem items_small {s : ByteArray} {l : List Itm} (hp : xK s = .inr l) : ∀ x ∈ l,SmallF x.2.2 ∧ x.2.2.length ≤ 40:=by
  unfold xK at hp;split at hp
  · cases hp
  · rename_i p e;split at hp
    · cases hp
    · rename_i q e2;cases hp;exact (end_gp (run_gp _ ⟨smallF_nil,fun h=>absurd rfl h,by decide,fun x hx=>by cases hx⟩ e) e2).its
theorem fldsOk_of {l : List Fld} (h : SmallF l) (hl : l.length ≤ 40) : yQ l:=⟨by omega,fun f hf=>by have:=h f hf;omega⟩
abbrev RLs:=List Ent × Int
abbrev rRL : Rd RLs:=.st (.sl rEnt) (.int .i64)
theorem copyL_o {k : Nat} (es : List Ent) (n m : Int) (hl : es.length ≤ 1000000) : qU Tryz.prog 68 [.one (.adk k (rLst k) (es,n,m))] [] 0 (.one (.own 1 0)) [(1,.box 134 [.vec 0,.lit (.int .i64 n),.lit (.int .i64 m)]),(0,.vec 138 rEnt es)] 2:=by
  have hcl:=cloneE_o (k:=k) es hl;refine qV (rs:=[2]) Tryz.func68 rfl rfl rfl teOk (by decide) rfl ?_;refine qB ?_;refine qK ?_;refine qB ?_;refine qJ rfl (fun h4=>?_) (fun h4=>?_)
  ·try simp only [zbq] at h4
   try simp only [zds] at h4
   simp at h4
  ·try simp only [zbq] at h4
   try simp only [zds] at h4
   refine qO ?_;refine qK ?_;refine yG rfl ?_;refine qN 0 rfl ?_;refine qN 1 rfl ?_;refine qN 2 rfl ?_;refine qN 5 rfl ?_;refine qN 6 rfl ?_;refine qN 7 rfl ?_;refine qN 9 rfl ?_;refine qN 10 rfl ?_;refine qN 11 rfl ?_;refine qC [3,8,12] ?_;refine zai ?_ ?_
   ·refine qC [4,8,12] ?_;refine zai ?_ ?_
    ·refine Or.inr (Or.inl (zei [] (zei [] (zei _ (zei _ (zei _ (zei _ (zei _ (zai (hcl) (zai rfl (zai True.intro (zai rfl ?_))))))))))));refine qC [8,12] ?_;refine zai ?_ ?_
     ·refine qC [12] ?_;refine qC [13] ?_;refine qC [14] ?_;refine qN 15 rfl ?_;refine qQ ?_;refine qL ?_;exact ⟨rfl,⟨rfl,rfl⟩,rfl⟩
     ·refine qC [8] ?_;refine qC [13] ?_;refine qC [14] ?_;refine qN 15 rfl ?_;refine qQ ?_;refine qL ?_;exact ⟨rfl,⟨rfl,rfl⟩,rfl⟩
    refine zai ?_ ?_
    ·refine qC [4,12] ?_;refine zai ?_ ?_
     ·refine Or.inr (Or.inl (zei [] (zei [] (zei _ (zei _ (zei _ (zei _ (zei _ (zai (hcl) (zai rfl (zai True.intro (zai rfl ?_))))))))))));refine qC [12] ?_;refine qC [13] ?_;refine qC [14] ?_;refine qN 15 rfl ?_;refine qQ ?_;refine qL ?_;exact ⟨rfl,⟨rfl,rfl⟩,rfl⟩
     ·refine qC [4] ?_;refine Or.inr (Or.inl (zei [] (zei [] (zei _ (zei _ (zei _ (zei _ (zei _ (zai (hcl) (zai rfl (zai True.intro (zai rfl ?_))))))))))));refine qC [13] ?_;refine qC [14] ?_;refine qN 15 rfl ?_;refine qQ ?_;refine qL ?_;exact ⟨rfl,⟨rfl,rfl⟩,rfl⟩
    ·refine qC [4,8] ?_;refine zai ?_ ?_
     ·refine Or.inr (Or.inl (zei [] (zei [] (zei _ (zei _ (zei _ (zei _ (zei _ (zai (hcl) (zai rfl (zai True.intro (zai rfl ?_))))))))))));refine qC [8] ?_;refine qC [13] ?_;refine qC [14] ?_;refine qN 15 rfl ?_;refine qQ ?_;refine qL ?_;exact ⟨rfl,⟨rfl,rfl⟩,rfl⟩
     ·refine qC [4] ?_;refine Or.inr (Or.inl (zei [] (zei [] (zei _ (zei _ (zei _ (zei _ (zei _ (zai (hcl) (zai rfl (zai True.intro (zai rfl ?_))))))))))));refine qC [13] ?_;refine qC [14] ?_;refine qN 15 rfl ?_;refine qQ ?_;refine qL ?_;exact ⟨rfl,⟨rfl,rfl⟩,rfl⟩
   refine zai ?_ ?_
   ·refine qC [3,12] ?_;refine zai ?_ ?_
    ·refine qC [4,12] ?_;refine zai ?_ ?_
     ·refine Or.inr (Or.inl (zei [] (zei [] (zei _ (zei _ (zei _ (zei _ (zei _ (zai (hcl) (zai rfl (zai True.intro (zai rfl ?_))))))))))));refine qC [12] ?_;refine qC [13] ?_;refine qC [14] ?_;refine qN 15 rfl ?_;refine qQ ?_;refine qL ?_;exact ⟨rfl,⟨rfl,rfl⟩,rfl⟩
     ·refine qC [4] ?_;refine Or.inr (Or.inl (zei [] (zei [] (zei _ (zei _ (zei _ (zei _ (zei _ (zai (hcl) (zai rfl (zai True.intro (zai rfl ?_))))))))))));refine qC [13] ?_;refine qC [14] ?_;refine qN 15 rfl ?_;refine qQ ?_;refine qL ?_;exact ⟨rfl,⟨rfl,rfl⟩,rfl⟩
    ·refine qC [3] ?_;refine qC [4] ?_;refine Or.inr (Or.inl (zei [] (zei [] (zei _ (zei _ (zei _ (zei _ (zei _ (zai (hcl) (zai rfl (zai True.intro (zai rfl ?_))))))))))));refine qC [13] ?_;refine qC [14] ?_;refine qN 15 rfl ?_;refine qQ ?_;refine qL ?_;exact ⟨rfl,⟨rfl,rfl⟩,rfl⟩
   ·refine qC [3,8] ?_;refine zai ?_ ?_
    ·refine qC [4,8] ?_;refine zai ?_ ?_
     ·refine Or.inr (Or.inl (zei [] (zei [] (zei _ (zei _ (zei _ (zei _ (zei _ (zai (hcl) (zai rfl (zai True.intro (zai rfl ?_))))))))))));refine qC [8] ?_;refine qC [13] ?_;refine qC [14] ?_;refine qN 15 rfl ?_;refine qQ ?_;refine qL ?_;exact ⟨rfl,⟨rfl,rfl⟩,rfl⟩
     ·refine qC [4] ?_;refine Or.inr (Or.inl (zei [] (zei [] (zei _ (zei _ (zei _ (zei _ (zei _ (zai (hcl) (zai rfl (zai True.intro (zai rfl ?_))))))))))));refine qC [13] ?_;refine qC [14] ?_;refine qN 15 rfl ?_;refine qQ ?_;refine qL ?_;exact ⟨rfl,⟨rfl,rfl⟩,rfl⟩
    ·refine qC [3] ?_;refine qC [4] ?_;refine Or.inr (Or.inl (zei [] (zei [] (zei _ (zei _ (zei _ (zei _ (zei _ (zai (hcl) (zai rfl (zai True.intro (zai rfl ?_))))))))))));refine qC [13] ?_;refine qC [14] ?_;refine qN 15 rfl ?_;refine qQ ?_;refine qL ?_;exact ⟨rfl,⟨rfl,rfl⟩,rfl⟩
theorem lDel_no (es : List Ent) (n m id : Int) (h : atE es id < 0) : qU Tryz.prog 43 [.one (.own 0 0),ii .i64 id] (lsO (es,n,m)) 2 (.one (errN 7)) (lsO (es,n,m)) 2:=by
  refine qV (rs:=[4]) Tryz.func43 rfl rfl rfl teOk (by decide) rfl ?_;refine qB ?_;refine qB ?_;refine Or.inr (Or.inr (Or.inl ?_));refine zai rfl ?_;refine zei _ (zai (at_c es n m id) ?_);refine qK ?_;refine qB ?_;refine qJ rfl (fun h10=>?_) (fun h10=>?_)
  ·try simp only [decide_eq_true_eq] at h10
   try simp only [zds] at h10
   refine qB ?_;refine qL ?_;exact ⟨rfl,⟨rfl,rfl⟩,rfl⟩
  ·try simp only [decide_eq_false_iff_not,Int.not_lt] at h10
   try simp only [zds] at h10
   omega
theorem lDel_ok (es : List Ent) (n m id : Int) (i : Nat) (hi : i < es.length) (h : atE es id = i) (hm : 0 ≤ m ∧ m ≤ 1000000) (hl : es.length ≤ 1000000) : qU Tryz.prog 43 [.one (.own 0 0),ii .i64 id] (lsO (es,n,m)) 2 (.one (.lit .nilIface)) (lsO (delE es i,n,m - 1)) 2:=by
  refine qV (rs:=[4]) Tryz.func43 rfl rfl rfl teOk (by decide) rfl ?_;refine qB ?_;refine qB ?_;refine Or.inr (Or.inr (Or.inl ?_));refine zai rfl ?_;refine zei _ (zai ((by have:=at_c (k:=1) es n m id;rw [h] at this;exact this)) ?_);refine qK ?_;refine qB ?_;refine qJ rfl (fun h10=>?_) (fun h10=>?_)
  ·try simp only [decide_eq_true_eq] at h10
   try simp only [zds] at h10
   omega
  ·try simp only [decide_eq_false_iff_not,Int.not_lt] at h10
   try simp only [zds] at h10
   refine qO ?_;refine qB ?_;refine zob ?_;refine Or.inr (Or.inr (Or.inr (zei [1] (zei [] (zei _ (zei _ (zei _ (zei _ (zei _ (zai (delete_x es i (i + 1) (Nat.lt_succ_self _) hi) (zai rfl (zai (zai (zai rfl rfl) True.intro) (zai rfl ?_)))))))))))));refine qB ?_;refine zai (by first|omega|assumption|decide|(simp only [];omega)|(simp <;> omega)) ?_;refine qB ?_;refine qL ?_;exact ⟨rfl,⟨rfl,rfl⟩,rfl⟩
theorem pitem_ok {κ : Nat} {l : List Fld} (hl : yQ l) (h : (chkR l).2 = 0) : qY Tryz.prog 89 [.one (.slk κ rFld l)] (.tup [(true,toL rItm (3,bytes (foldL l),l)),(false,[.lit .nilIface])]):=by
  refine acall_ofc (rs:=[.cell 2 136,.tmp 3]) Tryz.func89 rfl rfl rfl teOk rfl ?_;refine qB ?_;refine qB ?_;refine Or.inl ?_;refine zai (rfl) ?_;refine zei _ (zai (pstanza_ok hl h) ?_);refine qK ?_;refine qB ?_;refine qJ rfl (fun h12=>?_) (fun h12=>?_)
  ·try simp only [Bool.not_eq_true'] at h12
   try simp only [zds] at h12
   cases h12
  ·try simp only [Bool.not_eq_false'] at h12
   try simp only [zds] at h12
   refine qO ?_;refine qB ?_;refine Or.inl ?_;refine zai (rfl) ?_;refine zei _ (zai (yA l (Nat.le_trans hl.1 (by decide))) ?_);refine qL ?_;rfl
theorem pitem_err {κ : Nat} {l : List Fld} (hl : yQ l) (h : (chkR l).2 ≠ 0) : qY Tryz.prog 89 [.one (.slk κ rFld l)] (.tup [(true,[.lit (.int .i64 0),.lit (.string ⟨#[]⟩),.lit (.slice none 0 0)]),(false,[chkA l])]):=by
  have hc:=pstanza_err (κ:=κ) hl h;obtain ⟨e,he,hs⟩:=chk_bad h;rw [he] at hc ⊢;rcases hs with ⟨n,hn,rfl,_⟩|⟨i,n,hn,rfl,_⟩
  ·
    refine acall_ofc (rs:=[.cell 2 136,.tmp 3]) Tryz.func89 rfl rfl rfl teOk rfl ?_;refine qB ?_;refine qB ?_;refine Or.inl ?_;refine zai (rfl) ?_;refine zei _ (zai (hc) ?_);refine qK ?_;refine qB ?_;refine qJ rfl (fun h12=>?_) (fun h12=>?_)
    ·skip
     refine qB ?_;refine qL ?_;rfl
    ·try simp only [zbq] at h12
     try simp only [zds] at h12
     cases h12
  ·
    refine acall_ofc (rs:=[.cell 2 136,.tmp 3]) Tryz.func89 rfl rfl rfl teOk rfl ?_;refine qB ?_;refine qB ?_;refine Or.inl ?_;refine zai (rfl) ?_;refine zei _ (zai (hc) ?_);refine qK ?_;refine qB ?_;refine qJ rfl (fun h12=>?_) (fun h12=>?_)
    ·skip
     refine qB ?_;refine qL ?_;rfl
    ·try simp only [zbq] at h12
     try simp only [zds] at h12
     cases h12
def xC (f : List Fld) : Itm:=(3,bytes (foldL f),f)
theorem lRep_no {κ : Nat} (es : List Ent) (n m id : Int) (f : List Fld) (h : atE es id < 0) : qU Tryz.prog 42 [.one (.own 0 0),ii .i64 id,.one (.slk κ rFld f)] (lsO (es,n,m)) 2 (.one (errN 7)) (lsO (es,n,m)) 2:=by
  refine qV (rs:=[6]) Tryz.func42 rfl rfl rfl teOk (by decide) rfl ?_;refine qB ?_;refine qB ?_;refine Or.inr (Or.inr (Or.inl ?_));refine zai rfl ?_;refine zei _ (zai (at_c es n m id) ?_);refine qK ?_;refine qB ?_;refine qJ rfl (fun h14=>?_) (fun h14=>?_)
  ·try simp only [decide_eq_true_eq] at h14
   try simp only [zds] at h14
   refine qB ?_;refine qL ?_;exact ⟨rfl,⟨rfl,rfl⟩,rfl⟩
  ·try simp only [decide_eq_false_iff_not,Int.not_lt] at h14
   try simp only [zds] at h14
   omega
theorem lRep_bad {κ : Nat} (es : List Ent) (n m id : Int) (f : List Fld) (h : 0 ≤ atE es id) (hf : yQ f) (hc : (chkR f).2 ≠ 0) : qU Tryz.prog 42 [.one (.own 0 0),ii .i64 id,.one (.slk κ rFld f)] (lsO (es,n,m)) 2 (.one (chkA f)) (lsO (es,n,m)) 2:=by
  have hpi:=pitem_err (κ:=κ) hf hc;obtain ⟨e,he,hs⟩:=chk_bad hc;rw [he] at hpi ⊢;rcases hs with ⟨x,hx,rfl,_⟩|⟨j,x,hx,rfl,_⟩
  ·
    refine qV (rs:=[6]) Tryz.func42 rfl rfl rfl teOk (by decide) rfl ?_;refine qB ?_;refine qB ?_;refine Or.inr (Or.inr (Or.inl ?_));refine zai rfl ?_;refine zei _ (zai (at_c es n m id) ?_);refine qK ?_;refine qB ?_;refine qJ rfl (fun h14=>?_) (fun h14=>?_)
    ·try simp only [decide_eq_true_eq] at h14
     try simp only [zds] at h14
     omega
    ·try simp only [decide_eq_false_iff_not,Int.not_lt] at h14
     try simp only [zds] at h14
     refine qO ?_;refine qB ?_;refine Or.inl ?_;refine zai (rfl) ?_;refine zei _ (zai (hpi) ?_);refine qK ?_;refine qB ?_;refine qJ rfl (fun h22=>?_) (fun h22=>?_)
     ·skip
      refine qB ?_;refine qL ?_;exact ⟨rfl,⟨rfl,rfl⟩,rfl⟩
     ·try simp only [zbq] at h22
      try simp only [zds] at h22
      cases h22
  ·
    refine qV (rs:=[6]) Tryz.func42 rfl rfl rfl teOk (by decide) rfl ?_;refine qB ?_;refine qB ?_;refine Or.inr (Or.inr (Or.inl ?_));refine zai rfl ?_;refine zei _ (zai (at_c es n m id) ?_);refine qK ?_;refine qB ?_;refine qJ rfl (fun h14=>?_) (fun h14=>?_)
    ·try simp only [decide_eq_true_eq] at h14
     try simp only [zds] at h14
     omega
    ·try simp only [decide_eq_false_iff_not,Int.not_lt] at h14
     try simp only [zds] at h14
     refine qO ?_;refine qB ?_;refine Or.inl ?_;refine zai (rfl) ?_;refine zei _ (zai (hpi) ?_);refine qK ?_;refine qB ?_;refine qJ rfl (fun h22=>?_) (fun h22=>?_)
     ·skip
      refine qB ?_;refine qL ?_;exact ⟨rfl,⟨rfl,rfl⟩,rfl⟩
     ·try simp only [zbq] at h22
      try simp only [zds] at h22
      cases h22
theorem lRep_ok {κ : Nat} (es : List Ent) (n m id : Int) (f : List Fld) (i : Nat) (hi : i < es.length) (h : atE es id = i) (hf : yQ f) (hc : (chkR f).2 = 0) : qU Tryz.prog 42 [.one (.own 0 0),ii .i64 id,.one (.slk κ rFld f)] (lsO (es,n,m)) 2 (.one (.lit .nilIface)) (lsO (xW es i (xC f),n,m)) 2:=by
  refine qV (rs:=[6]) Tryz.func42 rfl rfl rfl teOk (by decide) rfl ?_;refine qB ?_;refine qB ?_;refine Or.inr (Or.inr (Or.inl ?_));refine zai rfl ?_;refine zei _ (zai ((by have:=at_c (k:=1) es n m id;rw [h] at this;exact this)) ?_);refine qK ?_;refine qB ?_;refine qJ rfl (fun h14=>?_) (fun h14=>?_)
  ·try simp only [decide_eq_true_eq] at h14
   try simp only [zds] at h14
   omega
  ·try simp only [decide_eq_false_iff_not,Int.not_lt] at h14
   try simp only [zds] at h14
   refine qO ?_;refine qB ?_;refine Or.inl ?_;refine zai (rfl) ?_;refine zei _ (zai (pitem_ok hf hc) ?_);refine qK ?_;refine qB ?_;refine qJ rfl (fun h22=>?_) (fun h22=>?_)
   ·try simp only [Bool.not_eq_true'] at h22
    try simp only [zds] at h22
    cases h22
   ·try simp only [Bool.not_eq_false'] at h22
    try simp only [zds] at h22
    refine qO ?_;refine qK ?_;refine yG rfl ?_;refine qN 0 rfl ?_;refine qN 1 rfl ?_;refine qN 2 rfl ?_;refine qN 4 rfl ?_;refine qC [3,5] ?_;refine zai ?_ ?_
    ·refine qC [5] ?_;refine qN 6 rfl ?_;refine zai (by first|omega|assumption|decide|(simp only [];omega)|(simp <;> omega)) ?_;refine qC [7] ?_;refine qC [8] ?_;refine zai (by (rw [Int.toNat_natCast];exact hi)) ?_;refine qQ ?_;refine qB ?_;refine qL ?_;exact ⟨rfl,⟨rfl,rfl⟩,rfl⟩
    ·refine qC [3] ?_;refine qN 6 rfl ?_;refine zai (by first|omega|assumption|decide|(simp only [];omega)|(simp <;> omega)) ?_;refine qC [7] ?_;refine qC [8] ?_;refine zai (by (rw [Int.toNat_natCast];exact hi)) ?_;refine qQ ?_;refine qB ?_;refine qL ?_;exact ⟨rfl,⟨rfl,rfl⟩,rfl⟩
theorem lIns_no {κ : Nat} (es : List Ent) (n m id : Int) (f : List Fld) (h : atE es id < 0) (h0 : id ≠ 0) : qU Tryz.prog 44 [.one (.own 0 0),ii .i64 id,.one (.slk κ rFld f)] (lsO (es,n,m)) 2 (.tup [(false,[.lit (.int .i64 0)]),(false,[errN 7])]) (lsO (es,n,m)) 2:=by
  refine qV (rs:=[6,7]) Tryz.func44 rfl rfl rfl teOk (by decide) rfl ?_;refine qB ?_;refine qB ?_;refine Or.inr (Or.inr (Or.inl ?_));refine zai rfl ?_;refine zei _ (zai (at_c es n m id) ?_);refine qK ?_;refine qB ?_;refine zai (fun h=>trivial) ?_;refine zai (fun h=>⟨⟨h,trivial⟩,trivial⟩) ?_;refine zai (fun h=>⟨⟨h,trivial⟩,trivial⟩) ?_;refine zai (fun h=>trivial) ?_;refine zai (fun h=>⟨⟨h,trivial⟩,trivial⟩) ?_;refine zai (fun h=>⟨⟨⟨h,trivial⟩,trivial⟩,by first|exact fun h2=>h2|(intro h2;rw [h,h2];rfl)|(intro h2;cases h2)|(intro h2;simp_all [gq])⟩) ?_;refine zai (by first|(intro h;rw [h];rfl)|(intro h;cases h)) ?_;refine qJ rfl (fun h24=>?_) (fun h24=>?_)
  ·try simp only [decide_eq_true_eq,decide_eq_false_iff_not,Bool.and_eq_true,Bool.not_eq_true',Bool.or_eq_true] at h24
   try simp only [zds] at h24
   refine qB ?_;refine qL ?_;exact ⟨rfl,⟨rfl,rfl⟩,rfl⟩
  ·try simp only [decide_eq_true_eq,decide_eq_false_iff_not,Bool.not_eq_false',Bool.or_eq_false_iff,Bool.and_eq_false_iff,Int.not_lt] at h24
   try simp only [zds] at h24
   simp at h24;omega
theorem lIns_bad {κ : Nat} (es : List Ent) (n m id : Int) (f : List Fld) (h : ¬ (atE es id < 0 ∧ id ≠ 0)) (hf : yQ f) (hc : (chkR f).2 ≠ 0) : qU Tryz.prog 44 [.one (.own 0 0),ii .i64 id,.one (.slk κ rFld f)] (lsO (es,n,m)) 2 (.tup [(false,[.lit (.int .i64 0)]),(false,[chkA f])]) (lsO (es,n,m)) 2:=by
  have hpi:=pitem_err (κ:=κ) hf hc;obtain ⟨e,he,hs⟩:=chk_bad hc;rw [he] at hpi ⊢;rcases hs with ⟨x,hx,rfl,_⟩|⟨j,x,hx,rfl,_⟩
  ·
    refine qV (rs:=[6,7]) Tryz.func44 rfl rfl rfl teOk (by decide) rfl ?_;refine qB ?_;refine qB ?_;refine Or.inr (Or.inr (Or.inl ?_));refine zai rfl ?_;refine zei _ (zai (at_c es n m id) ?_);refine qK ?_;refine qB ?_;refine zai (fun h=>trivial) ?_;refine zai (fun h=>⟨⟨h,trivial⟩,trivial⟩) ?_;refine zai (fun h=>⟨⟨h,trivial⟩,trivial⟩) ?_;refine zai (fun h=>trivial) ?_;refine zai (fun h=>⟨⟨h,trivial⟩,trivial⟩) ?_;refine zai (fun h=>⟨⟨⟨h,trivial⟩,trivial⟩,by first|exact fun h2=>h2|(intro h2;rw [h,h2];rfl)|(intro h2;cases h2)|(intro h2;simp_all [gq])⟩) ?_;refine zai (by first|(intro h;rw [h];rfl)|(intro h;cases h)) ?_;refine qJ rfl (fun h24=>?_) (fun h24=>?_)
    ·try simp only [decide_eq_true_eq,decide_eq_false_iff_not,Bool.and_eq_true,Bool.not_eq_true',Bool.or_eq_true] at h24
     try simp only [zds] at h24
     exact absurd (by simpa using h24) h
    ·try simp only [decide_eq_true_eq,decide_eq_false_iff_not,Bool.not_eq_false',Bool.or_eq_false_iff,Bool.and_eq_false_iff,Int.not_lt] at h24
     try simp only [zds] at h24
     refine qO ?_;refine qB ?_;refine Or.inl ?_;refine zai (rfl) ?_;refine zei _ (zai (hpi) ?_);refine qK ?_;refine qR ?_;refine qB ?_;refine qJ rfl (fun h31=>?_) (fun h31=>?_)
     ·skip
      refine qB ?_;refine qL ?_;exact ⟨rfl,⟨rfl,rfl⟩,rfl⟩
     ·try simp only [zbq] at h31
      try simp only [zds] at h31
      cases h31
  ·
    refine qV (rs:=[6,7]) Tryz.func44 rfl rfl rfl teOk (by decide) rfl ?_;refine qB ?_;refine qB ?_;refine Or.inr (Or.inr (Or.inl ?_));refine zai rfl ?_;refine zei _ (zai (at_c es n m id) ?_);refine qK ?_;refine qB ?_;refine zai (fun h=>trivial) ?_;refine zai (fun h=>⟨⟨h,trivial⟩,trivial⟩) ?_;refine zai (fun h=>⟨⟨h,trivial⟩,trivial⟩) ?_;refine zai (fun h=>trivial) ?_;refine zai (fun h=>⟨⟨h,trivial⟩,trivial⟩) ?_;refine zai (fun h=>⟨⟨⟨h,trivial⟩,trivial⟩,by first|exact fun h2=>h2|(intro h2;rw [h,h2];rfl)|(intro h2;cases h2)|(intro h2;simp_all [gq])⟩) ?_;refine zai (by first|(intro h;rw [h];rfl)|(intro h;cases h)) ?_;refine qJ rfl (fun h24=>?_) (fun h24=>?_)
    ·try simp only [decide_eq_true_eq,decide_eq_false_iff_not,Bool.and_eq_true,Bool.not_eq_true',Bool.or_eq_true] at h24
     try simp only [zds] at h24
     exact absurd (by simpa using h24) h
    ·try simp only [decide_eq_true_eq,decide_eq_false_iff_not,Bool.not_eq_false',Bool.or_eq_false_iff,Bool.and_eq_false_iff,Int.not_lt] at h24
     try simp only [zds] at h24
     refine qO ?_;refine qB ?_;refine Or.inl ?_;refine zai (rfl) ?_;refine zei _ (zai (hpi) ?_);refine qK ?_;refine qR ?_;refine qB ?_;refine qJ rfl (fun h31=>?_) (fun h31=>?_)
     ·skip
      refine qB ?_;refine qL ?_;exact ⟨rfl,⟨rfl,rfl⟩,rfl⟩
     ·try simp only [zbq] at h31
      try simp only [zds] at h31
      cases h31
theorem lIns_full {κ : Nat} (es : List Ent) (n m id : Int) (f : List Fld) (h : ¬ (atE es id < 0 ∧ id ≠ 0)) (hf : yQ f) (hc : (chkR f).2 = 0) (hm : 400 ≤ m) : qU Tryz.prog 44 [.one (.own 0 0),ii .i64 id,.one (.slk κ rFld f)] (lsO (es,n,m)) 2 (.tup [(false,[.lit (.int .i64 0)]),(false,[errN 11])]) (lsO (es,n,m)) 2:=by
  refine qV (rs:=[6,7]) Tryz.func44 rfl rfl rfl teOk (by decide) rfl ?_;refine qB ?_;refine qB ?_;refine Or.inr (Or.inr (Or.inl ?_));refine zai rfl ?_;refine zei _ (zai (at_c es n m id) ?_);refine qK ?_;refine qB ?_;refine zai (fun h=>trivial) ?_;refine zai (fun h=>⟨⟨h,trivial⟩,trivial⟩) ?_;refine zai (fun h=>⟨⟨h,trivial⟩,trivial⟩) ?_;refine zai (fun h=>trivial) ?_;refine zai (fun h=>⟨⟨h,trivial⟩,trivial⟩) ?_;refine zai (fun h=>⟨⟨⟨h,trivial⟩,trivial⟩,by first|exact fun h2=>h2|(intro h2;rw [h,h2];rfl)|(intro h2;cases h2)|(intro h2;simp_all [gq])⟩) ?_;refine zai (by first|(intro h;rw [h];rfl)|(intro h;cases h)) ?_;refine qJ rfl (fun h24=>?_) (fun h24=>?_)
  ·try simp only [decide_eq_true_eq,decide_eq_false_iff_not,Bool.and_eq_true,Bool.not_eq_true',Bool.or_eq_true] at h24
   try simp only [zds] at h24
   exact absurd (by simpa using h24) h
  ·try simp only [decide_eq_true_eq,decide_eq_false_iff_not,Bool.not_eq_false',Bool.or_eq_false_iff,Bool.and_eq_false_iff,Int.not_lt] at h24
   try simp only [zds] at h24
   refine qO ?_;refine qB ?_;refine Or.inl ?_;refine zai (rfl) ?_;refine zei _ (zai (pitem_ok hf hc) ?_);refine qK ?_;refine qR ?_;refine qB ?_;refine qJ rfl (fun h31=>?_) (fun h31=>?_)
   ·try simp only [Bool.not_eq_true'] at h31
    try simp only [zds] at h31
    cases h31
   ·try simp only [Bool.not_eq_false'] at h31
    try simp only [zds] at h31
    refine qB ?_;refine qJ rfl (fun h35=>?_) (fun h35=>?_)
    ·try simp only [decide_eq_true_eq] at h35
     try simp only [zds] at h35
     refine qB ?_;refine qL ?_;exact ⟨rfl,⟨rfl,rfl⟩,rfl⟩
    ·try simp only [decide_eq_false_iff_not,Int.not_le] at h35
     try simp only [zds] at h35
     omega
theorem lIns_ok {κ : Nat} (es : List Ent) (n m id : Int) (f : List Fld) (j : Nat) (hj : j ≤ es.length) (h : ¬ (atE es id < 0 ∧ id ≠ 0)) (ha : atE es id + 1 = (j : Int)) (hf : yQ f) (hc : (chkR f).2 = 0) (hm : 0 ≤ m ∧ m < 400) (hn : 0 ≤ n ∧ n ≤ 1000000000) (hl : es.length ≤ 1000000) : qU Tryz.prog 44 [.one (.own 0 0),ii .i64 id,.one (.slk κ rFld f)] (lsO (es,n,m)) 2 (.tup [(false,[.lit (.int .i64 n)]),(false,[.lit .nilIface])]) (lsO (insE es j (xC f,n),n + 1,m + 1)) 2:=by
  have hins:=insert_x es (xC f,n) j hj hl;rw [← ha] at hins;refine qV (rs:=[6,7]) Tryz.func44 rfl rfl rfl teOk (by decide) rfl ?_;refine qB ?_;refine qB ?_;refine Or.inr (Or.inr (Or.inl ?_));refine zai rfl ?_;refine zei _ (zai (at_c es n m id) ?_);refine qK ?_;refine qB ?_;refine zai (fun h=>trivial) ?_;refine zai (fun h=>⟨⟨h,trivial⟩,trivial⟩) ?_;refine zai (fun h=>⟨⟨h,trivial⟩,trivial⟩) ?_;refine zai (fun h=>trivial) ?_;refine zai (fun h=>⟨⟨h,trivial⟩,trivial⟩) ?_;refine zai (fun h=>⟨⟨⟨h,trivial⟩,trivial⟩,by first|exact fun h2=>h2|(intro h2;rw [h,h2];rfl)|(intro h2;cases h2)|(intro h2;simp_all [gq])⟩) ?_;refine zai (by first|(intro h;rw [h];rfl)|(intro h;cases h)) ?_;refine qJ rfl (fun h24=>?_) (fun h24=>?_)
  ·try simp only [decide_eq_true_eq,decide_eq_false_iff_not,Bool.and_eq_true,Bool.not_eq_true',Bool.or_eq_true] at h24
   try simp only [zds] at h24
   exact absurd (by simpa using h24) h
  ·try simp only [decide_eq_true_eq,decide_eq_false_iff_not,Bool.not_eq_false',Bool.or_eq_false_iff,Bool.and_eq_false_iff,Int.not_lt] at h24
   try simp only [zds] at h24
   refine qO ?_;refine qB ?_;refine Or.inl ?_;refine zai (rfl) ?_;refine zei _ (zai (pitem_ok hf hc) ?_);refine qK ?_;refine qR ?_;refine qB ?_;refine qJ rfl (fun h31=>?_) (fun h31=>?_)
   ·try simp only [Bool.not_eq_true'] at h31
    try simp only [zds] at h31
    cases h31
   ·try simp only [Bool.not_eq_false'] at h31
    try simp only [zds] at h31
    refine qB ?_;refine qJ rfl (fun h35=>?_) (fun h35=>?_)
    ·try simp only [decide_eq_true_eq] at h35
     try simp only [zds] at h35
     omega
    ·try simp only [decide_eq_false_iff_not,Int.not_le] at h35
     try simp only [zds] at h35
     refine qO ?_;refine qB ?_;refine qK ?_;refine yG rfl ?_;refine qN 0 rfl ?_;refine qN 1 rfl ?_;refine qN 2 rfl ?_;refine qN 3 rfl ?_;refine qN 5 rfl ?_;refine qN 6 rfl ?_;refine zob ?_;refine qN 8 rfl ?_;refine qC [4,7] ?_;refine zai ?_ ?_
     ·refine qC [7] ?_;refine qC [9] ?_;refine qC [10] ?_;refine qC [11] ?_;refine Or.inr (Or.inr (Or.inr (zei [1,3] (zei [] (zei _ (zei _ (zei _ (zei _ (zei _ (zai (hins) (zai rfl (zai (zai (zai rfl rfl) (zai (zai rfl rfl) True.intro)) (zai rfl ?_)))))))))))));refine qN 12 rfl ?_;refine qN 13 rfl ?_;refine qC [14] ?_;refine qQ ?_;refine qB ?_;refine zai (by first|omega|assumption|decide|(simp only [];omega)|(simp <;> omega)) ?_;refine qB ?_;refine zai (by first|omega|assumption|decide|(simp only [];omega)|(simp <;> omega)) ?_;refine qB ?_;refine qL ?_;exact ⟨rfl,⟨rfl,rfl⟩,rfl⟩
     ·refine qC [4,9] ?_;refine zai ?_ ?_
      ·refine qC [9] ?_;refine qC [10] ?_;refine qC [11] ?_;refine Or.inr (Or.inr (Or.inr (zei [1,3] (zei [] (zei _ (zei _ (zei _ (zei _ (zei _ (zai (hins) (zai rfl (zai (zai (zai rfl rfl) (zai (zai rfl rfl) True.intro)) (zai rfl ?_)))))))))))));refine qN 12 rfl ?_;refine qN 13 rfl ?_;refine qC [14] ?_;refine qQ ?_;refine qB ?_;refine zai (by first|omega|assumption|decide|(simp only [];omega)|(simp <;> omega)) ?_;refine qB ?_;refine zai (by first|omega|assumption|decide|(simp only [];omega)|(simp <;> omega)) ?_;refine qB ?_;refine qL ?_;exact ⟨rfl,⟨rfl,rfl⟩,rfl⟩
      ·refine qC [4,10] ?_;refine zai ?_ ?_
       ·refine qC [10] ?_;refine qC [11] ?_;refine Or.inr (Or.inr (Or.inr (zei [1,3] (zei [] (zei _ (zei _ (zei _ (zei _ (zei _ (zai (hins) (zai rfl (zai (zai (zai rfl rfl) (zai (zai rfl rfl) True.intro)) (zai rfl ?_)))))))))))));refine qN 12 rfl ?_;refine qN 13 rfl ?_;refine qC [14] ?_;refine qQ ?_;refine qB ?_;refine zai (by first|omega|assumption|decide|(simp only [];omega)|(simp <;> omega)) ?_;refine qB ?_;refine zai (by first|omega|assumption|decide|(simp only [];omega)|(simp <;> omega)) ?_;refine qB ?_;refine qL ?_;exact ⟨rfl,⟨rfl,rfl⟩,rfl⟩
       ·refine qC [4] ?_;refine qC [11] ?_;refine Or.inr (Or.inr (Or.inr (zei [1,3] (zei [] (zei _ (zei _ (zei _ (zei _ (zei _ (zai (hins) (zai rfl (zai (zai (zai rfl rfl) (zai (zai rfl rfl) True.intro)) (zai rfl ?_)))))))))))));refine qN 12 rfl ?_;refine qN 13 rfl ?_;refine qC [14] ?_;refine qQ ?_;refine qB ?_;refine zai (by first|omega|assumption|decide|(simp only [];omega)|(simp <;> omega)) ?_;refine qB ?_;refine zai (by first|omega|assumption|decide|(simp only [];omega)|(simp <;> omega)) ?_;refine qB ?_;refine qL ?_;exact ⟨rfl,⟨rfl,rfl⟩,rfl⟩
def doL (L : Lst) (e : Edt) : Lst :=
  if e.1 = 1 then
    if atE L.1 e.2.1 < 0 then L else if (chkR e.2.2).2 ≠ 0 then L else (xW L.1 (atE L.1 e.2.1).toNat (xC e.2.2),L.2)
  else if e.1 = 2 then
    if atE L.1 e.2.1 < 0 then L else (delE L.1 (atE L.1 e.2.1).toNat,L.2.1,L.2.2 - 1)
  else if atE L.1 e.2.1 < 0 ∧ e.2.1 ≠ 0 then L else if (chkR e.2.2).2 ≠ 0 then L else if 400 ≤ L.2.2 then L else
    (insE L.1 (atE L.1 e.2.1 + 1).toNat (xC e.2.2,L.2.1),L.2.1 + 1,L.2.2 + 1)
def refRep (M : RLs) (id : Int) (f : List Fld) : RLs × Int × Int :=
  if atE M.1 id < 0 then (M,-9,7) else if (chkR f).2 ≠ 0 then (M,(chkR f).1,(chkR f).2) else ((xW M.1 (atE M.1 id).toNat (xC f),M.2),-9,0)
def refDel (M : RLs) (id : Int) : RLs × Int :=
  if atE M.1 id < 0 then (M,7) else ((delE M.1 (atE M.1 id).toNat,M.2),0)
def refIns (M : RLs) (id : Int) (f : List Fld) : RLs × Int × Int × Int :=
  if atE M.1 id < 0 ∧ id ≠ 0 then (M,0,-9,7) else if (chkR f).2 ≠ 0 then (M,0,(chkR f).1,(chkR f).2) else if 400 ≤ ((M.1.filter live).length : Int) then (M,0,-9,11) else
    ((insE M.1 (atE M.1 id + 1).toNat (xC f,M.2),M.2 + 1),M.2,-9,0)
def posI (n : Int) : Bool:=decide (0 < n)
def nmsL (es : List Ent) : List Int:=(es.map (·.2)).filter posI
theorem ids_eq (es : List Ent) : (es.filter live).map (·.2) = nmsL es:=by
  unfold nmsL;rw [List.filter_map];rfl
theorem ids_len (es : List Ent) : (nmsL es).length = (es.filter live).length:=by rw [← ids_eq,List.length_map]
structure LOk (c : Nat) (L : Lst) : Prop where
  flds : ∀ e ∈ L.1,yQ e.1.2.2
  ids : ∀ e ∈ L.1,0 ≤ e.2 ∧ e.2 < L.2.1
  nd : (nmsL L.1).Nodup
  many : L.2.2 = ((nmsL L.1).length : Int)
  next : 1 ≤ L.2.1 ∧ L.2.1 ≤ c
  len : L.1.length ≤ c
theorem ids_repl (es : List Ent) (i : Nat) (x : Itm) (h : i < es.length) : (xW es i x).map (·.2) = es.map (·.2):=by
  apply List.ext_getElem
  · simp [xW]
  · intro j h1 h2;simp only [xW,List.getElem_map,List.getElem_set];split
    · rename_i e;subst e;simp only;rw [List.getD_eq_getElem?_getD,List.getElem?_eq_getElem h];rfl
    · rfl
theorem mem_repl {es : List Ent} {i : Nat} {x : Itm} {e : Ent} (h : e ∈ xW es i x) : e ∈ es ∨ e = (x,(es.getD i (((0 : Int),ByteArray.empty,([] : List Fld)),(0 : Int))).2):=List.mem_or_eq_of_mem_set h
theorem del_split {es : List Ent} {i : Nat} (h : i < es.length) : es = es.take i ++ (es.getD i (((0 : Int),ByteArray.empty,([] : List Fld)),(0 : Int))) :: es.drop (i + 1):=by
  conv=>lhs;rw [← List.take_append_drop i es,List.drop_eq_getElem_cons h]
  rw [List.getD_eq_getElem?_getD,List.getElem?_eq_getElem h];rfl
theorem mem_del {es : List Ent} {i : Nat} {e : Ent} (h : e ∈ delE es i) : e ∈ es:=by
  rcases List.mem_append.1 h with h|h
  · exact List.mem_of_mem_take h
  · exact List.mem_of_mem_drop h
theorem ids_app (a b : List Ent) : nmsL (a ++ b) = nmsL a ++ nmsL b:=by unfold nmsL;rw [List.map_append,List.filter_append]
theorem ids_cons (e : Ent) (b : List Ent) : nmsL (e :: b) = if 0 < e.2 then e.2 :: nmsL b else nmsL b:=by
  unfold nmsL;rw [List.map_cons,List.filter_cons];unfold posI
  by_cases h : 0 < e.2
  · rw [if_pos h,if_pos (decide_eq_true h)]
  · rw [if_neg h,if_neg (by simpa using h)]
theorem ids_del {es : List Ent} {i : Nat} (h : i < es.length) (hp : 0 < (es.getD i (((0 : Int),ByteArray.empty,([] : List Fld)),(0 : Int))).2) : (nmsL es).length = (nmsL (delE es i)).length + 1 ∧ ((nmsL es).Nodup → (nmsL (delE es i)).Nodup):=by
  have e1 : nmsL es = nmsL (es.take i) ++ (es.getD i (((0 : Int),ByteArray.empty,([] : List Fld)),(0 : Int))).2 :: nmsL (es.drop (i + 1)):=by
    conv=>lhs;rw [del_split h,ids_app,ids_cons,if_pos hp]
  have e2 : nmsL (delE es i) = nmsL (es.take i) ++ nmsL (es.drop (i + 1)):=ids_app _ _;rw [e1,e2];refine ⟨by simp only [List.length_append,List.length_cons];omega,fun hn=>?_⟩;exact hn.sublist (List.Sublist.append_left (List.sublist_cons_self _ _) _)
theorem mem_ins {es : List Ent} {i : Nat} {x e : Ent} (h : e ∈ insE es i x) : e ∈ es ∨ e = x:=by
  rcases List.mem_append.1 h with h|h
  · exact .inl (List.mem_of_mem_take h)
  · rcases List.mem_cons.1 h with h|h
    · exact .inr h
    · exact .inl (List.mem_of_mem_drop h)
theorem ids_ins {es : List Ent} {i : Nat} {x : Ent} (hp : 0 < x.2) (hlt : ∀ e ∈ es,e.2 < x.2) : (nmsL (insE es i x)).length = (nmsL es).length + 1 ∧ ((nmsL es).Nodup → (nmsL (insE es i x)).Nodup):=by
  have e1 : nmsL es = nmsL (es.take i) ++ nmsL (es.drop i):=by
    conv=>lhs;rw [← List.take_append_drop i es,ids_app]
  have e2 : nmsL (insE es i x) = nmsL (es.take i) ++ x.2 :: nmsL (es.drop i):=by unfold insE;rw [ids_app,ids_cons,if_pos hp]
  have hno : x.2 ∉ nmsL es:=fun h=>by
    unfold nmsL at h;obtain ⟨e,he,hx⟩:=List.mem_map.1 (List.mem_filter.1 h).1;have:=hlt e he;omega
  rw [e1] at hno ⊢;rw [e2];refine ⟨by simp only [List.length_append,List.length_cons];omega,fun hn=>?_⟩;rw [List.perm_middle.nodup_iff];exact List.nodup_cons.2 ⟨hno,hn⟩
theorem doL_ok {c : Nat} {L : Lst} {e : Edt} (h : LOk c L) (hf : yQ e.2.2) : LOk (c + 1) (doL L e):=by
  have h0 : LOk (c + 1) L:=⟨h.flds,h.ids,h.nd,h.many,⟨h.next.1,by have:=h.next.2;omega⟩,by have:=h.len;omega⟩;have hat : ∀ id,¬ atE L.1 id < 0 → ∃ i : Nat,i < L.1.length ∧ atE L.1 id = i ∧ 0 < id ∧ (L.1.getD i (((0 : Int),ByteArray.empty,([] : List Fld)),(0 : Int))).2 = id:=fun id hn=>by
    rcases at_cases L.1 id with ⟨h1,_⟩|⟨i,h1,h2,h3,h4,_⟩
    · omega
    · exact ⟨i,h1,h2,h3,h4⟩
  unfold doL;split
  · split
    · exact h0
    · rename_i hn;obtain ⟨i,hi,he,hp,hid⟩:=hat _ hn;rw [he,Int.toNat_natCast];split
      · exact h0
      · have hids : nmsL (xW L.1 i (xC e.2.2)) = nmsL L.1:=by unfold nmsL;rw [ids_repl _ _ _ hi]
        refine ⟨fun x hx=>?_,fun x hx=>?_,by show (nmsL (xW L.1 i _)).Nodup;rw [hids];exact h.nd,by show L.2.2 = ((nmsL (xW L.1 i _)).length : Int);rw [hids];exact h.many,h0.next,?_⟩
        · rcases mem_repl hx with hx|rfl
          · exact h.flds x hx
          · exact hf
        · rcases mem_repl hx with hx|rfl
          · exact h.ids x hx
          · show 0 ≤ (L.1.getD i (((0 : Int),ByteArray.empty,([] : List Fld)),(0 : Int))).2 ∧ (L.1.getD i (((0 : Int),ByteArray.empty,([] : List Fld)),(0 : Int))).2 < L.2.1;exact h.ids _ (yZ hi (((0 : Int),ByteArray.empty,([] : List Fld)),(0 : Int)))
        · show (xW L.1 i _).length ≤ c + 1;unfold xW;rw [List.length_set];exact h0.len
  · split
    · split
      · exact h0
      · rename_i hn;obtain ⟨i,hi,he,hp,hid⟩:=hat _ hn;rw [he,Int.toNat_natCast];obtain ⟨h1,h2⟩:=ids_del hi (by omega);refine ⟨fun x hx=>h.flds x (mem_del hx),fun x hx=>h.ids x (mem_del hx),h2 h.nd,?_,h0.next,?_⟩
        · show L.2.2 - 1 = ((nmsL (delE L.1 i)).length : Int);rw [h.many];omega
        · show (delE L.1 i).length ≤ c + 1;have:=h.len;unfold delE;rw [List.length_append,List.length_take,List.length_drop];omega
    · split
      · exact h0
      · rename_i hn;split
        · exact h0
        · split
          · exact h0
          · have hnx:=h.next;obtain ⟨h1,h2⟩:=ids_ins (es:=L.1) (i:=(atE L.1 e.2.1 + 1).toNat) (x:=(xC e.2.2,L.2.1)) (by show 0 < L.2.1;omega) (fun x hx=>(h.ids x hx).2);refine ⟨fun x hx=>?_,fun x hx=>?_,h2 h.nd,?_,⟨by show 1 ≤ L.2.1 + 1;omega,by show L.2.1 + 1 ≤ ((c + 1 : Nat) : Int);omega⟩,?_⟩
            · rcases mem_ins hx with hx|rfl
              · exact h.flds x hx
              · exact hf
            · show 0 ≤ x.2 ∧ x.2 < L.2.1 + 1;rcases mem_ins hx with hx|rfl
              · have:=h.ids x hx;omega
              · show 0 ≤ L.2.1 ∧ L.2.1 < L.2.1 + 1;omega
            · show L.2.2 + 1 = _;rw [h1,h.many];omega
            · have:=h.len;show (insE L.1 _ _).length ≤ c + 1;unfold insE;rw [List.length_append,List.length_cons,List.length_take,List.length_drop];omega
theorem ids_num : ∀ (l : List Itm) (n : Int),1 ≤ n → nmsL (numI n l) = (List.range (cntR l)).map (fun k : Nat=>n + (k : Int)) ∧ ∀ e ∈ numI n l,0 ≤ e.2 ∧ e.2 < n + (cntR l : Int)
  | [],n,_=>⟨rfl,fun e he=>by cases he⟩
  | x :: r,n,hn=>by
    unfold numI;split
    · rename_i h;obtain ⟨h1,h2⟩:=ids_num r (n + 1) (by omega);have hc : cntR (x :: r) = cntR r + 1:=by simp [cntR,h]
      rw [hc];refine ⟨?_,fun e he=>?_⟩
      · rw [ids_cons,if_pos (show 0 < n by omega),h1,List.range_succ_eq_map,List.map_cons,List.map_map]
        congr 1
        · simp
        · apply List.map_congr_left;intro k _;simp only [Function.comp];omega
      · rcases List.mem_cons.1 he with rfl|he
        · show 0 ≤ n ∧ n < _;omega
        · have:=h2 e he;omega
    · rename_i h;obtain ⟨h1,h2⟩:=ids_num r n hn;have hc : cntR (x :: r) = cntR r:=by simp [cntR,h]
      rw [hc];refine ⟨?_,fun e he=>?_⟩
      · rw [ids_cons,if_neg (show ¬ (0 : Int) < 0 by omega),h1]
      · rcases List.mem_cons.1 he with rfl|he
        · show 0 ≤ (0 : Int) ∧ (0 : Int) < _;omega
        · exact h2 e he
theorem ofT_ok {l : List Itm} {c : Nat} (hl : l.length < c) (hf : ∀ x ∈ l,yQ x.2.2) : LOk c (ofT l):=by
  obtain ⟨h1,h2⟩:=ids_num l 1 (Int.le_refl _);have h3:=List.length_filter_le isRec l;have h4 : cntR l ≤ l.length:=h3;refine ⟨fun e he=>?_,h2,?_,?_,⟨?_,?_⟩,?_⟩
  · have : e.1 ∈ (numI 1 l).map (·.1):=List.mem_map.2 ⟨e,he,rfl⟩;rw [numI_items] at this;exact hf _ this
  · show (nmsL (numI 1 l)).Nodup;rw [h1];refine List.Pairwise.map _ ?_ List.nodup_range;intro a b hab e;apply hab;omega
  · show (cntR l : Int) = _;rw [show nmsL (ofT l).1 = _ from h1,List.length_map,List.length_range]
  · show 1 ≤ 1 + (cntR l : Int);omega
  · show 1 + (cntR l : Int) ≤ c;omega
  · show (numI 1 l).length ≤ c;rw [numI_len];omega
def refDo (M : RLs) (e : Edt) : RLs:=if e.1 = 1 then (refRep M e.2.1 e.2.2).1 else if e.1 = 2 then (refDel M e.2.1).1 else (refIns M e.2.1 e.2.2).1
abbrev zRL : List C:=[.lit (.slice none 0 0),.lit (.int .i64 0)]
def insT (es : List Ent) (j : Nat) (e : Ent) (i : Nat) : List Ent:=if i < j then es.take i else insE (es.take i) j e
def doB (num at_ id bad at2 want : Int) : Bool:=((true && decide (num = bad)) && decide (at_ = at2)) && decide (id = want)
theorem acallo_arg {P : Program} {f : FuncId} {xs ys : List A} {ob ob' : Obs} {m m' : Nat} {r : A} (h : ∀ ok ρ w vs,xH ok ρ w xs vs → xH ok ρ w ys vs) (hc : qU P f ys ob m r ob' m') : qU P f xs ob m r ob' m' :=
  ⟨hc.1,fun cx ρ w vs h1 h2 h3 h4 h5=>hc.2 cx ρ w vs h1 h2 h3 h4 (h _ _ _ _ h5)⟩
theorem chk_shape {f : List Fld} (h : (chkR f).2 ≠ 0) : (∃ k9,chkA f = errN k9 ∧ k9 ≠ 0 ∧ (-9 : Int) = (chkR f).1 ∧ k9 = (chkR f).2) ∨ ∃ a9 k9,chkA f = errF a9 k9 ∧ k9 ≠ 0 ∧ a9 = (chkR f).1 ∧ k9 = (chkR f).2:=by
  obtain ⟨e,he,hs⟩:=chk_bad h;rcases hs with ⟨n,hn,rfl,hr⟩|⟨i,n,hn,rfl,hr⟩
  · exact .inl ⟨n,he,hn,by rw [hr],by rw [hr]⟩
  · exact .inr ⟨i,n,he,hn,by rw [hr],by rw [hr]⟩
def plays (L : Lst) (s : List Edt) (i : Nat) : Lst:=(s.take i).foldl doL L
theorem plays_snoc (L : Lst) {s : List Edt} {i : Nat} (h : i < s.length) : plays L s (i + 1) = doL (plays L s i) (s.getD i ((0 : Int),(0 : Int),([] : List Fld))):=by
  unfold plays;rw [← xD ((0 : Int),(0 : Int),([] : List Fld)) h,List.foldl_append];rfl
theorem plays_ok {c : Nat} {L : Lst} {s : List Edt} (h : LOk c L) (hf : ∀ e ∈ s,yQ e.2.2) : ∀ i,i ≤ s.length → LOk (c + i) (plays L s i)
  | 0,_=>by simpa [plays] using h
  | i + 1,hi=>by
    rw [plays_snoc L (by omega)];exact doL_ok (plays_ok h hf i (by omega)) (hf _ (yZ (by omega) ((0 : Int),(0 : Int),([] : List Fld))))
theorem heavy_ok {s : List Edt} (h : heavyB s = false) : s.length ≤ 51 ∧ ∀ e ∈ s,muchB e.2.2 = false:=by
  unfold heavyB at h;simp only [Bool.or_eq_false_iff,decide_eq_false_iff_not] at h;exact ⟨by omega,fun e he=>by simpa using List.any_eq_false.1 h.2 e he⟩
theorem items_len {s : ByteArray} {l : List Itm} (hp : xK s = .inr l) : l.length ≤ 2 * s.size + 1:=by
  have h0:=parse_ref s;rw [hp] at h0;obtain ⟨h1,_⟩:=linesT_len s;have key : ∀ (L : List Lne) (t : RSt) (bh : Bool) (l : List Itm),runR bh t L = .inr l → l.length ≤ t.out.length + 1 + 2 * L.length:=by
    intro L
    induction L with
    | nil =>
      intro t bh l h;unfold runR at h;cases h;split <;> simp
    | cons a r ih =>
      intro t bh l h;unfold runR at h;split at h
      · cases h
      · have i1:=ih _ _ _ h;have so : (stepR t a r).out.length ≤ t.out.length + 2:=by
          unfold stepR;split
          · simp only;split <;> simp
          · split <;> simp
        rw [List.length_cons];omega
  have k1:=key _ _ _ _ h0.symm;simp only [rst0,List.length_nil] at k1;omega
theorem of_lok {s : ByteArray} {l : List Itm} (hs : s.size ≤ 4000) (hp : xK s = .inr l) : LOk 9000 (ofT l):=by
  have h1:=items_len hp;exact ofT_ok (by omega) fun x hx=>fldsOk_of (items_small hp x hx).1 (items_small hp x hx).2
theorem LOk.f1 {c : Nat} {L : Lst} (h : LOk c L) : ∀ e ∈ L.1,e.1.2.2.length ≤ 1000000:=fun e he=>Nat.le_trans (h.flds e he).1 (by decide)
theorem a1_parse7 : xK ⟨#[65,58,32,49,10]⟩ = .inr [(3,⟨#[65,58,32,49,10]⟩,[(⟨#[65]⟩,⟨#[49]⟩)])]:=by decide +kernel
def al0 : List Ent:=[((3,⟨#[65,58,32,49,10]⟩,[(⟨#[65]⟩,⟨#[49]⟩)]),1)]
def alF : List Fld:=[(⟨#[66]⟩,⟨#[50]⟩)]
def al1 : List Ent:=insE al0 0 (xC alF,2)
end Q
end Ab
end Go.Proofs.YtojipboabgebfaaGreatDoor
namespace Go.Proofs.YtojipboabgebfaaGreatDoor
open Go.RowKit
namespace Ab
set_option maxRecDepth 100000
theorem acallo_arg {P : Program} {f : FuncId} {xs ys : List A} {r : A} {ob ob' : Obs} {m m' : Nat} (h : ∀ ok ρ w vs,xH ok ρ w xs vs → xH ok ρ w ys vs) (hc : qU P f ys ob m r ob' m') : qU P f xs ob m r ob' m' :=
  ⟨hc.1,fun cx ρ w vs h1 h2 h3 h4 h5=>hc.2 cx ρ w vs h1 h2 h3 h4 (h _ _ _ _ h5)⟩
theorem tyTst : TyOk Tryz.prog 120 ty120:=tyOk120
namespace Q
abbrev TSt:=Lst × List Edt
abbrev rSt : Rd TSt:=.st (.ptk 0 (rLst 0)) (.sl rEdt)
def txO (sts : List TSt) : Obs:=[(0,.box 123 [.vec 1]),(1,.vec 120 rSt sts)]
theorem copyT_c (s : List Edt) (hf : ∀ e ∈ s,e.2.2.length ≤ 1000000) (hl : s.length ≤ 1000000) : qY Tryz.prog 65 [.one (.sl rEdt s)] (.one (.sl rEdt s)):=by
  refine qX (rs:=[2]) Tryz.func65 rfl rfl rfl teOk rfl ?_;refine qB ?_;refine qB ?_;refine qK ?_;refine qK ?_;refine xR 3 31 rEdt rfl ?_;refine qM ?_;intro l2_1
  try simp only [zds] at l2_1
  refine qR ?_;refine yJ (fun (i : Nat)=>i ≤ s.length) (fun (i : Nat)=>[(3,.one (.vec 0)),(6,.one (.sl rEdt s)),(7,ii .i64 s.length),(8,ii .i64 i)]) (fun (i : Nat)=>[(0,.vec 31 rEdt (s.take i))]) 1 (fun (i : Nat)=>s.length - i) 0 (Nat.zero_le _) (qP ⟨rfl,rfl,rfl,rfl⟩ rfl rfl) ?_;intro i hI0;refine qB ?_;refine qK ?_;refine qJ rfl (fun h9=>?_) (fun h9=>?_)
  ·try simp only [decide_eq_true_eq] at h9
   try simp only [zds] at h9
   have hil : i < s.length:=(by omega);refine qO ?_;refine qK ?_;refine qR ?_;refine qB ?_;refine zob ?_;refine qB ?_;refine Or.inl ?_;refine zai (rfl) ?_;refine zei _ (zai (yA (s.getD i ((0 : Int),(0 : Int),([] : List Fld))).2.2 (hf _ (yZ hil ((0 : Int),(0 : Int),([] : List Fld))))) ?_);refine qM ?_;refine zai (by exact qT (show (s.take i).length + 1 ≤ 1000000000 by rw [List.length_take];omega) (by decide)) ?_;refine qM ?_;refine zob ?_;exact ⟨i + 1,by omega,by first|omega|(simp <;> omega),qP ⟨rfl,rfl,rfl,(yW (by omega))⟩ (qS (by rw [← xD ((0 : Int),(0 : Int),([] : List Fld)) hil];try exact rfl)) rfl⟩
  ·try simp only [decide_eq_false_iff_not,Int.not_lt] at h9
   try simp only [zds] at h9
   refine yP ?_;refine qB ?_;refine qL ?_;rw [List.take_of_length_le (by omega)];exact rfl
theorem topen_c {k : Nat} (sts : List TSt) : qY Tryz.prog 72 [.one (.adk k (.slk k rSt) sts)] (ib (decide (0 < sts.length))):=by
  refine qX (rs:=[2]) Tryz.func72 rfl rfl rfl teOk rfl ?_;refine qB ?_;refine qB ?_;refine zai (fun h=>trivial) ?_;refine zai (fun h=>⟨⟨h,trivial⟩,trivial⟩) ?_;refine zai (fun h=>⟨⟨h,trivial⟩,trivial⟩) ?_;refine zai (fun h=>⟨⟨h,trivial⟩,trivial⟩) ?_;refine zai (fun h=>⟨⟨h,trivial⟩,trivial⟩) ?_;refine zai (fun h=>⟨⟨h,trivial⟩,trivial⟩) ?_;refine zai (by exact fun h=>h) ?_;refine qL ?_;exact ib_eq (by simp)
theorem tmark_c {k : Nat} (sts : List TSt) (h : 0 < sts.length) : qY Tryz.prog 26 [.one (.adk k (.slk k rSt) sts)] (ii .i64 ((sts.length : Int) - 1)):=by
  refine qX (rs:=[2]) Tryz.func26 rfl rfl rfl teOk rfl ?_;refine qB ?_;refine qK ?_;refine qB ?_;refine Or.inl ?_;refine zai (rfl) ?_;refine zei _ (zai (topen_c sts) ?_);refine qJ rfl (fun h5=>?_) (fun h5=>?_)
  ·try simp only [decide_eq_false_iff_not,Bool.not_eq_true'] at h5
   try simp only [zds] at h5
   exfalso
   simp at h5;have h9 : sts.length = 0:=(by rw [h5];rfl);omega
  ·try simp only [decide_eq_true_eq,Bool.not_eq_false'] at h5
   try simp only [zds] at h5
   refine qO ?_;refine qB ?_;intro l3_4
   try simp only [zds] at l3_4
   refine zob ?_;refine qL ?_;rfl
theorem tnow_c {k : Nat} (sts : List TSt) (h : 0 < sts.length) : qY Tryz.prog 75 [.one (.adk k (.slk k rSt) sts)] (.agg (toL rSt (sts.getD (sts.length - 1) ((([] : List Ent),(0 : Int),(0 : Int)),([] : List Edt))))):=by
  refine acall_ofc (rs:=[.cell 2 120]) Tryz.func75 rfl rfl rfl teOk rfl ?_;refine qB ?_;refine qK ?_;refine yG rfl ?_;refine qN 0 rfl ?_;refine qN 1 rfl ?_;refine qN 2 rfl ?_;refine qN 4 rfl ?_;refine qN 5 rfl ?_;refine qN 6 rfl ?_;refine qC [3,7] ?_;refine zai ?_ ?_
  ·refine qC [7] ?_;refine qN 8 rfl ?_;intro l1_8
   try simp only [zds] at l1_8
   refine qN 9 rfl ?_;refine zob ?_;refine qN 10 rfl ?_;refine zob ?_;refine qC [11] ?_;refine qC [12] ?_;refine qQ ?_;refine qL ?_;rw [show ((sts.length : Int) - 1).toNat = sts.length - 1 by omega];exact rfl
  ·refine qN 8 rfl ?_;intro l1_8
   try simp only [zds] at l1_8
   refine qN 9 rfl ?_;refine zob ?_;refine qC [3] ?_;refine qN 10 rfl ?_;refine zob ?_;refine qC [11] ?_;refine qC [12] ?_;refine qQ ?_;refine qL ?_;rw [show ((sts.length : Int) - 1).toNat = sts.length - 1 by omega];exact rfl
set_option maxHeartbeats 8000000 in
theorem tk2_o {f : FuncId} {β γ : Type} (S : Rd β) (y : β) (T : Rd γ) (z : γ) (E : C) (sts sts' : List TSt) (L L' : Lst) (es : List Edt) (x : Edt) (h : 0 < sts.length) (h40 : sts.length ≤ 40) (hl : sts.getD (sts.length - 1) ((([] : List Ent),(0 : Int),(0 : Int)),([] : List Edt)) = (L,es)) (he : es.length ≤ 1000) (hL : L.1.length ≤ 1000000)
    (hdo : (E = .lit .nilIface ∧ sts ++ [(L',es ++ [x])] = sts' ∧ qU Tryz.prog f [.one (.own 0 0),.one (.addr S y),.one (.addr T z)] (lsO L) 2 (.one (.lit .nilIface)) (lsO L') 2) ∨ (∃ k9,E = errN k9 ∧ sts = sts' ∧ qU Tryz.prog f [.one (.own 0 0),.one (.addr S y),.one (.addr T z)] (lsO L) 2 (.one (errN k9)) (lsO L') 2) ∨ (∃ a9 k9,E = errF a9 k9 ∧ sts = sts' ∧ qU Tryz.prog f [.one (.own 0 0),.one (.addr S y),.one (.addr T z)] (lsO L) 2 (.one (errF a9 k9)) (lsO L') 2)) :
    qU Tryz.prog 70 [.one (.own 0 0),.agg (toL rEdt x),.one (.clo2 f (.addr S y) (.addr T z))] (txO sts) 2 (.one E) (txO sts') 2:=by
  have hnow:=tnow_c (k:=1) sts h;rw [hl] at hnow;have hcp:=copyL_o (k:=0) L.1 L.2.1 L.2.2 hL;refine qV (rs:=[6]) Tryz.func70 rfl rfl rfl teOk (by decide) rfl ?_;refine qB ?_;refine qK ?_;refine qR ?_;refine qB ?_;refine Or.inr (Or.inr (Or.inl ?_));refine zai rfl ?_;refine zei _ (zai (topen_c sts) ?_);refine qJ rfl (fun h10=>?_) (fun h10=>?_)
  ·try simp only [decide_eq_false_iff_not,Bool.not_eq_true'] at h10
   try simp only [zds] at h10
   exfalso
   simp at h10;have h9 : sts.length = 0:=(by rw [h10];rfl);omega
  ·try simp only [decide_eq_true_eq,Bool.not_eq_false'] at h10
   try simp only [zds] at h10
   refine qB ?_;refine Or.inr (Or.inr (Or.inl ?_));refine zai rfl ?_;refine zei _ (zai (tmark_c sts h) ?_);refine qJ rfl (fun h15=>?_) (fun h15=>?_)
   ·try simp only [decide_eq_true_eq] at h15
    try simp only [zds] at h15
    exfalso
    omega
   ·try simp only [decide_eq_false_iff_not,Int.not_le] at h15
    try simp only [zds] at h15
    refine qO ?_;refine qB ?_;refine Or.inr (Or.inr (Or.inl ?_));refine zai rfl ?_;refine zei _ (zai (hnow) ?_);refine acode_cut (fun (u : Unit)=>True) (fun (u : Unit)=>[(0,.one (.own 0 0)),(2,.one (.clo2 f (.addr S y) (.addr T z))),(8,.one (.own 7 0))]) (fun (u : Unit)=>[(0,.box 123 [.vec 1]),(1,.vec 120 rSt sts),(3,.vec 138 rEnt L.1),(4,.box 134 [.vec 3,.lit (.int .i64 L.2.1),.lit (.int .i64 L.2.2)]),(6,.vec 31 rEdt (es ++ [x])),(7,.box 120 [.own 4 0,.vec 6])]) 8 ?_ ?_
    ·refine yG rfl ?_;refine qN 0 rfl ?_;refine qN 4 rfl ?_;refine qN 5 rfl ?_;refine qN 6 rfl ?_;intro l6_6;refine qN 7 rfl ?_;refine qN 8 rfl ?_;intro l6_8;refine qN 9 rfl ?_;refine zob ?_;refine qC [1,10,14] ?_;refine zai ?_ ?_
     ·refine Or.inr (Or.inr (Or.inl ?_));refine zai rfl ?_;refine zei _ (zai (hnow) ?_);refine qN 2 rfl ?_;refine qC [3,10,14] ?_;refine zai ?_ ?_
      ·refine Or.inr (Or.inl (zei [] (zei [] (zei _ (zei _ (zei _ (zei _ (zei _ (zai (hcp) (zai rfl (zai True.intro (zai rfl ?_))))))))))));refine qC [10,14] ?_;refine zai ?_ ?_
       ·refine qC [11,14] ?_;refine zai ?_ ?_
        ·refine qC [12,14] ?_;refine zai ?_ ?_
         ·refine zai (by exact ⟨Nat.one_pos,qT (show (es.take (es.length : Int).toNat).length + 1 ≤ 1000000000 by rw [List.length_take];omega) (by decide)⟩) ?_;refine qC [13,14] ?_;refine zai ?_ ?_
          ·refine qC [14] ?_;refine qC [15] ?_;refine qQ ?_;exact ⟨(),trivial,qP ⟨rfl,rfl,rfl⟩ ⟨rfl,rfl,rfl,rfl,(qS (by rw [Int.toNat_natCast,List.take_length];exact rfl)),rfl⟩ rfl⟩
          ·refine qC [13] ?_;refine qC [15] ?_;refine qQ ?_;exact ⟨(),trivial,qP ⟨rfl,rfl,rfl⟩ ⟨rfl,rfl,rfl,rfl,(qS (by rw [Int.toNat_natCast,List.take_length];exact rfl)),rfl⟩ rfl⟩
         ·refine qC [12] ?_;refine zai (by exact ⟨Nat.one_pos,qT (show (es.take (es.length : Int).toNat).length + 1 ≤ 1000000000 by rw [List.length_take];omega) (by decide)⟩) ?_;refine qC [13] ?_;refine qC [15] ?_;refine qI 6 7 rfl rfl rfl rfl ?_;refine qQ ?_;exact ⟨(),trivial,qP ⟨rfl,rfl,rfl⟩ ⟨rfl,rfl,rfl,rfl,(qS (by rw [Int.toNat_natCast,List.take_length];exact rfl)),rfl⟩ rfl⟩
        ·refine qC [11] ?_;refine qC [12] ?_;refine zai (by exact ⟨Nat.one_pos,qT (show (es.take (es.length : Int).toNat).length + 1 ≤ 1000000000 by rw [List.length_take];omega) (by decide)⟩) ?_;refine qC [13] ?_;refine qC [15] ?_;refine qI 5 6 rfl rfl rfl rfl ?_;refine qI 6 7 rfl rfl rfl rfl ?_;refine qQ ?_;exact ⟨(),trivial,qP ⟨rfl,rfl,rfl⟩ ⟨rfl,rfl,rfl,rfl,(qS (by rw [Int.toNat_natCast,List.take_length];exact rfl)),rfl⟩ rfl⟩
       ·refine qC [10] ?_;refine qC [11] ?_;refine qC [12] ?_;refine zai (by exact ⟨Nat.one_pos,qT (show (es.take (es.length : Int).toNat).length + 1 ≤ 1000000000 by rw [List.length_take];omega) (by decide)⟩) ?_;refine qC [13] ?_;refine qC [15] ?_;refine qI 5 6 rfl rfl rfl rfl ?_;refine qI 6 7 rfl rfl rfl rfl ?_;refine qQ ?_;exact ⟨(),trivial,qP ⟨rfl,rfl,rfl⟩ ⟨rfl,rfl,rfl,rfl,(qS (by rw [Int.toNat_natCast,List.take_length];exact rfl)),rfl⟩ rfl⟩
      refine zai ?_ ?_
      ·refine qC [3,11,14] ?_;refine zai ?_ ?_
       ·refine Or.inr (Or.inl (zei [] (zei [] (zei _ (zei _ (zei _ (zei _ (zei _ (zai (hcp) (zai rfl (zai True.intro (zai rfl ?_))))))))))));refine qC [11,14] ?_;refine zai ?_ ?_
        ·refine qC [12,14] ?_;refine zai ?_ ?_
         ·refine zai (by exact ⟨Nat.one_pos,qT (show (es.take (es.length : Int).toNat).length + 1 ≤ 1000000000 by rw [List.length_take];omega) (by decide)⟩) ?_;refine qC [13,14] ?_;refine zai ?_ ?_
          ·refine qC [14] ?_;refine qC [15] ?_;refine qQ ?_;exact ⟨(),trivial,qP ⟨rfl,rfl,rfl⟩ ⟨rfl,rfl,rfl,rfl,(qS (by rw [Int.toNat_natCast,List.take_length];exact rfl)),rfl⟩ rfl⟩
          ·refine qC [13] ?_;refine qC [15] ?_;refine qQ ?_;exact ⟨(),trivial,qP ⟨rfl,rfl,rfl⟩ ⟨rfl,rfl,rfl,rfl,(qS (by rw [Int.toNat_natCast,List.take_length];exact rfl)),rfl⟩ rfl⟩
         ·refine qC [12] ?_;refine zai (by exact ⟨Nat.one_pos,qT (show (es.take (es.length : Int).toNat).length + 1 ≤ 1000000000 by rw [List.length_take];omega) (by decide)⟩) ?_;refine qC [13] ?_;refine qC [15] ?_;refine qI 6 7 rfl rfl rfl rfl ?_;refine qQ ?_;exact ⟨(),trivial,qP ⟨rfl,rfl,rfl⟩ ⟨rfl,rfl,rfl,rfl,(qS (by rw [Int.toNat_natCast,List.take_length];exact rfl)),rfl⟩ rfl⟩
        ·refine qC [11] ?_;refine qC [12] ?_;refine zai (by exact ⟨Nat.one_pos,qT (show (es.take (es.length : Int).toNat).length + 1 ≤ 1000000000 by rw [List.length_take];omega) (by decide)⟩) ?_;refine qC [13] ?_;refine qC [15] ?_;refine qI 5 6 rfl rfl rfl rfl ?_;refine qI 6 7 rfl rfl rfl rfl ?_;refine qQ ?_;exact ⟨(),trivial,qP ⟨rfl,rfl,rfl⟩ ⟨rfl,rfl,rfl,rfl,(qS (by rw [Int.toNat_natCast,List.take_length];exact rfl)),rfl⟩ rfl⟩
       refine zai ?_ ?_
       ·refine qC [3,14] ?_;refine zai ?_ ?_
        ·refine Or.inr (Or.inl (zei [] (zei [] (zei _ (zei _ (zei _ (zei _ (zei _ (zai (hcp) (zai rfl (zai True.intro (zai rfl ?_))))))))))));refine qC [12,14] ?_;refine zai ?_ ?_
         ·refine zai (by exact ⟨Nat.one_pos,qT (show (es.take (es.length : Int).toNat).length + 1 ≤ 1000000000 by rw [List.length_take];omega) (by decide)⟩) ?_;refine qC [13,14] ?_;refine zai ?_ ?_
          ·refine qC [14] ?_;refine qC [15] ?_;refine qI 3 4 rfl rfl rfl rfl ?_;refine qI 4 5 rfl rfl rfl rfl ?_;refine qQ ?_;exact ⟨(),trivial,qP ⟨rfl,rfl,rfl⟩ ⟨rfl,rfl,rfl,rfl,(qS (by rw [Int.toNat_natCast,List.take_length];exact rfl)),rfl⟩ rfl⟩
          ·refine qC [13] ?_;refine qC [15] ?_;refine qI 3 4 rfl rfl rfl rfl ?_;refine qI 4 5 rfl rfl rfl rfl ?_;refine qQ ?_;exact ⟨(),trivial,qP ⟨rfl,rfl,rfl⟩ ⟨rfl,rfl,rfl,rfl,(qS (by rw [Int.toNat_natCast,List.take_length];exact rfl)),rfl⟩ rfl⟩
         ·refine qC [12] ?_;refine zai (by exact ⟨Nat.one_pos,qT (show (es.take (es.length : Int).toNat).length + 1 ≤ 1000000000 by rw [List.length_take];omega) (by decide)⟩) ?_;refine qC [13] ?_;refine qC [15] ?_;refine qI 3 4 rfl rfl rfl rfl ?_;refine qI 4 5 rfl rfl rfl rfl ?_;refine qI 6 7 rfl rfl rfl rfl ?_;refine qQ ?_;exact ⟨(),trivial,qP ⟨rfl,rfl,rfl⟩ ⟨rfl,rfl,rfl,rfl,(qS (by rw [Int.toNat_natCast,List.take_length];exact rfl)),rfl⟩ rfl⟩
        ·refine qC [3] ?_;refine Or.inr (Or.inl (zei [] (zei [] (zei _ (zei _ (zei _ (zei _ (zei _ (zai (hcp) (zai rfl (zai True.intro (zai rfl ?_))))))))))));refine qC [12] ?_;refine zai (by exact ⟨Nat.one_pos,qT (show (es.take (es.length : Int).toNat).length + 1 ≤ 1000000000 by rw [List.length_take];omega) (by decide)⟩) ?_;refine qC [13] ?_;refine qC [15] ?_;refine qI 3 5 rfl rfl rfl rfl ?_;refine qI 4 6 rfl rfl rfl rfl ?_;refine qI 6 7 rfl rfl rfl rfl ?_;refine qQ ?_;exact ⟨(),trivial,qP ⟨rfl,rfl,rfl⟩ ⟨rfl,rfl,rfl,rfl,(qS (by rw [Int.toNat_natCast,List.take_length];exact rfl)),rfl⟩ rfl⟩
       ·refine qC [3,11] ?_;refine zai ?_ ?_
        ·refine Or.inr (Or.inl (zei [] (zei [] (zei _ (zei _ (zei _ (zei _ (zei _ (zai (hcp) (zai rfl (zai True.intro (zai rfl ?_))))))))))));refine qC [11] ?_;refine qC [12] ?_;refine zai (by exact ⟨Nat.one_pos,qT (show (es.take (es.length : Int).toNat).length + 1 ≤ 1000000000 by rw [List.length_take];omega) (by decide)⟩) ?_;refine qC [13] ?_;refine qC [15] ?_;refine qI 3 4 rfl rfl rfl rfl ?_;refine qI 4 5 rfl rfl rfl rfl ?_;refine qI 5 6 rfl rfl rfl rfl ?_;refine qI 6 7 rfl rfl rfl rfl ?_;refine qQ ?_;exact ⟨(),trivial,qP ⟨rfl,rfl,rfl⟩ ⟨rfl,rfl,rfl,rfl,(qS (by rw [Int.toNat_natCast,List.take_length];exact rfl)),rfl⟩ rfl⟩
        ·refine qC [3] ?_;refine Or.inr (Or.inl (zei [] (zei [] (zei _ (zei _ (zei _ (zei _ (zei _ (zai (hcp) (zai rfl (zai True.intro (zai rfl ?_))))))))))));refine qC [12] ?_;refine zai (by exact ⟨Nat.one_pos,qT (show (es.take (es.length : Int).toNat).length + 1 ≤ 1000000000 by rw [List.length_take];omega) (by decide)⟩) ?_;refine qC [13] ?_;refine qC [15] ?_;refine qI 3 5 rfl rfl rfl rfl ?_;refine qI 4 6 rfl rfl rfl rfl ?_;refine qI 5 6 rfl rfl rfl rfl ?_;refine qI 6 7 rfl rfl rfl rfl ?_;refine qQ ?_;exact ⟨(),trivial,qP ⟨rfl,rfl,rfl⟩ ⟨rfl,rfl,rfl,rfl,(qS (by rw [Int.toNat_natCast,List.take_length];exact rfl)),rfl⟩ rfl⟩
      ·refine qC [3,10] ?_;refine zai ?_ ?_
       ·refine Or.inr (Or.inl (zei [] (zei [] (zei _ (zei _ (zei _ (zei _ (zei _ (zai (hcp) (zai rfl (zai True.intro (zai rfl ?_))))))))))));refine qC [10] ?_;refine qC [11] ?_;refine qC [12] ?_;refine zai (by exact ⟨Nat.one_pos,qT (show (es.take (es.length : Int).toNat).length + 1 ≤ 1000000000 by rw [List.length_take];omega) (by decide)⟩) ?_;refine qC [13] ?_;refine qC [15] ?_;refine qI 3 4 rfl rfl rfl rfl ?_;refine qI 4 5 rfl rfl rfl rfl ?_;refine qI 5 6 rfl rfl rfl rfl ?_;refine qI 6 7 rfl rfl rfl rfl ?_;refine qQ ?_;exact ⟨(),trivial,qP ⟨rfl,rfl,rfl⟩ ⟨rfl,rfl,rfl,rfl,(qS (by rw [Int.toNat_natCast,List.take_length];exact rfl)),rfl⟩ rfl⟩
       ·refine qC [3,11] ?_;refine zai ?_ ?_
        ·refine Or.inr (Or.inl (zei [] (zei [] (zei _ (zei _ (zei _ (zei _ (zei _ (zai (hcp) (zai rfl (zai True.intro (zai rfl ?_))))))))))));refine qC [11] ?_;refine qC [12] ?_;refine zai (by exact ⟨Nat.one_pos,qT (show (es.take (es.length : Int).toNat).length + 1 ≤ 1000000000 by rw [List.length_take];omega) (by decide)⟩) ?_;refine qC [13] ?_;refine qC [15] ?_;refine qI 3 4 rfl rfl rfl rfl ?_;refine qI 4 5 rfl rfl rfl rfl ?_;refine qI 5 6 rfl rfl rfl rfl ?_;refine qI 6 7 rfl rfl rfl rfl ?_;refine qQ ?_;exact ⟨(),trivial,qP ⟨rfl,rfl,rfl⟩ ⟨rfl,rfl,rfl,rfl,(qS (by rw [Int.toNat_natCast,List.take_length];exact rfl)),rfl⟩ rfl⟩
        ·refine qC [3] ?_;refine Or.inr (Or.inl (zei [] (zei [] (zei _ (zei _ (zei _ (zei _ (zei _ (zai (hcp) (zai rfl (zai True.intro (zai rfl ?_))))))))))));refine qC [12] ?_;refine zai (by exact ⟨Nat.one_pos,qT (show (es.take (es.length : Int).toNat).length + 1 ≤ 1000000000 by rw [List.length_take];omega) (by decide)⟩) ?_;refine qC [13] ?_;refine qC [15] ?_;refine qI 3 5 rfl rfl rfl rfl ?_;refine qI 4 6 rfl rfl rfl rfl ?_;refine qI 5 6 rfl rfl rfl rfl ?_;refine qI 6 7 rfl rfl rfl rfl ?_;refine qQ ?_;exact ⟨(),trivial,qP ⟨rfl,rfl,rfl⟩ ⟨rfl,rfl,rfl,rfl,(qS (by rw [Int.toNat_natCast,List.take_length];exact rfl)),rfl⟩ rfl⟩
     refine zai ?_ ?_
     ·refine qC [1,11,14] ?_;refine zai ?_ ?_
      ·refine Or.inr (Or.inr (Or.inl ?_));refine zai rfl ?_;refine zei _ (zai (hnow) ?_);refine qN 2 rfl ?_;refine qC [3,11,14] ?_;refine zai ?_ ?_
       ·refine Or.inr (Or.inl (zei [] (zei [] (zei _ (zei _ (zei _ (zei _ (zei _ (zai (hcp) (zai rfl (zai True.intro (zai rfl ?_))))))))))));refine qC [11,14] ?_;refine zai ?_ ?_
        ·refine qC [12,14] ?_;refine zai ?_ ?_
         ·refine zai (by exact ⟨Nat.one_pos,qT (show (es.take (es.length : Int).toNat).length + 1 ≤ 1000000000 by rw [List.length_take];omega) (by decide)⟩) ?_;refine qC [13,14] ?_;refine zai ?_ ?_
          ·refine qC [14] ?_;refine qC [15] ?_;refine qQ ?_;exact ⟨(),trivial,qP ⟨rfl,rfl,rfl⟩ ⟨rfl,rfl,rfl,rfl,(qS (by rw [Int.toNat_natCast,List.take_length];exact rfl)),rfl⟩ rfl⟩
          ·refine qC [13] ?_;refine qC [15] ?_;refine qQ ?_;exact ⟨(),trivial,qP ⟨rfl,rfl,rfl⟩ ⟨rfl,rfl,rfl,rfl,(qS (by rw [Int.toNat_natCast,List.take_length];exact rfl)),rfl⟩ rfl⟩
         ·refine qC [12] ?_;refine zai (by exact ⟨Nat.one_pos,qT (show (es.take (es.length : Int).toNat).length + 1 ≤ 1000000000 by rw [List.length_take];omega) (by decide)⟩) ?_;refine qC [13] ?_;refine qC [15] ?_;refine qI 6 7 rfl rfl rfl rfl ?_;refine qQ ?_;exact ⟨(),trivial,qP ⟨rfl,rfl,rfl⟩ ⟨rfl,rfl,rfl,rfl,(qS (by rw [Int.toNat_natCast,List.take_length];exact rfl)),rfl⟩ rfl⟩
        ·refine qC [11] ?_;refine qC [12] ?_;refine zai (by exact ⟨Nat.one_pos,qT (show (es.take (es.length : Int).toNat).length + 1 ≤ 1000000000 by rw [List.length_take];omega) (by decide)⟩) ?_;refine qC [13] ?_;refine qC [15] ?_;refine qI 5 6 rfl rfl rfl rfl ?_;refine qI 6 7 rfl rfl rfl rfl ?_;refine qQ ?_;exact ⟨(),trivial,qP ⟨rfl,rfl,rfl⟩ ⟨rfl,rfl,rfl,rfl,(qS (by rw [Int.toNat_natCast,List.take_length];exact rfl)),rfl⟩ rfl⟩
       refine zai ?_ ?_
       ·refine qC [3,14] ?_;refine zai ?_ ?_
        ·refine Or.inr (Or.inl (zei [] (zei [] (zei _ (zei _ (zei _ (zei _ (zei _ (zai (hcp) (zai rfl (zai True.intro (zai rfl ?_))))))))))));refine qC [12,14] ?_;refine zai ?_ ?_
         ·refine zai (by exact ⟨Nat.one_pos,qT (show (es.take (es.length : Int).toNat).length + 1 ≤ 1000000000 by rw [List.length_take];omega) (by decide)⟩) ?_;refine qC [13,14] ?_;refine zai ?_ ?_
          ·refine qC [14] ?_;refine qC [15] ?_;refine qI 3 4 rfl rfl rfl rfl ?_;refine qI 4 5 rfl rfl rfl rfl ?_;refine qQ ?_;exact ⟨(),trivial,qP ⟨rfl,rfl,rfl⟩ ⟨rfl,rfl,rfl,rfl,(qS (by rw [Int.toNat_natCast,List.take_length];exact rfl)),rfl⟩ rfl⟩
          ·refine qC [13] ?_;refine qC [15] ?_;refine qI 3 4 rfl rfl rfl rfl ?_;refine qI 4 5 rfl rfl rfl rfl ?_;refine qQ ?_;exact ⟨(),trivial,qP ⟨rfl,rfl,rfl⟩ ⟨rfl,rfl,rfl,rfl,(qS (by rw [Int.toNat_natCast,List.take_length];exact rfl)),rfl⟩ rfl⟩
         ·refine qC [12] ?_;refine zai (by exact ⟨Nat.one_pos,qT (show (es.take (es.length : Int).toNat).length + 1 ≤ 1000000000 by rw [List.length_take];omega) (by decide)⟩) ?_;refine qC [13] ?_;refine qC [15] ?_;refine qI 3 4 rfl rfl rfl rfl ?_;refine qI 4 5 rfl rfl rfl rfl ?_;refine qI 6 7 rfl rfl rfl rfl ?_;refine qQ ?_;exact ⟨(),trivial,qP ⟨rfl,rfl,rfl⟩ ⟨rfl,rfl,rfl,rfl,(qS (by rw [Int.toNat_natCast,List.take_length];exact rfl)),rfl⟩ rfl⟩
        ·refine qC [3] ?_;refine Or.inr (Or.inl (zei [] (zei [] (zei _ (zei _ (zei _ (zei _ (zei _ (zai (hcp) (zai rfl (zai True.intro (zai rfl ?_))))))))))));refine qC [12] ?_;refine zai (by exact ⟨Nat.one_pos,qT (show (es.take (es.length : Int).toNat).length + 1 ≤ 1000000000 by rw [List.length_take];omega) (by decide)⟩) ?_;refine qC [13] ?_;refine qC [15] ?_;refine qI 3 5 rfl rfl rfl rfl ?_;refine qI 4 6 rfl rfl rfl rfl ?_;refine qI 6 7 rfl rfl rfl rfl ?_;refine qQ ?_;exact ⟨(),trivial,qP ⟨rfl,rfl,rfl⟩ ⟨rfl,rfl,rfl,rfl,(qS (by rw [Int.toNat_natCast,List.take_length];exact rfl)),rfl⟩ rfl⟩
       ·refine qC [3,11] ?_;refine zai ?_ ?_
        ·refine Or.inr (Or.inl (zei [] (zei [] (zei _ (zei _ (zei _ (zei _ (zei _ (zai (hcp) (zai rfl (zai True.intro (zai rfl ?_))))))))))));refine qC [11] ?_;refine qC [12] ?_;refine zai (by exact ⟨Nat.one_pos,qT (show (es.take (es.length : Int).toNat).length + 1 ≤ 1000000000 by rw [List.length_take];omega) (by decide)⟩) ?_;refine qC [13] ?_;refine qC [15] ?_;refine qI 3 4 rfl rfl rfl rfl ?_;refine qI 4 5 rfl rfl rfl rfl ?_;refine qI 5 6 rfl rfl rfl rfl ?_;refine qI 6 7 rfl rfl rfl rfl ?_;refine qQ ?_;exact ⟨(),trivial,qP ⟨rfl,rfl,rfl⟩ ⟨rfl,rfl,rfl,rfl,(qS (by rw [Int.toNat_natCast,List.take_length];exact rfl)),rfl⟩ rfl⟩
        ·refine qC [3] ?_;refine Or.inr (Or.inl (zei [] (zei [] (zei _ (zei _ (zei _ (zei _ (zei _ (zai (hcp) (zai rfl (zai True.intro (zai rfl ?_))))))))))));refine qC [12] ?_;refine zai (by exact ⟨Nat.one_pos,qT (show (es.take (es.length : Int).toNat).length + 1 ≤ 1000000000 by rw [List.length_take];omega) (by decide)⟩) ?_;refine qC [13] ?_;refine qC [15] ?_;refine qI 3 5 rfl rfl rfl rfl ?_;refine qI 4 6 rfl rfl rfl rfl ?_;refine qI 5 6 rfl rfl rfl rfl ?_;refine qI 6 7 rfl rfl rfl rfl ?_;refine qQ ?_;exact ⟨(),trivial,qP ⟨rfl,rfl,rfl⟩ ⟨rfl,rfl,rfl,rfl,(qS (by rw [Int.toNat_natCast,List.take_length];exact rfl)),rfl⟩ rfl⟩
      refine zai ?_ ?_
      ·refine qC [1,14] ?_;refine zai ?_ ?_
       ·refine Or.inr (Or.inr (Or.inl ?_));refine zai rfl ?_;refine zei _ (zai (hnow) ?_);refine qN 2 rfl ?_;refine qC [3,14] ?_;refine zai ?_ ?_
        ·refine Or.inr (Or.inl (zei [] (zei [] (zei _ (zei _ (zei _ (zei _ (zei _ (zai (hcp) (zai rfl (zai True.intro (zai rfl ?_))))))))))));refine qC [12,14] ?_;refine zai ?_ ?_
         ·refine zai (by exact ⟨Nat.one_pos,qT (show (es.take (es.length : Int).toNat).length + 1 ≤ 1000000000 by rw [List.length_take];omega) (by decide)⟩) ?_;refine qC [13,14] ?_;refine zai ?_ ?_
          ·refine qC [14] ?_;refine qC [15] ?_;refine qI 3 4 rfl rfl rfl rfl ?_;refine qI 4 5 rfl rfl rfl rfl ?_;refine qQ ?_;exact ⟨(),trivial,qP ⟨rfl,rfl,rfl⟩ ⟨rfl,rfl,rfl,rfl,(qS (by rw [Int.toNat_natCast,List.take_length];exact rfl)),rfl⟩ rfl⟩
          ·refine qC [13] ?_;refine qC [15] ?_;refine qI 3 4 rfl rfl rfl rfl ?_;refine qI 4 5 rfl rfl rfl rfl ?_;refine qQ ?_;exact ⟨(),trivial,qP ⟨rfl,rfl,rfl⟩ ⟨rfl,rfl,rfl,rfl,(qS (by rw [Int.toNat_natCast,List.take_length];exact rfl)),rfl⟩ rfl⟩
         ·refine qC [12] ?_;refine zai (by exact ⟨Nat.one_pos,qT (show (es.take (es.length : Int).toNat).length + 1 ≤ 1000000000 by rw [List.length_take];omega) (by decide)⟩) ?_;refine qC [13] ?_;refine qC [15] ?_;refine qI 3 4 rfl rfl rfl rfl ?_;refine qI 4 5 rfl rfl rfl rfl ?_;refine qI 6 7 rfl rfl rfl rfl ?_;refine qQ ?_;exact ⟨(),trivial,qP ⟨rfl,rfl,rfl⟩ ⟨rfl,rfl,rfl,rfl,(qS (by rw [Int.toNat_natCast,List.take_length];exact rfl)),rfl⟩ rfl⟩
        ·refine qC [3] ?_;refine Or.inr (Or.inl (zei [] (zei [] (zei _ (zei _ (zei _ (zei _ (zei _ (zai (hcp) (zai rfl (zai True.intro (zai rfl ?_))))))))))));refine qC [12] ?_;refine zai (by exact ⟨Nat.one_pos,qT (show (es.take (es.length : Int).toNat).length + 1 ≤ 1000000000 by rw [List.length_take];omega) (by decide)⟩) ?_;refine qC [13] ?_;refine qC [15] ?_;refine qI 3 5 rfl rfl rfl rfl ?_;refine qI 4 6 rfl rfl rfl rfl ?_;refine qI 6 7 rfl rfl rfl rfl ?_;refine qQ ?_;exact ⟨(),trivial,qP ⟨rfl,rfl,rfl⟩ ⟨rfl,rfl,rfl,rfl,(qS (by rw [Int.toNat_natCast,List.take_length];exact rfl)),rfl⟩ rfl⟩
       ·refine qC [1] ?_;refine Or.inr (Or.inr (Or.inl ?_));refine zai rfl ?_;refine zei _ (zai (hnow) ?_);refine qN 2 rfl ?_;refine qC [3] ?_;refine Or.inr (Or.inl (zei [] (zei [] (zei _ (zei _ (zei _ (zei _ (zei _ (zai (hcp) (zai rfl (zai True.intro (zai rfl ?_))))))))))));refine qC [12] ?_;refine zai (by exact ⟨Nat.one_pos,qT (show (es.take (es.length : Int).toNat).length + 1 ≤ 1000000000 by rw [List.length_take];omega) (by decide)⟩) ?_;refine qC [13] ?_;refine qC [15] ?_;refine qI 3 5 rfl rfl rfl rfl ?_;refine qI 4 6 rfl rfl rfl rfl ?_;refine qI 6 7 rfl rfl rfl rfl ?_;refine qQ ?_;exact ⟨(),trivial,qP ⟨rfl,rfl,rfl⟩ ⟨rfl,rfl,rfl,rfl,(qS (by rw [Int.toNat_natCast,List.take_length];exact rfl)),rfl⟩ rfl⟩
      ·refine qC [1,11] ?_;refine zai ?_ ?_
       ·refine Or.inr (Or.inr (Or.inl ?_));refine zai rfl ?_;refine zei _ (zai (hnow) ?_);refine qN 2 rfl ?_;refine qC [3,11] ?_;refine zai ?_ ?_
        ·refine Or.inr (Or.inl (zei [] (zei [] (zei _ (zei _ (zei _ (zei _ (zei _ (zai (hcp) (zai rfl (zai True.intro (zai rfl ?_))))))))))));refine qC [11] ?_;refine qC [12] ?_;refine zai (by exact ⟨Nat.one_pos,qT (show (es.take (es.length : Int).toNat).length + 1 ≤ 1000000000 by rw [List.length_take];omega) (by decide)⟩) ?_;refine qC [13] ?_;refine qC [15] ?_;refine qI 3 4 rfl rfl rfl rfl ?_;refine qI 4 5 rfl rfl rfl rfl ?_;refine qI 5 6 rfl rfl rfl rfl ?_;refine qI 6 7 rfl rfl rfl rfl ?_;refine qQ ?_;exact ⟨(),trivial,qP ⟨rfl,rfl,rfl⟩ ⟨rfl,rfl,rfl,rfl,(qS (by rw [Int.toNat_natCast,List.take_length];exact rfl)),rfl⟩ rfl⟩
        ·refine qC [3] ?_;refine Or.inr (Or.inl (zei [] (zei [] (zei _ (zei _ (zei _ (zei _ (zei _ (zai (hcp) (zai rfl (zai True.intro (zai rfl ?_))))))))))));refine qC [12] ?_;refine zai (by exact ⟨Nat.one_pos,qT (show (es.take (es.length : Int).toNat).length + 1 ≤ 1000000000 by rw [List.length_take];omega) (by decide)⟩) ?_;refine qC [13] ?_;refine qC [15] ?_;refine qI 3 5 rfl rfl rfl rfl ?_;refine qI 4 6 rfl rfl rfl rfl ?_;refine qI 5 6 rfl rfl rfl rfl ?_;refine qI 6 7 rfl rfl rfl rfl ?_;refine qQ ?_;exact ⟨(),trivial,qP ⟨rfl,rfl,rfl⟩ ⟨rfl,rfl,rfl,rfl,(qS (by rw [Int.toNat_natCast,List.take_length];exact rfl)),rfl⟩ rfl⟩
       ·refine qC [1] ?_;refine Or.inr (Or.inr (Or.inl ?_));refine zai rfl ?_;refine zei _ (zai (hnow) ?_);refine qN 2 rfl ?_;refine qC [3] ?_;refine Or.inr (Or.inl (zei [] (zei [] (zei _ (zei _ (zei _ (zei _ (zei _ (zai (hcp) (zai rfl (zai True.intro (zai rfl ?_))))))))))));refine qC [12] ?_;refine zai (by exact ⟨Nat.one_pos,qT (show (es.take (es.length : Int).toNat).length + 1 ≤ 1000000000 by rw [List.length_take];omega) (by decide)⟩) ?_;refine qC [13] ?_;refine qC [15] ?_;refine qI 3 5 rfl rfl rfl rfl ?_;refine qI 4 6 rfl rfl rfl rfl ?_;refine qI 5 6 rfl rfl rfl rfl ?_;refine qI 6 7 rfl rfl rfl rfl ?_;refine qQ ?_;exact ⟨(),trivial,qP ⟨rfl,rfl,rfl⟩ ⟨rfl,rfl,rfl,rfl,(qS (by rw [Int.toNat_natCast,List.take_length];exact rfl)),rfl⟩ rfl⟩
     ·refine qC [1,10] ?_;refine zai ?_ ?_
      ·refine Or.inr (Or.inr (Or.inl ?_));refine zai rfl ?_;refine zei _ (zai (hnow) ?_);refine qN 2 rfl ?_;refine qC [3,10] ?_;refine zai ?_ ?_
       ·refine Or.inr (Or.inl (zei [] (zei [] (zei _ (zei _ (zei _ (zei _ (zei _ (zai (hcp) (zai rfl (zai True.intro (zai rfl ?_))))))))))));refine qC [10] ?_;refine qC [11] ?_;refine qC [12] ?_;refine zai (by exact ⟨Nat.one_pos,qT (show (es.take (es.length : Int).toNat).length + 1 ≤ 1000000000 by rw [List.length_take];omega) (by decide)⟩) ?_;refine qC [13] ?_;refine qC [15] ?_;refine qI 3 4 rfl rfl rfl rfl ?_;refine qI 4 5 rfl rfl rfl rfl ?_;refine qI 5 6 rfl rfl rfl rfl ?_;refine qI 6 7 rfl rfl rfl rfl ?_;refine qQ ?_;exact ⟨(),trivial,qP ⟨rfl,rfl,rfl⟩ ⟨rfl,rfl,rfl,rfl,(qS (by rw [Int.toNat_natCast,List.take_length];exact rfl)),rfl⟩ rfl⟩
       ·refine qC [3,11] ?_;refine zai ?_ ?_
        ·refine Or.inr (Or.inl (zei [] (zei [] (zei _ (zei _ (zei _ (zei _ (zei _ (zai (hcp) (zai rfl (zai True.intro (zai rfl ?_))))))))))));refine qC [11] ?_;refine qC [12] ?_;refine zai (by exact ⟨Nat.one_pos,qT (show (es.take (es.length : Int).toNat).length + 1 ≤ 1000000000 by rw [List.length_take];omega) (by decide)⟩) ?_;refine qC [13] ?_;refine qC [15] ?_;refine qI 3 4 rfl rfl rfl rfl ?_;refine qI 4 5 rfl rfl rfl rfl ?_;refine qI 5 6 rfl rfl rfl rfl ?_;refine qI 6 7 rfl rfl rfl rfl ?_;refine qQ ?_;exact ⟨(),trivial,qP ⟨rfl,rfl,rfl⟩ ⟨rfl,rfl,rfl,rfl,(qS (by rw [Int.toNat_natCast,List.take_length];exact rfl)),rfl⟩ rfl⟩
        ·refine qC [3] ?_;refine Or.inr (Or.inl (zei [] (zei [] (zei _ (zei _ (zei _ (zei _ (zei _ (zai (hcp) (zai rfl (zai True.intro (zai rfl ?_))))))))))));refine qC [12] ?_;refine zai (by exact ⟨Nat.one_pos,qT (show (es.take (es.length : Int).toNat).length + 1 ≤ 1000000000 by rw [List.length_take];omega) (by decide)⟩) ?_;refine qC [13] ?_;refine qC [15] ?_;refine qI 3 5 rfl rfl rfl rfl ?_;refine qI 4 6 rfl rfl rfl rfl ?_;refine qI 5 6 rfl rfl rfl rfl ?_;refine qI 6 7 rfl rfl rfl rfl ?_;refine qQ ?_;exact ⟨(),trivial,qP ⟨rfl,rfl,rfl⟩ ⟨rfl,rfl,rfl,rfl,(qS (by rw [Int.toNat_natCast,List.take_length];exact rfl)),rfl⟩ rfl⟩
      ·refine qC [1,11] ?_;refine zai ?_ ?_
       ·refine Or.inr (Or.inr (Or.inl ?_));refine zai rfl ?_;refine zei _ (zai (hnow) ?_);refine qN 2 rfl ?_;refine qC [3,11] ?_;refine zai ?_ ?_
        ·refine Or.inr (Or.inl (zei [] (zei [] (zei _ (zei _ (zei _ (zei _ (zei _ (zai (hcp) (zai rfl (zai True.intro (zai rfl ?_))))))))))));refine qC [11] ?_;refine qC [12] ?_;refine zai (by exact ⟨Nat.one_pos,qT (show (es.take (es.length : Int).toNat).length + 1 ≤ 1000000000 by rw [List.length_take];omega) (by decide)⟩) ?_;refine qC [13] ?_;refine qC [15] ?_;refine qI 3 4 rfl rfl rfl rfl ?_;refine qI 4 5 rfl rfl rfl rfl ?_;refine qI 5 6 rfl rfl rfl rfl ?_;refine qI 6 7 rfl rfl rfl rfl ?_;refine qQ ?_;exact ⟨(),trivial,qP ⟨rfl,rfl,rfl⟩ ⟨rfl,rfl,rfl,rfl,(qS (by rw [Int.toNat_natCast,List.take_length];exact rfl)),rfl⟩ rfl⟩
        ·refine qC [3] ?_;refine Or.inr (Or.inl (zei [] (zei [] (zei _ (zei _ (zei _ (zei _ (zei _ (zai (hcp) (zai rfl (zai True.intro (zai rfl ?_))))))))))));refine qC [12] ?_;refine zai (by exact ⟨Nat.one_pos,qT (show (es.take (es.length : Int).toNat).length + 1 ≤ 1000000000 by rw [List.length_take];omega) (by decide)⟩) ?_;refine qC [13] ?_;refine qC [15] ?_;refine qI 3 5 rfl rfl rfl rfl ?_;refine qI 4 6 rfl rfl rfl rfl ?_;refine qI 5 6 rfl rfl rfl rfl ?_;refine qI 6 7 rfl rfl rfl rfl ?_;refine qQ ?_;exact ⟨(),trivial,qP ⟨rfl,rfl,rfl⟩ ⟨rfl,rfl,rfl,rfl,(qS (by rw [Int.toNat_natCast,List.take_length];exact rfl)),rfl⟩ rfl⟩
       ·refine qC [1] ?_;refine Or.inr (Or.inr (Or.inl ?_));refine zai rfl ?_;refine zei _ (zai (hnow) ?_);refine qN 2 rfl ?_;refine qC [3] ?_;refine Or.inr (Or.inl (zei [] (zei [] (zei _ (zei _ (zei _ (zei _ (zei _ (zai (hcp) (zai rfl (zai True.intro (zai rfl ?_))))))))))));refine qC [12] ?_;refine zai (by exact ⟨Nat.one_pos,qT (show (es.take (es.length : Int).toNat).length + 1 ≤ 1000000000 by rw [List.length_take];omega) (by decide)⟩) ?_;refine qC [13] ?_;refine qC [15] ?_;refine qI 3 5 rfl rfl rfl rfl ?_;refine qI 4 6 rfl rfl rfl rfl ?_;refine qI 5 6 rfl rfl rfl rfl ?_;refine qI 6 7 rfl rfl rfl rfl ?_;refine qQ ?_;exact ⟨(),trivial,qP ⟨rfl,rfl,rfl⟩ ⟨rfl,rfl,rfl,rfl,(qS (by rw [Int.toNat_natCast,List.take_length];exact rfl)),rfl⟩ rfl⟩
    ·intro u hcut7;refine qK ?_;refine qK ?_;rcases hdo with ⟨rfl,rfl,hdo⟩|⟨k9,rfl,rfl,hdo⟩|⟨a9,k9,rfl,rfl,hdo⟩
     ·refine qM ?_;refine Or.inr (Or.inl (zei [] (zei [4,3] (zei _ (zei _ (zei _ (zei _ (zei _ (zai (hdo) (zai rfl (zai (zai (zai rfl rfl) (zai (zai rfl rfl) True.intro)) (zai rfl ?_))))))))))));refine qB ?_;refine qJ rfl (fun h42=>?_) (fun h42=>?_)
      ·try simp only [Bool.not_eq_true'] at h42
       try simp only [zds] at h42
       simp at h42
      ·try simp only [Bool.not_eq_false'] at h42
       try simp only [zds] at h42
       refine qO ?_;refine qK ?_;refine xZ [6,3,4] ?_;refine yG rfl ?_;refine qN 0 rfl ?_;refine qN 1 rfl ?_;refine qN 2 rfl ?_;refine qN 3 rfl ?_;refine qC [4,5] ?_;refine zai ?_ ?_
       ·refine qC [5] ?_;refine qC [6] ?_;refine qC [7] ?_;refine zai (by exact qT (show sts.length + 1 ≤ 1000000000 by omega) (by decide)) ?_;refine qN 8 rfl ?_;refine qN 9 rfl ?_;refine qC [10] ?_;refine qQ ?_;refine qB ?_;refine qL ?_
        first|exact ⟨rfl,⟨rfl,qS rfl⟩,rfl⟩|exact ⟨rfl,⟨rfl,rfl⟩,rfl⟩
       ·refine qC [4,6] ?_;refine zai ?_ ?_
        ·refine qC [6] ?_;refine qC [7] ?_;refine zai (by exact qT (show sts.length + 1 ≤ 1000000000 by omega) (by decide)) ?_;refine qN 8 rfl ?_;refine qN 9 rfl ?_;refine qC [10] ?_;refine qQ ?_;refine qB ?_;refine qL ?_
         first|exact ⟨rfl,⟨rfl,qS rfl⟩,rfl⟩|exact ⟨rfl,⟨rfl,rfl⟩,rfl⟩
        ·refine qC [4] ?_;refine qC [7] ?_;refine zai (by exact qT (show sts.length + 1 ≤ 1000000000 by omega) (by decide)) ?_;refine qN 8 rfl ?_;refine qN 9 rfl ?_;refine qC [10] ?_;refine qQ ?_;refine qB ?_;refine qL ?_
         first|exact ⟨rfl,⟨rfl,qS rfl⟩,rfl⟩|exact ⟨rfl,⟨rfl,rfl⟩,rfl⟩
     ·refine qM ?_;refine Or.inr (Or.inl (zei [] (zei [4,3] (zei _ (zei _ (zei _ (zei _ (zei _ (zai (hdo) (zai rfl (zai (zai (zai rfl rfl) (zai (zai rfl rfl) True.intro)) (zai rfl ?_))))))))))));refine qB ?_;refine qJ rfl (fun h42=>?_) (fun h42=>?_)
      ·skip
       refine qB ?_;refine qL ?_
       first|exact ⟨rfl,⟨rfl,qS rfl⟩,rfl⟩|exact ⟨rfl,⟨rfl,rfl⟩,rfl⟩
      ·try simp only [zbq] at h42
       try simp only [zds] at h42
       simp at h42
     ·refine qM ?_;refine Or.inr (Or.inl (zei [] (zei [4,3] (zei _ (zei _ (zei _ (zei _ (zei _ (zai (hdo) (zai rfl (zai (zai (zai rfl rfl) (zai (zai rfl rfl) True.intro)) (zai rfl ?_))))))))))));refine qB ?_;refine qJ rfl (fun h42=>?_) (fun h42=>?_)
      ·skip
       refine qB ?_;refine qL ?_
       first|exact ⟨rfl,⟨rfl,qS rfl⟩,rfl⟩|exact ⟨rfl,⟨rfl,rfl⟩,rfl⟩
      ·try simp only [zbq] at h42
       try simp only [zds] at h42
       simp at h42
theorem ttake2_o {f : FuncId} {β γ : Type} (S : Rd β) (y : β) (T : Rd γ) (z : γ) (sts : List TSt) (L L' : Lst) (es : List Edt) (x : Edt) (h : 0 < sts.length) (h40 : sts.length ≤ 40) (hl : sts.getD (sts.length - 1) ((([] : List Ent),(0 : Int),(0 : Int)),([] : List Edt)) = (L,es)) (he : es.length ≤ 1000) (hL : L.1.length ≤ 1000000)
    (hdo : qU Tryz.prog f [.one (.own 0 0),.one (.addr S y),.one (.addr T z)] (lsO L) 2 (.one (.lit .nilIface)) (lsO L') 2) :
    qU Tryz.prog 70 [.one (.own 0 0),.agg (toL rEdt x),.one (.clo2 f (.addr S y) (.addr T z))] (txO sts) 2 (.one (.lit .nilIface)) (txO (sts ++ [(L',es ++ [x])])) 2 :=
  tk2_o S y T z _ sts _ L L' es x h h40 hl he hL (.inl ⟨rfl,rfl,hdo⟩)
set_option maxHeartbeats 8000000 in
theorem tk1_o {f : FuncId} {β : Type} (S : Rd β) (y : β) (E : C) (sts sts' : List TSt) (L L' : Lst) (es : List Edt) (x : Edt) (h : 0 < sts.length) (h40 : sts.length ≤ 40) (hl : sts.getD (sts.length - 1) ((([] : List Ent),(0 : Int),(0 : Int)),([] : List Edt)) = (L,es)) (he : es.length ≤ 1000) (hL : L.1.length ≤ 1000000)
    (hdo : (E = .lit .nilIface ∧ sts ++ [(L',es ++ [x])] = sts' ∧ qU Tryz.prog f [.one (.own 0 0),.one (.addr S y)] (lsO L) 2 (.one (.lit .nilIface)) (lsO L') 2) ∨ (∃ k9,E = errN k9 ∧ sts = sts' ∧ qU Tryz.prog f [.one (.own 0 0),.one (.addr S y)] (lsO L) 2 (.one (errN k9)) (lsO L') 2) ∨ (∃ a9 k9,E = errF a9 k9 ∧ sts = sts' ∧ qU Tryz.prog f [.one (.own 0 0),.one (.addr S y)] (lsO L) 2 (.one (errF a9 k9)) (lsO L') 2)) :
    qU Tryz.prog 70 [.one (.own 0 0),.agg (toL rEdt x),.one (.clo f (.addr S y))] (txO sts) 2 (.one E) (txO sts') 2:=by
  have hnow:=tnow_c (k:=1) sts h;rw [hl] at hnow;have hcp:=copyL_o (k:=0) L.1 L.2.1 L.2.2 hL;refine qV (rs:=[6]) Tryz.func70 rfl rfl rfl teOk (by decide) rfl ?_;refine qB ?_;refine qK ?_;refine qR ?_;refine qB ?_;refine Or.inr (Or.inr (Or.inl ?_));refine zai rfl ?_;refine zei _ (zai (topen_c sts) ?_);refine qJ rfl (fun h10=>?_) (fun h10=>?_)
  ·try simp only [decide_eq_false_iff_not,Bool.not_eq_true'] at h10
   try simp only [zds] at h10
   exfalso
   simp at h10;have h9 : sts.length = 0:=(by rw [h10];rfl);omega
  ·try simp only [decide_eq_true_eq,Bool.not_eq_false'] at h10
   try simp only [zds] at h10
   refine qB ?_;refine Or.inr (Or.inr (Or.inl ?_));refine zai rfl ?_;refine zei _ (zai (tmark_c sts h) ?_);refine qJ rfl (fun h15=>?_) (fun h15=>?_)
   ·try simp only [decide_eq_true_eq] at h15
    try simp only [zds] at h15
    exfalso
    omega
   ·try simp only [decide_eq_false_iff_not,Int.not_le] at h15
    try simp only [zds] at h15
    refine qO ?_;refine qB ?_;refine Or.inr (Or.inr (Or.inl ?_));refine zai rfl ?_;refine zei _ (zai (hnow) ?_);refine acode_cut (fun (u : Unit)=>True) (fun (u : Unit)=>[(0,.one (.own 0 0)),(2,.one (.clo f (.addr S y))),(8,.one (.own 7 0))]) (fun (u : Unit)=>[(0,.box 123 [.vec 1]),(1,.vec 120 rSt sts),(3,.vec 138 rEnt L.1),(4,.box 134 [.vec 3,.lit (.int .i64 L.2.1),.lit (.int .i64 L.2.2)]),(6,.vec 31 rEdt (es ++ [x])),(7,.box 120 [.own 4 0,.vec 6])]) 8 ?_ ?_
    ·refine yG rfl ?_;refine qN 0 rfl ?_;refine qN 4 rfl ?_;refine qN 5 rfl ?_;refine qN 6 rfl ?_;intro l6_6;refine qN 7 rfl ?_;refine qN 8 rfl ?_;intro l6_8;refine qN 9 rfl ?_;refine zob ?_;refine qC [1,10,14] ?_;refine zai ?_ ?_
     ·refine Or.inr (Or.inr (Or.inl ?_));refine zai rfl ?_;refine zei _ (zai (hnow) ?_);refine qN 2 rfl ?_;refine qC [3,10,14] ?_;refine zai ?_ ?_
      ·refine Or.inr (Or.inl (zei [] (zei [] (zei _ (zei _ (zei _ (zei _ (zei _ (zai (hcp) (zai rfl (zai True.intro (zai rfl ?_))))))))))));refine qC [10,14] ?_;refine zai ?_ ?_
       ·refine qC [11,14] ?_;refine zai ?_ ?_
        ·refine qC [12,14] ?_;refine zai ?_ ?_
         ·refine zai (by exact ⟨Nat.one_pos,qT (show (es.take (es.length : Int).toNat).length + 1 ≤ 1000000000 by rw [List.length_take];omega) (by decide)⟩) ?_;refine qC [13,14] ?_;refine zai ?_ ?_
          ·refine qC [14] ?_;refine qC [15] ?_;refine qQ ?_;exact ⟨(),trivial,qP ⟨rfl,rfl,rfl⟩ ⟨rfl,rfl,rfl,rfl,(qS (by rw [Int.toNat_natCast,List.take_length];exact rfl)),rfl⟩ rfl⟩
          ·refine qC [13] ?_;refine qC [15] ?_;refine qQ ?_;exact ⟨(),trivial,qP ⟨rfl,rfl,rfl⟩ ⟨rfl,rfl,rfl,rfl,(qS (by rw [Int.toNat_natCast,List.take_length];exact rfl)),rfl⟩ rfl⟩
         ·refine qC [12] ?_;refine zai (by exact ⟨Nat.one_pos,qT (show (es.take (es.length : Int).toNat).length + 1 ≤ 1000000000 by rw [List.length_take];omega) (by decide)⟩) ?_;refine qC [13] ?_;refine qC [15] ?_;refine qI 6 7 rfl rfl rfl rfl ?_;refine qQ ?_;exact ⟨(),trivial,qP ⟨rfl,rfl,rfl⟩ ⟨rfl,rfl,rfl,rfl,(qS (by rw [Int.toNat_natCast,List.take_length];exact rfl)),rfl⟩ rfl⟩
        ·refine qC [11] ?_;refine qC [12] ?_;refine zai (by exact ⟨Nat.one_pos,qT (show (es.take (es.length : Int).toNat).length + 1 ≤ 1000000000 by rw [List.length_take];omega) (by decide)⟩) ?_;refine qC [13] ?_;refine qC [15] ?_;refine qI 5 6 rfl rfl rfl rfl ?_;refine qI 6 7 rfl rfl rfl rfl ?_;refine qQ ?_;exact ⟨(),trivial,qP ⟨rfl,rfl,rfl⟩ ⟨rfl,rfl,rfl,rfl,(qS (by rw [Int.toNat_natCast,List.take_length];exact rfl)),rfl⟩ rfl⟩
       ·refine qC [10] ?_;refine qC [11] ?_;refine qC [12] ?_;refine zai (by exact ⟨Nat.one_pos,qT (show (es.take (es.length : Int).toNat).length + 1 ≤ 1000000000 by rw [List.length_take];omega) (by decide)⟩) ?_;refine qC [13] ?_;refine qC [15] ?_;refine qI 5 6 rfl rfl rfl rfl ?_;refine qI 6 7 rfl rfl rfl rfl ?_;refine qQ ?_;exact ⟨(),trivial,qP ⟨rfl,rfl,rfl⟩ ⟨rfl,rfl,rfl,rfl,(qS (by rw [Int.toNat_natCast,List.take_length];exact rfl)),rfl⟩ rfl⟩
      refine zai ?_ ?_
      ·refine qC [3,11,14] ?_;refine zai ?_ ?_
       ·refine Or.inr (Or.inl (zei [] (zei [] (zei _ (zei _ (zei _ (zei _ (zei _ (zai (hcp) (zai rfl (zai True.intro (zai rfl ?_))))))))))));refine qC [11,14] ?_;refine zai ?_ ?_
        ·refine qC [12,14] ?_;refine zai ?_ ?_
         ·refine zai (by exact ⟨Nat.one_pos,qT (show (es.take (es.length : Int).toNat).length + 1 ≤ 1000000000 by rw [List.length_take];omega) (by decide)⟩) ?_;refine qC [13,14] ?_;refine zai ?_ ?_
          ·refine qC [14] ?_;refine qC [15] ?_;refine qQ ?_;exact ⟨(),trivial,qP ⟨rfl,rfl,rfl⟩ ⟨rfl,rfl,rfl,rfl,(qS (by rw [Int.toNat_natCast,List.take_length];exact rfl)),rfl⟩ rfl⟩
          ·refine qC [13] ?_;refine qC [15] ?_;refine qQ ?_;exact ⟨(),trivial,qP ⟨rfl,rfl,rfl⟩ ⟨rfl,rfl,rfl,rfl,(qS (by rw [Int.toNat_natCast,List.take_length];exact rfl)),rfl⟩ rfl⟩
         ·refine qC [12] ?_;refine zai (by exact ⟨Nat.one_pos,qT (show (es.take (es.length : Int).toNat).length + 1 ≤ 1000000000 by rw [List.length_take];omega) (by decide)⟩) ?_;refine qC [13] ?_;refine qC [15] ?_;refine qI 6 7 rfl rfl rfl rfl ?_;refine qQ ?_;exact ⟨(),trivial,qP ⟨rfl,rfl,rfl⟩ ⟨rfl,rfl,rfl,rfl,(qS (by rw [Int.toNat_natCast,List.take_length];exact rfl)),rfl⟩ rfl⟩
        ·refine qC [11] ?_;refine qC [12] ?_;refine zai (by exact ⟨Nat.one_pos,qT (show (es.take (es.length : Int).toNat).length + 1 ≤ 1000000000 by rw [List.length_take];omega) (by decide)⟩) ?_;refine qC [13] ?_;refine qC [15] ?_;refine qI 5 6 rfl rfl rfl rfl ?_;refine qI 6 7 rfl rfl rfl rfl ?_;refine qQ ?_;exact ⟨(),trivial,qP ⟨rfl,rfl,rfl⟩ ⟨rfl,rfl,rfl,rfl,(qS (by rw [Int.toNat_natCast,List.take_length];exact rfl)),rfl⟩ rfl⟩
       refine zai ?_ ?_
       ·refine qC [3,14] ?_;refine zai ?_ ?_
        ·refine Or.inr (Or.inl (zei [] (zei [] (zei _ (zei _ (zei _ (zei _ (zei _ (zai (hcp) (zai rfl (zai True.intro (zai rfl ?_))))))))))));refine qC [12,14] ?_;refine zai ?_ ?_
         ·refine zai (by exact ⟨Nat.one_pos,qT (show (es.take (es.length : Int).toNat).length + 1 ≤ 1000000000 by rw [List.length_take];omega) (by decide)⟩) ?_;refine qC [13,14] ?_;refine zai ?_ ?_
          ·refine qC [14] ?_;refine qC [15] ?_;refine qI 3 4 rfl rfl rfl rfl ?_;refine qI 4 5 rfl rfl rfl rfl ?_;refine qQ ?_;exact ⟨(),trivial,qP ⟨rfl,rfl,rfl⟩ ⟨rfl,rfl,rfl,rfl,(qS (by rw [Int.toNat_natCast,List.take_length];exact rfl)),rfl⟩ rfl⟩
          ·refine qC [13] ?_;refine qC [15] ?_;refine qI 3 4 rfl rfl rfl rfl ?_;refine qI 4 5 rfl rfl rfl rfl ?_;refine qQ ?_;exact ⟨(),trivial,qP ⟨rfl,rfl,rfl⟩ ⟨rfl,rfl,rfl,rfl,(qS (by rw [Int.toNat_natCast,List.take_length];exact rfl)),rfl⟩ rfl⟩
         ·refine qC [12] ?_;refine zai (by exact ⟨Nat.one_pos,qT (show (es.take (es.length : Int).toNat).length + 1 ≤ 1000000000 by rw [List.length_take];omega) (by decide)⟩) ?_;refine qC [13] ?_;refine qC [15] ?_;refine qI 3 4 rfl rfl rfl rfl ?_;refine qI 4 5 rfl rfl rfl rfl ?_;refine qI 6 7 rfl rfl rfl rfl ?_;refine qQ ?_;exact ⟨(),trivial,qP ⟨rfl,rfl,rfl⟩ ⟨rfl,rfl,rfl,rfl,(qS (by rw [Int.toNat_natCast,List.take_length];exact rfl)),rfl⟩ rfl⟩
        ·refine qC [3] ?_;refine Or.inr (Or.inl (zei [] (zei [] (zei _ (zei _ (zei _ (zei _ (zei _ (zai (hcp) (zai rfl (zai True.intro (zai rfl ?_))))))))))));refine qC [12] ?_;refine zai (by exact ⟨Nat.one_pos,qT (show (es.take (es.length : Int).toNat).length + 1 ≤ 1000000000 by rw [List.length_take];omega) (by decide)⟩) ?_;refine qC [13] ?_;refine qC [15] ?_;refine qI 3 5 rfl rfl rfl rfl ?_;refine qI 4 6 rfl rfl rfl rfl ?_;refine qI 6 7 rfl rfl rfl rfl ?_;refine qQ ?_;exact ⟨(),trivial,qP ⟨rfl,rfl,rfl⟩ ⟨rfl,rfl,rfl,rfl,(qS (by rw [Int.toNat_natCast,List.take_length];exact rfl)),rfl⟩ rfl⟩
       ·refine qC [3,11] ?_;refine zai ?_ ?_
        ·refine Or.inr (Or.inl (zei [] (zei [] (zei _ (zei _ (zei _ (zei _ (zei _ (zai (hcp) (zai rfl (zai True.intro (zai rfl ?_))))))))))));refine qC [11] ?_;refine qC [12] ?_;refine zai (by exact ⟨Nat.one_pos,qT (show (es.take (es.length : Int).toNat).length + 1 ≤ 1000000000 by rw [List.length_take];omega) (by decide)⟩) ?_;refine qC [13] ?_;refine qC [15] ?_;refine qI 3 4 rfl rfl rfl rfl ?_;refine qI 4 5 rfl rfl rfl rfl ?_;refine qI 5 6 rfl rfl rfl rfl ?_;refine qI 6 7 rfl rfl rfl rfl ?_;refine qQ ?_;exact ⟨(),trivial,qP ⟨rfl,rfl,rfl⟩ ⟨rfl,rfl,rfl,rfl,(qS (by rw [Int.toNat_natCast,List.take_length];exact rfl)),rfl⟩ rfl⟩
        ·refine qC [3] ?_;refine Or.inr (Or.inl (zei [] (zei [] (zei _ (zei _ (zei _ (zei _ (zei _ (zai (hcp) (zai rfl (zai True.intro (zai rfl ?_))))))))))));refine qC [12] ?_;refine zai (by exact ⟨Nat.one_pos,qT (show (es.take (es.length : Int).toNat).length + 1 ≤ 1000000000 by rw [List.length_take];omega) (by decide)⟩) ?_;refine qC [13] ?_;refine qC [15] ?_;refine qI 3 5 rfl rfl rfl rfl ?_;refine qI 4 6 rfl rfl rfl rfl ?_;refine qI 5 6 rfl rfl rfl rfl ?_;refine qI 6 7 rfl rfl rfl rfl ?_;refine qQ ?_;exact ⟨(),trivial,qP ⟨rfl,rfl,rfl⟩ ⟨rfl,rfl,rfl,rfl,(qS (by rw [Int.toNat_natCast,List.take_length];exact rfl)),rfl⟩ rfl⟩
      ·refine qC [3,10] ?_;refine zai ?_ ?_
       ·refine Or.inr (Or.inl (zei [] (zei [] (zei _ (zei _ (zei _ (zei _ (zei _ (zai (hcp) (zai rfl (zai True.intro (zai rfl ?_))))))))))));refine qC [10] ?_;refine qC [11] ?_;refine qC [12] ?_;refine zai (by exact ⟨Nat.one_pos,qT (show (es.take (es.length : Int).toNat).length + 1 ≤ 1000000000 by rw [List.length_take];omega) (by decide)⟩) ?_;refine qC [13] ?_;refine qC [15] ?_;refine qI 3 4 rfl rfl rfl rfl ?_;refine qI 4 5 rfl rfl rfl rfl ?_;refine qI 5 6 rfl rfl rfl rfl ?_;refine qI 6 7 rfl rfl rfl rfl ?_;refine qQ ?_;exact ⟨(),trivial,qP ⟨rfl,rfl,rfl⟩ ⟨rfl,rfl,rfl,rfl,(qS (by rw [Int.toNat_natCast,List.take_length];exact rfl)),rfl⟩ rfl⟩
       ·refine qC [3,11] ?_;refine zai ?_ ?_
        ·refine Or.inr (Or.inl (zei [] (zei [] (zei _ (zei _ (zei _ (zei _ (zei _ (zai (hcp) (zai rfl (zai True.intro (zai rfl ?_))))))))))));refine qC [11] ?_;refine qC [12] ?_;refine zai (by exact ⟨Nat.one_pos,qT (show (es.take (es.length : Int).toNat).length + 1 ≤ 1000000000 by rw [List.length_take];omega) (by decide)⟩) ?_;refine qC [13] ?_;refine qC [15] ?_;refine qI 3 4 rfl rfl rfl rfl ?_;refine qI 4 5 rfl rfl rfl rfl ?_;refine qI 5 6 rfl rfl rfl rfl ?_;refine qI 6 7 rfl rfl rfl rfl ?_;refine qQ ?_;exact ⟨(),trivial,qP ⟨rfl,rfl,rfl⟩ ⟨rfl,rfl,rfl,rfl,(qS (by rw [Int.toNat_natCast,List.take_length];exact rfl)),rfl⟩ rfl⟩
        ·refine qC [3] ?_;refine Or.inr (Or.inl (zei [] (zei [] (zei _ (zei _ (zei _ (zei _ (zei _ (zai (hcp) (zai rfl (zai True.intro (zai rfl ?_))))))))))));refine qC [12] ?_;refine zai (by exact ⟨Nat.one_pos,qT (show (es.take (es.length : Int).toNat).length + 1 ≤ 1000000000 by rw [List.length_take];omega) (by decide)⟩) ?_;refine qC [13] ?_;refine qC [15] ?_;refine qI 3 5 rfl rfl rfl rfl ?_;refine qI 4 6 rfl rfl rfl rfl ?_;refine qI 5 6 rfl rfl rfl rfl ?_;refine qI 6 7 rfl rfl rfl rfl ?_;refine qQ ?_;exact ⟨(),trivial,qP ⟨rfl,rfl,rfl⟩ ⟨rfl,rfl,rfl,rfl,(qS (by rw [Int.toNat_natCast,List.take_length];exact rfl)),rfl⟩ rfl⟩
     refine zai ?_ ?_
     ·refine qC [1,11,14] ?_;refine zai ?_ ?_
      ·refine Or.inr (Or.inr (Or.inl ?_));refine zai rfl ?_;refine zei _ (zai (hnow) ?_);refine qN 2 rfl ?_;refine qC [3,11,14] ?_;refine zai ?_ ?_
       ·refine Or.inr (Or.inl (zei [] (zei [] (zei _ (zei _ (zei _ (zei _ (zei _ (zai (hcp) (zai rfl (zai True.intro (zai rfl ?_))))))))))));refine qC [11,14] ?_;refine zai ?_ ?_
        ·refine qC [12,14] ?_;refine zai ?_ ?_
         ·refine zai (by exact ⟨Nat.one_pos,qT (show (es.take (es.length : Int).toNat).length + 1 ≤ 1000000000 by rw [List.length_take];omega) (by decide)⟩) ?_;refine qC [13,14] ?_;refine zai ?_ ?_
          ·refine qC [14] ?_;refine qC [15] ?_;refine qQ ?_;exact ⟨(),trivial,qP ⟨rfl,rfl,rfl⟩ ⟨rfl,rfl,rfl,rfl,(qS (by rw [Int.toNat_natCast,List.take_length];exact rfl)),rfl⟩ rfl⟩
          ·refine qC [13] ?_;refine qC [15] ?_;refine qQ ?_;exact ⟨(),trivial,qP ⟨rfl,rfl,rfl⟩ ⟨rfl,rfl,rfl,rfl,(qS (by rw [Int.toNat_natCast,List.take_length];exact rfl)),rfl⟩ rfl⟩
         ·refine qC [12] ?_;refine zai (by exact ⟨Nat.one_pos,qT (show (es.take (es.length : Int).toNat).length + 1 ≤ 1000000000 by rw [List.length_take];omega) (by decide)⟩) ?_;refine qC [13] ?_;refine qC [15] ?_;refine qI 6 7 rfl rfl rfl rfl ?_;refine qQ ?_;exact ⟨(),trivial,qP ⟨rfl,rfl,rfl⟩ ⟨rfl,rfl,rfl,rfl,(qS (by rw [Int.toNat_natCast,List.take_length];exact rfl)),rfl⟩ rfl⟩
        ·refine qC [11] ?_;refine qC [12] ?_;refine zai (by exact ⟨Nat.one_pos,qT (show (es.take (es.length : Int).toNat).length + 1 ≤ 1000000000 by rw [List.length_take];omega) (by decide)⟩) ?_;refine qC [13] ?_;refine qC [15] ?_;refine qI 5 6 rfl rfl rfl rfl ?_;refine qI 6 7 rfl rfl rfl rfl ?_;refine qQ ?_;exact ⟨(),trivial,qP ⟨rfl,rfl,rfl⟩ ⟨rfl,rfl,rfl,rfl,(qS (by rw [Int.toNat_natCast,List.take_length];exact rfl)),rfl⟩ rfl⟩
       refine zai ?_ ?_
       ·refine qC [3,14] ?_;refine zai ?_ ?_
        ·refine Or.inr (Or.inl (zei [] (zei [] (zei _ (zei _ (zei _ (zei _ (zei _ (zai (hcp) (zai rfl (zai True.intro (zai rfl ?_))))))))))));refine qC [12,14] ?_;refine zai ?_ ?_
         ·refine zai (by exact ⟨Nat.one_pos,qT (show (es.take (es.length : Int).toNat).length + 1 ≤ 1000000000 by rw [List.length_take];omega) (by decide)⟩) ?_;refine qC [13,14] ?_;refine zai ?_ ?_
          ·refine qC [14] ?_;refine qC [15] ?_;refine qI 3 4 rfl rfl rfl rfl ?_;refine qI 4 5 rfl rfl rfl rfl ?_;refine qQ ?_;exact ⟨(),trivial,qP ⟨rfl,rfl,rfl⟩ ⟨rfl,rfl,rfl,rfl,(qS (by rw [Int.toNat_natCast,List.take_length];exact rfl)),rfl⟩ rfl⟩
          ·refine qC [13] ?_;refine qC [15] ?_;refine qI 3 4 rfl rfl rfl rfl ?_;refine qI 4 5 rfl rfl rfl rfl ?_;refine qQ ?_;exact ⟨(),trivial,qP ⟨rfl,rfl,rfl⟩ ⟨rfl,rfl,rfl,rfl,(qS (by rw [Int.toNat_natCast,List.take_length];exact rfl)),rfl⟩ rfl⟩
         ·refine qC [12] ?_;refine zai (by exact ⟨Nat.one_pos,qT (show (es.take (es.length : Int).toNat).length + 1 ≤ 1000000000 by rw [List.length_take];omega) (by decide)⟩) ?_;refine qC [13] ?_;refine qC [15] ?_;refine qI 3 4 rfl rfl rfl rfl ?_;refine qI 4 5 rfl rfl rfl rfl ?_;refine qI 6 7 rfl rfl rfl rfl ?_;refine qQ ?_;exact ⟨(),trivial,qP ⟨rfl,rfl,rfl⟩ ⟨rfl,rfl,rfl,rfl,(qS (by rw [Int.toNat_natCast,List.take_length];exact rfl)),rfl⟩ rfl⟩
        ·refine qC [3] ?_;refine Or.inr (Or.inl (zei [] (zei [] (zei _ (zei _ (zei _ (zei _ (zei _ (zai (hcp) (zai rfl (zai True.intro (zai rfl ?_))))))))))));refine qC [12] ?_;refine zai (by exact ⟨Nat.one_pos,qT (show (es.take (es.length : Int).toNat).length + 1 ≤ 1000000000 by rw [List.length_take];omega) (by decide)⟩) ?_;refine qC [13] ?_;refine qC [15] ?_;refine qI 3 5 rfl rfl rfl rfl ?_;refine qI 4 6 rfl rfl rfl rfl ?_;refine qI 6 7 rfl rfl rfl rfl ?_;refine qQ ?_;exact ⟨(),trivial,qP ⟨rfl,rfl,rfl⟩ ⟨rfl,rfl,rfl,rfl,(qS (by rw [Int.toNat_natCast,List.take_length];exact rfl)),rfl⟩ rfl⟩
       ·refine qC [3,11] ?_;refine zai ?_ ?_
        ·refine Or.inr (Or.inl (zei [] (zei [] (zei _ (zei _ (zei _ (zei _ (zei _ (zai (hcp) (zai rfl (zai True.intro (zai rfl ?_))))))))))));refine qC [11] ?_;refine qC [12] ?_;refine zai (by exact ⟨Nat.one_pos,qT (show (es.take (es.length : Int).toNat).length + 1 ≤ 1000000000 by rw [List.length_take];omega) (by decide)⟩) ?_;refine qC [13] ?_;refine qC [15] ?_;refine qI 3 4 rfl rfl rfl rfl ?_;refine qI 4 5 rfl rfl rfl rfl ?_;refine qI 5 6 rfl rfl rfl rfl ?_;refine qI 6 7 rfl rfl rfl rfl ?_;refine qQ ?_;exact ⟨(),trivial,qP ⟨rfl,rfl,rfl⟩ ⟨rfl,rfl,rfl,rfl,(qS (by rw [Int.toNat_natCast,List.take_length];exact rfl)),rfl⟩ rfl⟩
        ·refine qC [3] ?_;refine Or.inr (Or.inl (zei [] (zei [] (zei _ (zei _ (zei _ (zei _ (zei _ (zai (hcp) (zai rfl (zai True.intro (zai rfl ?_))))))))))));refine qC [12] ?_;refine zai (by exact ⟨Nat.one_pos,qT (show (es.take (es.length : Int).toNat).length + 1 ≤ 1000000000 by rw [List.length_take];omega) (by decide)⟩) ?_;refine qC [13] ?_;refine qC [15] ?_;refine qI 3 5 rfl rfl rfl rfl ?_;refine qI 4 6 rfl rfl rfl rfl ?_;refine qI 5 6 rfl rfl rfl rfl ?_;refine qI 6 7 rfl rfl rfl rfl ?_;refine qQ ?_;exact ⟨(),trivial,qP ⟨rfl,rfl,rfl⟩ ⟨rfl,rfl,rfl,rfl,(qS (by rw [Int.toNat_natCast,List.take_length];exact rfl)),rfl⟩ rfl⟩
      refine zai ?_ ?_
      ·refine qC [1,14] ?_;refine zai ?_ ?_
       ·refine Or.inr (Or.inr (Or.inl ?_));refine zai rfl ?_;refine zei _ (zai (hnow) ?_);refine qN 2 rfl ?_;refine qC [3,14] ?_;refine zai ?_ ?_
        ·refine Or.inr (Or.inl (zei [] (zei [] (zei _ (zei _ (zei _ (zei _ (zei _ (zai (hcp) (zai rfl (zai True.intro (zai rfl ?_))))))))))));refine qC [12,14] ?_;refine zai ?_ ?_
         ·refine zai (by exact ⟨Nat.one_pos,qT (show (es.take (es.length : Int).toNat).length + 1 ≤ 1000000000 by rw [List.length_take];omega) (by decide)⟩) ?_;refine qC [13,14] ?_;refine zai ?_ ?_
          ·refine qC [14] ?_;refine qC [15] ?_;refine qI 3 4 rfl rfl rfl rfl ?_;refine qI 4 5 rfl rfl rfl rfl ?_;refine qQ ?_;exact ⟨(),trivial,qP ⟨rfl,rfl,rfl⟩ ⟨rfl,rfl,rfl,rfl,(qS (by rw [Int.toNat_natCast,List.take_length];exact rfl)),rfl⟩ rfl⟩
          ·refine qC [13] ?_;refine qC [15] ?_;refine qI 3 4 rfl rfl rfl rfl ?_;refine qI 4 5 rfl rfl rfl rfl ?_;refine qQ ?_;exact ⟨(),trivial,qP ⟨rfl,rfl,rfl⟩ ⟨rfl,rfl,rfl,rfl,(qS (by rw [Int.toNat_natCast,List.take_length];exact rfl)),rfl⟩ rfl⟩
         ·refine qC [12] ?_;refine zai (by exact ⟨Nat.one_pos,qT (show (es.take (es.length : Int).toNat).length + 1 ≤ 1000000000 by rw [List.length_take];omega) (by decide)⟩) ?_;refine qC [13] ?_;refine qC [15] ?_;refine qI 3 4 rfl rfl rfl rfl ?_;refine qI 4 5 rfl rfl rfl rfl ?_;refine qI 6 7 rfl rfl rfl rfl ?_;refine qQ ?_;exact ⟨(),trivial,qP ⟨rfl,rfl,rfl⟩ ⟨rfl,rfl,rfl,rfl,(qS (by rw [Int.toNat_natCast,List.take_length];exact rfl)),rfl⟩ rfl⟩
        ·refine qC [3] ?_;refine Or.inr (Or.inl (zei [] (zei [] (zei _ (zei _ (zei _ (zei _ (zei _ (zai (hcp) (zai rfl (zai True.intro (zai rfl ?_))))))))))));refine qC [12] ?_;refine zai (by exact ⟨Nat.one_pos,qT (show (es.take (es.length : Int).toNat).length + 1 ≤ 1000000000 by rw [List.length_take];omega) (by decide)⟩) ?_;refine qC [13] ?_;refine qC [15] ?_;refine qI 3 5 rfl rfl rfl rfl ?_;refine qI 4 6 rfl rfl rfl rfl ?_;refine qI 6 7 rfl rfl rfl rfl ?_;refine qQ ?_;exact ⟨(),trivial,qP ⟨rfl,rfl,rfl⟩ ⟨rfl,rfl,rfl,rfl,(qS (by rw [Int.toNat_natCast,List.take_length];exact rfl)),rfl⟩ rfl⟩
       ·refine qC [1] ?_;refine Or.inr (Or.inr (Or.inl ?_));refine zai rfl ?_;refine zei _ (zai (hnow) ?_);refine qN 2 rfl ?_;refine qC [3] ?_;refine Or.inr (Or.inl (zei [] (zei [] (zei _ (zei _ (zei _ (zei _ (zei _ (zai (hcp) (zai rfl (zai True.intro (zai rfl ?_))))))))))));refine qC [12] ?_;refine zai (by exact ⟨Nat.one_pos,qT (show (es.take (es.length : Int).toNat).length + 1 ≤ 1000000000 by rw [List.length_take];omega) (by decide)⟩) ?_;refine qC [13] ?_;refine qC [15] ?_;refine qI 3 5 rfl rfl rfl rfl ?_;refine qI 4 6 rfl rfl rfl rfl ?_;refine qI 6 7 rfl rfl rfl rfl ?_;refine qQ ?_;exact ⟨(),trivial,qP ⟨rfl,rfl,rfl⟩ ⟨rfl,rfl,rfl,rfl,(qS (by rw [Int.toNat_natCast,List.take_length];exact rfl)),rfl⟩ rfl⟩
      ·refine qC [1,11] ?_;refine zai ?_ ?_
       ·refine Or.inr (Or.inr (Or.inl ?_));refine zai rfl ?_;refine zei _ (zai (hnow) ?_);refine qN 2 rfl ?_;refine qC [3,11] ?_;refine zai ?_ ?_
        ·refine Or.inr (Or.inl (zei [] (zei [] (zei _ (zei _ (zei _ (zei _ (zei _ (zai (hcp) (zai rfl (zai True.intro (zai rfl ?_))))))))))));refine qC [11] ?_;refine qC [12] ?_;refine zai (by exact ⟨Nat.one_pos,qT (show (es.take (es.length : Int).toNat).length + 1 ≤ 1000000000 by rw [List.length_take];omega) (by decide)⟩) ?_;refine qC [13] ?_;refine qC [15] ?_;refine qI 3 4 rfl rfl rfl rfl ?_;refine qI 4 5 rfl rfl rfl rfl ?_;refine qI 5 6 rfl rfl rfl rfl ?_;refine qI 6 7 rfl rfl rfl rfl ?_;refine qQ ?_;exact ⟨(),trivial,qP ⟨rfl,rfl,rfl⟩ ⟨rfl,rfl,rfl,rfl,(qS (by rw [Int.toNat_natCast,List.take_length];exact rfl)),rfl⟩ rfl⟩
        ·refine qC [3] ?_;refine Or.inr (Or.inl (zei [] (zei [] (zei _ (zei _ (zei _ (zei _ (zei _ (zai (hcp) (zai rfl (zai True.intro (zai rfl ?_))))))))))));refine qC [12] ?_;refine zai (by exact ⟨Nat.one_pos,qT (show (es.take (es.length : Int).toNat).length + 1 ≤ 1000000000 by rw [List.length_take];omega) (by decide)⟩) ?_;refine qC [13] ?_;refine qC [15] ?_;refine qI 3 5 rfl rfl rfl rfl ?_;refine qI 4 6 rfl rfl rfl rfl ?_;refine qI 5 6 rfl rfl rfl rfl ?_;refine qI 6 7 rfl rfl rfl rfl ?_;refine qQ ?_;exact ⟨(),trivial,qP ⟨rfl,rfl,rfl⟩ ⟨rfl,rfl,rfl,rfl,(qS (by rw [Int.toNat_natCast,List.take_length];exact rfl)),rfl⟩ rfl⟩
       ·refine qC [1] ?_;refine Or.inr (Or.inr (Or.inl ?_));refine zai rfl ?_;refine zei _ (zai (hnow) ?_);refine qN 2 rfl ?_;refine qC [3] ?_;refine Or.inr (Or.inl (zei [] (zei [] (zei _ (zei _ (zei _ (zei _ (zei _ (zai (hcp) (zai rfl (zai True.intro (zai rfl ?_))))))))))));refine qC [12] ?_;refine zai (by exact ⟨Nat.one_pos,qT (show (es.take (es.length : Int).toNat).length + 1 ≤ 1000000000 by rw [List.length_take];omega) (by decide)⟩) ?_;refine qC [13] ?_;refine qC [15] ?_;refine qI 3 5 rfl rfl rfl rfl ?_;refine qI 4 6 rfl rfl rfl rfl ?_;refine qI 5 6 rfl rfl rfl rfl ?_;refine qI 6 7 rfl rfl rfl rfl ?_;refine qQ ?_;exact ⟨(),trivial,qP ⟨rfl,rfl,rfl⟩ ⟨rfl,rfl,rfl,rfl,(qS (by rw [Int.toNat_natCast,List.take_length];exact rfl)),rfl⟩ rfl⟩
     ·refine qC [1,10] ?_;refine zai ?_ ?_
      ·refine Or.inr (Or.inr (Or.inl ?_));refine zai rfl ?_;refine zei _ (zai (hnow) ?_);refine qN 2 rfl ?_;refine qC [3,10] ?_;refine zai ?_ ?_
       ·refine Or.inr (Or.inl (zei [] (zei [] (zei _ (zei _ (zei _ (zei _ (zei _ (zai (hcp) (zai rfl (zai True.intro (zai rfl ?_))))))))))));refine qC [10] ?_;refine qC [11] ?_;refine qC [12] ?_;refine zai (by exact ⟨Nat.one_pos,qT (show (es.take (es.length : Int).toNat).length + 1 ≤ 1000000000 by rw [List.length_take];omega) (by decide)⟩) ?_;refine qC [13] ?_;refine qC [15] ?_;refine qI 3 4 rfl rfl rfl rfl ?_;refine qI 4 5 rfl rfl rfl rfl ?_;refine qI 5 6 rfl rfl rfl rfl ?_;refine qI 6 7 rfl rfl rfl rfl ?_;refine qQ ?_;exact ⟨(),trivial,qP ⟨rfl,rfl,rfl⟩ ⟨rfl,rfl,rfl,rfl,(qS (by rw [Int.toNat_natCast,List.take_length];exact rfl)),rfl⟩ rfl⟩
       ·refine qC [3,11] ?_;refine zai ?_ ?_
        ·refine Or.inr (Or.inl (zei [] (zei [] (zei _ (zei _ (zei _ (zei _ (zei _ (zai (hcp) (zai rfl (zai True.intro (zai rfl ?_))))))))))));refine qC [11] ?_;refine qC [12] ?_;refine zai (by exact ⟨Nat.one_pos,qT (show (es.take (es.length : Int).toNat).length + 1 ≤ 1000000000 by rw [List.length_take];omega) (by decide)⟩) ?_;refine qC [13] ?_;refine qC [15] ?_;refine qI 3 4 rfl rfl rfl rfl ?_;refine qI 4 5 rfl rfl rfl rfl ?_;refine qI 5 6 rfl rfl rfl rfl ?_;refine qI 6 7 rfl rfl rfl rfl ?_;refine qQ ?_;exact ⟨(),trivial,qP ⟨rfl,rfl,rfl⟩ ⟨rfl,rfl,rfl,rfl,(qS (by rw [Int.toNat_natCast,List.take_length];exact rfl)),rfl⟩ rfl⟩
        ·refine qC [3] ?_;refine Or.inr (Or.inl (zei [] (zei [] (zei _ (zei _ (zei _ (zei _ (zei _ (zai (hcp) (zai rfl (zai True.intro (zai rfl ?_))))))))))));refine qC [12] ?_;refine zai (by exact ⟨Nat.one_pos,qT (show (es.take (es.length : Int).toNat).length + 1 ≤ 1000000000 by rw [List.length_take];omega) (by decide)⟩) ?_;refine qC [13] ?_;refine qC [15] ?_;refine qI 3 5 rfl rfl rfl rfl ?_;refine qI 4 6 rfl rfl rfl rfl ?_;refine qI 5 6 rfl rfl rfl rfl ?_;refine qI 6 7 rfl rfl rfl rfl ?_;refine qQ ?_;exact ⟨(),trivial,qP ⟨rfl,rfl,rfl⟩ ⟨rfl,rfl,rfl,rfl,(qS (by rw [Int.toNat_natCast,List.take_length];exact rfl)),rfl⟩ rfl⟩
      ·refine qC [1,11] ?_;refine zai ?_ ?_
       ·refine Or.inr (Or.inr (Or.inl ?_));refine zai rfl ?_;refine zei _ (zai (hnow) ?_);refine qN 2 rfl ?_;refine qC [3,11] ?_;refine zai ?_ ?_
        ·refine Or.inr (Or.inl (zei [] (zei [] (zei _ (zei _ (zei _ (zei _ (zei _ (zai (hcp) (zai rfl (zai True.intro (zai rfl ?_))))))))))));refine qC [11] ?_;refine qC [12] ?_;refine zai (by exact ⟨Nat.one_pos,qT (show (es.take (es.length : Int).toNat).length + 1 ≤ 1000000000 by rw [List.length_take];omega) (by decide)⟩) ?_;refine qC [13] ?_;refine qC [15] ?_;refine qI 3 4 rfl rfl rfl rfl ?_;refine qI 4 5 rfl rfl rfl rfl ?_;refine qI 5 6 rfl rfl rfl rfl ?_;refine qI 6 7 rfl rfl rfl rfl ?_;refine qQ ?_;exact ⟨(),trivial,qP ⟨rfl,rfl,rfl⟩ ⟨rfl,rfl,rfl,rfl,(qS (by rw [Int.toNat_natCast,List.take_length];exact rfl)),rfl⟩ rfl⟩
        ·refine qC [3] ?_;refine Or.inr (Or.inl (zei [] (zei [] (zei _ (zei _ (zei _ (zei _ (zei _ (zai (hcp) (zai rfl (zai True.intro (zai rfl ?_))))))))))));refine qC [12] ?_;refine zai (by exact ⟨Nat.one_pos,qT (show (es.take (es.length : Int).toNat).length + 1 ≤ 1000000000 by rw [List.length_take];omega) (by decide)⟩) ?_;refine qC [13] ?_;refine qC [15] ?_;refine qI 3 5 rfl rfl rfl rfl ?_;refine qI 4 6 rfl rfl rfl rfl ?_;refine qI 5 6 rfl rfl rfl rfl ?_;refine qI 6 7 rfl rfl rfl rfl ?_;refine qQ ?_;exact ⟨(),trivial,qP ⟨rfl,rfl,rfl⟩ ⟨rfl,rfl,rfl,rfl,(qS (by rw [Int.toNat_natCast,List.take_length];exact rfl)),rfl⟩ rfl⟩
       ·refine qC [1] ?_;refine Or.inr (Or.inr (Or.inl ?_));refine zai rfl ?_;refine zei _ (zai (hnow) ?_);refine qN 2 rfl ?_;refine qC [3] ?_;refine Or.inr (Or.inl (zei [] (zei [] (zei _ (zei _ (zei _ (zei _ (zei _ (zai (hcp) (zai rfl (zai True.intro (zai rfl ?_))))))))))));refine qC [12] ?_;refine zai (by exact ⟨Nat.one_pos,qT (show (es.take (es.length : Int).toNat).length + 1 ≤ 1000000000 by rw [List.length_take];omega) (by decide)⟩) ?_;refine qC [13] ?_;refine qC [15] ?_;refine qI 3 5 rfl rfl rfl rfl ?_;refine qI 4 6 rfl rfl rfl rfl ?_;refine qI 5 6 rfl rfl rfl rfl ?_;refine qI 6 7 rfl rfl rfl rfl ?_;refine qQ ?_;exact ⟨(),trivial,qP ⟨rfl,rfl,rfl⟩ ⟨rfl,rfl,rfl,rfl,(qS (by rw [Int.toNat_natCast,List.take_length];exact rfl)),rfl⟩ rfl⟩
    ·intro u hcut7;refine qK ?_;refine qK ?_;rcases hdo with ⟨rfl,rfl,hdo⟩|⟨k9,rfl,rfl,hdo⟩|⟨a9,k9,rfl,rfl,hdo⟩
     ·refine qM ?_;refine Or.inr (Or.inl (zei [] (zei [4,3] (zei _ (zei _ (zei _ (zei _ (zei _ (zai (hdo) (zai rfl (zai (zai (zai rfl rfl) (zai (zai rfl rfl) True.intro)) (zai rfl ?_))))))))))));refine qB ?_;refine qJ rfl (fun h42=>?_) (fun h42=>?_)
      ·try simp only [Bool.not_eq_true'] at h42
       try simp only [zds] at h42
       simp at h42
      ·try simp only [Bool.not_eq_false'] at h42
       try simp only [zds] at h42
       refine qO ?_;refine qK ?_;refine xZ [6,3,4] ?_;refine yG rfl ?_;refine qN 0 rfl ?_;refine qN 1 rfl ?_;refine qN 2 rfl ?_;refine qN 3 rfl ?_;refine qC [4,5] ?_;refine zai ?_ ?_
       ·refine qC [5] ?_;refine qC [6] ?_;refine qC [7] ?_;refine zai (by exact qT (show sts.length + 1 ≤ 1000000000 by omega) (by decide)) ?_;refine qN 8 rfl ?_;refine qN 9 rfl ?_;refine qC [10] ?_;refine qQ ?_;refine qB ?_;refine qL ?_
        first|exact ⟨rfl,⟨rfl,qS rfl⟩,rfl⟩|exact ⟨rfl,⟨rfl,rfl⟩,rfl⟩
       ·refine qC [4,6] ?_;refine zai ?_ ?_
        ·refine qC [6] ?_;refine qC [7] ?_;refine zai (by exact qT (show sts.length + 1 ≤ 1000000000 by omega) (by decide)) ?_;refine qN 8 rfl ?_;refine qN 9 rfl ?_;refine qC [10] ?_;refine qQ ?_;refine qB ?_;refine qL ?_
         first|exact ⟨rfl,⟨rfl,qS rfl⟩,rfl⟩|exact ⟨rfl,⟨rfl,rfl⟩,rfl⟩
        ·refine qC [4] ?_;refine qC [7] ?_;refine zai (by exact qT (show sts.length + 1 ≤ 1000000000 by omega) (by decide)) ?_;refine qN 8 rfl ?_;refine qN 9 rfl ?_;refine qC [10] ?_;refine qQ ?_;refine qB ?_;refine qL ?_
         first|exact ⟨rfl,⟨rfl,qS rfl⟩,rfl⟩|exact ⟨rfl,⟨rfl,rfl⟩,rfl⟩
     ·refine qM ?_;refine Or.inr (Or.inl (zei [] (zei [4,3] (zei _ (zei _ (zei _ (zei _ (zei _ (zai (hdo) (zai rfl (zai (zai (zai rfl rfl) (zai (zai rfl rfl) True.intro)) (zai rfl ?_))))))))))));refine qB ?_;refine qJ rfl (fun h42=>?_) (fun h42=>?_)
      ·skip
       refine qB ?_;refine qL ?_
       first|exact ⟨rfl,⟨rfl,qS rfl⟩,rfl⟩|exact ⟨rfl,⟨rfl,rfl⟩,rfl⟩
      ·try simp only [zbq] at h42
       try simp only [zds] at h42
       simp at h42
     ·refine qM ?_;refine Or.inr (Or.inl (zei [] (zei [4,3] (zei _ (zei _ (zei _ (zei _ (zei _ (zai (hdo) (zai rfl (zai (zai (zai rfl rfl) (zai (zai rfl rfl) True.intro)) (zai rfl ?_))))))))))));refine qB ?_;refine qJ rfl (fun h42=>?_) (fun h42=>?_)
      ·skip
       refine qB ?_;refine qL ?_
       first|exact ⟨rfl,⟨rfl,qS rfl⟩,rfl⟩|exact ⟨rfl,⟨rfl,rfl⟩,rfl⟩
      ·try simp only [zbq] at h42
       try simp only [zds] at h42
       simp at h42
theorem ttake1_o {f : FuncId} {β : Type} (S : Rd β) (y : β) (sts : List TSt) (L L' : Lst) (es : List Edt) (x : Edt) (h : 0 < sts.length) (h40 : sts.length ≤ 40) (hl : sts.getD (sts.length - 1) ((([] : List Ent),(0 : Int),(0 : Int)),([] : List Edt)) = (L,es)) (he : es.length ≤ 1000) (hL : L.1.length ≤ 1000000)
    (hdo : qU Tryz.prog f [.one (.own 0 0),.one (.addr S y)] (lsO L) 2 (.one (.lit .nilIface)) (lsO L') 2) :
    qU Tryz.prog 70 [.one (.own 0 0),.agg (toL rEdt x),.one (.clo f (.addr S y))] (txO sts) 2 (.one (.lit .nilIface)) (txO (sts ++ [(L',es ++ [x])])) 2 :=
  tk1_o S y _ sts _ L L' es x h h40 hl he hL (.inl ⟨rfl,rfl,hdo⟩)
abbrev delA2 (id : Int) : A:=.agg [.lit (.int .i64 2),.lit (.int .i64 id),.lit (.slice none 0 0)]
theorem del_rep {ok : Oks} {ρ : Nat → Option Value} {w : World} {id : Int} {v : Value} (h : (delA2 id).rep ok ρ w v) : (A.agg (toL rEdt (2,id,[]))).rep ok ρ w v:=by
  obtain ⟨vs,rfl,a,r,rfl,ha,b,r2,rfl,hb,c,r3,rfl,hc,hz⟩:=h;exact ⟨_,rfl,a,_,rfl,ha,b,_,rfl,hb,c,_,rfl,⟨none,0,hc,Nat.le_refl _,Nat.zero_le _,fun i hi=>absurd hi (by simp)⟩,hz⟩
theorem tbegin_o {k : Nat} (L : Lst) (hL : L.1.length ≤ 1000000) : qU Tryz.prog 16 [.one (.adk k (rLst k) L)] [] 0 (.tup [(false,[.own 3 0]),(false,[.lit .nilIface])]) [(3,.box 123 [.vec 2]),(2,.vec 120 rSt [(L,[])])] 4:=by
  have hcp:=copyL_o (k:=k) L.1 L.2.1 L.2.2 hL;refine qV (rs:=[2,3]) Tryz.func16 rfl rfl rfl teOk (by decide) rfl ?_;refine qB ?_;refine qK ?_;refine qB ?_;refine qJ rfl (fun h5=>?_) (fun h5=>?_)
  ·try simp only [zbq] at h5
   try simp only [zds] at h5
   simp at h5
  ·skip
   refine qO ?_;refine qK ?_;show yF _ _ _ _ _ _ _ _ _;refine acode_frzatB 2 [0,1] ?_;refine Or.inr (Or.inl (zei [] (zei [] (zei _ (zei _ (zei _ (zei _ (zei _ (zai (hcp) (zai rfl (zai True.intro (zai rfl ?_))))))))))));refine qL ?_;exact ⟨rfl,⟨rfl,rfl⟩,rfl⟩
theorem trep1_o (L : Lst) (id : Int) (f : List Fld) (i : Nat) (hi : i < L.1.length) (h : atE L.1 id = i) (hf : yQ f) (hc : (chkR f).2 = 0) : qU Tryz.prog 73 [.one (.own 0 0),.one (.addr (.int .i64) id),.one (.addr (.sl rFld) f)] (lsO L) 2 (.one (.lit .nilIface)) (lsO (xW L.1 i (xC f),L.2)) 2:=by
  have hr:=lRep_ok (κ:=0) L.1 L.2.1 L.2.2 id f i hi h hf hc;refine qV (rs:=[4]) Tryz.func73 rfl rfl rfl teOk (by decide) rfl ?_;refine qB ?_;refine qB ?_;refine Or.inr (Or.inl (zei [] (zei [0,1] (zei _ (zei _ (zei _ (zei _ (zei _ (zai (hr) (zai rfl (zai (zai (zai rfl rfl) (zai (zai rfl rfl) True.intro)) (zai rfl ?_))))))))))));refine qL ?_;exact ⟨rfl,⟨rfl,rfl⟩,rfl⟩
theorem tdel1_o (L : Lst) (id : Int) (i : Nat) (hi : i < L.1.length) (h : atE L.1 id = i) (hm : 0 ≤ L.2.2 ∧ L.2.2 ≤ 1000000) (hl : L.1.length ≤ 1000000) : qU Tryz.prog 74 [.one (.own 0 0),.one (.addr (.int .i64) id)] (lsO L) 2 (.one (.lit .nilIface)) (lsO (delE L.1 i,L.2.1,L.2.2 - 1)) 2:=by
  have hr:=lDel_ok L.1 L.2.1 L.2.2 id i hi h hm hl;refine qV (rs:=[3]) Tryz.func74 rfl rfl rfl teOk (by decide) rfl ?_;refine qB ?_;refine qB ?_;refine Or.inr (Or.inl (zei [] (zei [0,1] (zei _ (zei _ (zei _ (zei _ (zei _ (zai (hr) (zai rfl (zai (zai (zai rfl rfl) (zai (zai rfl rfl) True.intro)) (zai rfl ?_))))))))))));refine qL ?_;exact ⟨rfl,⟨rfl,rfl⟩,rfl⟩
theorem trep_o (sts : List TSt) (L : Lst) (es : List Edt) (id : Int) (f : List Fld) (i : Nat) (hi : i < L.1.length) (h : atE L.1 id = i) (hf : yQ f) (hc : (chkR f).2 = 0) (h0 : 0 < sts.length) (h40 : sts.length ≤ 40) (hl : sts.getD (sts.length - 1) ((([] : List Ent),(0 : Int),(0 : Int)),([] : List Edt)) = (L,es)) (he : es.length ≤ 1000) (hL : L.1.length ≤ 1000000) :
    qU Tryz.prog 21 [.one (.own 0 0),ii .i64 id,.one (.sl rFld f)] (txO sts) 2 (.one (.lit .nilIface)) (txO (sts ++ [((xW L.1 i (xC f),L.2),es ++ [(1,id,f)])])) 2:=by
  have htk:=ttake2_o (.int .i64) id (.sl rFld) f sts L _ es (1,id,f) h0 h40 hl he hL (trep1_o L id f i hi h hf hc);refine qV (rs:=[6]) Tryz.func21 rfl rfl rfl teOk (by decide) rfl ?_;refine qB ?_;refine acode_cut (fun (u : Unit)=>True) (fun (u : Unit)=>[(0,.one (.own 0 0)),(4,.one (.own 2 0)),(5,.one (.own 3 0)),(7,.one (.own 4 0))]) (fun (u : Unit)=>[(0,.box 123 [.vec 1]),(1,.vec 120 rSt sts),(2,.box 3 [.lit (.int .i64 id)]),(3,.box 29 [.sl rFld f]),(4,.box 31 (toL rEdt (1,id,f)))]) 5 ?_ ?_
  ·refine yG rfl ?_;refine qC [0,1,4] ?_;refine zai ?_ ?_
   ·refine qC [1,4] ?_;refine zai ?_ ?_
    ·refine qC [2,4] ?_;refine zai ?_ ?_
     ·refine Or.inl ?_;refine zai (rfl) ?_;refine zei _ (zai (yA f (Nat.le_trans hf.1 (by decide))) ?_);refine qC [3,4] ?_;refine zai ?_ ?_
      ·refine qC [4] ?_;refine qC [5] ?_;refine qQ ?_;exact ⟨(),trivial,qP ⟨rfl,rfl,rfl,rfl⟩ ⟨rfl,rfl,rfl,rfl,rfl⟩ rfl⟩
      ·refine qC [3] ?_;refine qC [5] ?_;refine qQ ?_;exact ⟨(),trivial,qP ⟨rfl,rfl,rfl,rfl⟩ ⟨rfl,rfl,rfl,rfl,rfl⟩ rfl⟩
     ·refine qC [2] ?_;refine Or.inl ?_;refine zai (rfl) ?_;refine zei _ (zai (yA f (Nat.le_trans hf.1 (by decide))) ?_);refine qC [3] ?_;refine qC [5] ?_;refine qQ ?_;exact ⟨(),trivial,qP ⟨rfl,rfl,rfl,rfl⟩ ⟨rfl,rfl,rfl,rfl,rfl⟩ rfl⟩
    ·refine qC [1] ?_;refine qC [2] ?_;refine Or.inl ?_;refine zai (rfl) ?_;refine zei _ (zai (yA f (Nat.le_trans hf.1 (by decide))) ?_);refine qC [3] ?_;refine qC [5] ?_;refine qQ ?_;exact ⟨(),trivial,qP ⟨rfl,rfl,rfl,rfl⟩ ⟨rfl,rfl,rfl,rfl,rfl⟩ rfl⟩
   refine zai ?_ ?_
   ·refine qC [0,2,4] ?_;refine zai ?_ ?_
    ·refine qC [2,4] ?_;refine zai ?_ ?_
     ·refine Or.inl ?_;refine zai (rfl) ?_;refine zei _ (zai (yA f (Nat.le_trans hf.1 (by decide))) ?_);refine qC [3,4] ?_;refine zai ?_ ?_
      ·refine qC [4] ?_;refine qC [5] ?_;refine qQ ?_;exact ⟨(),trivial,qP ⟨rfl,rfl,rfl,rfl⟩ ⟨rfl,rfl,rfl,rfl,rfl⟩ rfl⟩
      ·refine qC [3] ?_;refine qC [5] ?_;refine qQ ?_;exact ⟨(),trivial,qP ⟨rfl,rfl,rfl,rfl⟩ ⟨rfl,rfl,rfl,rfl,rfl⟩ rfl⟩
     ·refine qC [2] ?_;refine Or.inl ?_;refine zai (rfl) ?_;refine zei _ (zai (yA f (Nat.le_trans hf.1 (by decide))) ?_);refine qC [3] ?_;refine qC [5] ?_;refine qQ ?_;exact ⟨(),trivial,qP ⟨rfl,rfl,rfl,rfl⟩ ⟨rfl,rfl,rfl,rfl,rfl⟩ rfl⟩
    refine zai ?_ ?_
    ·refine Or.inl ?_;refine zai (rfl) ?_;refine zei _ (zai (yA f (Nat.le_trans hf.1 (by decide))) ?_);refine qC [0,4] ?_;refine zai ?_ ?_
     ·refine qC [3,4] ?_;refine zai ?_ ?_
      ·refine qC [4] ?_;refine qC [5] ?_;refine qQ ?_;exact ⟨(),trivial,qP ⟨rfl,rfl,rfl,rfl⟩ ⟨rfl,rfl,rfl,rfl,rfl⟩ rfl⟩
      ·refine qC [3] ?_;refine qC [5] ?_;refine qQ ?_;exact ⟨(),trivial,qP ⟨rfl,rfl,rfl,rfl⟩ ⟨rfl,rfl,rfl,rfl,rfl⟩ rfl⟩
     ·refine qC [0] ?_;refine qC [3] ?_;refine qC [5] ?_;refine qQ ?_;exact ⟨(),trivial,qP ⟨rfl,rfl,rfl,rfl⟩ ⟨rfl,rfl,rfl,rfl,rfl⟩ rfl⟩
    ·refine qC [0,2] ?_;refine zai ?_ ?_
     ·refine qC [2] ?_;refine Or.inl ?_;refine zai (rfl) ?_;refine zei _ (zai (yA f (Nat.le_trans hf.1 (by decide))) ?_);refine qC [3] ?_;refine qC [5] ?_;refine qQ ?_;exact ⟨(),trivial,qP ⟨rfl,rfl,rfl,rfl⟩ ⟨rfl,rfl,rfl,rfl,rfl⟩ rfl⟩
     ·refine Or.inl ?_;refine zai (rfl) ?_;refine zei _ (zai (yA f (Nat.le_trans hf.1 (by decide))) ?_);refine qC [0] ?_;refine qC [3] ?_;refine qC [5] ?_;refine qQ ?_;exact ⟨(),trivial,qP ⟨rfl,rfl,rfl,rfl⟩ ⟨rfl,rfl,rfl,rfl,rfl⟩ rfl⟩
   ·refine qC [0,1] ?_;refine zai ?_ ?_
    ·refine qC [1] ?_;refine qC [2] ?_;refine Or.inl ?_;refine zai (rfl) ?_;refine zei _ (zai (yA f (Nat.le_trans hf.1 (by decide))) ?_);refine qC [3] ?_;refine qC [5] ?_;refine qQ ?_;exact ⟨(),trivial,qP ⟨rfl,rfl,rfl,rfl⟩ ⟨rfl,rfl,rfl,rfl,rfl⟩ rfl⟩
    ·refine qC [0,2] ?_;refine zai ?_ ?_
     ·refine qC [2] ?_;refine Or.inl ?_;refine zai (rfl) ?_;refine zei _ (zai (yA f (Nat.le_trans hf.1 (by decide))) ?_);refine qC [3] ?_;refine qC [5] ?_;refine qQ ?_;exact ⟨(),trivial,qP ⟨rfl,rfl,rfl,rfl⟩ ⟨rfl,rfl,rfl,rfl,rfl⟩ rfl⟩
     ·refine Or.inl ?_;refine zai (rfl) ?_;refine zei _ (zai (yA f (Nat.le_trans hf.1 (by decide))) ?_);refine qC [0] ?_;refine qC [3] ?_;refine qC [5] ?_;refine qQ ?_;exact ⟨(),trivial,qP ⟨rfl,rfl,rfl,rfl⟩ ⟨rfl,rfl,rfl,rfl,rfl⟩ rfl⟩
  ·intro u hcut2;refine qK ?_;refine xZ [2,3] ?_;refine qM ?_;refine Or.inr (Or.inl (zei [] (zei [0,1] (zei _ (zei _ (zei _ (zei _ (zei _ (zai (htk) (zai rfl (zai (zai (zai rfl rfl) (zai (zai rfl rfl) True.intro)) (zai rfl ?_))))))))))));refine qL ?_;exact ⟨rfl,⟨rfl,rfl⟩,rfl⟩
theorem trepF_o (sts : List TSt) (L : Lst) (es : List Edt) (id : Int) (f : List Fld) (i : Nat) (hi : i < L.1.length) (h : atE L.1 id = i) (hf : yQ f) (hc : (chkR f).2 = 0) (h0 : 0 < sts.length) (h40 : sts.length ≤ 40) (hl : sts.getD (sts.length - 1) ((([] : List Ent),(0 : Int),(0 : Int)),([] : List Edt)) = (L,es)) (he : es.length ≤ 1000) (hL : L.1.length ≤ 1000000) :
    qU Tryz.prog 21 [.one (.own 0 0),ii .i64 id,.one (.full rFld f)] (txO sts) 2 (.one (.lit .nilIface)) (txO (sts ++ [((xW L.1 i (xC f),L.2),es ++ [(1,id,f)])])) 2:=by
  refine acallo_arg (fun ok ρ w vs h=>?_) (trep_o sts L es id f i hi h hf hc h0 h40 hl he hL);obtain ⟨v,r,rfl,h1,v2,r2,rfl,h2,v3,r3,rfl,h3,h4⟩:=h;exact ⟨v,_,rfl,h1,v2,_,rfl,h2,v3,_,rfl,h3.1,h4⟩
theorem tdel_o (sts : List TSt) (L : Lst) (es : List Edt) (id : Int) (i : Nat) (hi : i < L.1.length) (h : atE L.1 id = i) (hm : 0 ≤ L.2.2 ∧ L.2.2 ≤ 1000000) (h0 : 0 < sts.length) (h40 : sts.length ≤ 40) (hl : sts.getD (sts.length - 1) ((([] : List Ent),(0 : Int),(0 : Int)),([] : List Edt)) = (L,es)) (he : es.length ≤ 1000) (hL : L.1.length ≤ 1000000) :
    qU Tryz.prog 22 [.one (.own 0 0),ii .i64 id] (txO sts) 2 (.one (.lit .nilIface)) (txO (sts ++ [((delE L.1 i,L.2.1,L.2.2 - 1),es ++ [(2,id,[])])])) 2:=by
  have htk':=ttake1_o (.int .i64) id sts L _ es (2,id,[]) h0 h40 hl he hL (tdel1_o L id i hi h hm hL);have htk : qU Tryz.prog 70 [.one (.own 0 0),delA2 id,.one (.clo 74 (.addr (.int .i64) id))] (txO sts) 2 (.one (.lit .nilIface)) (txO (sts ++ [((delE L.1 i,L.2.1,L.2.2 - 1),es ++ [(2,id,[])])])) 2:=by
    refine acallo_arg (fun ok ρ w vs h=>?_) htk';obtain ⟨v,r,rfl,h1,v2,r2,rfl,h2,h3⟩:=h;exact ⟨v,_,rfl,h1,v2,_,rfl,del_rep h2,h3⟩
  refine qV (rs:=[4]) Tryz.func22 rfl rfl rfl teOk (by decide) rfl ?_;refine qB ?_;refine qK ?_;refine xZ [2] ?_;refine qM ?_;refine Or.inr (Or.inl (zei [] (zei [0,1] (zei _ (zei _ (zei _ (zei _ (zei _ (zai (htk) (zai rfl (zai (zai (zai rfl rfl) (zai (zai rfl rfl) True.intro)) (zai rfl ?_))))))))))));refine qL ?_;exact ⟨rfl,⟨rfl,rfl⟩,rfl⟩
theorem tback_o (sts : List TSt) (m : Nat) (hm : m + 1 < sts.length) (hl : sts.length ≤ 1000000) : qU Tryz.prog 23 [.one (.own 0 0),ii .i64 m] (txO sts) 2 (.one (.lit .nilIface)) (txO (sts.take (m + 1))) 2:=by
  refine qV (rs:=[4]) Tryz.func23 rfl rfl rfl teOk (by decide) rfl ?_;refine qB ?_;refine qK ?_;refine qR ?_;refine qB ?_;refine Or.inr (Or.inr (Or.inl ?_));refine zai rfl ?_;refine zei _ (zai (topen_c sts) ?_);refine qJ rfl (fun h5=>?_) (fun h5=>?_)
  ·try simp only [decide_eq_false_iff_not,Bool.not_eq_true'] at h5
   try simp only [zds] at h5
   exfalso
   simp at h5;have h9 : sts.length = 0:=(by rw [h5];rfl);omega
  ·try simp only [decide_eq_true_eq,Bool.not_eq_false'] at h5
   try simp only [zds] at h5
   refine qB ?_;refine zai (fun h=>trivial) ?_;refine zai (fun h=>trivial) ?_;refine Or.inr (zai (by (simp [gq])) (zai (by repeat' (first|exact True.intro|apply zai|rfl|decide|simp)) ?_));refine Or.inr (Or.inr (Or.inl ?_));refine zai rfl ?_;refine zei _ (zai (tmark_c sts (by omega)) ?_);refine zai (fun h=>⟨⟨h,trivial⟩,trivial⟩) ?_;refine zai (by first|(intro h;rw [h];rfl)|(intro h;cases h)) ?_;refine qJ rfl (fun h10=>?_) (fun h10=>?_)
   ·try simp only [decide_eq_true_eq,Bool.or_eq_true] at h10
    try simp only [zds] at h10
    exfalso
    omega
   ·try simp only [decide_eq_false_iff_not,Bool.or_eq_false_iff,Int.not_lt] at h10
    try simp only [zds] at h10
    refine qO ?_;refine qK ?_;refine acode_part [_,_,_,_,_,_,_] [_,_,_,_] rfl (zai (by omega) (Eq.refl _)) ?_;intro hte rd n cx e1 e2 ρ a w hs;refine cut_sound (kk:=m + 1) Tryz.underlying121 tyTst rfl rfl rfl rfl (by rw [e1];decide) hs rfl rfl rfl (by omega) (fun ρ a hs'=>?_);refine awp_last hte e1 e2 [_,_,_] hs' (Eq.refl _) ?_;clear hs hte hs';refine qB ?_;refine qL ?_;exact ⟨rfl,⟨rfl,rfl⟩,rfl⟩
theorem tlist_o {k : Nat} (sts : List TSt) (L : Lst) (es : List Edt) (h : 0 < sts.length) (hl : sts.getD (sts.length - 1) ((([] : List Ent),(0 : Int),(0 : Int)),([] : List Edt)) = (L,es)) (hL : L.1.length ≤ 1000000) : qU Tryz.prog 24 [.one (.adk k (.slk k rSt) sts)] [] 0 (.one (.own 1 0)) [(1,.box 134 [.vec 0,.lit (.int .i64 L.2.1),.lit (.int .i64 L.2.2)]),(0,.vec 138 rEnt L.1)] 2:=by
  have hnow:=tnow_c (k:=k) sts h;rw [hl] at hnow;have hcp:=copyL_o (k:=0) L.1 L.2.1 L.2.2 hL;refine qV (rs:=[2]) Tryz.func24 rfl rfl rfl teOk (by decide) rfl ?_;refine qB ?_;refine qK ?_;refine qB ?_;refine Or.inl ?_;refine zai (rfl) ?_;refine zei _ (zai (topen_c sts) ?_);refine qJ rfl (fun h5=>?_) (fun h5=>?_)
  ·try simp only [decide_eq_false_iff_not,Bool.not_eq_true'] at h5
   try simp only [zds] at h5
   exfalso
   simp at h5;have h9 : sts.length = 0:=(by rw [h5];rfl);omega
  ·try simp only [decide_eq_true_eq,Bool.not_eq_false'] at h5
   try simp only [zds] at h5
   refine qO ?_;refine qB ?_;refine Or.inl ?_;refine zai (rfl) ?_;refine zei _ (zai (hnow) ?_);refine Or.inr (Or.inl (zei [] (zei [] (zei _ (zei _ (zei _ (zei _ (zei _ (zai (hcp) (zai rfl (zai True.intro (zai rfl ?_))))))))))));refine qL ?_;exact ⟨rfl,⟨rfl,rfl⟩,rfl⟩
theorem tedits_c {k : Nat} (sts : List TSt) (L : Lst) (es : List Edt) (h : 0 < sts.length) (hl : sts.getD (sts.length - 1) ((([] : List Ent),(0 : Int),(0 : Int)),([] : List Edt)) = (L,es)) (hf : ∀ e ∈ es,e.2.2.length ≤ 1000000) (he : es.length ≤ 1000000) : qY Tryz.prog 25 [.one (.adk k (.slk k rSt) sts)] (.one (.sl rEdt es)):=by
  have hnow:=tnow_c (k:=k) sts h;rw [hl] at hnow;have hcp:=copyT_c es hf he;refine qX (rs:=[2]) Tryz.func25 rfl rfl rfl teOk rfl ?_;refine qB ?_;refine qK ?_;refine qB ?_;refine Or.inl ?_;refine zai (rfl) ?_;refine zei _ (zai (topen_c sts) ?_);refine qJ rfl (fun h5=>?_) (fun h5=>?_)
  ·try simp only [decide_eq_false_iff_not,Bool.not_eq_true'] at h5
   try simp only [zds] at h5
   exfalso
   simp at h5;have h9 : sts.length = 0:=(by rw [h5];rfl);omega
  ·try simp only [decide_eq_true_eq,Bool.not_eq_false'] at h5
   try simp only [zds] at h5
   refine qO ?_;refine qB ?_;refine Or.inl ?_;refine zai (rfl) ?_;refine zei _ (zai (hnow) ?_);refine Or.inl ?_;refine zai (rfl) ?_;refine zei _ (zai (hcp) ?_);refine qL ?_;rfl
theorem troll_o (sts : List TSt) : qU Tryz.prog 17 [.one (.own 0 0)] (txO sts) 2 (.tup []) [(0,.box 123 [.lit (.slice none 0 0)])] 2:=by
  refine qV (rs:=[]) Tryz.func17 rfl rfl rfl teOk (by decide) rfl ?_;refine qB ?_;refine qJ rfl (fun h3=>?_) (fun h3=>?_)
  ·skip
   refine qM ?_;exact ⟨rfl,rfl,rfl⟩
  ·try simp only [zbq] at h3
   try simp only [zds] at h3
   simp at h3
theorem tcommit_o (sts : List TSt) (L : Lst) (es : List Edt) (h : 1 < sts.length) (hl : sts.getD (sts.length - 1) ((([] : List Ent),(0 : Int),(0 : Int)),([] : List Edt)) = (L,es)) (hf : ∀ e ∈ es,e.2.2.length ≤ 1000000) (he : es.length ≤ 1000000) : qU Tryz.prog 19 [.one (.own 0 0)] (txO sts) 2 (.tup [(false,[.sl rEdt es]),(false,[.lit .nilIface])]) [(0,.box 123 [.lit (.slice none 0 0)])] 2:=by
  have hed:=tedits_c (k:=1) sts L es (by omega) hl hf he;refine qV (rs:=[2,3]) Tryz.func19 rfl rfl rfl teOk (by decide) rfl ?_;refine qB ?_;refine qK ?_;refine qR ?_;refine qB ?_;refine Or.inr (Or.inr (Or.inl ?_));refine zai rfl ?_;refine zei _ (zai (topen_c sts) ?_);refine qJ rfl (fun h5=>?_) (fun h5=>?_)
  ·try simp only [decide_eq_false_iff_not,Bool.not_eq_true'] at h5
   try simp only [zds] at h5
   exfalso
   simp at h5;have h9 : sts.length = 0:=(by rw [h5];rfl);omega
  ·try simp only [decide_eq_true_eq,Bool.not_eq_false'] at h5
   try simp only [zds] at h5
   refine qB ?_;refine Or.inr (Or.inr (Or.inl ?_));refine zai rfl ?_;refine zei _ (zai (tmark_c sts (by omega)) ?_);refine qJ rfl (fun h10=>?_) (fun h10=>?_)
   ·try simp only [decide_eq_true_eq] at h10
    try simp only [zds] at h10
    exfalso
    omega
   ·try simp only [decide_eq_false_iff_not] at h10
    try simp only [zds] at h10
    refine qO ?_;refine qB ?_;refine Or.inr (Or.inr (Or.inl ?_));refine zai rfl ?_;refine zei _ (zai (hed) ?_);refine qB ?_;refine Or.inr (Or.inl (zei [] (zei [0,1] (zei _ (zei _ (zei _ (zei _ (zei _ (zai (troll_o sts) (zai rfl (zai (zai (zai rfl rfl) (zai (zai rfl rfl) True.intro)) (zai rfl ?_))))))))))));refine qB ?_;refine qL ?_;exact ⟨rfl,rfl,rfl⟩
end Q
end Ab
end Go.Proofs.YtojipboabgebfaaGreatDoor
namespace Go.Proofs.YtojipboabgebfaaGreatDoor
open Go.RowKit
namespace Ab
set_option maxRecDepth 100000
abbrev rEdk (κ : Nat) : Rd Edt:=.st (.int .i64) (.st (.int .i64) (.slk κ rFld))
namespace Q
def xS (x : Edt) : Int:=if x.1 = 2 then (if 0 < x.2.2.length then 2 else 0) else if x.1 = 1 ∨ x.1 = 3 then (chkR x.2.2).2 else 2
def chkF (k : Int) : List Edt → Int × Int
  | []=>(-9,0)
  | x :: r=>if xS x ≠ 0 then (k,xS x) else chkF (k + 1) r
def chkB (l : List Edt) : Int × Int:=if l.length < 1 ∨ 40 < l.length then (-9,1) else chkF 0 l
theorem chkF_at : ∀ (l : List Edt) (i : Nat) (k : Int),i < l.length → (∀ e ∈ l.take i,xS e = 0) → xS (l.getD i ((0 : Int),(0 : Int),([] : List Fld))) ≠ 0 → chkF k l = (k + i,xS (l.getD i ((0 : Int),(0 : Int),([] : List Fld))))
  | [],i,k,h,_,_=>by simp at h
  | f :: r,0,k,_,_,hb=>by
    unfold chkF;rw [if_pos (by simpa using hb)];simp
  | f :: r,i + 1,k,h,ht,hb=>by
    unfold chkF;rw [if_neg (by simpa using ht f (by simp))];rw [chkF_at r i (k + 1) (by simpa using h) (fun g hg=>ht g (by simp [hg])) (by simpa using hb)];simp only [List.getD_cons_succ]
    congr 1
    omega
theorem chkF_no : ∀ (l : List Edt) (k : Int),(∀ e ∈ l,xS e = 0) → chkF k l = (-9,0)
  | [],_,_=>rfl
  | f :: r,k,h=>by
    unfold chkF;rw [if_neg (by simpa using h f (by simp))];exact chkF_no r (k + 1) (fun g hg=>h g (by simp [hg]))
theorem chkF_zero : ∀ (l : List Edt) (k : Int),(chkF k l).2 = 0 → ∀ e ∈ l,xS e = 0
  | [],_,_,f,hf=>by cases hf
  | g :: r,k,h,f,hf=>by
    unfold chkF at h;split at h
    · rename_i hg;exact absurd h hg
    · rename_i hg;rcases List.mem_cons.1 hf with rfl|hf
      · exact Classical.not_not.1 hg
      · exact chkF_zero r (k + 1) h f hf
theorem chkB_rng {l : List Edt} (h : l.length < 1 ∨ 40 < l.length) : chkB l = (-9,1):=if_pos h
theorem chkB_at {l : List Edt} {i : Nat} (h1 : ¬ (l.length < 1 ∨ 40 < l.length)) (h : i < l.length) (ht : ∀ e ∈ l.take i,xS e = 0) (hb : xS (l.getD i ((0 : Int),(0 : Int),([] : List Fld))) ≠ 0) : chkB l = ((i : Int),xS (l.getD i ((0 : Int),(0 : Int),([] : List Fld)))):=by
  unfold chkB;rw [if_neg h1,chkF_at l i 0 h ht hb,Int.zero_add]
theorem chkB_no {l : List Edt} (h1 : ¬ (l.length < 1 ∨ 40 < l.length)) (h : ∀ e ∈ l,xS e = 0) : chkB l = (-9,0):=by
  unfold chkB;rw [if_neg h1,chkF_no l 0 h]
theorem chkB_zero {l : List Edt} (h : (chkB l).2 = 0) : (1 ≤ l.length ∧ l.length ≤ 40) ∧ ∀ e ∈ l,xS e = 0:=by
  unfold chkB at h;split at h
  · cases h
  · exact ⟨by omega,chkF_zero l 0 h⟩
theorem chkB_good {l : List Edt} (h : (chkB l).2 = 0) : chkB l = (-9,0):=chkB_no (by have:=(chkB_zero h).1;omega) (chkB_zero h).2
theorem take_good {l : List Edt} {i : Nat} (h : i < l.length) (ht : ∀ e ∈ l.take i,xS e = 0) (hb : xS (l.getD i ((0 : Int),(0 : Int),([] : List Fld))) = 0) : ∀ e ∈ l.take (i + 1),xS e = 0:=by
  rw [← xD ((0 : Int),(0 : Int),([] : List Fld)) h];intro e he;rcases List.mem_append.1 he with he|he
  · exact ht e he
  · rw [List.mem_singleton.1 he];exact hb
def oneN (L : Lst) (e : Edt) : Int :=
  if e.1 = 1 then (if atE L.1 e.2.1 < 0 then 7 else (chkR e.2.2).2)
  else if e.1 = 2 then (if atE L.1 e.2.1 < 0 then 7 else 0)
  else if atE L.1 e.2.1 < 0 ∧ e.2.1 ≠ 0 then 7 else if (chkR e.2.2).2 ≠ 0 then (chkR e.2.2).2 else if 400 ≤ L.2.2 then 11 else 0
def newN (L : Lst) (e : Edt) : Int:=if e.1 = 1 ∨ e.1 = 2 then 0 else if oneN L e = 0 then L.2.1 else 0
def batK (k : Int) (L : Lst) : List Edt → Int × Int
  | []=>(-9,0)
  | x :: r=>if oneN L x ≠ 0 then (k,oneN L x) else batK (k + 1) (doL L x) r
def doR (L : Lst) (s : List Edt) : Int × Int:=if (chkB s).2 ≠ 0 then chkB s else batK 0 L s
def idsT (L : Lst) (s : List Edt) (i : Nat) : List Int:=((List.range i).map fun j=>newN (plays L s j) (s.getD j ((0 : Int),(0 : Int),([] : List Fld)))).filter posI
theorem idsT_snoc (L : Lst) (s : List Edt) (i : Nat) : idsT L s (i + 1) = idsT L s i ++ if 0 < newN (plays L s i) (s.getD i ((0 : Int),(0 : Int),([] : List Fld))) then [newN (plays L s i) (s.getD i ((0 : Int),(0 : Int),([] : List Fld)))] else []:=by
  unfold idsT;rw [List.range_succ,List.map_append,List.filter_append]
  congr 1
  simp only [List.map_cons,List.map_nil,List.filter_cons,List.filter_nil,posI,decide_eq_true_eq]
theorem idsT_len (L : Lst) (s : List Edt) (i : Nat) : (idsT L s i).length ≤ i:=by
  unfold idsT;have:=List.length_filter_le posI ((List.range i).map fun j=>newN (plays L s j) (s.getD j ((0 : Int),(0 : Int),([] : List Fld))));rw [List.length_map,List.length_range] at this;exact this
end Q
end Ab
end Go.Proofs.YtojipboabgebfaaGreatDoor
namespace Go.Proofs.YtojipboabgebfaaGreatDoor
open Go.RowKit
namespace Ab
set_option maxRecDepth 100000
namespace Q
theorem acallo_res {P : Program} {f : FuncId} {xs : List A} {r r' : A} {ob ob' : Obs} {m m' : Nat} (h : ∀ ok ρ w u,r.rep ok ρ w u → r'.rep ok ρ w u) (hc : qU P f xs ob m r ob' m') : qU P f xs ob m r' ob' m' :=
  ⟨hc.1,fun cx ρ w vs h1 h2 h3 h4 h5=>(hc.2 cx ρ w vs h1 h2 h3 h4 h5).mono fun _ _ ⟨u,ρ',e,h6,h7⟩=>⟨u,ρ',e,h6,h _ _ _ _ h7⟩⟩
theorem acallo_any {P : Program} {f : FuncId} {xs : List A} {r : A} {ob ob' : Obs} {m m' : Nat} (hc : qU P f xs ob m r ob' m') : qU P f xs ob m (.one .any) ob' m':=acallo_res (fun _ _ _ _ _=>trivial) hc
def gvO (g : Int) : Nat × Ob:=(2,.box 3 [.lit (.int .i64 g)])
set_option maxHeartbeats 8000000 in
theorem tk3_o {f : FuncId} {β γ : Type} (S : Rd β) (y : β) (T : Rd γ) (z : γ) (g g2 : Int) (E : C) (sts sts' : List TSt) (L L' : Lst) (es : List Edt) (x : Edt) (h : 0 < sts.length) (h40 : sts.length ≤ 40) (hl : sts.getD (sts.length - 1) ((([] : List Ent),(0 : Int),(0 : Int)),([] : List Edt)) = (L,es)) (he : es.length ≤ 1000) (hL : L.1.length ≤ 1000000)
    (hdo : (E = .lit .nilIface ∧ sts ++ [(L',es ++ [x])] = sts' ∧ qU Tryz.prog f [.one (.own 0 0),.one (.addr S y),.one (.addr T z),.one (.own 2 0)] (lsO L ++ [gvO g]) 3 (.one (.lit .nilIface)) (lsO L' ++ [gvO g2]) 3) ∨ (∃ k9,E = errN k9 ∧ sts = sts' ∧ qU Tryz.prog f [.one (.own 0 0),.one (.addr S y),.one (.addr T z),.one (.own 2 0)] (lsO L ++ [gvO g]) 3 (.one (errN k9)) (lsO L' ++ [gvO g2]) 3) ∨ (∃ a9 k9,E = errF a9 k9 ∧ sts = sts' ∧ qU Tryz.prog f [.one (.own 0 0),.one (.addr S y),.one (.addr T z),.one (.own 2 0)] (lsO L ++ [gvO g]) 3 (.one (errF a9 k9)) (lsO L' ++ [gvO g2]) 3)) :
    qU Tryz.prog 70 [.one (.own 0 0),.agg (toL rEdt x),.one (.clo3 f (.addr S y) (.addr T z) (.own 2 0))] (txO sts ++ [gvO g]) 3 (.one E) (txO sts' ++ [gvO g2]) 3:=by
  have hnow:=tnow_c (k:=1) sts h;rw [hl] at hnow;have hcp:=copyL_o (k:=0) L.1 L.2.1 L.2.2 hL;refine qV (rs:=[6]) Tryz.func70 rfl rfl rfl teOk (by decide) rfl ?_;refine qB ?_;refine qK ?_;refine qR ?_;refine qB ?_;refine Or.inr (Or.inr (Or.inl ?_));refine zai rfl ?_;refine zei _ (zai (topen_c sts) ?_);refine qJ rfl (fun h10=>?_) (fun h10=>?_)
  ·try simp only [decide_eq_false_iff_not,Bool.not_eq_true'] at h10
   try simp only [zds] at h10
   exfalso
   simp at h10;have h9 : sts.length = 0:=(by rw [h10];rfl);omega
  ·try simp only [decide_eq_true_eq,Bool.not_eq_false'] at h10
   try simp only [zds] at h10
   refine qB ?_;refine Or.inr (Or.inr (Or.inl ?_));refine zai rfl ?_;refine zei _ (zai (tmark_c sts h) ?_);refine qJ rfl (fun h15=>?_) (fun h15=>?_)
   ·try simp only [decide_eq_true_eq] at h15
    try simp only [zds] at h15
    exfalso
    omega
   ·try simp only [decide_eq_false_iff_not,Int.not_le] at h15
    try simp only [zds] at h15
    refine qO ?_;refine qB ?_;refine Or.inr (Or.inr (Or.inl ?_));refine zai rfl ?_;refine zei _ (zai (hnow) ?_);refine acode_cut (fun (u : Unit)=>True) (fun (u : Unit)=>[(0,.one (.own 0 0)),(2,.one (.clo3 f (.addr S y) (.addr T z) (.own 2 0))),(8,.one (.own 8 0))]) (fun (u : Unit)=>[(0,.box 123 [.vec 1]),(1,.vec 120 rSt sts),(2,.box 3 [.lit (.int .i64 g)]),(4,.vec 138 rEnt L.1),(5,.box 134 [.vec 4,.lit (.int .i64 L.2.1),.lit (.int .i64 L.2.2)]),(7,.vec 31 rEdt (es ++ [x])),(8,.box 120 [.own 5 0,.vec 7])]) 9 ?_ ?_
    ·refine yG rfl ?_;refine qN 0 rfl ?_;refine qN 4 rfl ?_;refine qN 5 rfl ?_;refine qN 6 rfl ?_;intro l6_6;refine qN 7 rfl ?_;refine qN 8 rfl ?_;intro l6_8;refine qN 9 rfl ?_;refine zob ?_;refine qC [1,10,14] ?_;refine zai ?_ ?_
     ·refine Or.inr (Or.inr (Or.inl ?_));refine zai rfl ?_;refine zei _ (zai (hnow) ?_);refine qN 2 rfl ?_;refine qC [3,10,14] ?_;refine zai ?_ ?_
      ·refine Or.inr (Or.inl (zei [] (zei [] (zei _ (zei _ (zei _ (zei _ (zei _ (zai (hcp) (zai rfl (zai True.intro (zai rfl ?_))))))))))));refine qC [10,14] ?_;refine zai ?_ ?_
       ·refine qC [11,14] ?_;refine zai ?_ ?_
        ·refine qC [12,14] ?_;refine zai ?_ ?_
         ·refine zai (by exact ⟨Nat.one_pos,qT (show (es.take (es.length : Int).toNat).length + 1 ≤ 1000000000 by rw [List.length_take];omega) (by decide)⟩) ?_;refine qC [13,14] ?_;refine zai ?_ ?_
          ·refine qC [14] ?_;refine qC [15] ?_;refine qQ ?_;exact ⟨(),trivial,qP ⟨rfl,rfl,rfl⟩ ⟨rfl,rfl,rfl,rfl,rfl,(qS (by rw [Int.toNat_natCast,List.take_length];exact rfl)),rfl⟩ rfl⟩
          ·refine qC [13] ?_;refine qC [15] ?_;refine qQ ?_;exact ⟨(),trivial,qP ⟨rfl,rfl,rfl⟩ ⟨rfl,rfl,rfl,rfl,rfl,(qS (by rw [Int.toNat_natCast,List.take_length];exact rfl)),rfl⟩ rfl⟩
         ·refine qC [12] ?_;refine zai (by exact ⟨Nat.one_pos,qT (show (es.take (es.length : Int).toNat).length + 1 ≤ 1000000000 by rw [List.length_take];omega) (by decide)⟩) ?_;refine qC [13] ?_;refine qC [15] ?_;refine qI 7 8 rfl rfl rfl rfl ?_;refine qQ ?_;exact ⟨(),trivial,qP ⟨rfl,rfl,rfl⟩ ⟨rfl,rfl,rfl,rfl,rfl,(qS (by rw [Int.toNat_natCast,List.take_length];exact rfl)),rfl⟩ rfl⟩
        ·refine qC [11] ?_;refine qC [12] ?_;refine zai (by exact ⟨Nat.one_pos,qT (show (es.take (es.length : Int).toNat).length + 1 ≤ 1000000000 by rw [List.length_take];omega) (by decide)⟩) ?_;refine qC [13] ?_;refine qC [15] ?_;refine qI 6 7 rfl rfl rfl rfl ?_;refine qI 7 8 rfl rfl rfl rfl ?_;refine qQ ?_;exact ⟨(),trivial,qP ⟨rfl,rfl,rfl⟩ ⟨rfl,rfl,rfl,rfl,rfl,(qS (by rw [Int.toNat_natCast,List.take_length];exact rfl)),rfl⟩ rfl⟩
       ·refine qC [10] ?_;refine qC [11] ?_;refine qC [12] ?_;refine zai (by exact ⟨Nat.one_pos,qT (show (es.take (es.length : Int).toNat).length + 1 ≤ 1000000000 by rw [List.length_take];omega) (by decide)⟩) ?_;refine qC [13] ?_;refine qC [15] ?_;refine qI 6 7 rfl rfl rfl rfl ?_;refine qI 7 8 rfl rfl rfl rfl ?_;refine qQ ?_;exact ⟨(),trivial,qP ⟨rfl,rfl,rfl⟩ ⟨rfl,rfl,rfl,rfl,rfl,(qS (by rw [Int.toNat_natCast,List.take_length];exact rfl)),rfl⟩ rfl⟩
      refine zai ?_ ?_
      ·refine qC [3,11,14] ?_;refine zai ?_ ?_
       ·refine Or.inr (Or.inl (zei [] (zei [] (zei _ (zei _ (zei _ (zei _ (zei _ (zai (hcp) (zai rfl (zai True.intro (zai rfl ?_))))))))))));refine qC [11,14] ?_;refine zai ?_ ?_
        ·refine qC [12,14] ?_;refine zai ?_ ?_
         ·refine zai (by exact ⟨Nat.one_pos,qT (show (es.take (es.length : Int).toNat).length + 1 ≤ 1000000000 by rw [List.length_take];omega) (by decide)⟩) ?_;refine qC [13,14] ?_;refine zai ?_ ?_
          ·refine qC [14] ?_;refine qC [15] ?_;refine qQ ?_;exact ⟨(),trivial,qP ⟨rfl,rfl,rfl⟩ ⟨rfl,rfl,rfl,rfl,rfl,(qS (by rw [Int.toNat_natCast,List.take_length];exact rfl)),rfl⟩ rfl⟩
          ·refine qC [13] ?_;refine qC [15] ?_;refine qQ ?_;exact ⟨(),trivial,qP ⟨rfl,rfl,rfl⟩ ⟨rfl,rfl,rfl,rfl,rfl,(qS (by rw [Int.toNat_natCast,List.take_length];exact rfl)),rfl⟩ rfl⟩
         ·refine qC [12] ?_;refine zai (by exact ⟨Nat.one_pos,qT (show (es.take (es.length : Int).toNat).length + 1 ≤ 1000000000 by rw [List.length_take];omega) (by decide)⟩) ?_;refine qC [13] ?_;refine qC [15] ?_;refine qI 7 8 rfl rfl rfl rfl ?_;refine qQ ?_;exact ⟨(),trivial,qP ⟨rfl,rfl,rfl⟩ ⟨rfl,rfl,rfl,rfl,rfl,(qS (by rw [Int.toNat_natCast,List.take_length];exact rfl)),rfl⟩ rfl⟩
        ·refine qC [11] ?_;refine qC [12] ?_;refine zai (by exact ⟨Nat.one_pos,qT (show (es.take (es.length : Int).toNat).length + 1 ≤ 1000000000 by rw [List.length_take];omega) (by decide)⟩) ?_;refine qC [13] ?_;refine qC [15] ?_;refine qI 6 7 rfl rfl rfl rfl ?_;refine qI 7 8 rfl rfl rfl rfl ?_;refine qQ ?_;exact ⟨(),trivial,qP ⟨rfl,rfl,rfl⟩ ⟨rfl,rfl,rfl,rfl,rfl,(qS (by rw [Int.toNat_natCast,List.take_length];exact rfl)),rfl⟩ rfl⟩
       refine zai ?_ ?_
       ·refine qC [3,14] ?_;refine zai ?_ ?_
        ·refine Or.inr (Or.inl (zei [] (zei [] (zei _ (zei _ (zei _ (zei _ (zei _ (zai (hcp) (zai rfl (zai True.intro (zai rfl ?_))))))))))));refine qC [12,14] ?_;refine zai ?_ ?_
         ·refine zai (by exact ⟨Nat.one_pos,qT (show (es.take (es.length : Int).toNat).length + 1 ≤ 1000000000 by rw [List.length_take];omega) (by decide)⟩) ?_;refine qC [13,14] ?_;refine zai ?_ ?_
          ·refine qC [14] ?_;refine qC [15] ?_;refine qI 4 5 rfl rfl rfl rfl ?_;refine qI 5 6 rfl rfl rfl rfl ?_;refine qQ ?_;exact ⟨(),trivial,qP ⟨rfl,rfl,rfl⟩ ⟨rfl,rfl,rfl,rfl,rfl,(qS (by rw [Int.toNat_natCast,List.take_length];exact rfl)),rfl⟩ rfl⟩
          ·refine qC [13] ?_;refine qC [15] ?_;refine qI 4 5 rfl rfl rfl rfl ?_;refine qI 5 6 rfl rfl rfl rfl ?_;refine qQ ?_;exact ⟨(),trivial,qP ⟨rfl,rfl,rfl⟩ ⟨rfl,rfl,rfl,rfl,rfl,(qS (by rw [Int.toNat_natCast,List.take_length];exact rfl)),rfl⟩ rfl⟩
         ·refine qC [12] ?_;refine zai (by exact ⟨Nat.one_pos,qT (show (es.take (es.length : Int).toNat).length + 1 ≤ 1000000000 by rw [List.length_take];omega) (by decide)⟩) ?_;refine qC [13] ?_;refine qC [15] ?_;refine qI 4 5 rfl rfl rfl rfl ?_;refine qI 5 6 rfl rfl rfl rfl ?_;refine qI 7 8 rfl rfl rfl rfl ?_;refine qQ ?_;exact ⟨(),trivial,qP ⟨rfl,rfl,rfl⟩ ⟨rfl,rfl,rfl,rfl,rfl,(qS (by rw [Int.toNat_natCast,List.take_length];exact rfl)),rfl⟩ rfl⟩
        ·refine qC [3] ?_;refine Or.inr (Or.inl (zei [] (zei [] (zei _ (zei _ (zei _ (zei _ (zei _ (zai (hcp) (zai rfl (zai True.intro (zai rfl ?_))))))))))));refine qC [12] ?_;refine zai (by exact ⟨Nat.one_pos,qT (show (es.take (es.length : Int).toNat).length + 1 ≤ 1000000000 by rw [List.length_take];omega) (by decide)⟩) ?_;refine qC [13] ?_;refine qC [15] ?_;refine qI 4 6 rfl rfl rfl rfl ?_;refine qI 5 7 rfl rfl rfl rfl ?_;refine qI 7 8 rfl rfl rfl rfl ?_;refine qQ ?_;exact ⟨(),trivial,qP ⟨rfl,rfl,rfl⟩ ⟨rfl,rfl,rfl,rfl,rfl,(qS (by rw [Int.toNat_natCast,List.take_length];exact rfl)),rfl⟩ rfl⟩
       ·refine qC [3,11] ?_;refine zai ?_ ?_
        ·refine Or.inr (Or.inl (zei [] (zei [] (zei _ (zei _ (zei _ (zei _ (zei _ (zai (hcp) (zai rfl (zai True.intro (zai rfl ?_))))))))))));refine qC [11] ?_;refine qC [12] ?_;refine zai (by exact ⟨Nat.one_pos,qT (show (es.take (es.length : Int).toNat).length + 1 ≤ 1000000000 by rw [List.length_take];omega) (by decide)⟩) ?_;refine qC [13] ?_;refine qC [15] ?_;refine qI 4 5 rfl rfl rfl rfl ?_;refine qI 5 6 rfl rfl rfl rfl ?_;refine qI 6 7 rfl rfl rfl rfl ?_;refine qI 7 8 rfl rfl rfl rfl ?_;refine qQ ?_;exact ⟨(),trivial,qP ⟨rfl,rfl,rfl⟩ ⟨rfl,rfl,rfl,rfl,rfl,(qS (by rw [Int.toNat_natCast,List.take_length];exact rfl)),rfl⟩ rfl⟩
        ·refine qC [3] ?_;refine Or.inr (Or.inl (zei [] (zei [] (zei _ (zei _ (zei _ (zei _ (zei _ (zai (hcp) (zai rfl (zai True.intro (zai rfl ?_))))))))))));refine qC [12] ?_;refine zai (by exact ⟨Nat.one_pos,qT (show (es.take (es.length : Int).toNat).length + 1 ≤ 1000000000 by rw [List.length_take];omega) (by decide)⟩) ?_;refine qC [13] ?_;refine qC [15] ?_;refine qI 4 6 rfl rfl rfl rfl ?_;refine qI 5 7 rfl rfl rfl rfl ?_;refine qI 6 7 rfl rfl rfl rfl ?_;refine qI 7 8 rfl rfl rfl rfl ?_;refine qQ ?_;exact ⟨(),trivial,qP ⟨rfl,rfl,rfl⟩ ⟨rfl,rfl,rfl,rfl,rfl,(qS (by rw [Int.toNat_natCast,List.take_length];exact rfl)),rfl⟩ rfl⟩
      ·refine qC [3,10] ?_;refine zai ?_ ?_
       ·refine Or.inr (Or.inl (zei [] (zei [] (zei _ (zei _ (zei _ (zei _ (zei _ (zai (hcp) (zai rfl (zai True.intro (zai rfl ?_))))))))))));refine qC [10] ?_;refine qC [11] ?_;refine qC [12] ?_;refine zai (by exact ⟨Nat.one_pos,qT (show (es.take (es.length : Int).toNat).length + 1 ≤ 1000000000 by rw [List.length_take];omega) (by decide)⟩) ?_;refine qC [13] ?_;refine qC [15] ?_;refine qI 4 5 rfl rfl rfl rfl ?_;refine qI 5 6 rfl rfl rfl rfl ?_;refine qI 6 7 rfl rfl rfl rfl ?_;refine qI 7 8 rfl rfl rfl rfl ?_;refine qQ ?_;exact ⟨(),trivial,qP ⟨rfl,rfl,rfl⟩ ⟨rfl,rfl,rfl,rfl,rfl,(qS (by rw [Int.toNat_natCast,List.take_length];exact rfl)),rfl⟩ rfl⟩
       ·refine qC [3,11] ?_;refine zai ?_ ?_
        ·refine Or.inr (Or.inl (zei [] (zei [] (zei _ (zei _ (zei _ (zei _ (zei _ (zai (hcp) (zai rfl (zai True.intro (zai rfl ?_))))))))))));refine qC [11] ?_;refine qC [12] ?_;refine zai (by exact ⟨Nat.one_pos,qT (show (es.take (es.length : Int).toNat).length + 1 ≤ 1000000000 by rw [List.length_take];omega) (by decide)⟩) ?_;refine qC [13] ?_;refine qC [15] ?_;refine qI 4 5 rfl rfl rfl rfl ?_;refine qI 5 6 rfl rfl rfl rfl ?_;refine qI 6 7 rfl rfl rfl rfl ?_;refine qI 7 8 rfl rfl rfl rfl ?_;refine qQ ?_;exact ⟨(),trivial,qP ⟨rfl,rfl,rfl⟩ ⟨rfl,rfl,rfl,rfl,rfl,(qS (by rw [Int.toNat_natCast,List.take_length];exact rfl)),rfl⟩ rfl⟩
        ·refine qC [3] ?_;refine Or.inr (Or.inl (zei [] (zei [] (zei _ (zei _ (zei _ (zei _ (zei _ (zai (hcp) (zai rfl (zai True.intro (zai rfl ?_))))))))))));refine qC [12] ?_;refine zai (by exact ⟨Nat.one_pos,qT (show (es.take (es.length : Int).toNat).length + 1 ≤ 1000000000 by rw [List.length_take];omega) (by decide)⟩) ?_;refine qC [13] ?_;refine qC [15] ?_;refine qI 4 6 rfl rfl rfl rfl ?_;refine qI 5 7 rfl rfl rfl rfl ?_;refine qI 6 7 rfl rfl rfl rfl ?_;refine qI 7 8 rfl rfl rfl rfl ?_;refine qQ ?_;exact ⟨(),trivial,qP ⟨rfl,rfl,rfl⟩ ⟨rfl,rfl,rfl,rfl,rfl,(qS (by rw [Int.toNat_natCast,List.take_length];exact rfl)),rfl⟩ rfl⟩
     refine zai ?_ ?_
     ·refine qC [1,11,14] ?_;refine zai ?_ ?_
      ·refine Or.inr (Or.inr (Or.inl ?_));refine zai rfl ?_;refine zei _ (zai (hnow) ?_);refine qN 2 rfl ?_;refine qC [3,11,14] ?_;refine zai ?_ ?_
       ·refine Or.inr (Or.inl (zei [] (zei [] (zei _ (zei _ (zei _ (zei _ (zei _ (zai (hcp) (zai rfl (zai True.intro (zai rfl ?_))))))))))));refine qC [11,14] ?_;refine zai ?_ ?_
        ·refine qC [12,14] ?_;refine zai ?_ ?_
         ·refine zai (by exact ⟨Nat.one_pos,qT (show (es.take (es.length : Int).toNat).length + 1 ≤ 1000000000 by rw [List.length_take];omega) (by decide)⟩) ?_;refine qC [13,14] ?_;refine zai ?_ ?_
          ·refine qC [14] ?_;refine qC [15] ?_;refine qQ ?_;exact ⟨(),trivial,qP ⟨rfl,rfl,rfl⟩ ⟨rfl,rfl,rfl,rfl,rfl,(qS (by rw [Int.toNat_natCast,List.take_length];exact rfl)),rfl⟩ rfl⟩
          ·refine qC [13] ?_;refine qC [15] ?_;refine qQ ?_;exact ⟨(),trivial,qP ⟨rfl,rfl,rfl⟩ ⟨rfl,rfl,rfl,rfl,rfl,(qS (by rw [Int.toNat_natCast,List.take_length];exact rfl)),rfl⟩ rfl⟩
         ·refine qC [12] ?_;refine zai (by exact ⟨Nat.one_pos,qT (show (es.take (es.length : Int).toNat).length + 1 ≤ 1000000000 by rw [List.length_take];omega) (by decide)⟩) ?_;refine qC [13] ?_;refine qC [15] ?_;refine qI 7 8 rfl rfl rfl rfl ?_;refine qQ ?_;exact ⟨(),trivial,qP ⟨rfl,rfl,rfl⟩ ⟨rfl,rfl,rfl,rfl,rfl,(qS (by rw [Int.toNat_natCast,List.take_length];exact rfl)),rfl⟩ rfl⟩
        ·refine qC [11] ?_;refine qC [12] ?_;refine zai (by exact ⟨Nat.one_pos,qT (show (es.take (es.length : Int).toNat).length + 1 ≤ 1000000000 by rw [List.length_take];omega) (by decide)⟩) ?_;refine qC [13] ?_;refine qC [15] ?_;refine qI 6 7 rfl rfl rfl rfl ?_;refine qI 7 8 rfl rfl rfl rfl ?_;refine qQ ?_;exact ⟨(),trivial,qP ⟨rfl,rfl,rfl⟩ ⟨rfl,rfl,rfl,rfl,rfl,(qS (by rw [Int.toNat_natCast,List.take_length];exact rfl)),rfl⟩ rfl⟩
       refine zai ?_ ?_
       ·refine qC [3,14] ?_;refine zai ?_ ?_
        ·refine Or.inr (Or.inl (zei [] (zei [] (zei _ (zei _ (zei _ (zei _ (zei _ (zai (hcp) (zai rfl (zai True.intro (zai rfl ?_))))))))))));refine qC [12,14] ?_;refine zai ?_ ?_
         ·refine zai (by exact ⟨Nat.one_pos,qT (show (es.take (es.length : Int).toNat).length + 1 ≤ 1000000000 by rw [List.length_take];omega) (by decide)⟩) ?_;refine qC [13,14] ?_;refine zai ?_ ?_
          ·refine qC [14] ?_;refine qC [15] ?_;refine qI 4 5 rfl rfl rfl rfl ?_;refine qI 5 6 rfl rfl rfl rfl ?_;refine qQ ?_;exact ⟨(),trivial,qP ⟨rfl,rfl,rfl⟩ ⟨rfl,rfl,rfl,rfl,rfl,(qS (by rw [Int.toNat_natCast,List.take_length];exact rfl)),rfl⟩ rfl⟩
          ·refine qC [13] ?_;refine qC [15] ?_;refine qI 4 5 rfl rfl rfl rfl ?_;refine qI 5 6 rfl rfl rfl rfl ?_;refine qQ ?_;exact ⟨(),trivial,qP ⟨rfl,rfl,rfl⟩ ⟨rfl,rfl,rfl,rfl,rfl,(qS (by rw [Int.toNat_natCast,List.take_length];exact rfl)),rfl⟩ rfl⟩
         ·refine qC [12] ?_;refine zai (by exact ⟨Nat.one_pos,qT (show (es.take (es.length : Int).toNat).length + 1 ≤ 1000000000 by rw [List.length_take];omega) (by decide)⟩) ?_;refine qC [13] ?_;refine qC [15] ?_;refine qI 4 5 rfl rfl rfl rfl ?_;refine qI 5 6 rfl rfl rfl rfl ?_;refine qI 7 8 rfl rfl rfl rfl ?_;refine qQ ?_;exact ⟨(),trivial,qP ⟨rfl,rfl,rfl⟩ ⟨rfl,rfl,rfl,rfl,rfl,(qS (by rw [Int.toNat_natCast,List.take_length];exact rfl)),rfl⟩ rfl⟩
        ·refine qC [3] ?_;refine Or.inr (Or.inl (zei [] (zei [] (zei _ (zei _ (zei _ (zei _ (zei _ (zai (hcp) (zai rfl (zai True.intro (zai rfl ?_))))))))))));refine qC [12] ?_;refine zai (by exact ⟨Nat.one_pos,qT (show (es.take (es.length : Int).toNat).length + 1 ≤ 1000000000 by rw [List.length_take];omega) (by decide)⟩) ?_;refine qC [13] ?_;refine qC [15] ?_;refine qI 4 6 rfl rfl rfl rfl ?_;refine qI 5 7 rfl rfl rfl rfl ?_;refine qI 7 8 rfl rfl rfl rfl ?_;refine qQ ?_;exact ⟨(),trivial,qP ⟨rfl,rfl,rfl⟩ ⟨rfl,rfl,rfl,rfl,rfl,(qS (by rw [Int.toNat_natCast,List.take_length];exact rfl)),rfl⟩ rfl⟩
       ·refine qC [3,11] ?_;refine zai ?_ ?_
        ·refine Or.inr (Or.inl (zei [] (zei [] (zei _ (zei _ (zei _ (zei _ (zei _ (zai (hcp) (zai rfl (zai True.intro (zai rfl ?_))))))))))));refine qC [11] ?_;refine qC [12] ?_;refine zai (by exact ⟨Nat.one_pos,qT (show (es.take (es.length : Int).toNat).length + 1 ≤ 1000000000 by rw [List.length_take];omega) (by decide)⟩) ?_;refine qC [13] ?_;refine qC [15] ?_;refine qI 4 5 rfl rfl rfl rfl ?_;refine qI 5 6 rfl rfl rfl rfl ?_;refine qI 6 7 rfl rfl rfl rfl ?_;refine qI 7 8 rfl rfl rfl rfl ?_;refine qQ ?_;exact ⟨(),trivial,qP ⟨rfl,rfl,rfl⟩ ⟨rfl,rfl,rfl,rfl,rfl,(qS (by rw [Int.toNat_natCast,List.take_length];exact rfl)),rfl⟩ rfl⟩
        ·refine qC [3] ?_;refine Or.inr (Or.inl (zei [] (zei [] (zei _ (zei _ (zei _ (zei _ (zei _ (zai (hcp) (zai rfl (zai True.intro (zai rfl ?_))))))))))));refine qC [12] ?_;refine zai (by exact ⟨Nat.one_pos,qT (show (es.take (es.length : Int).toNat).length + 1 ≤ 1000000000 by rw [List.length_take];omega) (by decide)⟩) ?_;refine qC [13] ?_;refine qC [15] ?_;refine qI 4 6 rfl rfl rfl rfl ?_;refine qI 5 7 rfl rfl rfl rfl ?_;refine qI 6 7 rfl rfl rfl rfl ?_;refine qI 7 8 rfl rfl rfl rfl ?_;refine qQ ?_;exact ⟨(),trivial,qP ⟨rfl,rfl,rfl⟩ ⟨rfl,rfl,rfl,rfl,rfl,(qS (by rw [Int.toNat_natCast,List.take_length];exact rfl)),rfl⟩ rfl⟩
      refine zai ?_ ?_
      ·refine qC [1,14] ?_;refine zai ?_ ?_
       ·refine Or.inr (Or.inr (Or.inl ?_));refine zai rfl ?_;refine zei _ (zai (hnow) ?_);refine qN 2 rfl ?_;refine qC [3,14] ?_;refine zai ?_ ?_
        ·refine Or.inr (Or.inl (zei [] (zei [] (zei _ (zei _ (zei _ (zei _ (zei _ (zai (hcp) (zai rfl (zai True.intro (zai rfl ?_))))))))))));refine qC [12,14] ?_;refine zai ?_ ?_
         ·refine zai (by exact ⟨Nat.one_pos,qT (show (es.take (es.length : Int).toNat).length + 1 ≤ 1000000000 by rw [List.length_take];omega) (by decide)⟩) ?_;refine qC [13,14] ?_;refine zai ?_ ?_
          ·refine qC [14] ?_;refine qC [15] ?_;refine qI 4 5 rfl rfl rfl rfl ?_;refine qI 5 6 rfl rfl rfl rfl ?_;refine qQ ?_;exact ⟨(),trivial,qP ⟨rfl,rfl,rfl⟩ ⟨rfl,rfl,rfl,rfl,rfl,(qS (by rw [Int.toNat_natCast,List.take_length];exact rfl)),rfl⟩ rfl⟩
          ·refine qC [13] ?_;refine qC [15] ?_;refine qI 4 5 rfl rfl rfl rfl ?_;refine qI 5 6 rfl rfl rfl rfl ?_;refine qQ ?_;exact ⟨(),trivial,qP ⟨rfl,rfl,rfl⟩ ⟨rfl,rfl,rfl,rfl,rfl,(qS (by rw [Int.toNat_natCast,List.take_length];exact rfl)),rfl⟩ rfl⟩
         ·refine qC [12] ?_;refine zai (by exact ⟨Nat.one_pos,qT (show (es.take (es.length : Int).toNat).length + 1 ≤ 1000000000 by rw [List.length_take];omega) (by decide)⟩) ?_;refine qC [13] ?_;refine qC [15] ?_;refine qI 4 5 rfl rfl rfl rfl ?_;refine qI 5 6 rfl rfl rfl rfl ?_;refine qI 7 8 rfl rfl rfl rfl ?_;refine qQ ?_;exact ⟨(),trivial,qP ⟨rfl,rfl,rfl⟩ ⟨rfl,rfl,rfl,rfl,rfl,(qS (by rw [Int.toNat_natCast,List.take_length];exact rfl)),rfl⟩ rfl⟩
        ·refine qC [3] ?_;refine Or.inr (Or.inl (zei [] (zei [] (zei _ (zei _ (zei _ (zei _ (zei _ (zai (hcp) (zai rfl (zai True.intro (zai rfl ?_))))))))))));refine qC [12] ?_;refine zai (by exact ⟨Nat.one_pos,qT (show (es.take (es.length : Int).toNat).length + 1 ≤ 1000000000 by rw [List.length_take];omega) (by decide)⟩) ?_;refine qC [13] ?_;refine qC [15] ?_;refine qI 4 6 rfl rfl rfl rfl ?_;refine qI 5 7 rfl rfl rfl rfl ?_;refine qI 7 8 rfl rfl rfl rfl ?_;refine qQ ?_;exact ⟨(),trivial,qP ⟨rfl,rfl,rfl⟩ ⟨rfl,rfl,rfl,rfl,rfl,(qS (by rw [Int.toNat_natCast,List.take_length];exact rfl)),rfl⟩ rfl⟩
       ·refine qC [1] ?_;refine Or.inr (Or.inr (Or.inl ?_));refine zai rfl ?_;refine zei _ (zai (hnow) ?_);refine qN 2 rfl ?_;refine qC [3] ?_;refine Or.inr (Or.inl (zei [] (zei [] (zei _ (zei _ (zei _ (zei _ (zei _ (zai (hcp) (zai rfl (zai True.intro (zai rfl ?_))))))))))));refine qC [12] ?_;refine zai (by exact ⟨Nat.one_pos,qT (show (es.take (es.length : Int).toNat).length + 1 ≤ 1000000000 by rw [List.length_take];omega) (by decide)⟩) ?_;refine qC [13] ?_;refine qC [15] ?_;refine qI 4 6 rfl rfl rfl rfl ?_;refine qI 5 7 rfl rfl rfl rfl ?_;refine qI 7 8 rfl rfl rfl rfl ?_;refine qQ ?_;exact ⟨(),trivial,qP ⟨rfl,rfl,rfl⟩ ⟨rfl,rfl,rfl,rfl,rfl,(qS (by rw [Int.toNat_natCast,List.take_length];exact rfl)),rfl⟩ rfl⟩
      ·refine qC [1,11] ?_;refine zai ?_ ?_
       ·refine Or.inr (Or.inr (Or.inl ?_));refine zai rfl ?_;refine zei _ (zai (hnow) ?_);refine qN 2 rfl ?_;refine qC [3,11] ?_;refine zai ?_ ?_
        ·refine Or.inr (Or.inl (zei [] (zei [] (zei _ (zei _ (zei _ (zei _ (zei _ (zai (hcp) (zai rfl (zai True.intro (zai rfl ?_))))))))))));refine qC [11] ?_;refine qC [12] ?_;refine zai (by exact ⟨Nat.one_pos,qT (show (es.take (es.length : Int).toNat).length + 1 ≤ 1000000000 by rw [List.length_take];omega) (by decide)⟩) ?_;refine qC [13] ?_;refine qC [15] ?_;refine qI 4 5 rfl rfl rfl rfl ?_;refine qI 5 6 rfl rfl rfl rfl ?_;refine qI 6 7 rfl rfl rfl rfl ?_;refine qI 7 8 rfl rfl rfl rfl ?_;refine qQ ?_;exact ⟨(),trivial,qP ⟨rfl,rfl,rfl⟩ ⟨rfl,rfl,rfl,rfl,rfl,(qS (by rw [Int.toNat_natCast,List.take_length];exact rfl)),rfl⟩ rfl⟩
        ·refine qC [3] ?_;refine Or.inr (Or.inl (zei [] (zei [] (zei _ (zei _ (zei _ (zei _ (zei _ (zai (hcp) (zai rfl (zai True.intro (zai rfl ?_))))))))))));refine qC [12] ?_;refine zai (by exact ⟨Nat.one_pos,qT (show (es.take (es.length : Int).toNat).length + 1 ≤ 1000000000 by rw [List.length_take];omega) (by decide)⟩) ?_;refine qC [13] ?_;refine qC [15] ?_;refine qI 4 6 rfl rfl rfl rfl ?_;refine qI 5 7 rfl rfl rfl rfl ?_;refine qI 6 7 rfl rfl rfl rfl ?_;refine qI 7 8 rfl rfl rfl rfl ?_;refine qQ ?_;exact ⟨(),trivial,qP ⟨rfl,rfl,rfl⟩ ⟨rfl,rfl,rfl,rfl,rfl,(qS (by rw [Int.toNat_natCast,List.take_length];exact rfl)),rfl⟩ rfl⟩
       ·refine qC [1] ?_;refine Or.inr (Or.inr (Or.inl ?_));refine zai rfl ?_;refine zei _ (zai (hnow) ?_);refine qN 2 rfl ?_;refine qC [3] ?_;refine Or.inr (Or.inl (zei [] (zei [] (zei _ (zei _ (zei _ (zei _ (zei _ (zai (hcp) (zai rfl (zai True.intro (zai rfl ?_))))))))))));refine qC [12] ?_;refine zai (by exact ⟨Nat.one_pos,qT (show (es.take (es.length : Int).toNat).length + 1 ≤ 1000000000 by rw [List.length_take];omega) (by decide)⟩) ?_;refine qC [13] ?_;refine qC [15] ?_;refine qI 4 6 rfl rfl rfl rfl ?_;refine qI 5 7 rfl rfl rfl rfl ?_;refine qI 6 7 rfl rfl rfl rfl ?_;refine qI 7 8 rfl rfl rfl rfl ?_;refine qQ ?_;exact ⟨(),trivial,qP ⟨rfl,rfl,rfl⟩ ⟨rfl,rfl,rfl,rfl,rfl,(qS (by rw [Int.toNat_natCast,List.take_length];exact rfl)),rfl⟩ rfl⟩
     ·refine qC [1,10] ?_;refine zai ?_ ?_
      ·refine Or.inr (Or.inr (Or.inl ?_));refine zai rfl ?_;refine zei _ (zai (hnow) ?_);refine qN 2 rfl ?_;refine qC [3,10] ?_;refine zai ?_ ?_
       ·refine Or.inr (Or.inl (zei [] (zei [] (zei _ (zei _ (zei _ (zei _ (zei _ (zai (hcp) (zai rfl (zai True.intro (zai rfl ?_))))))))))));refine qC [10] ?_;refine qC [11] ?_;refine qC [12] ?_;refine zai (by exact ⟨Nat.one_pos,qT (show (es.take (es.length : Int).toNat).length + 1 ≤ 1000000000 by rw [List.length_take];omega) (by decide)⟩) ?_;refine qC [13] ?_;refine qC [15] ?_;refine qI 4 5 rfl rfl rfl rfl ?_;refine qI 5 6 rfl rfl rfl rfl ?_;refine qI 6 7 rfl rfl rfl rfl ?_;refine qI 7 8 rfl rfl rfl rfl ?_;refine qQ ?_;exact ⟨(),trivial,qP ⟨rfl,rfl,rfl⟩ ⟨rfl,rfl,rfl,rfl,rfl,(qS (by rw [Int.toNat_natCast,List.take_length];exact rfl)),rfl⟩ rfl⟩
       ·refine qC [3,11] ?_;refine zai ?_ ?_
        ·refine Or.inr (Or.inl (zei [] (zei [] (zei _ (zei _ (zei _ (zei _ (zei _ (zai (hcp) (zai rfl (zai True.intro (zai rfl ?_))))))))))));refine qC [11] ?_;refine qC [12] ?_;refine zai (by exact ⟨Nat.one_pos,qT (show (es.take (es.length : Int).toNat).length + 1 ≤ 1000000000 by rw [List.length_take];omega) (by decide)⟩) ?_;refine qC [13] ?_;refine qC [15] ?_;refine qI 4 5 rfl rfl rfl rfl ?_;refine qI 5 6 rfl rfl rfl rfl ?_;refine qI 6 7 rfl rfl rfl rfl ?_;refine qI 7 8 rfl rfl rfl rfl ?_;refine qQ ?_;exact ⟨(),trivial,qP ⟨rfl,rfl,rfl⟩ ⟨rfl,rfl,rfl,rfl,rfl,(qS (by rw [Int.toNat_natCast,List.take_length];exact rfl)),rfl⟩ rfl⟩
        ·refine qC [3] ?_;refine Or.inr (Or.inl (zei [] (zei [] (zei _ (zei _ (zei _ (zei _ (zei _ (zai (hcp) (zai rfl (zai True.intro (zai rfl ?_))))))))))));refine qC [12] ?_;refine zai (by exact ⟨Nat.one_pos,qT (show (es.take (es.length : Int).toNat).length + 1 ≤ 1000000000 by rw [List.length_take];omega) (by decide)⟩) ?_;refine qC [13] ?_;refine qC [15] ?_;refine qI 4 6 rfl rfl rfl rfl ?_;refine qI 5 7 rfl rfl rfl rfl ?_;refine qI 6 7 rfl rfl rfl rfl ?_;refine qI 7 8 rfl rfl rfl rfl ?_;refine qQ ?_;exact ⟨(),trivial,qP ⟨rfl,rfl,rfl⟩ ⟨rfl,rfl,rfl,rfl,rfl,(qS (by rw [Int.toNat_natCast,List.take_length];exact rfl)),rfl⟩ rfl⟩
      ·refine qC [1,11] ?_;refine zai ?_ ?_
       ·refine Or.inr (Or.inr (Or.inl ?_));refine zai rfl ?_;refine zei _ (zai (hnow) ?_);refine qN 2 rfl ?_;refine qC [3,11] ?_;refine zai ?_ ?_
        ·refine Or.inr (Or.inl (zei [] (zei [] (zei _ (zei _ (zei _ (zei _ (zei _ (zai (hcp) (zai rfl (zai True.intro (zai rfl ?_))))))))))));refine qC [11] ?_;refine qC [12] ?_;refine zai (by exact ⟨Nat.one_pos,qT (show (es.take (es.length : Int).toNat).length + 1 ≤ 1000000000 by rw [List.length_take];omega) (by decide)⟩) ?_;refine qC [13] ?_;refine qC [15] ?_;refine qI 4 5 rfl rfl rfl rfl ?_;refine qI 5 6 rfl rfl rfl rfl ?_;refine qI 6 7 rfl rfl rfl rfl ?_;refine qI 7 8 rfl rfl rfl rfl ?_;refine qQ ?_;exact ⟨(),trivial,qP ⟨rfl,rfl,rfl⟩ ⟨rfl,rfl,rfl,rfl,rfl,(qS (by rw [Int.toNat_natCast,List.take_length];exact rfl)),rfl⟩ rfl⟩
        ·refine qC [3] ?_;refine Or.inr (Or.inl (zei [] (zei [] (zei _ (zei _ (zei _ (zei _ (zei _ (zai (hcp) (zai rfl (zai True.intro (zai rfl ?_))))))))))));refine qC [12] ?_;refine zai (by exact ⟨Nat.one_pos,qT (show (es.take (es.length : Int).toNat).length + 1 ≤ 1000000000 by rw [List.length_take];omega) (by decide)⟩) ?_;refine qC [13] ?_;refine qC [15] ?_;refine qI 4 6 rfl rfl rfl rfl ?_;refine qI 5 7 rfl rfl rfl rfl ?_;refine qI 6 7 rfl rfl rfl rfl ?_;refine qI 7 8 rfl rfl rfl rfl ?_;refine qQ ?_;exact ⟨(),trivial,qP ⟨rfl,rfl,rfl⟩ ⟨rfl,rfl,rfl,rfl,rfl,(qS (by rw [Int.toNat_natCast,List.take_length];exact rfl)),rfl⟩ rfl⟩
       ·refine qC [1] ?_;refine Or.inr (Or.inr (Or.inl ?_));refine zai rfl ?_;refine zei _ (zai (hnow) ?_);refine qN 2 rfl ?_;refine qC [3] ?_;refine Or.inr (Or.inl (zei [] (zei [] (zei _ (zei _ (zei _ (zei _ (zei _ (zai (hcp) (zai rfl (zai True.intro (zai rfl ?_))))))))))));refine qC [12] ?_;refine zai (by exact ⟨Nat.one_pos,qT (show (es.take (es.length : Int).toNat).length + 1 ≤ 1000000000 by rw [List.length_take];omega) (by decide)⟩) ?_;refine qC [13] ?_;refine qC [15] ?_;refine qI 4 6 rfl rfl rfl rfl ?_;refine qI 5 7 rfl rfl rfl rfl ?_;refine qI 6 7 rfl rfl rfl rfl ?_;refine qI 7 8 rfl rfl rfl rfl ?_;refine qQ ?_;exact ⟨(),trivial,qP ⟨rfl,rfl,rfl⟩ ⟨rfl,rfl,rfl,rfl,rfl,(qS (by rw [Int.toNat_natCast,List.take_length];exact rfl)),rfl⟩ rfl⟩
    ·intro u hcut7;refine qK ?_;refine qK ?_;rcases hdo with ⟨rfl,rfl,hdo⟩|⟨k9,rfl,rfl,hdo⟩|⟨a9,k9,rfl,rfl,hdo⟩
     ·refine qM ?_;refine Or.inr (Or.inl (zei [] (zei [5,4,2] (zei _ (zei _ (zei _ (zei _ (zei _ (zai (hdo) (zai rfl (zai (zai (zai rfl rfl) (zai (zai rfl rfl) (zai (zai rfl rfl) True.intro))) (zai rfl ?_))))))))))));refine qB ?_;refine qJ rfl (fun h42=>?_) (fun h42=>?_)
      ·try simp only [Bool.not_eq_true'] at h42
       try simp only [zds] at h42
       simp at h42
      ·try simp only [Bool.not_eq_false'] at h42
       try simp only [zds] at h42
       refine qO ?_;refine qK ?_;refine xZ [7,4,5] ?_;refine yG rfl ?_;refine qN 0 rfl ?_;refine qN 1 rfl ?_;refine qN 2 rfl ?_;refine qN 3 rfl ?_;refine qC [4,5] ?_;refine zai ?_ ?_
       ·refine qC [5] ?_;refine qC [6] ?_;refine qC [7] ?_;refine zai (by exact qT (show sts.length + 1 ≤ 1000000000 by omega) (by decide)) ?_;refine qN 8 rfl ?_;refine qN 9 rfl ?_;refine qC [10] ?_;refine qQ ?_;refine qB ?_;refine qL ?_
        first|exact ⟨rfl,⟨rfl,qS rfl,rfl⟩,rfl⟩|exact ⟨rfl,⟨rfl,rfl,rfl⟩,rfl⟩
       ·refine qC [4,6] ?_;refine zai ?_ ?_
        ·refine qC [6] ?_;refine qC [7] ?_;refine zai (by exact qT (show sts.length + 1 ≤ 1000000000 by omega) (by decide)) ?_;refine qN 8 rfl ?_;refine qN 9 rfl ?_;refine qC [10] ?_;refine qQ ?_;refine qB ?_;refine qL ?_
         first|exact ⟨rfl,⟨rfl,qS rfl,rfl⟩,rfl⟩|exact ⟨rfl,⟨rfl,rfl,rfl⟩,rfl⟩
        ·refine qC [4] ?_;refine qC [7] ?_;refine zai (by exact qT (show sts.length + 1 ≤ 1000000000 by omega) (by decide)) ?_;refine qN 8 rfl ?_;refine qN 9 rfl ?_;refine qC [10] ?_;refine qQ ?_;refine qB ?_;refine qL ?_
         first|exact ⟨rfl,⟨rfl,qS rfl,rfl⟩,rfl⟩|exact ⟨rfl,⟨rfl,rfl,rfl⟩,rfl⟩
     ·refine qM ?_;refine Or.inr (Or.inl (zei [] (zei [5,4,2] (zei _ (zei _ (zei _ (zei _ (zei _ (zai (hdo) (zai rfl (zai (zai (zai rfl rfl) (zai (zai rfl rfl) (zai (zai rfl rfl) True.intro))) (zai rfl ?_))))))))))));refine qB ?_;refine qJ rfl (fun h42=>?_) (fun h42=>?_)
      ·skip
       refine qB ?_;refine qL ?_
       first|exact ⟨rfl,⟨rfl,qS rfl,rfl⟩,rfl⟩|exact ⟨rfl,⟨rfl,rfl,rfl⟩,rfl⟩
      ·try simp only [zbq] at h42
       try simp only [zds] at h42
       simp at h42
     ·refine qM ?_;refine Or.inr (Or.inl (zei [] (zei [5,4,2] (zei _ (zei _ (zei _ (zei _ (zei _ (zai (hdo) (zai rfl (zai (zai (zai rfl rfl) (zai (zai rfl rfl) (zai (zai rfl rfl) True.intro))) (zai rfl ?_))))))))))));refine qB ?_;refine qJ rfl (fun h42=>?_) (fun h42=>?_)
      ·skip
       refine qB ?_;refine qL ?_
       first|exact ⟨rfl,⟨rfl,qS rfl,rfl⟩,rfl⟩|exact ⟨rfl,⟨rfl,rfl,rfl⟩,rfl⟩
      ·try simp only [zbq] at h42
       try simp only [zds] at h42
       simp at h42
theorem tk1n_o {f : FuncId} {β : Type} (S : Rd β) (y : β) (k9 : Int) (sts : List TSt) (L L' : Lst) (es : List Edt) (x : Edt) (h : 0 < sts.length) (h40 : sts.length ≤ 40) (hl : sts.getD (sts.length - 1) ((([] : List Ent),(0 : Int),(0 : Int)),([] : List Edt)) = (L,es)) (he : es.length ≤ 1000) (hL : L.1.length ≤ 1000000)
    (hdo : qU Tryz.prog f [.one (.own 0 0),.one (.addr S y)] (lsO L) 2 (.one (errN k9)) (lsO L') 2) :
    qU Tryz.prog 70 [.one (.own 0 0),.agg (toL rEdt x),.one (.clo f (.addr S y))] (txO sts) 2 (.one (errN k9)) (txO sts) 2 :=
  tk1_o S y _ sts _ L L' es x h h40 hl he hL (.inr (.inl ⟨k9,rfl,rfl,hdo⟩))
theorem tk2n_o {f : FuncId} {β γ : Type} (S : Rd β) (y : β) (T : Rd γ) (z : γ) (k9 : Int) (sts : List TSt) (L L' : Lst) (es : List Edt) (x : Edt) (h : 0 < sts.length) (h40 : sts.length ≤ 40) (hl : sts.getD (sts.length - 1) ((([] : List Ent),(0 : Int),(0 : Int)),([] : List Edt)) = (L,es)) (he : es.length ≤ 1000) (hL : L.1.length ≤ 1000000)
    (hdo : qU Tryz.prog f [.one (.own 0 0),.one (.addr S y),.one (.addr T z)] (lsO L) 2 (.one (errN k9)) (lsO L') 2) :
    qU Tryz.prog 70 [.one (.own 0 0),.agg (toL rEdt x),.one (.clo2 f (.addr S y) (.addr T z))] (txO sts) 2 (.one (errN k9)) (txO sts) 2 :=
  tk2_o S y T z _ sts _ L L' es x h h40 hl he hL (.inr (.inl ⟨k9,rfl,rfl,hdo⟩))
theorem tk2f_o {f : FuncId} {β γ : Type} (S : Rd β) (y : β) (T : Rd γ) (z : γ) (a9 k9 : Int) (sts : List TSt) (L L' : Lst) (es : List Edt) (x : Edt) (h : 0 < sts.length) (h40 : sts.length ≤ 40) (hl : sts.getD (sts.length - 1) ((([] : List Ent),(0 : Int),(0 : Int)),([] : List Edt)) = (L,es)) (he : es.length ≤ 1000) (hL : L.1.length ≤ 1000000)
    (hdo : qU Tryz.prog f [.one (.own 0 0),.one (.addr S y),.one (.addr T z)] (lsO L) 2 (.one (errF a9 k9)) (lsO L') 2) :
    qU Tryz.prog 70 [.one (.own 0 0),.agg (toL rEdt x),.one (.clo2 f (.addr S y) (.addr T z))] (txO sts) 2 (.one (errF a9 k9)) (txO sts) 2 :=
  tk2_o S y T z _ sts _ L L' es x h h40 hl he hL (.inr (.inr ⟨a9,k9,rfl,rfl,hdo⟩))
theorem tk3ok_o {f : FuncId} {β γ : Type} (S : Rd β) (y : β) (T : Rd γ) (z : γ) (g g2 : Int) (sts : List TSt) (L L' : Lst) (es : List Edt) (x : Edt) (h : 0 < sts.length) (h40 : sts.length ≤ 40) (hl : sts.getD (sts.length - 1) ((([] : List Ent),(0 : Int),(0 : Int)),([] : List Edt)) = (L,es)) (he : es.length ≤ 1000) (hL : L.1.length ≤ 1000000)
    (hdo : qU Tryz.prog f [.one (.own 0 0),.one (.addr S y),.one (.addr T z),.one (.own 2 0)] (lsO L ++ [gvO g]) 3 (.one (.lit .nilIface)) (lsO L' ++ [gvO g2]) 3) :
    qU Tryz.prog 70 [.one (.own 0 0),.agg (toL rEdt x),.one (.clo3 f (.addr S y) (.addr T z) (.own 2 0))] (txO sts ++ [gvO g]) 3 (.one (.lit .nilIface)) (txO (sts ++ [(L',es ++ [x])]) ++ [gvO g2]) 3 :=
  tk3_o S y T z g g2 _ sts _ L L' es x h h40 hl he hL (.inl ⟨rfl,rfl,hdo⟩)
theorem tk3n_o {f : FuncId} {β γ : Type} (S : Rd β) (y : β) (T : Rd γ) (z : γ) (g g2 : Int) (k9 : Int) (sts : List TSt) (L L' : Lst) (es : List Edt) (x : Edt) (h : 0 < sts.length) (h40 : sts.length ≤ 40) (hl : sts.getD (sts.length - 1) ((([] : List Ent),(0 : Int),(0 : Int)),([] : List Edt)) = (L,es)) (he : es.length ≤ 1000) (hL : L.1.length ≤ 1000000)
    (hdo : qU Tryz.prog f [.one (.own 0 0),.one (.addr S y),.one (.addr T z),.one (.own 2 0)] (lsO L ++ [gvO g]) 3 (.one (errN k9)) (lsO L' ++ [gvO g2]) 3) :
    qU Tryz.prog 70 [.one (.own 0 0),.agg (toL rEdt x),.one (.clo3 f (.addr S y) (.addr T z) (.own 2 0))] (txO sts ++ [gvO g]) 3 (.one (errN k9)) (txO sts ++ [gvO g2]) 3 :=
  tk3_o S y T z g g2 _ sts _ L L' es x h h40 hl he hL (.inr (.inl ⟨k9,rfl,rfl,hdo⟩))
theorem tk3f_o {f : FuncId} {β γ : Type} (S : Rd β) (y : β) (T : Rd γ) (z : γ) (g g2 : Int) (a9 k9 : Int) (sts : List TSt) (L L' : Lst) (es : List Edt) (x : Edt) (h : 0 < sts.length) (h40 : sts.length ≤ 40) (hl : sts.getD (sts.length - 1) ((([] : List Ent),(0 : Int),(0 : Int)),([] : List Edt)) = (L,es)) (he : es.length ≤ 1000) (hL : L.1.length ≤ 1000000)
    (hdo : qU Tryz.prog f [.one (.own 0 0),.one (.addr S y),.one (.addr T z),.one (.own 2 0)] (lsO L ++ [gvO g]) 3 (.one (errF a9 k9)) (lsO L' ++ [gvO g2]) 3) :
    qU Tryz.prog 70 [.one (.own 0 0),.agg (toL rEdt x),.one (.clo3 f (.addr S y) (.addr T z) (.own 2 0))] (txO sts ++ [gvO g]) 3 (.one (errF a9 k9)) (txO sts ++ [gvO g2]) 3 :=
  tk3_o S y T z g g2 _ sts _ L L' es x h h40 hl he hL (.inr (.inr ⟨a9,k9,rfl,rfl,hdo⟩))
theorem tkFull2_a (sts : List TSt) (x : Edt) (h : 40 < sts.length) : qU Tryz.prog 70 [.one (.own 0 0),.agg (toL rEdt x),.one .any] (txO sts) 2 (.one (errN 1)) (txO sts) 2:=by
  refine qV (rs:=[6]) Tryz.func70 rfl rfl rfl teOk (by decide) rfl ?_;refine qB ?_;refine qK ?_;refine qR ?_;refine qB ?_;refine Or.inr (Or.inr (Or.inl ?_));refine zai rfl ?_;refine zei _ (zai (topen_c sts) ?_);refine qJ rfl (fun h10=>?_) (fun h10=>?_)
  ·try simp only [decide_eq_false_iff_not,Bool.not_eq_true'] at h10
   try simp only [zds] at h10
   exfalso
   simp at h10;have h9 : sts.length = 0:=(by rw [h10];rfl);omega
  ·try simp only [decide_eq_true_eq,Bool.not_eq_false'] at h10
   try simp only [zds] at h10
   refine qB ?_;refine Or.inr (Or.inr (Or.inl ?_));refine zai rfl ?_;refine zei _ (zai (tmark_c sts (by omega)) ?_);refine qJ rfl (fun h15=>?_) (fun h15=>?_)
   ·try simp only [decide_eq_true_eq] at h15
    try simp only [zds] at h15
    refine qB ?_;refine qL ?_;exact ⟨rfl,⟨rfl,rfl⟩,rfl⟩
   ·try simp only [decide_eq_false_iff_not,Int.not_le] at h15
    try simp only [zds] at h15
    exfalso
    omega
theorem tkFull2_o (sts : List TSt) (x : Edt) (h : 40 < sts.length) (d : C) : qU Tryz.prog 70 [.one (.own 0 0),.agg (toL rEdt x),.one d] (txO sts) 2 (.one (errN 1)) (txO sts) 2:=by
  refine acallo_arg (fun ok ρ w vs h=>?_) (tkFull2_a sts x h);obtain ⟨v,r,rfl,h1,v2,r2,rfl,h2,v3,r3,rfl,h3,h4⟩:=h;exact ⟨v,_,rfl,h1,v2,_,rfl,h2,v3,_,rfl,trivial,h4⟩
theorem tkFull3_a (sts : List TSt) (x : Edt) (g : Int) (h : 40 < sts.length) : qU Tryz.prog 70 [.one (.own 0 0),.agg (toL rEdt x),.one .any] (txO sts ++ [gvO g]) 3 (.one (errN 1)) (txO sts ++ [gvO g]) 3:=by
  refine qV (rs:=[6]) Tryz.func70 rfl rfl rfl teOk (by decide) rfl ?_;refine qB ?_;refine qK ?_;refine qR ?_;refine qB ?_;refine Or.inr (Or.inr (Or.inl ?_));refine zai rfl ?_;refine zei _ (zai (topen_c sts) ?_);refine qJ rfl (fun h10=>?_) (fun h10=>?_)
  ·try simp only [decide_eq_false_iff_not,Bool.not_eq_true'] at h10
   try simp only [zds] at h10
   exfalso
   simp at h10;have h9 : sts.length = 0:=(by rw [h10];rfl);omega
  ·try simp only [decide_eq_true_eq,Bool.not_eq_false'] at h10
   try simp only [zds] at h10
   refine qB ?_;refine Or.inr (Or.inr (Or.inl ?_));refine zai rfl ?_;refine zei _ (zai (tmark_c sts (by omega)) ?_);refine qJ rfl (fun h15=>?_) (fun h15=>?_)
   ·try simp only [decide_eq_true_eq] at h15
    try simp only [zds] at h15
    refine qB ?_;refine qL ?_;exact ⟨rfl,⟨rfl,rfl,rfl⟩,rfl⟩
   ·try simp only [decide_eq_false_iff_not,Int.not_le] at h15
    try simp only [zds] at h15
    exfalso
    omega
theorem tkFull3_o (sts : List TSt) (x : Edt) (g : Int) (h : 40 < sts.length) (d : C) : qU Tryz.prog 70 [.one (.own 0 0),.agg (toL rEdt x),.one d] (txO sts ++ [gvO g]) 3 (.one (errN 1)) (txO sts ++ [gvO g]) 3:=by
  refine acallo_arg (fun ok ρ w vs h=>?_) (tkFull3_a sts x g h);obtain ⟨v,r,rfl,h1,v2,r2,rfl,h2,v3,r3,rfl,h3,h4⟩:=h;exact ⟨v,_,rfl,h1,v2,_,rfl,h2,v3,_,rfl,trivial,h4⟩
end Q
end Ab
end Go.Proofs.YtojipboabgebfaaGreatDoor
