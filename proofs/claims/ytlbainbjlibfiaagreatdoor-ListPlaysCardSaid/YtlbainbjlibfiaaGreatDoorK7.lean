/-
  The texts of this proof, joined: abstract values, the library, the functions of the program and what they compute (part 7). No condition.
-/
import Derived.Shelf.Vars
import Derived.KernelRfl
import Derived.Test.YtlbainbjlibfiaaGreatDoorK1
import Derived.Test.YtlbainbjlibfiaaGreatDoorK2
import Derived.Test.YtlbainbjlibfiaaGreatDoorK3
import Derived.Test.YtlbainbjlibfiaaGreatDoorK4
import Derived.Test.YtlbainbjlibfiaaGreatDoorK5
import Derived.Test.YtlbainbjlibfiaaGreatDoorK6
namespace Go.Proofs.YtlbainbjlibfiaaGreatDoor
open Go.RowKit
namespace Ab
set_option maxRecDepth 100000
namespace Q
theorem refText7_c (es : List Ent) (n : Int) (hl : es.length ≤ 1000000) (hs : szI (apartL (itmL es)) ≤ 100000000) : qX Tryz.prog 69 [.agg (toL rRL (es,n))] (is (bytes (txtL es))):=by
  refine qV (rs:=[2]) Tryz.func69 rfl rfl rfl teOk rfl ?_;refine qC ?_;refine qB ?_;refine qC ?_;refine qB ?_;refine Or.inl ?_;refine zai (rfl) ?_;refine zei _ (zai (refItms_c es n hl) ?_);refine Or.inl ?_;refine zai (rfl) ?_;refine zei _ (zai (refRender6_c (itmL es) (by unfold itmL;rw [List.length_map];omega) hs) ?_);refine qM ?_;rfl
abbrev rStzU : Rd (Int × List (Unit × Unit)):=.st (.int .i64) (.slk 7 rUnk2)
def unkS (l : List Stz) : List (Int × List (Unit × Unit)):=l.map fun x=>(x.1,x.2.map fun _=>((),()))
theorem stz_unk {ok : Oks} {w : World} {cs : List Value} {x : Stz} (h : (rStz.kd 7).is ok w cs x) : rStzU.is ok w cs (x.1,x.2.map fun _=>((),())):=by
  obtain ⟨c,d,e,h1,h2⟩:=h;exact ⟨c,d,e,h1,row_unk h2⟩
theorem unkS_at (l : List Stz) {j : Nat} (h : j < l.length) : ((unkS l).getD j ((0 : Int),([] : List (Unit × Unit)))).1 = (l.getD j ((0 : Int),([] : List Fld))).1:=by
  have h2 : j < (unkS l).length:=by unfold unkS;rw [List.length_map];exact h
  rw [← getD_get h ((0 : Int),([] : List Fld)),← getD_get h2 ((0 : Int),([] : List (Unit × Unit)))];simp [unkS]
theorem stz_live {es : List Ent} {j : Nat} (h : j < (stzL es).length) (hi : ∀ e ∈ es,0 ≤ e.2) : ¬ atE es ((stzL es).getD j ((0 : Int),([] : List Fld))).1 < 0:=by
  have h1 : j < (es.filter live).length:=by rw [← stz_len];exact h
  have h2:=List.mem_filter.1 (yP h1 (((0 : Int),ByteArray.empty,([] : List Fld)),(0 : Int)));rw [stz_at h];intro hlt;rcases at_cases es (stzOf ((es.filter live).getD j (((0 : Int),ByteArray.empty,([] : List Fld)),(0 : Int)))).1 with ⟨_,h3⟩|⟨i,_,h3,_⟩
  · exact h3 _ h2.1 (of_decide_eq_true h2.2) rfl
  · omega
theorem stands_c {c : Nat} (es : List Ent) (n m : Int) (h : LOk c (es,n,m)) (hc : c ≤ 200000) (hs : szI (itmL es) ≤ 50000000) : qX Tryz.prog 26 [.one (.adk 1 (rLst 1) (es,n,m)),.agg (toL rRL (es,n))] (ib true):=by
  have hln : es.length ≤ c:=h.len;have hf:=h.f1;have hmany : m = ((stzL es).length : Int):=by have:=h.many;rw [stz_len,← ids_len];exact this
  have hal:=apart_len (itmL es) 1;have hil : (itmL es).length = es.length:=List.length_map _;have hsa : szI (apartL (itmL es)) ≤ 100000000:=by show szI (apartK 1 (itmL es)) ≤ _;omega
  refine qV (rs:=[4]) Tryz.func26 rfl rfl rfl teOk rfl ?_;refine qC ?_;refine qB ?_;show yG _ _ _ _ _ _ _ _ _;refine acode_bag [4] [] 1 rfl rfl rfl rfl (by kernel_rfl) ?_;refine zei _ (zei _ (zei _ (zai (stanzas3L_o (k:=1) es n m (by omega) hf) (zai rfl ?_))));refine qC ?_;refine qC ?_;refine acode_draw rfl (by kernel_rfl) ?_;refine zai (rfl) ?_;refine zei _ (zai (refStz_c es n (by omega)) ?_);refine zai (rfl) ?_;refine zei _ (zai (stz7_c (κ:=1) (κ':=7) _ _) ?_);refine zai (fun h=>trivial) ?_;refine zai (rfl) ?_;refine zei _ (zai (fun h=>⟨⟨⟨h,trivial⟩,trivial⟩,itmsL_c es n m (by omega) hf⟩) ?_);refine zai (fun h=>trivial) ?_;refine zai (rfl) ?_;refine zei _ (zai (fun h=>⟨⟨⟨h,trivial⟩,trivial⟩,refItms_c es n (by omega)⟩) ?_);refine zai (rfl) ?_;refine zei _ (zai (fun h=>⟨⟨⟨h,trivial⟩,⟨h,trivial⟩,trivial⟩,items_c _ _⟩) ?_);refine zai (fun h=>⟨⟨h,trivial⟩,trivial⟩) ?_;refine zai (by first|(intro h;rw [h];rfl)|(intro h;cases h)) ?_;refine zai (fun h=>trivial) ?_;refine zai (rfl) ?_;refine zei _ (zai (fun h=>⟨⟨⟨h,trivial⟩,trivial⟩,textL_c es n m (by omega) hf hsa⟩) ?_);refine zai (fun h=>trivial) ?_;refine zai (rfl) ?_;refine zei _ (zai (fun h=>⟨⟨⟨h,trivial⟩,trivial⟩,refText7_c es n (by omega) hsa⟩) ?_);refine zai (fun h=>⟨⟨h,trivial⟩,⟨h,trivial⟩,trivial⟩) ?_;refine zai (by first|(intro h;rw [h];rfl)|(intro h;cases h)) ?_;refine zai (fun h=>trivial) ?_;refine zai (rfl) ?_;refine zei _ (zai (fun h=>⟨⟨⟨h,trivial⟩,trivial⟩,len_c es n m⟩) ?_);refine zai (fun h=>trivial) ?_;refine zai (fun h=>⟨⟨h,trivial⟩,trivial⟩) ?_;refine zai (fun h=>⟨⟨h,trivial⟩,⟨h,trivial⟩,trivial⟩) ?_;refine zai (by first|(intro h;rw [h];rfl)|(intro h;cases h)) ?_;refine zai (fun h=>trivial) ?_;refine zai (rfl) ?_;refine zei _ (zai (fun h=>⟨⟨⟨h,trivial⟩,trivial⟩,next_c es n m⟩) ?_);refine zai (fun h=>trivial) ?_;refine zai (fun h=>⟨⟨h,trivial⟩,trivial⟩) ?_;refine zai (fun h=>⟨⟨h,trivial⟩,⟨h,trivial⟩,trivial⟩) ?_;refine zai (by first|(intro h;rw [h];rfl)|(intro h;cases h)) ?_;refine qK rfl (fun h49=>?_) (fun h49=>?_)
  ·try simp only [decide_eq_false_iff_not,Bool.not_eq_true',Bool.or_eq_true] at h49
   try simp only [zds] at h49
   simp [hmany] at h49
  ·try simp only [decide_eq_true_eq,Bool.not_eq_false',Bool.or_eq_false_iff] at h49
   try simp only [zds] at h49
   refine qN ?_;refine qC ?_;refine qC ?_;refine acode_restate 2 (S:=rStzU) (ys:=unkS (stzL es)) rfl rfl (by simp [unkS]) (fun ok w cs j hj hj' h=>by rw [show (unkS (stzL es))[j] = (((stzL es)[j]).1,((stzL es)[j]).2.map fun _=>((),())) from List.getElem_map ..];exact stz_unk h) ?_;refine qB ?_;intro l4_1
   try simp only [zds] at l4_1
   refine qP ?_;refine qU (fun (j : Nat)=>j ≤ (unkS (stzL es)).length) (fun (j : Nat)=>[(0,.one (.adk 1 (rLst 1) (es,n,m))),(3,.one (.own 0 0)),(50,.one (.vec 2)),(51,ii .i64 (unkS (stzL es)).length),(52,ii .i64 j)]) (fun (j : Nat)=>[(0,.box 49 (toL rRL (es,n))),(2,.vec 42 rStzU (unkS (stzL es)))]) 1000003 (fun (j : Nat)=>(unkS (stzL es)).length - j) 0 (Nat.zero_le _) (qQ ⟨rfl,rfl,rfl,rfl,rfl⟩ ⟨rfl,rfl⟩ rfl) ?_;intro j hI0;refine qC ?_;refine qB ?_;refine qC ?_;refine qK rfl (fun h53=>?_) (fun h53=>?_)
   ·try simp only [decide_eq_true_eq] at h53
    try simp only [zds] at h53
    have hjl : j < (stzL es).length:=(by have h1 : j < (unkS (stzL es)).length:=(by omega);unfold unkS at h1;rw [List.length_map] at h1;exact h1);have hlv:=stz_live hjl (fun e he=>(h.ids e he).1);rw [← unkS_at (stzL es) hjl] at hlv;have hraw:=raw_c (k:=1) es n m ((unkS (stzL es)).getD j ((0 : Int),([] : List (Unit × Unit)))).1;rw [if_neg hlv,decide_eq_true (show 0 ≤ atE es ((unkS (stzL es)).getD j ((0 : Int),([] : List (Unit × Unit)))).1 by omega)] at hraw;refine qN ?_;refine qC ?_;refine qP ?_;refine qC ?_;refine qB ?_;refine zai (by first|omega|assumption|decide|(simp only [zds];omega)|(simp <;> omega)) ?_;refine zai (by omega) ?_;refine qC ?_;show yG _ _ _ _ _ _ _ _ _;refine acode_spoil 2 rfl rfl rfl (by rfl) ?_;refine zei _ (zei _ (zai rfl (zai (spoil7_c) (zai rfl (zai rfl (zai rfl ?_))))));refine qC ?_;refine qB ?_;refine Or.inr (Or.inr (Or.inr (zei [] (zei [] (zei _ (zei _ (zei _ (zei _ (zei _ (zai ((getL_o (k:=1) es n m ((unkS (stzL es)).getD j ((0 : Int),([] : List (Unit × Unit)))).1 hf hlv).x) (zai rfl (zai True.intro (zai rfl ?_)))))))))))));refine qC ?_;refine qB ?_;refine Or.inl ?_;refine zai (rfl) ?_;refine zei _ (zai (hraw) ?_);refine qC ?_;refine qB ?_;refine Or.inl ?_;refine zai (rfl) ?_;refine zei _ (zai (refGet_c es n ((unkS (stzL es)).getD j ((0 : Int),([] : List (Unit × Unit)))).1 hlv) ?_);refine qC ?_;refine qC ?_;refine acode_draw rfl (by kernel_rfl) ?_;refine zai (fun h=>trivial) ?_;refine zai (fun h=>⟨⟨h,trivial⟩,trivial⟩) ?_;refine zai (by first|(intro h;rw [h];rfl)|(intro h;cases h)) ?_;refine zai (fun h=>trivial) ?_;refine zai (fun h=>⟨⟨h,trivial⟩,trivial⟩) ?_;refine zai (by first|(intro h;rw [h];rfl)|(intro h;cases h)) ?_;refine zai (fun h=>trivial) ?_;refine zai (fun h=>trivial) ?_;refine zai (fun h=>⟨⟨h,trivial⟩,trivial⟩) ?_;refine zai (fun h=>⟨⟨h,trivial⟩,⟨h,trivial⟩,trivial⟩) ?_;refine zai (by first|(intro h;rw [h];rfl)|(intro h;cases h)) ?_;refine zai (fun h=>trivial) ?_;refine zai (fun h=>trivial) ?_;refine zai (fun h=>⟨⟨h,trivial⟩,trivial⟩) ?_;refine zai (rfl) ?_;refine zei _ (zai (fun h=>⟨⟨⟨h,trivial⟩,⟨h,trivial⟩,trivial⟩,fieldsk_c (κ:=1) _ _⟩) ?_);refine zai (fun h=>⟨⟨h,trivial⟩,trivial⟩) ?_;refine zai (by first|(intro h;rw [h];rfl)|(intro h;cases h)) ?_;refine zai (fun h=>trivial) ?_;refine zai (fun h=>trivial) ?_;refine zai (fun h=>⟨⟨h,trivial⟩,trivial⟩) ?_;refine zai (rfl) ?_;refine zei _ (zai (fun h=>⟨⟨⟨h,trivial⟩,⟨h,trivial⟩,trivial⟩,placeL_c es n m ((unkS (stzL es)).getD j ((0 : Int),([] : List (Unit × Unit)))).1 (by omega)⟩) ?_);refine zai (fun h=>trivial) ?_;refine zai (fun h=>trivial) ?_;refine zai (fun h=>⟨⟨h,trivial⟩,trivial⟩) ?_;refine zai (rfl) ?_;refine zei _ (zai (fun h=>⟨⟨⟨h,trivial⟩,⟨h,trivial⟩,trivial⟩,refPlc_c es n ((unkS (stzL es)).getD j ((0 : Int),([] : List (Unit × Unit)))).1 (by omega)⟩) ?_);refine zai (fun h=>⟨⟨h,trivial⟩,⟨h,trivial⟩,trivial⟩) ?_;refine zai (by first|(intro h;rw [h];rfl)|(intro h;cases h)) ?_;refine qK rfl (fun h113=>?_) (fun h113=>?_)
    ·try simp only [decide_eq_false_iff_not,Bool.not_eq_true',Bool.or_eq_true] at h113
     try simp only [zds] at h113
     simp [getL,rawL] at h113
    ·try simp only [decide_eq_true_eq,Bool.not_eq_false',Bool.or_eq_false_iff] at h113
     try simp only [zds] at h113
     refine qN ?_;refine qB ?_;refine Or.inr (Or.inl (zei [] (zei [1000004] (zei _ (zei _ (zei _ (zei _ (zei _ (zai (spoilF_o _ (by unfold getL;obtain ⟨i,hi,he,_⟩:=at_lt hlv;rw [he,Int.toNat_natCast];exact hf _ (yP hi (((0 : Int),ByteArray.empty,([] : List Fld)),(0 : Int))))) (zai rfl (zai (zai (zai rfl rfl) True.intro) (zai rfl ?_))))))))))));refine qB ?_;refine zai (by first|omega|assumption|decide|(simp only [zds];omega)|(simp <;> omega)) ?_;exact ⟨j + 1,by omega,by first|omega|(simp <;> omega),qQ ⟨rfl,rfl,rfl,rfl,(qT (by omega))⟩ ⟨rfl,rfl⟩ rfl⟩
   ·try simp only [decide_eq_false_iff_not,Int.not_lt] at h53
    try simp only [zds] at h53
    refine qW ?_;refine qC ?_;refine acode_draw rfl (by kernel_rfl) ?_;refine zai (rfl) ?_;refine zei _ (zai (stanzasL_c es n m (by omega) hf) ?_);refine zai (rfl) ?_;refine zei _ (zai (refStz_c es n (by omega)) ?_);refine zai (rfl) ?_;refine zei _ (zai (stz7_c (κ:=0) (κ':=0) _ _) ?_);refine qM ?_
    first|rfl|exact ib_eq (by simp)
end Q
end Ab
end Go.Proofs.YtlbainbjlibfiaaGreatDoor
namespace Go.Proofs.YtlbainbjlibfiaaGreatDoor
open Go.RowKit
namespace Ab
set_option maxRecDepth 100000
namespace Q
def BlankI (x : Itm) : Prop:=∃ t : ByteArray,x = (1,t ++ ⟨#[10]⟩,[]) ∧ qZ (ls t) = 1 ∧ (10 : UInt8) ∉ ls t
def Good1 (x : Itm) : Prop:=BlankI x ∨ (x.1 ≠ 1 ∧ Blk x)
def BIP (p : PSt) : Prop:=(∀ x ∈ p.its,x.1 = 1 → BlankI x) ∧ p.recs = (cntR p.its : Int)
theorem isRec1 (t : ByteArray) : isRec (1,t,[]) = false:=by unfold isRec;simp
theorem close_bi {p : PSt} (h : BIP p) : BIP (closeS p):=by
  unfold closeS;split
  · exact h
  · by_cases hf : p.flds = []
    · simp only [if_pos hf];refine ⟨fun x hx hx1=>?_,?_⟩
      · rcases List.mem_append.1 hx with hx|hx
        · exact h.1 x hx hx1
        · rw [List.mem_singleton.1 hx] at hx1;cases hx1
      · simp only [cntR_app];rw [h.2];simp [cntR,isRec]
    · simp only [if_neg hf];refine ⟨fun x hx hx1=>?_,?_⟩
      · rcases List.mem_append.1 hx with hx|hx
        · exact h.1 x hx hx1
        · rw [List.mem_singleton.1 hx] at hx1;cases hx1
      · simp only [cntR_app];rw [h.2];simp [cntR,isRec]
theorem flush_bi {p q : PSt} (h : BIP p) (hf : yV p = .inr q) : BIP q:=by
  unfold BIP;rw [(flush_same hf).1,flush_recs hf];exact h
theorem end_bi {p q : PSt} (h : BIP p) (hf : endS p = .inr q) : BIP q:=by
  unfold endS at hf;cases e : yV p with
  | inl x=>rw [e] at hf;cases hf
  | inr r=>rw [e] at hf;cases hf;exact close_bi (flush_bi h e)
theorem take_bi {p q : PSt} {l : Lne} (h : BIP p) (hf : yW p l = .inr q) (hn : (10 : UInt8) ∉ ls l.2.2.1) : BIP q:=by
  unfold yW at hf;cases e : yU p l (qZ (ls l.2.2.1)) with
  | inl x=>rw [e] at hf;cases hf
  | inr r =>
    rw [e] at hf;have hr : BIP r:=by
      unfold yU at e;split at e
      · split at e
        · cases e
        · split at e
          · cases e;exact h
          · exact flush_bi (p:={ p with lns:=p.lns ++ [l.2.2.1] }) h e
      · split at e
        · exact end_bi h e
        · exact flush_bi h e
    simp only at hf;unfold lineS at hf;split at hf
    · cases hf
    · split at hf
      · rename_i hk;cases hf;refine ⟨fun x hx hx1=>?_,?_⟩
        · rcases List.mem_append.1 hx with hx|hx
          · exact hr.1 x hx hx1
          · exact ⟨l.2.2.1,List.mem_singleton.1 hx,hk,hn⟩
        · simp only [cntR_app];rw [hr.2];simp [cntR,isRec1]
      · split at hf
        · cases hf;exact hr
        · cases hf;exact hr
theorem run_bi : ∀ (L : List Lne) (p q : PSt),BIP p → runS p L = .inr q → (∀ l ∈ L,(10 : UInt8) ∉ ls l.2.2.1) → BIP q
  | [],p,q,hp,h,_=>by cases h;exact hp
  | l :: r,p,q,hp,h,hn=>by
    simp only [runS] at h;cases e : yW p l with
    | inl x=>rw [e] at h;cases h
    | inr p1 =>
      rw [e] at h;exact run_bi r p1 q (take_bi hp e (hn l List.mem_cons_self)) h (fun x hx=>hn x (List.mem_cons_of_mem _ hx))
theorem parse_good {s : ByteArray} {l : List Itm} (hp : xN s = .inr l) : (∀ x ∈ l,Good1 x) ∧ cntR l ≤ 400:=by
  have hb:=parse_blks hp;unfold xN at hp;cases e : runS pst0 (yE s) with
  | inl x=>rw [e] at hp;cases hp
  | inr p =>
    rw [e] at hp;simp only at hp;cases e2 : endS p with
    | inl x=>rw [e2] at hp;cases hp
    | inr q =>
      rw [e2] at hp;cases hp;have hno : ∀ l ∈ yE s,(10 : UInt8) ∉ ls l.2.2.1:=fun l hl=>by
        have h1 : l.2.2 ∈ (yE s).map (·.2.2):=List.mem_map_of_mem hl;rw [lines_text] at h1;exact linesB_no _ _ _ h1
      have h1 : BIP q:=end_bi (run_bi _ _ _ ⟨(fun _ h=>by cases h),rfl⟩ e hno) e2;have h2:=(end_par (run_par _ _ _ ⟨[],0,[],pst0,rel_0,rfl,rfl,rfl,(fun _ h=>by cases h),(fun _ h=>by cases h)⟩ e hno) e2).2.2.2;refine ⟨fun x hx=>?_,by have:=h1.2;omega⟩
      by_cases hx1 : x.1 = 1
      · exact .inl (h1.1 x hx hx1)
      · exact .inr ⟨hx1,hb x hx hx1⟩
def HF (p : PSt) : Prop:=p.lns ≠ [] ∨ p.flds ≠ []
theorem good_itm {f : List Fld} (hc : (chkR f).2 = 0) : Good1 (itmOf f):=by
  obtain ⟨⟨g1,g2,g3⟩,_,_⟩:=chk_good hc;obtain ⟨q,e1,e2,e3,e4,e5⟩:=fields_run f pst0 [] g3 (ready_idle rfl rfl) (by simpa using g2) (by decide) g1;obtain ⟨r,q2,f1,f2,f3,f4⟩:=end_run e2 (by simpa using g1) e5;have hno : ∀ t ∈ (f.flatMap fun f=>xL f.1 f.2),(10 : UInt8) ∉ ls t:=fun t ht=>by
    obtain ⟨y,hy,ht⟩:=List.mem_flatMap.1 ht;exact lines_no (v:=y.2.data.toList) (check_ok (g3 y hy)).1 (ls t) (by rw [← lineB_map2];exact List.mem_map_of_mem ht)
  have hL : ∀ l ∈ (f.flatMap fun f=>xL f.1 f.2).map mkL,l.2.2.2 = true ∧ (10 : UInt8) ∉ ls l.2.2.1:=fun l hl=>by
    obtain ⟨t,ht,rfl⟩:=List.mem_map.1 hl;exact ⟨rfl,hno t ht⟩
  have hgl : glue (((f.flatMap fun f=>xL f.1 f.2).map mkL).map (·.2.2)) = foldL f:=by rw [glue_mk,endL_flat]
  rw [List.nil_append] at f3;have e3' : q.its = []:=e3;rw [e3',List.nil_append] at f3;have hp:=parse_of (lines_of hL) e1 f1;rw [hgl,f3] at hp;have hr:=raws_text hp;have hrr : r = bytes (foldL f):=by
    have h1 : rawsL [((3 : Int),r,f)] = foldL f:=by
      have:=congrArg (fun b : ByteArray=>b.data.toList) hr
      simpa [bytes] using this
    have h2 : ls r = foldL f:=by simpa [rawsL] using h1
    exact ls_inj h2
  refine .inr ⟨by show (3 : Int) ≠ 1;decide,_,q,q2,hL,e1,e3',e4,f1,?_,?_⟩
  · rw [f3,hrr];rfl
  · rw [hgl];exact (yA _).symm
end Q
end Ab
end Go.Proofs.YtlbainbjlibfiaaGreatDoor
namespace Go.Proofs.YtlbainbjlibfiaaGreatDoor
open Go.RowKit
namespace Ab
set_option maxRecDepth 100000
namespace Q
structure LGd (B : Nat) (L : Lst) : Prop where
  good : ∀ e ∈ L.1,Good1 e.1 ∧ isRec e.1 = live e
  m4 : L.2.2 ≤ 400
  sz : szI (itmL L.1) ≤ B
theorem itmL_app (a b : List Ent) : itmL (a ++ b) = itmL a ++ itmL b:=List.map_append
theorem sz_cons (x : Itm) (l : List Itm) : szI (x :: l) = x.2.1.size + szI l:=by simp [szI]
theorem sz_split (es : List Ent) (i : Nat) : szI (itmL es) = szI (itmL (es.take i)) + szI (itmL (es.drop i)):=by
  conv=>lhs;rw [← List.take_append_drop i es,itmL_app,szI_app]
theorem sz_repl {es : List Ent} {i : Nat} {x : Itm} (h : i < es.length) : szI (itmL (replE es i x)) ≤ szI (itmL es) + x.2.1.size:=by
  have e1 : replE es i x = es.take i ++ (x,(es.getD i (((0 : Int),ByteArray.empty,([] : List Fld)),(0 : Int))).2) :: es.drop (i + 1):=List.set_eq_take_append_cons_drop .. |>.trans (if_pos h)
  rw [e1,itmL_app,szI_app];have e2 : itmL ((x,(es.getD i (((0 : Int),ByteArray.empty,([] : List Fld)),(0 : Int))).2) :: es.drop (i + 1)) = x :: itmL (es.drop (i + 1)):=rfl;have e3 : itmL ((es.getD i (((0 : Int),ByteArray.empty,([] : List Fld)),(0 : Int))) :: es.drop (i + 1)) = (es.getD i (((0 : Int),ByteArray.empty,([] : List Fld)),(0 : Int))).1 :: itmL (es.drop (i + 1)):=rfl;have e4:=congrArg (fun l=>szI (itmL l)) (del_split h);simp only [itmL_app,szI_app,e3,sz_cons] at e4;rw [e2,sz_cons];omega
theorem sz_del {es : List Ent} {i : Nat} : szI (itmL (delE es i)) ≤ szI (itmL es):=by
  unfold delE;rw [itmL_app,szI_app,sz_split es i];have:=sz_split (es.drop i) 1;rw [List.drop_drop] at this;rw [show i + 1 = i + 1 from rfl];omega
theorem sz_ins {es : List Ent} {i : Nat} {x : Ent} : szI (itmL (insE es i x)) = szI (itmL es) + x.1.2.1.size:=by
  unfold insE;rw [itmL_app,szI_app,sz_split es i];have e2 : itmL (x :: es.drop i) = x.1 :: itmL (es.drop i):=rfl;rw [e2,sz_cons];omega
theorem itm_sz {f : List Fld} (hm : muchB f = false) (hc : (chkR f).2 = 0) : (itmOf f).2.1.size ≤ 24120:=by
  obtain ⟨⟨_,g2,_⟩,g4,_⟩:=chk_good hc;exact foldB_size hm g4 g2
theorem doL_gd {c B : Nat} {L : Lst} {e : Edt} (h : LOk c L) (hg : LGd B L) (hm : muchB e.2.2 = false) : LGd (B + 24120) (doL L e):=by
  have h0 : LGd (B + 24120) L:=⟨hg.good,hg.m4,by have:=hg.sz;omega⟩;have hat : ∀ id,¬ atE L.1 id < 0 → ∃ i : Nat,i < L.1.length ∧ atE L.1 id = i ∧ 0 < id ∧ (L.1.getD i (((0 : Int),ByteArray.empty,([] : List Fld)),(0 : Int))).2 = id:=fun id hn=>by
    rcases at_cases L.1 id with ⟨h1,_⟩|⟨i,h1,h2,h3,h4,_⟩
    · omega
    · exact ⟨i,h1,h2,h3,h4⟩
  unfold doL;split
  · split
    · exact h0
    · rename_i hn;obtain ⟨i,hi,he,hp,hid⟩:=hat _ hn;rw [he,Int.toNat_natCast];split
      · exact h0
      · rename_i hc;have hc : (chkR e.2.2).2 = 0:=Classical.not_not.1 hc;refine ⟨fun x hx=>?_,hg.m4,?_⟩
        · rcases mem_repl hx with hx|rfl
          · exact hg.good x hx
          · refine ⟨good_itm hc,?_⟩;show true = live _;unfold live;rw [decide_eq_true (by simp only;omega)]
        · have:=sz_repl (x:=itmOf e.2.2) hi;have:=itm_sz hm hc;have:=hg.sz;show szI (itmL (replE L.1 i (itmOf e.2.2))) ≤ _;omega
  · split
    · split
      · exact h0
      · rename_i hn;obtain ⟨i,hi,he,hp,hid⟩:=hat _ hn;rw [he,Int.toNat_natCast];refine ⟨fun x hx=>hg.good x (mem_del hx),by have:=hg.m4;show L.2.2 - 1 ≤ 400;omega,?_⟩;have:=sz_del (es:=L.1) (i:=i);have:=hg.sz;show szI (itmL (delE L.1 i)) ≤ _;omega
    · split
      · exact h0
      · rename_i hn;split
        · exact h0
        · rename_i hc;have hc : (chkR e.2.2).2 = 0:=Classical.not_not.1 hc;split
          · exact h0
          · rename_i h4;refine ⟨fun x hx=>?_,by show L.2.2 + 1 ≤ 400;omega,?_⟩
            · rcases mem_ins hx with hx|rfl
              · exact hg.good x hx
              · refine ⟨good_itm hc,?_⟩;have:=h.next.1;show true = live _;unfold live;rw [decide_eq_true (by simp only;omega)]
            · show szI (itmL (insE L.1 _ _)) ≤ _;rw [sz_ins];have:=itm_sz hm hc;have:=hg.sz;simp only;omega
theorem num_good : ∀ (l : List Itm) (n : Int),1 ≤ n → (∀ x ∈ l,Good1 x) → ∀ e ∈ numI n l,Good1 e.1 ∧ isRec e.1 = live e
  | [],_,_,_,e,he=>by cases he
  | x :: r,n,hn,hg,e,he=>by
    unfold numI at he;split at he
    · rename_i hr;rcases List.mem_cons.1 he with rfl|he
      · refine ⟨hg x List.mem_cons_self,?_⟩;rw [hr];unfold live;rw [decide_eq_true (by simp only;omega)]
      · exact num_good r (n + 1) (by omega) (fun y hy=>hg y (List.mem_cons_of_mem _ hy)) e he
    · rename_i hr;rcases List.mem_cons.1 he with rfl|he
      · refine ⟨hg x List.mem_cons_self,?_⟩;rw [hr];rfl
      · exact num_good r n hn (fun y hy=>hg y (List.mem_cons_of_mem _ hy)) e he
theorem ofT_gd {s : ByteArray} {l : List Itm} (hp : xN s = .inr l) : LGd s.size (ofT l):=by
  obtain ⟨h1,h2⟩:=parse_good hp;refine ⟨num_good l 1 (Int.le_refl _) h1,by show (cntR l : Int) ≤ 400;omega,?_⟩;show szI (itmL (numI 1 l)) ≤ _;unfold itmL;rw [numI_items];have h3:=raws_text hp;rw [← raws_sz,← h3,yH];exact Nat.le_refl _
end Q
end Ab
end Go.Proofs.YtlbainbjlibfiaaGreatDoor
namespace Go.Proofs.YtlbainbjlibfiaaGreatDoor
open Go.RowKit
namespace Ab
set_option maxRecDepth 100000
namespace Q
theorem plays_gd {c B : Nat} {L : Lst} {s : List Edt} (h : LOk c L) (hg : LGd B L) (hm : ∀ e ∈ s,muchB e.2.2 = false) : ∀ i,i ≤ s.length → LGd (B + 24120 * i) (plays L s i)
  | 0,_=>by simpa [plays] using hg
  | i + 1,hi=>by
    rw [plays_snoc L (by omega)];have h1:=plays_ok h (fun e he=>much_ok (hm e he)) i (by omega);have h2:=doL_gd h1 (plays_gd h hg hm i (by omega)) (hm _ (yP (show i < s.length by omega) ((0 : Int),(0 : Int),([] : List Fld))));exact ⟨h2.good,h2.m4,by have:=h2.sz;omega⟩
end Q
end Ab
end Go.Proofs.YtlbainbjlibfiaaGreatDoor
namespace Go.Proofs.YtlbainbjlibfiaaGreatDoor
open Go.RowKit
namespace Ab
set_option maxRecDepth 100000
namespace Q
theorem fieldsN_c : qX Tryz.prog 30 [.one (.sl rFld []),.one (.lit (.slice none 0 0))] (ib true):=by
  have h:=fields_c [] [];rw [decide_eq_true rfl] at h;exact acall_arg (fun ok ρ w vs h=>by obtain ⟨v,t,rfl,hv,u,s,rfl,hu,hs⟩:=h;exact ⟨v,_,rfl,hv,u,s,rfl,by rw [show u = _ from hu];exact slOk_nil,hs⟩) h
theorem rlb_eq {L M : Lst} (h : M = L) : some (Ob.box 49 (toL rRL (L.1,L.2.1))) = some (Ob.box 49 (toL rRL (M.1,M.2.1))):=by rw [h]
theorem ListPlays_c (s : ByteArray) (sc : List Edt) (id : Int) : qX Tryz.prog 4 [is s,.one (.sl rEdt sc),ii .i64 id] (ib true):=by
  refine qV (rs:=[6]) Tryz.func4 rfl rfl rfl teOk rfl ?_;refine qC ?_;refine qB ?_;refine qC ?_;refine qC ?_;refine qB ?_;refine Or.inl ?_;refine zai (rfl) ?_;refine zei _ (zai (alive7_c) ?_);refine qK rfl (fun h23=>?_) (fun h23=>?_)
  ·try simp only [Bool.not_eq_true'] at h23
   try simp only [zds] at h23
   simp at h23
  ·try simp only [Bool.not_eq_false'] at h23
   try simp only [zds] at h23
   refine qN ?_;refine qC ?_;refine qC ?_;refine qB ?_;refine zai (fun h=>trivial) ?_;refine Or.inl ?_;refine zai (rfl) ?_;refine zei _ (zai (fun h=>⟨⟨⟨h,trivial⟩,trivial⟩,heavy_c sc⟩) ?_);refine zai (by first|(intro h;rw [h];rfl)|(intro h;cases h)) ?_;refine qK rfl (fun h30=>?_) (fun h30=>?_)
   ·try simp only [decide_eq_true_eq,Bool.or_eq_true] at h30
    try simp only [zds] at h30
    refine qC ?_;refine qB ?_;refine qM ?_
    first|rfl|exact ib_eq (by simp [getL,rawL])
   ·try simp only [decide_eq_false_iff_not,Bool.or_eq_false_iff,Int.not_lt] at h30
    try simp only [zds] at h30
    obtain ⟨hs3,hhv⟩:=h30;obtain ⟨hsc,hmu⟩:=heavy_ok hhv;have hfo : ∀ e ∈ sc,xE e.2.2:=(fun e he=>much_ok (hmu e he));refine qN ?_;refine qC ?_;rcases hra : xN s with e|l
    ·refine qB ?_;refine Or.inl ?_;refine zai (rfl) ?_;refine zei _ (zai (of_err s (by omega) (at_:=e.1) (n:=e.2) hra) ?_);refine qC ?_;refine qB ?_;refine Or.inl ?_;refine zai (rfl) ?_;refine zei _ (zai (refOf_err s (by omega) (at_:=e.1) (n:=e.2) hra) ?_);refine qC ?_;refine qC ?_;refine qB ?_;refine Or.inl ?_;refine zai (rfl) ?_;refine zei _ (zai (num_fault e.1 e.2 (parse_ne (at_:=e.1) hra)) ?_);refine zai (fun h=>trivial) ?_;refine Or.inl ?_;refine zai (rfl) ?_;refine zei _ (zai (fun h=>⟨⟨⟨h,trivial⟩,trivial⟩,at_fault e.1 e.2⟩) ?_);refine zai (fun h=>trivial) ?_;refine zai (fun h=>⟨⟨h,trivial⟩,⟨h,trivial⟩,trivial⟩) ?_;refine zai (by first|(intro h;rw [h];rfl)|(intro h;cases h)) ?_;refine qK rfl (fun h51=>?_) (fun h51=>?_)
     ·try simp only [decide_eq_false_iff_not,Bool.not_eq_true',Bool.or_eq_true] at h51
      try simp only [zds] at h51
      simp at h51
     ·try simp only [decide_eq_true_eq,Bool.not_eq_false',Bool.or_eq_false_iff] at h51
      try simp only [zds] at h51
      refine qN ?_;refine qC ?_;refine qC ?_;refine qB ?_;refine qK rfl (fun h53=>?_) (fun h53=>?_)
      ·try simp only [decide_eq_false_iff_not,Bool.not_eq_true'] at h53
       try simp only [zds] at h53
       refine qC ?_;refine qB ?_;refine qM ?_
       first|rfl|exact ib_eq (by simp [getL,rawL])
      ·try simp only [decide_eq_true_eq,Bool.not_eq_false'] at h53
       try simp only [zds] at h53
       exact absurd h53 (parse_ne (at_:=e.1) hra)
    ·refine qB ?_;refine Or.inr (Or.inl (zei [] (zei [] (zei _ (zei _ (zei _ (zei _ (zei _ (zai (of_ok s (by omega) hra) (zai rfl (zai True.intro (zai rfl ?_))))))))))));refine qC ?_;refine qB ?_;refine Or.inl ?_;refine zai (rfl) ?_;refine zei _ (zai (refOf_ok s (by omega) hra) ?_);refine qC ?_;refine qC ?_;refine qB ?_;refine Or.inl ?_;refine zai (rfl) ?_;refine zei _ (zai (num_nil) ?_);refine zai (fun h=>trivial) ?_;refine Or.inl ?_;refine zai (rfl) ?_;refine zei _ (zai (fun h=>⟨⟨⟨h,trivial⟩,trivial⟩,at_nil⟩) ?_);refine zai (fun h=>trivial) ?_;refine zai (fun h=>⟨⟨h,trivial⟩,⟨h,trivial⟩,trivial⟩) ?_;refine zai (by first|(intro h;rw [h];rfl)|(intro h;cases h)) ?_;refine qK rfl (fun h51=>?_) (fun h51=>?_)
     ·try simp only [decide_eq_false_iff_not,Bool.not_eq_true',Bool.or_eq_true] at h51
      try simp only [zds] at h51
      simp at h51
     ·try simp only [decide_eq_true_eq,Bool.not_eq_false',Bool.or_eq_false_iff] at h51
      try simp only [zds] at h51
      refine qN ?_;refine qC ?_;refine qC ?_;refine qB ?_;refine qK rfl (fun h53=>?_) (fun h53=>?_)
      ·try simp only [decide_eq_false_iff_not,Bool.not_eq_true'] at h53
       try simp only [zds] at h53
       simp at h53
      ·try simp only [decide_eq_true_eq,Bool.not_eq_false'] at h53
       try simp only [zds] at h53
       have hlk:=of_lok (by omega) hra;have hgd:=ofT_gd hra;obtain ⟨L0,hL0⟩ : ∃ L0,ofT l = L0:=⟨_,rfl⟩;have hRL : ((numI 1 l,1 + (cntR l : Int)) : RLs) = (L0.1,L0.2.1):=(by rw [← hL0];rfl);rw [hL0] at hlk hgd ⊢;rw [hRL];refine qN ?_;refine qC ?_;refine qC ?_;refine qB ?_;intro l11_1
       try simp only [zds] at l11_1
       refine qP ?_;refine qU (fun (i : Nat)=>i ≤ sc.length) (fun (i : Nat)=>[(2,ii .i64 id),(7,.one (.own 0 0)),(9,.one (.own 2 0)),(56,.one (.sl rEdt sc)),(57,ii .i64 sc.length),(58,ii .i64 i)]) (fun (i : Nat)=>[(0,.box 109 [.vec 1,.lit (.int .i64 (plays L0 sc i).2.1),.lit (.int .i64 (plays L0 sc i).2.2)]),(1,.vec 111 rEnt (plays L0 sc i).1),(2,.box 49 (toL rRL ((plays L0 sc i).1,(plays L0 sc i).2.1)))]) 3 (fun (i : Nat)=>sc.length - i) 0 (Nat.zero_le _) (qQ ⟨rfl,rfl,rfl,rfl,rfl,rfl⟩ ⟨rfl,rfl,rfl⟩ rfl) ?_;intro i hI0;have hLi:=plays_ok hlk hfo i hI0;have hGi:=plays_gd hlk hgd hmu i hI0;refine qC ?_;refine qB ?_;refine qC ?_;refine qK rfl (fun h59=>?_) (fun h59=>?_)
       ·try simp only [decide_eq_true_eq] at h59
        try simp only [zds] at h59
        have hil : i < sc.length:=(by omega);have hsn:=plays_snoc L0 hil;have hfe:=hfo _ (yP hil ((0 : Int),(0 : Int),([] : List Fld)));have hLx:=hLi.next;have hLl:=hLi.len;obtain ⟨b,hdo,hbt⟩:=do_ref (plays L0 sc i) ((plays L0 sc i).1,(plays L0 sc i).2.1) (sc.getD i ((0 : Int),(0 : Int),([] : List Fld))) hLi (by omega) hfe (by show (plays L0 sc i).1.length ≤ 1000000;omega) (by show 0 ≤ (plays L0 sc i).2.1 ∧ (plays L0 sc i).2.1 ≤ 1000000000;omega);rw [hbt rfl,refDo_eq hLi] at hdo;have hLd:=doL_ok hLi hfe;have hGd:=doL_gd hLi hGi (hmu _ (yP hil ((0 : Int),(0 : Int),([] : List Fld))));have hGs:=hGd.sz;refine qN ?_;refine qC ?_;refine qP ?_;refine qC ?_;refine qB ?_;refine zai (by first|omega|assumption|decide|(simp only [zds];omega)|(simp <;> omega)) ?_;refine qC ?_;refine qB ?_;refine Or.inr (Or.inl (zei [] (zei [0,1] (zei _ (zei _ (zei _ (zei _ (zei _ (zai (hdo) (zai rfl (zai (zai (zai rfl rfl) (zai (zai rfl rfl) True.intro)) (zai rfl ?_))))))))))));refine qC ?_;refine qB ?_;refine qC ?_;refine qB ?_;refine zai (fun h=>trivial) ?_;refine zai (fun h=>trivial) ?_;refine Or.inl ?_;refine zai (rfl) ?_;refine zei _ (zai (fun h=>⟨⟨⟨h,trivial⟩,⟨h,trivial⟩,trivial⟩,stands_c (doL (plays L0 sc i) (sc.getD i ((0 : Int),(0 : Int),([] : List Fld)))).1 (doL (plays L0 sc i) (sc.getD i ((0 : Int),(0 : Int),([] : List Fld)))).2.1 (doL (plays L0 sc i) (sc.getD i ((0 : Int),(0 : Int),([] : List Fld)))).2.2 hLd (by omega) (by omega)⟩) ?_);refine zai (fun h=>⟨⟨h,trivial⟩,trivial⟩) ?_;refine zai (by first|(intro h;rw [h];rfl)|(intro h;cases h)) ?_;refine qK rfl (fun h77=>?_) (fun h77=>?_)
        ·try simp only [Bool.not_eq_true',Bool.or_eq_true] at h77
         try simp only [zds] at h77
         simp at h77
        ·try simp only [Bool.not_eq_false',Bool.or_eq_false_iff] at h77
         try simp only [zds] at h77
         refine qN ?_;refine qB ?_;refine zai (by first|omega|assumption|decide|(simp only [zds];omega)|(simp <;> omega)) ?_;exact ⟨i + 1,by omega,by first|omega|(simp <;> omega),qQ ⟨rfl,rfl,rfl,rfl,rfl,(qT (by omega))⟩ ⟨(lsbox_eq hsn),(lsvec_eq hsn),(rlb_eq hsn)⟩ rfl⟩
       ·try simp only [decide_eq_false_iff_not,Int.not_lt] at h59
        try simp only [zds] at h59
        refine qW ?_;obtain ⟨M,hM⟩ : ∃ M,plays L0 sc i = M:=⟨_,rfl⟩;rw [hM] at hLi hGi ⊢;have hMl:=hLi.len;have hMs:=hGi.sz;have hg:=get_c (k:=1) M.1 M.2.1 M.2.2 id hLi.f1;have hr:=raw_c (k:=1) M.1 M.2.1 M.2.2 id;refine qC ?_;rcases Decidable.em (atE M.1 id < 0) with hat|hat
        ·refine qB ?_;refine Or.inr (Or.inr (Or.inl ?_));refine zai rfl ?_;refine zei _ (zai ((by rw [if_pos hat,decide_eq_false (show ¬ 0 ≤ atE M.1 id by omega)] at hg;exact hg)) ?_);refine qC ?_;refine qB ?_;refine Or.inr (Or.inr (Or.inl ?_));refine zai rfl ?_;refine zei _ (zai ((by rw [if_pos hat,decide_eq_false (show ¬ 0 ≤ atE M.1 id by omega)] at hr;exact hr)) ?_);refine qC ?_;refine qB ?_;refine Or.inl ?_;refine zai (rfl) ?_;refine zei _ (zai (refGet_no M.1 M.2.1 id hat) ?_);refine qC ?_;refine acode_draw rfl (by kernel_rfl) ?_;refine zai (rfl) ?_;refine zei _ (zai (stands_c M.1 M.2.1 M.2.2 hLi (by omega) (by omega)) ?_);refine zai (fun h=>trivial) ?_;refine zai (fun h=>trivial) ?_;refine zai (fun h=>⟨⟨h,trivial⟩,⟨h,trivial⟩,trivial⟩) ?_;refine zai (by exact fun h=>h) ?_;refine zai (fun h=>trivial) ?_;refine zai (fun h=>trivial) ?_;refine zai (fun h=>⟨⟨h,trivial⟩,⟨h,trivial⟩,trivial⟩) ?_;refine zai (by exact fun h=>h) ?_;refine zai (fun h=>trivial) ?_;refine zai (fun h=>trivial) ?_;refine zai (fun h=>⟨⟨h,trivial⟩,trivial⟩) ?_;refine zai (fun h=>⟨⟨h,trivial⟩,⟨h,trivial⟩,trivial⟩) ?_;refine zai (by exact fun h=>h) ?_;refine zai (fun h=>trivial) ?_;refine zai (fun h=>trivial) ?_;refine zai (fun h=>⟨⟨h,trivial⟩,trivial⟩) ?_;refine zai (rfl) ?_;refine zei _ (zai (fun h=>⟨⟨⟨h,trivial⟩,⟨h,trivial⟩,trivial⟩,fieldsN_c⟩) ?_);refine zai (by exact fun h=>h) ?_;refine zai (fun h=>trivial) ?_;refine zai (fun h=>trivial) ?_;refine zai (rfl) ?_;refine zei _ (zai (fun h=>⟨⟨⟨h,trivial⟩,⟨h,trivial⟩,trivial⟩,placeL_c M.1 M.2.1 M.2.2 id (by omega)⟩) ?_);refine zai (fun h=>trivial) ?_;refine zai (fun h=>trivial) ?_;refine zai (rfl) ?_;refine zei _ (zai (fun h=>⟨⟨⟨h,trivial⟩,⟨h,trivial⟩,trivial⟩,refPlc_c M.1 M.2.1 id (by omega)⟩) ?_);refine zai (fun h=>⟨⟨h,trivial⟩,⟨h,trivial⟩,trivial⟩) ?_;refine zai (by exact fun h=>h) ?_;refine qM ?_
         first|rfl|exact ib_eq (by simp [])
        ·refine qB ?_;refine Or.inr (Or.inr (Or.inl ?_));refine zai rfl ?_;refine zei _ (zai ((by rw [if_neg hat,decide_eq_true (show 0 ≤ atE M.1 id by omega)] at hg;exact hg)) ?_);refine qC ?_;refine qB ?_;refine Or.inr (Or.inr (Or.inl ?_));refine zai rfl ?_;refine zei _ (zai ((by rw [if_neg hat,decide_eq_true (show 0 ≤ atE M.1 id by omega)] at hr;exact hr)) ?_);refine qC ?_;refine qB ?_;refine Or.inl ?_;refine zai (rfl) ?_;refine zei _ (zai (refGet_c M.1 M.2.1 id hat) ?_);refine qC ?_;refine acode_draw rfl (by kernel_rfl) ?_;refine zai (rfl) ?_;refine zei _ (zai (stands_c M.1 M.2.1 M.2.2 hLi (by omega) (by omega)) ?_);refine zai (fun h=>trivial) ?_;refine zai (fun h=>trivial) ?_;refine zai (fun h=>⟨⟨h,trivial⟩,⟨h,trivial⟩,trivial⟩) ?_;refine zai (by exact fun h=>h) ?_;refine zai (fun h=>trivial) ?_;refine zai (fun h=>trivial) ?_;refine zai (fun h=>⟨⟨h,trivial⟩,⟨h,trivial⟩,trivial⟩) ?_;refine zai (by exact fun h=>h) ?_;refine zai (fun h=>trivial) ?_;refine zai (fun h=>trivial) ?_;refine zai (fun h=>⟨⟨h,trivial⟩,trivial⟩) ?_;refine zai (fun h=>⟨⟨h,trivial⟩,⟨h,trivial⟩,trivial⟩) ?_;refine zai (by exact fun h=>h) ?_;refine zai (fun h=>trivial) ?_;refine zai (fun h=>trivial) ?_;refine zai (fun h=>⟨⟨h,trivial⟩,trivial⟩) ?_;refine zai (rfl) ?_;refine zei _ (zai (fun h=>⟨⟨⟨h,trivial⟩,⟨h,trivial⟩,trivial⟩,fields_c _ _⟩) ?_);refine zai (by exact fun h=>h) ?_;refine zai (fun h=>trivial) ?_;refine zai (fun h=>trivial) ?_;refine zai (rfl) ?_;refine zei _ (zai (fun h=>⟨⟨⟨h,trivial⟩,⟨h,trivial⟩,trivial⟩,placeL_c M.1 M.2.1 M.2.2 id (by omega)⟩) ?_);refine zai (fun h=>trivial) ?_;refine zai (fun h=>trivial) ?_;refine zai (rfl) ?_;refine zei _ (zai (fun h=>⟨⟨⟨h,trivial⟩,⟨h,trivial⟩,trivial⟩,refPlc_c M.1 M.2.1 id (by omega)⟩) ?_);refine zai (fun h=>⟨⟨h,trivial⟩,⟨h,trivial⟩,trivial⟩) ?_;refine zai (by exact fun h=>h) ?_;refine qM ?_
         first|rfl|exact ib_eq (by simp [getL,rawL])
end Q
end Ab
end Go.Proofs.YtlbainbjlibfiaaGreatDoor
namespace Go.Proofs.YtlbainbjlibfiaaGreatDoor
open Go.RowKit
namespace Ab
set_option maxRecDepth 100000
theorem o_str : Opens Tryz.prog 9 .str:=opens_str Tryz.underlying9 (by kernel_rfl)
theorem o_int : Opens Tryz.prog 3 (.int .i64):=opens_int Tryz.underlying3 (by kernel_rfl)
theorem o_field : Opens Tryz.prog 73 (.st .str .str):=opens_st Tryz.underlying73 (by kernel_rfl) (.cons rfl o_str (.one rfl o_str))
theorem o_fields : Opens Tryz.prog 40 (.sl (.st .str .str)):=opens_sl (by decide) Tryz.underlying40 (by kernel_rfl) o_field
theorem globAt {W : World} (h : W.ShapedOpen Tryz.prog) : GlobAt AllOk W:=by
  have hc : GlobCell W:=cell_of_shapedOpen_int (g:=0) (t:=3) (zero:=#[.int .i64 0]) h (of_decide_eq_true (by kernel_rfl)) (by kernel_rfl) rfl (by kernel_rfl) (by kernel_rfl) Tryz.underlying3;refine ⟨trivial,?_,hc⟩;obtain ⟨m,hm⟩:=hc;rcases Nat.lt_or_ge 0 W.heap.size with h1|h1
  · exact h1
  · exfalso
    simp only [World.cell?,Array.getElem?_eq_none h1] at hm;cases hm
end Ab
end Go.Proofs.YtlbainbjlibfiaaGreatDoor
namespace Go.Proofs.YtlbainbjlibfiaaGreatDoor
open Go.RowKit
namespace Ab
set_option maxRecDepth 100000
theorem o_edit : Opens Tryz.prog 54 (.st (.int .i64) (.st (.int .i64) (.sl (.st .str .str)))):=opens_st Tryz.underlying54 (by kernel_rfl) (.cons rfl o_int (.cons rfl o_int (.one rfl o_fields)))
theorem o_edits : Opens Tryz.prog 45 (.sl (.st (.int .i64) (.st (.int .i64) (.sl (.st .str .str))))):=opens_sl (by decide) Tryz.underlying45 (by kernel_rfl) o_edit
theorem open_edits {H : Type} {enc : TypeId × Value → H} {W : World} {base : Nat} {v : Value} {d : DataW H} {p : List MemPlace} (hv : Value.okWide Tryz.prog W .any base 45 v) (h : DataW.Trod enc Tryz.prog W 0 (fun _=>true) true 45 v d p) :
    ∃ xs,(C.sl (.st (.int .i64) (.st (.int .i64) (.sl (.st .str .str)))) xs).rep AllOk yL W v:=open_sl Tryz.underlying45 o_edits hv h
end Ab
end Go.Proofs.YtlbainbjlibfiaaGreatDoor
