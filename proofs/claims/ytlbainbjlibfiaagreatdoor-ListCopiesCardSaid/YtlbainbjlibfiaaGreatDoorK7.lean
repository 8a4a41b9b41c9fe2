/-
  The texts of this proof, joined: abstract values, the library, the functions of the program and what they compute (part 7). No condition.
-/
import Derived.Shelf.Vars
import Derived.KernelRfl
import Derived.Test.YtlbainbjlibfiaaGreatDoorK1
import Derived.Test.YtlbainbjlibfiaaGreatDoorK2
import Derived.Test.YtlbainbjlibfiaaGreatDoorK3
import Derived.Test.YtlbainbjlibfiaaGreatDoorK4
import Derived.Test.YtlbainbjlibfiaaGreatDoorK5
import Derived.Test.YtlbainbjlibfiaaGreatDoorK6
namespace Go.Proofs.YtlbainbjlibfiaaGreatDoor
open Go.RowKit
namespace Ab
set_option maxRecDepth 100000
namespace Q
theorem refText7_c (es : List Ent) (n : Int) (hl : es.length ≤ 1000000) (hs : szI (apartL (itmL es)) ≤ 100000000) : qW Tryz.prog 69 [.agg (toL rRL (es,n))] (is (bytes (txtL es))):=by
  refine qT (rs:=[2]) Tryz.func69 rfl rfl rfl teOk rfl ?_;refine qC ?_;refine qB ?_;refine qC ?_;refine qB ?_;refine Or.inl ?_;refine zai (rfl) ?_;refine zei _ (zai (refItms_c es n hl) ?_);refine Or.inl ?_;refine zai (rfl) ?_;refine zei _ (zai (refRender6_c (itmL es) (by unfold itmL;rw [List.length_map];omega) hs) ?_);refine qM ?_;rfl
abbrev rStzU : Rd (Int × List (Unit × Unit)):=.st (.int .i64) (.slk 7 rUnk2)
def unkS (l : List Stz) : List (Int × List (Unit × Unit)):=l.map fun x=>(x.1,x.2.map fun _=>((),()))
theorem stz_unk {ok : Oks} {w : World} {cs : List Value} {x : Stz} (h : (rStz.kd 7).is ok w cs x) : rStzU.is ok w cs (x.1,x.2.map fun _=>((),())):=by
  obtain ⟨c,d,e,h1,h2⟩:=h;exact ⟨c,d,e,h1,row_unk h2⟩
theorem unkS_at (l : List Stz) {j : Nat} (h : j < l.length) : ((unkS l).getD j ((0 : Int),([] : List (Unit × Unit)))).1 = (l.getD j ((0 : Int),([] : List Fld))).1:=by
  have h2 : j < (unkS l).length:=by unfold unkS;rw [List.length_map];exact h
  rw [← getD_get h ((0 : Int),([] : List Fld)),← getD_get h2 ((0 : Int),([] : List (Unit × Unit)))];simp [unkS]
theorem stz_live {es : List Ent} {j : Nat} (h : j < (stzL es).length) (hi : ∀ e ∈ es,0 ≤ e.2) : ¬ atE es ((stzL es).getD j ((0 : Int),([] : List Fld))).1 < 0:=by
  have h1 : j < (es.filter live).length:=by rw [← stz_len];exact h
  have h2:=List.mem_filter.1 (yK h1 (((0 : Int),ByteArray.empty,([] : List Fld)),(0 : Int)));rw [stz_at h];intro hlt;rcases at_cases es (stzOf ((es.filter live).getD j (((0 : Int),ByteArray.empty,([] : List Fld)),(0 : Int)))).1 with ⟨_,h3⟩|⟨i,_,h3,_⟩
  · exact h3 _ h2.1 (of_decide_eq_true h2.2) rfl
  · omega
theorem stands_c {c : Nat} (es : List Ent) (n m : Int) (h : LOk c (es,n,m)) (hc : c ≤ 200000) (hs : szI (itmL es) ≤ 50000000) : qW Tryz.prog 26 [.one (.adk 1 (rLst 1) (es,n,m)),.agg (toL rRL (es,n))] (ib true):=by
  have hln : es.length ≤ c:=h.len;have hf:=h.f1;have hmany : m = ((stzL es).length : Int):=by have:=h.many;rw [stz_len,← ids_len];exact this
  have hal:=apart_len (itmL es) 1;have hil : (itmL es).length = es.length:=List.length_map _;have hsa : szI (apartL (itmL es)) ≤ 100000000:=by show szI (apartK 1 (itmL es)) ≤ _;omega
  refine qT (rs:=[4]) Tryz.func26 rfl rfl rfl teOk rfl ?_;refine qC ?_;refine qB ?_;show yG _ _ _ _ _ _ _ _ _;refine acode_bag [4] [] 1 rfl rfl rfl rfl (by kernel_rfl) ?_;refine zei _ (zei _ (zei _ (zai (stanzas3L_o (k:=1) es n m (by omega) hf) (zai rfl ?_))));refine qC ?_;refine qC ?_;refine acode_draw rfl (by kernel_rfl) ?_;refine zai (rfl) ?_;refine zei _ (zai (refStz_c es n (by omega)) ?_);refine zai (rfl) ?_;refine zei _ (zai (stz7_c (κ:=1) (κ':=7) _ _) ?_);refine zai (fun h=>trivial) ?_;refine zai (rfl) ?_;refine zei _ (zai (fun h=>⟨⟨⟨h,trivial⟩,trivial⟩,itmsL_c es n m (by omega) hf⟩) ?_);refine zai (fun h=>trivial) ?_;refine zai (rfl) ?_;refine zei _ (zai (fun h=>⟨⟨⟨h,trivial⟩,trivial⟩,refItms_c es n (by omega)⟩) ?_);refine zai (rfl) ?_;refine zei _ (zai (fun h=>⟨⟨⟨h,trivial⟩,⟨h,trivial⟩,trivial⟩,items_c _ _⟩) ?_);refine zai (fun h=>⟨⟨h,trivial⟩,trivial⟩) ?_;refine zai (by first|(intro h;rw [h];rfl)|(intro h;cases h)) ?_;refine zai (fun h=>trivial) ?_;refine zai (rfl) ?_;refine zei _ (zai (fun h=>⟨⟨⟨h,trivial⟩,trivial⟩,textL_c es n m (by omega) hf hsa⟩) ?_);refine zai (fun h=>trivial) ?_;refine zai (rfl) ?_;refine zei _ (zai (fun h=>⟨⟨⟨h,trivial⟩,trivial⟩,refText7_c es n (by omega) hsa⟩) ?_);refine zai (fun h=>⟨⟨h,trivial⟩,⟨h,trivial⟩,trivial⟩) ?_;refine zai (by first|(intro h;rw [h];rfl)|(intro h;cases h)) ?_;refine zai (fun h=>trivial) ?_;refine zai (rfl) ?_;refine zei _ (zai (fun h=>⟨⟨⟨h,trivial⟩,trivial⟩,len_c es n m⟩) ?_);refine zai (fun h=>trivial) ?_;refine zai (fun h=>⟨⟨h,trivial⟩,trivial⟩) ?_;refine zai (fun h=>⟨⟨h,trivial⟩,⟨h,trivial⟩,trivial⟩) ?_;refine zai (by first|(intro h;rw [h];rfl)|(intro h;cases h)) ?_;refine zai (fun h=>trivial) ?_;refine zai (rfl) ?_;refine zei _ (zai (fun h=>⟨⟨⟨h,trivial⟩,trivial⟩,next_c es n m⟩) ?_);refine zai (fun h=>trivial) ?_;refine zai (fun h=>⟨⟨h,trivial⟩,trivial⟩) ?_;refine zai (fun h=>⟨⟨h,trivial⟩,⟨h,trivial⟩,trivial⟩) ?_;refine zai (by first|(intro h;rw [h];rfl)|(intro h;cases h)) ?_;refine qK rfl (fun h49=>?_) (fun h49=>?_)
  ·try simp only [decide_eq_false_iff_not,Bool.not_eq_true',Bool.or_eq_true] at h49
   try simp only [zds] at h49
   simp [hmany] at h49
  ·try simp only [decide_eq_true_eq,Bool.not_eq_false',Bool.or_eq_false_iff] at h49
   try simp only [zds] at h49
   refine qN ?_;refine qC ?_;refine qC ?_;refine acode_restate 2 (S:=rStzU) (ys:=unkS (stzL es)) rfl rfl (by simp [unkS]) (fun ok w cs j hj hj' h=>by rw [show (unkS (stzL es))[j] = (((stzL es)[j]).1,((stzL es)[j]).2.map fun _=>((),())) from List.getElem_map ..];exact stz_unk h) ?_;refine qB ?_;intro l4_1
   try simp only [zds] at l4_1
   refine qP ?_;refine qV (fun (j : Nat)=>j ≤ (unkS (stzL es)).length) (fun (j : Nat)=>[(0,.one (.adk 1 (rLst 1) (es,n,m))),(3,.one (.own 0 0)),(50,.one (.vec 2)),(51,ii .i64 (unkS (stzL es)).length),(52,ii .i64 j)]) (fun (j : Nat)=>[(0,.box 49 (toL rRL (es,n))),(2,.vec 42 rStzU (unkS (stzL es)))]) 1000003 (fun (j : Nat)=>(unkS (stzL es)).length - j) 0 (Nat.zero_le _) (qQ ⟨rfl,rfl,rfl,rfl,rfl⟩ ⟨rfl,rfl⟩ rfl) ?_;intro j hI0;refine qC ?_;refine qB ?_;refine qC ?_;refine qK rfl (fun h53=>?_) (fun h53=>?_)
   ·try simp only [decide_eq_true_eq] at h53
    try simp only [zds] at h53
    have hjl : j < (stzL es).length:=(by have h1 : j < (unkS (stzL es)).length:=(by omega);unfold unkS at h1;rw [List.length_map] at h1;exact h1);have hlv:=stz_live hjl (fun e he=>(h.ids e he).1);rw [← unkS_at (stzL es) hjl] at hlv;have hraw:=raw_c (k:=1) es n m ((unkS (stzL es)).getD j ((0 : Int),([] : List (Unit × Unit)))).1;rw [if_neg hlv,decide_eq_true (show 0 ≤ atE es ((unkS (stzL es)).getD j ((0 : Int),([] : List (Unit × Unit)))).1 by omega)] at hraw;refine qN ?_;refine qC ?_;refine qP ?_;refine qC ?_;refine qB ?_;refine zai (by first|omega|assumption|decide|(simp only [zds];omega)|(simp <;> omega)) ?_;refine zai (by omega) ?_;refine qC ?_;show yG _ _ _ _ _ _ _ _ _;refine acode_spoil 2 rfl rfl rfl (by rfl) ?_;refine zei _ (zei _ (zai rfl (zai (spoil7_c) (zai rfl (zai rfl (zai rfl ?_))))));refine qC ?_;refine qB ?_;refine Or.inr (Or.inr (Or.inr (zei [] (zei [] (zei _ (zei _ (zei _ (zei _ (zei _ (zai ((getL_o (k:=1) es n m ((unkS (stzL es)).getD j ((0 : Int),([] : List (Unit × Unit)))).1 hf hlv).x) (zai rfl (zai True.intro (zai rfl ?_)))))))))))));refine qC ?_;refine qB ?_;refine Or.inl ?_;refine zai (rfl) ?_;refine zei _ (zai (hraw) ?_);refine qC ?_;refine qB ?_;refine Or.inl ?_;refine zai (rfl) ?_;refine zei _ (zai (refGet_c es n ((unkS (stzL es)).getD j ((0 : Int),([] : List (Unit × Unit)))).1 hlv) ?_);refine qC ?_;refine qC ?_;refine acode_draw rfl (by kernel_rfl) ?_;refine zai (fun h=>trivial) ?_;refine zai (fun h=>⟨⟨h,trivial⟩,trivial⟩) ?_;refine zai (by first|(intro h;rw [h];rfl)|(intro h;cases h)) ?_;refine zai (fun h=>trivial) ?_;refine zai (fun h=>⟨⟨h,trivial⟩,trivial⟩) ?_;refine zai (by first|(intro h;rw [h];rfl)|(intro h;cases h)) ?_;refine zai (fun h=>trivial) ?_;refine zai (fun h=>trivial) ?_;refine zai (fun h=>⟨⟨h,trivial⟩,trivial⟩) ?_;refine zai (fun h=>⟨⟨h,trivial⟩,⟨h,trivial⟩,trivial⟩) ?_;refine zai (by first|(intro h;rw [h];rfl)|(intro h;cases h)) ?_;refine zai (fun h=>trivial) ?_;refine zai (fun h=>trivial) ?_;refine zai (fun h=>⟨⟨h,trivial⟩,trivial⟩) ?_;refine zai (rfl) ?_;refine zei _ (zai (fun h=>⟨⟨⟨h,trivial⟩,⟨h,trivial⟩,trivial⟩,fieldsk_c (κ:=1) _ _⟩) ?_);refine zai (fun h=>⟨⟨h,trivial⟩,trivial⟩) ?_;refine zai (by first|(intro h;rw [h];rfl)|(intro h;cases h)) ?_;refine zai (fun h=>trivial) ?_;refine zai (fun h=>trivial) ?_;refine zai (fun h=>⟨⟨h,trivial⟩,trivial⟩) ?_;refine zai (rfl) ?_;refine zei _ (zai (fun h=>⟨⟨⟨h,trivial⟩,⟨h,trivial⟩,trivial⟩,placeL_c es n m ((unkS (stzL es)).getD j ((0 : Int),([] : List (Unit × Unit)))).1 (by omega)⟩) ?_);refine zai (fun h=>trivial) ?_;refine zai (fun h=>trivial) ?_;refine zai (fun h=>⟨⟨h,trivial⟩,trivial⟩) ?_;refine zai (rfl) ?_;refine zei _ (zai (fun h=>⟨⟨⟨h,trivial⟩,⟨h,trivial⟩,trivial⟩,refPlc_c es n ((unkS (stzL es)).getD j ((0 : Int),([] : List (Unit × Unit)))).1 (by omega)⟩) ?_);refine zai (fun h=>⟨⟨h,trivial⟩,⟨h,trivial⟩,trivial⟩) ?_;refine zai (by first|(intro h;rw [h];rfl)|(intro h;cases h)) ?_;refine qK rfl (fun h113=>?_) (fun h113=>?_)
    ·try simp only [decide_eq_false_iff_not,Bool.not_eq_true',Bool.or_eq_true] at h113
     try simp only [zds] at h113
     simp [getL,rawL] at h113
    ·try simp only [decide_eq_true_eq,Bool.not_eq_false',Bool.or_eq_false_iff] at h113
     try simp only [zds] at h113
     refine qN ?_;refine qB ?_;refine Or.inr (Or.inl (zei [] (zei [1000004] (zei _ (zei _ (zei _ (zei _ (zei _ (zai (spoilF_o _ (by unfold getL;obtain ⟨i,hi,he,_⟩:=at_lt hlv;rw [he,Int.toNat_natCast];exact hf _ (yK hi (((0 : Int),ByteArray.empty,([] : List Fld)),(0 : Int))))) (zai rfl (zai (zai (zai rfl rfl) True.intro) (zai rfl ?_))))))))))));refine qB ?_;refine zai (by first|omega|assumption|decide|(simp only [zds];omega)|(simp <;> omega)) ?_;exact ⟨j + 1,by omega,by first|omega|(simp <;> omega),qQ ⟨rfl,rfl,rfl,rfl,(qU (by omega))⟩ ⟨rfl,rfl⟩ rfl⟩
   ·try simp only [decide_eq_false_iff_not,Int.not_lt] at h53
    try simp only [zds] at h53
    refine qX ?_;refine qC ?_;refine acode_draw rfl (by kernel_rfl) ?_;refine zai (rfl) ?_;refine zei _ (zai (stanzasL_c es n m (by omega) hf) ?_);refine zai (rfl) ?_;refine zei _ (zai (refStz_c es n (by omega)) ?_);refine zai (rfl) ?_;refine zei _ (zai (stz7_c (κ:=0) (κ':=0) _ _) ?_);refine qM ?_
    first|rfl|exact ib_eq (by simp)
end Q
end Ab
end Go.Proofs.YtlbainbjlibfiaaGreatDoor
namespace Go.Proofs.YtlbainbjlibfiaaGreatDoor
open Go.RowKit
namespace Ab
set_option maxRecDepth 100000
namespace Q
def BlankI (x : Itm) : Prop:=∃ t : ByteArray,x = (1,t ++ ⟨#[10]⟩,[]) ∧ qZ (ls t) = 1 ∧ (10 : UInt8) ∉ ls t
def Good1 (x : Itm) : Prop:=BlankI x ∨ (x.1 ≠ 1 ∧ Blk x)
def BIP (p : PSt) : Prop:=(∀ x ∈ p.its,x.1 = 1 → BlankI x) ∧ p.recs = (cntR p.its : Int)
theorem isRec1 (t : ByteArray) : isRec (1,t,[]) = false:=by unfold isRec;simp
theorem close_bi {p : PSt} (h : BIP p) : BIP (closeS p):=by
  unfold closeS;split
  · exact h
  · by_cases hf : p.flds = []
    · simp only [if_pos hf];refine ⟨fun x hx hx1=>?_,?_⟩
      · rcases List.mem_append.1 hx with hx|hx
        · exact h.1 x hx hx1
        · rw [List.mem_singleton.1 hx] at hx1;cases hx1
      · simp only [cntR_app];rw [h.2];simp [cntR,isRec]
    · simp only [if_neg hf];refine ⟨fun x hx hx1=>?_,?_⟩
      · rcases List.mem_append.1 hx with hx|hx
        · exact h.1 x hx hx1
        · rw [List.mem_singleton.1 hx] at hx1;cases hx1
      · simp only [cntR_app];rw [h.2];simp [cntR,isRec]
theorem flush_bi {p q : PSt} (h : BIP p) (hf : yV p = .inr q) : BIP q:=by
  unfold BIP;rw [(flush_same hf).1,flush_recs hf];exact h
theorem end_bi {p q : PSt} (h : BIP p) (hf : endS p = .inr q) : BIP q:=by
  unfold endS at hf;cases e : yV p with
  | inl x=>rw [e] at hf;cases hf
  | inr r=>rw [e] at hf;cases hf;exact close_bi (flush_bi h e)
theorem take_bi {p q : PSt} {l : Lne} (h : BIP p) (hf : yW p l = .inr q) (hn : (10 : UInt8) ∉ ls l.2.2.1) : BIP q:=by
  unfold yW at hf;cases e : yU p l (qZ (ls l.2.2.1)) with
  | inl x=>rw [e] at hf;cases hf
  | inr r =>
    rw [e] at hf;have hr : BIP r:=by
      unfold yU at e;split at e
      · split at e
        · cases e
        · split at e
          · cases e;exact h
          · exact flush_bi (p:={ p with lns:=p.lns ++ [l.2.2.1] }) h e
      · split at e
        · exact end_bi h e
        · exact flush_bi h e
    simp only at hf;unfold lineS at hf;split at hf
    · cases hf
    · split at hf
      · rename_i hk;cases hf;refine ⟨fun x hx hx1=>?_,?_⟩
        · rcases List.mem_append.1 hx with hx|hx
          · exact hr.1 x hx hx1
          · exact ⟨l.2.2.1,List.mem_singleton.1 hx,hk,hn⟩
        · simp only [cntR_app];rw [hr.2];simp [cntR,isRec1]
      · split at hf
        · cases hf;exact hr
        · cases hf;exact hr
theorem run_bi : ∀ (L : List Lne) (p q : PSt),BIP p → runS p L = .inr q → (∀ l ∈ L,(10 : UInt8) ∉ ls l.2.2.1) → BIP q
  | [],p,q,hp,h,_=>by cases h;exact hp
  | l :: r,p,q,hp,h,hn=>by
    simp only [runS] at h;cases e : yW p l with
    | inl x=>rw [e] at h;cases h
    | inr p1 =>
      rw [e] at h;exact run_bi r p1 q (take_bi hp e (hn l List.mem_cons_self)) h (fun x hx=>hn x (List.mem_cons_of_mem _ hx))
theorem parse_good {s : ByteArray} {l : List Itm} (hp : xO s = .inr l) : (∀ x ∈ l,Good1 x) ∧ cntR l ≤ 400:=by
  have hb:=parse_blks hp;unfold xO at hp;cases e : runS pst0 (yF s) with
  | inl x=>rw [e] at hp;cases hp
  | inr p =>
    rw [e] at hp;simp only at hp;cases e2 : endS p with
    | inl x=>rw [e2] at hp;cases hp
    | inr q =>
      rw [e2] at hp;cases hp;have hno : ∀ l ∈ yF s,(10 : UInt8) ∉ ls l.2.2.1:=fun l hl=>by
        have h1 : l.2.2 ∈ (yF s).map (·.2.2):=List.mem_map_of_mem hl;rw [lines_text] at h1;exact linesB_no _ _ _ h1
      have h1 : BIP q:=end_bi (run_bi _ _ _ ⟨(fun _ h=>by cases h),rfl⟩ e hno) e2;have h2:=(end_par (run_par _ _ _ ⟨[],0,[],pst0,rel_0,rfl,rfl,rfl,(fun _ h=>by cases h),(fun _ h=>by cases h)⟩ e hno) e2).2.2.2;refine ⟨fun x hx=>?_,by have:=h1.2;omega⟩
      by_cases hx1 : x.1 = 1
      · exact .inl (h1.1 x hx hx1)
      · exact .inr ⟨hx1,hb x hx hx1⟩
def HF (p : PSt) : Prop:=p.lns ≠ [] ∨ p.flds ≠ []
theorem good_itm {f : List Fld} (hc : (chkR f).2 = 0) : Good1 (itmOf f):=by
  obtain ⟨⟨g1,g2,g3⟩,_,_⟩:=chk_good hc;obtain ⟨q,e1,e2,e3,e4,e5⟩:=fields_run f pst0 [] g3 (ready_idle rfl rfl) (by simpa using g2) (by decide) g1;obtain ⟨r,q2,f1,f2,f3,f4⟩:=end_run e2 (by simpa using g1) e5;have hno : ∀ t ∈ (f.flatMap fun f=>xM f.1 f.2),(10 : UInt8) ∉ ls t:=fun t ht=>by
    obtain ⟨y,hy,ht⟩:=List.mem_flatMap.1 ht;exact lines_no (v:=y.2.data.toList) (check_ok (g3 y hy)).1 (ls t) (by rw [← lineB_map2];exact List.mem_map_of_mem ht)
  have hL : ∀ l ∈ (f.flatMap fun f=>xM f.1 f.2).map mkL,l.2.2.2 = true ∧ (10 : UInt8) ∉ ls l.2.2.1:=fun l hl=>by
    obtain ⟨t,ht,rfl⟩:=List.mem_map.1 hl;exact ⟨rfl,hno t ht⟩
  have hgl : glue (((f.flatMap fun f=>xM f.1 f.2).map mkL).map (·.2.2)) = foldL f:=by rw [glue_mk,endL_flat]
  rw [List.nil_append] at f3;have e3' : q.its = []:=e3;rw [e3',List.nil_append] at f3;have hp:=parse_of (lines_of hL) e1 f1;rw [hgl,f3] at hp;have hr:=raws_text hp;have hrr : r = bytes (foldL f):=by
    have h1 : rawsL [((3 : Int),r,f)] = foldL f:=by
      have:=congrArg (fun b : ByteArray=>b.data.toList) hr
      simpa [bytes] using this
    have h2 : ls r = foldL f:=by simpa [rawsL] using h1
    exact ls_inj h2
  refine .inr ⟨by show (3 : Int) ≠ 1;decide,_,q,q2,hL,e1,e3',e4,f1,?_,?_⟩
  · rw [f3,hrr];rfl
  · rw [hgl];exact (yA _).symm
end Q
end Ab
end Go.Proofs.YtlbainbjlibfiaaGreatDoor
namespace Go.Proofs.YtlbainbjlibfiaaGreatDoor
open Go.RowKit
namespace Ab
set_option maxRecDepth 100000
namespace Q
structure LGd (B : Nat) (L : Lst) : Prop where
  good : ∀ e ∈ L.1,Good1 e.1 ∧ isRec e.1 = live e
  m4 : L.2.2 ≤ 400
  sz : szI (itmL L.1) ≤ B
theorem itmL_app (a b : List Ent) : itmL (a ++ b) = itmL a ++ itmL b:=List.map_append
theorem sz_cons (x : Itm) (l : List Itm) : szI (x :: l) = x.2.1.size + szI l:=by simp [szI]
theorem sz_split (es : List Ent) (i : Nat) : szI (itmL es) = szI (itmL (es.take i)) + szI (itmL (es.drop i)):=by
  conv=>lhs;rw [← List.take_append_drop i es,itmL_app,szI_app]
theorem sz_repl {es : List Ent} {i : Nat} {x : Itm} (h : i < es.length) : szI (itmL (replE es i x)) ≤ szI (itmL es) + x.2.1.size:=by
  have e1 : replE es i x = es.take i ++ (x,(es.getD i (((0 : Int),ByteArray.empty,([] : List Fld)),(0 : Int))).2) :: es.drop (i + 1):=List.set_eq_take_append_cons_drop .. |>.trans (if_pos h)
  rw [e1,itmL_app,szI_app];have e2 : itmL ((x,(es.getD i (((0 : Int),ByteArray.empty,([] : List Fld)),(0 : Int))).2) :: es.drop (i + 1)) = x :: itmL (es.drop (i + 1)):=rfl;have e3 : itmL ((es.getD i (((0 : Int),ByteArray.empty,([] : List Fld)),(0 : Int))) :: es.drop (i + 1)) = (es.getD i (((0 : Int),ByteArray.empty,([] : List Fld)),(0 : Int))).1 :: itmL (es.drop (i + 1)):=rfl;have e4:=congrArg (fun l=>szI (itmL l)) (del_split h);simp only [itmL_app,szI_app,e3,sz_cons] at e4;rw [e2,sz_cons];omega
theorem sz_del {es : List Ent} {i : Nat} : szI (itmL (delE es i)) ≤ szI (itmL es):=by
  unfold delE;rw [itmL_app,szI_app,sz_split es i];have:=sz_split (es.drop i) 1;rw [List.drop_drop] at this;rw [show i + 1 = i + 1 from rfl];omega
theorem sz_ins {es : List Ent} {i : Nat} {x : Ent} : szI (itmL (insE es i x)) = szI (itmL es) + x.1.2.1.size:=by
  unfold insE;rw [itmL_app,szI_app,sz_split es i];have e2 : itmL (x :: es.drop i) = x.1 :: itmL (es.drop i):=rfl;rw [e2,sz_cons];omega
theorem itm_sz {f : List Fld} (hm : muchB f = false) (hc : (chkR f).2 = 0) : (itmOf f).2.1.size ≤ 24120:=by
  obtain ⟨⟨_,g2,_⟩,g4,_⟩:=chk_good hc;exact foldB_size hm g4 g2
theorem doL_gd {c B : Nat} {L : Lst} {e : Edt} (h : LOk c L) (hg : LGd B L) (hm : muchB e.2.2 = false) : LGd (B + 24120) (doL L e):=by
  have h0 : LGd (B + 24120) L:=⟨hg.good,hg.m4,by have:=hg.sz;omega⟩;have hat : ∀ id,¬ atE L.1 id < 0 → ∃ i : Nat,i < L.1.length ∧ atE L.1 id = i ∧ 0 < id ∧ (L.1.getD i (((0 : Int),ByteArray.empty,([] : List Fld)),(0 : Int))).2 = id:=fun id hn=>by
    rcases at_cases L.1 id with ⟨h1,_⟩|⟨i,h1,h2,h3,h4,_⟩
    · omega
    · exact ⟨i,h1,h2,h3,h4⟩
  unfold doL;split
  · split
    · exact h0
    · rename_i hn;obtain ⟨i,hi,he,hp,hid⟩:=hat _ hn;rw [he,Int.toNat_natCast];split
      · exact h0
      · rename_i hc;have hc : (chkR e.2.2).2 = 0:=Classical.not_not.1 hc;refine ⟨fun x hx=>?_,hg.m4,?_⟩
        · rcases mem_repl hx with hx|rfl
          · exact hg.good x hx
          · refine ⟨good_itm hc,?_⟩;show true = live _;unfold live;rw [decide_eq_true (by simp only;omega)]
        · have:=sz_repl (x:=itmOf e.2.2) hi;have:=itm_sz hm hc;have:=hg.sz;show szI (itmL (replE L.1 i (itmOf e.2.2))) ≤ _;omega
  · split
    · split
      · exact h0
      · rename_i hn;obtain ⟨i,hi,he,hp,hid⟩:=hat _ hn;rw [he,Int.toNat_natCast];refine ⟨fun x hx=>hg.good x (mem_del hx),by have:=hg.m4;show L.2.2 - 1 ≤ 400;omega,?_⟩;have:=sz_del (es:=L.1) (i:=i);have:=hg.sz;show szI (itmL (delE L.1 i)) ≤ _;omega
    · split
      · exact h0
      · rename_i hn;split
        · exact h0
        · rename_i hc;have hc : (chkR e.2.2).2 = 0:=Classical.not_not.1 hc;split
          · exact h0
          · rename_i h4;refine ⟨fun x hx=>?_,by show L.2.2 + 1 ≤ 400;omega,?_⟩
            · rcases mem_ins hx with hx|rfl
              · exact hg.good x hx
              · refine ⟨good_itm hc,?_⟩;have:=h.next.1;show true = live _;unfold live;rw [decide_eq_true (by simp only;omega)]
            · show szI (itmL (insE L.1 _ _)) ≤ _;rw [sz_ins];have:=itm_sz hm hc;have:=hg.sz;simp only;omega
theorem num_good : ∀ (l : List Itm) (n : Int),1 ≤ n → (∀ x ∈ l,Good1 x) → ∀ e ∈ numI n l,Good1 e.1 ∧ isRec e.1 = live e
  | [],_,_,_,e,he=>by cases he
  | x :: r,n,hn,hg,e,he=>by
    unfold numI at he;split at he
    · rename_i hr;rcases List.mem_cons.1 he with rfl|he
      · refine ⟨hg x List.mem_cons_self,?_⟩;rw [hr];unfold live;rw [decide_eq_true (by simp only;omega)]
      · exact num_good r (n + 1) (by omega) (fun y hy=>hg y (List.mem_cons_of_mem _ hy)) e he
    · rename_i hr;rcases List.mem_cons.1 he with rfl|he
      · refine ⟨hg x List.mem_cons_self,?_⟩;rw [hr];rfl
      · exact num_good r n hn (fun y hy=>hg y (List.mem_cons_of_mem _ hy)) e he
theorem ofT_gd {s : ByteArray} {l : List Itm} (hp : xO s = .inr l) : LGd s.size (ofT l):=by
  obtain ⟨h1,h2⟩:=parse_good hp;refine ⟨num_good l 1 (Int.le_refl _) h1,by show (cntR l : Int) ≤ 400;omega,?_⟩;show szI (itmL (numI 1 l)) ≤ _;unfold itmL;rw [numI_items];have h3:=raws_text hp;rw [← raws_sz,← h3,yI];exact Nat.le_refl _
end Q
end Ab
end Go.Proofs.YtlbainbjlibfiaaGreatDoor
namespace Go.Proofs.YtlbainbjlibfiaaGreatDoor
open Go.RowKit
namespace Ab
set_option maxRecDepth 100000
namespace Q
theorem plays_gd {c B : Nat} {L : Lst} {s : List Edt} (h : LOk c L) (hg : LGd B L) (hm : ∀ e ∈ s,muchB e.2.2 = false) : ∀ i,i ≤ s.length → LGd (B + 24120 * i) (xL L s i)
  | 0,_=>by simpa [xL] using hg
  | i + 1,hi=>by
    rw [plays_snoc L (by omega)];have h1:=plays_ok h (fun e he=>much_ok (hm e he)) i (by omega);have h2:=doL_gd h1 (plays_gd h hg hm i (by omega)) (hm _ (yK (show i < s.length by omega) ((0 : Int),(0 : Int),([] : List Fld))));exact ⟨h2.good,h2.m4,by have:=h2.sz;omega⟩
end Q
end Ab
end Go.Proofs.YtlbainbjlibfiaaGreatDoor
namespace Go.Proofs.YtlbainbjlibfiaaGreatDoor
open Go.RowKit
namespace Ab
set_option maxRecDepth 100000
namespace Q
theorem rlb_eq {L M : Lst} (h : M = L) : some (Ob.box 49 (toL rRL (L.1,L.2.1))) = some (Ob.box 49 (toL rRL (M.1,M.2.1))):=by rw [h]
end Q
end Ab
end Go.Proofs.YtlbainbjlibfiaaGreatDoor
namespace Go.Proofs.YtlbainbjlibfiaaGreatDoor
open Go.RowKit
namespace Ab
set_option maxRecDepth 100000
namespace Q
theorem delN_c (id : Int) : qW Tryz.prog 15 [.one (.lit (.pointer none)),ii .i64 id] (.one (errN 7)):=by
  refine qT (rs:=[4]) Tryz.func15 rfl rfl rfl teOk rfl ?_;refine qC ?_;refine qB ?_;refine qC ?_;refine qB ?_;refine Or.inl ?_;refine zai (rfl) ?_;refine zei _ (zai (atN_c id) ?_);refine qC ?_;refine qC ?_;refine qB ?_;refine qK rfl (fun h10=>?_) (fun h10=>?_)
  ·try simp only [decide_eq_true_eq] at h10
   try simp only [zds] at h10
   refine qC ?_;refine qB ?_;refine qM ?_;rfl
  ·try simp only [decide_eq_false_iff_not,Int.not_lt] at h10
   try simp only [zds] at h10
   simp at h10
theorem repN_c (id : Int) : qW Tryz.prog 35 [.one (.lit (.pointer none)),ii .i64 id,.one (.lit (.slice none 0 0))] (.one (errN 7)):=by
  refine qT (rs:=[6]) Tryz.func35 rfl rfl rfl teOk rfl ?_;refine qC ?_;refine qB ?_;refine qC ?_;refine qB ?_;refine Or.inl ?_;refine zai (rfl) ?_;refine zei _ (zai (atN_c id) ?_);refine qC ?_;refine qC ?_;refine qB ?_;refine qK rfl (fun h14=>?_) (fun h14=>?_)
  ·try simp only [decide_eq_true_eq] at h14
   try simp only [zds] at h14
   refine qC ?_;refine qB ?_;refine qM ?_;rfl
  ·try simp only [decide_eq_false_iff_not,Int.not_lt] at h14
   try simp only [zds] at h14
   simp at h14
theorem insN_c (id : Int) (f : List Fld) : qW Tryz.prog 33 [.one (.lit (.pointer none)),ii .i64 id,.one (.sl rFld f)] (.tup [(false,[.lit (.int .i64 0)]),(false,[errN 7])]):=by
  refine qT (rs:=[6,7]) Tryz.func33 rfl rfl rfl teOk rfl ?_;refine qC ?_;refine qB ?_;refine qC ?_;refine qB ?_;refine Or.inl ?_;refine zai (rfl) ?_;refine zei _ (zai (atN_c id) ?_);refine qC ?_;refine qC ?_;refine qB ?_;refine zai (fun h=>trivial) ?_;refine zai (fun h=>⟨⟨h,trivial⟩,trivial⟩) ?_;refine zai (fun h=>⟨⟨h,trivial⟩,trivial⟩) ?_;refine zai (fun h=>trivial) ?_;refine zai (fun h=>⟨⟨h,trivial⟩,trivial⟩) ?_;refine zai (fun h=>⟨⟨⟨h,trivial⟩,trivial⟩,by first|exact fun h2=>h2|(intro h2;rw [h,h2];rfl)|(intro h2;cases h2)|(intro h2;simp_all [gq])⟩) ?_;refine zai (by first|(intro h;rw [h];rfl)|(intro h;cases h)) ?_;refine qK rfl (fun h24=>?_) (fun h24=>?_)
  ·try simp only [decide_eq_true_eq,decide_eq_false_iff_not,Bool.and_eq_true,Bool.not_eq_true',Bool.or_eq_true] at h24
   try simp only [zds] at h24
   refine qC ?_;refine qB ?_;refine qM ?_;rfl
  ·try simp only [decide_eq_true_eq,decide_eq_false_iff_not,Bool.not_eq_false',Bool.or_eq_false_iff,Bool.and_eq_false_iff,Int.not_lt] at h24
   try simp only [zds] at h24
   simp at h24
theorem getN_c (id : Int) : qW Tryz.prog 27 [.one (.lit (.pointer none)),ii .i64 id] (.tup [(false,[.lit (.slice none 0 0)]),(false,[.lit (.bool false)])]):=by
  refine qT (rs:=[4,5]) Tryz.func27 rfl rfl rfl teOk rfl ?_;refine qC ?_;refine qB ?_;refine qC ?_;refine qB ?_;refine Or.inl ?_;refine zai (rfl) ?_;refine zei _ (zai (atN_c id) ?_);refine qC ?_;refine qC ?_;refine qB ?_;refine qK rfl (fun h11=>?_) (fun h11=>?_)
  ·try simp only [decide_eq_true_eq] at h11
   try simp only [zds] at h11
   refine qC ?_;refine qB ?_;refine qM ?_;rfl
  ·try simp only [decide_eq_false_iff_not,Int.not_lt] at h11
   try simp only [zds] at h11
   simp at h11
theorem rawN_c (id : Int) : qW Tryz.prog 28 [.one (.lit (.pointer none)),ii .i64 id] (.tup [(false,[.lit (.string ⟨#[]⟩)]),(false,[.lit (.bool false)])]):=by
  refine qT (rs:=[4,5]) Tryz.func28 rfl rfl rfl teOk rfl ?_;refine qC ?_;refine qB ?_;refine qC ?_;refine qB ?_;refine Or.inl ?_;refine zai (rfl) ?_;refine zei _ (zai (atN_c id) ?_);refine qC ?_;refine qC ?_;refine qB ?_;refine qK rfl (fun h11=>?_) (fun h11=>?_)
  ·try simp only [decide_eq_true_eq] at h11
   try simp only [zds] at h11
   refine qC ?_;refine qB ?_;refine qM ?_;rfl
  ·try simp only [decide_eq_false_iff_not,Int.not_lt] at h11
   try simp only [zds] at h11
   simp at h11
theorem placeN_c7 (id : Int) : qW Tryz.prog 16 [.one (.lit (.pointer none)),ii .i64 id] (ii .i64 (-1)):=by
  refine yY (rs:=[.cell 4 3]) Tryz.func16 rfl rfl rfl teOk rfl ?_;refine qC ?_;refine qB ?_;refine qC ?_;refine qB ?_;refine qC ?_;refine qC ?_;refine qB ?_;refine Or.inl ?_;refine zai (rfl) ?_;refine zei _ (zai (allN_c) ?_);refine qP ?_;refine acode_range (caps:=[.one (.ref (.lit (.pointer none)))]) (xs:=[]) [(3,.one (.own 0 0)),(4,.one (.own 1 0)),(5,.one (.own 2 0)),(8,.one (.clo 93 (.ref (.lit (.pointer none)))))] 3 (fun st j (x : Int)=>st = false ∧ x = 0) (fun x=>[(0,.box 3 [.lit (.int .i64 id)]),(1,.box 3 [.lit (.int .i64 x)]),(2,.box 3 [.lit (.int .i64 0)])]) (fun _=>.ret) (0 : Int) rfl rfl allN_iter (qQ ⟨rfl,rfl,rfl,rfl⟩ ⟨rfl,rfl,rfl⟩ rfl) ⟨rfl,rfl⟩ (fun j hj=>by simp at hj) rfl rfl rfl (fun _ _ _=>rfl) rfl ?_ ?_ ?_
  ·intro j x hk hp;simp at hk
  ·intro x hp;refine qC ?_;refine qB ?_;refine qM ?_;exact rfl
  ·intro j x hp;exact absurd hp.1 (by decide)
theorem textN_c : qW Tryz.prog 39 [.one (.lit (.pointer none))] (is ByteArray.empty):=by
  have h:=render_c [] [] (by decide) (by decide) (apart_c [] (by decide) (fun _ h=>by cases h));have h':=acall_arg (xs:=[.one (.lit (.slice none 0 0))]) (fun ok ρ w vs h=>by obtain ⟨v,t,rfl,hv,ht⟩:=h;exact ⟨v,t,rfl,by rw [show v = _ from hv];exact slOk_nil,ht⟩) h;refine qT (rs:=[2]) Tryz.func39 rfl rfl rfl teOk rfl ?_;refine qC ?_;refine qB ?_;refine qC ?_;refine qB ?_;refine Or.inl ?_;refine zai (rfl) ?_;refine zei _ (zai (itmsN_c) ?_);refine Or.inl ?_;refine zai (rfl) ?_;refine zei _ (zai (h') ?_);refine qM ?_;rfl
theorem copyN_c : qW Tryz.prog 32 [.one (.lit (.pointer none))] (.one (.lit (.pointer none))):=by
  refine qT (rs:=[2]) Tryz.func32 rfl rfl rfl teOk rfl ?_;refine qC ?_;refine qB ?_;refine qC ?_;refine qC ?_;refine qB ?_;refine qK rfl (fun h4=>?_) (fun h4=>?_)
  ·try simp only [Bool.not_eq_true'] at h4
   try simp only [zds] at h4
   refine qC ?_;refine qB ?_;refine qM ?_;rfl
  ·try simp only [Bool.not_eq_false'] at h4
   try simp only [zds] at h4
   simp at h4
theorem isNoneL_c : qW Tryz.prog 34 [.one (errN 7),ii .i64 7] (ib true):=by
  refine qT (rs:=[4]) Tryz.func34 rfl rfl rfl teOk rfl ?_;refine qC ?_;refine qB ?_;refine qC ?_;refine qB ?_;refine Or.inl ?_;refine zai (rfl) ?_;refine zei _ (zai (num_errno 7 (by decide)) ?_);refine qM ?_;rfl
end Q
end Ab
end Go.Proofs.YtlbainbjlibfiaaGreatDoor
namespace Go.Proofs.YtlbainbjlibfiaaGreatDoor
open Go.RowKit
namespace Ab
set_option maxRecDepth 100000
namespace Q
theorem lsboxk_eq (k : Nat) {L M : Lst} (h : M = L) : some (Ob.box 109 [.vec k,.lit (.int .i64 L.2.1),.lit (.int .i64 L.2.2)]) = some (Ob.box 109 [.vec k,.lit (.int .i64 M.2.1),.lit (.int .i64 M.2.2)]):=by rw [h]
theorem ListCopies_c (s : ByteArray) (sa sb : List Edt) : qW Tryz.prog 5 [is s,.one (.sl rEdt sa),.one (.sl rEdt sb)] (ib true):=by
  refine qT (rs:=[6]) Tryz.func5 rfl rfl rfl teOk rfl ?_;refine qC ?_;refine qB ?_;refine qC ?_;refine qC ?_;refine qB ?_;refine Or.inl ?_;refine zai (rfl) ?_;refine zei _ (zai (alive7_c) ?_);refine qK rfl (fun h26=>?_) (fun h26=>?_)
  ·try simp only [Bool.not_eq_true'] at h26
   try simp only [zds] at h26
   simp at h26
  ·try simp only [Bool.not_eq_false'] at h26
   try simp only [zds] at h26
   refine qN ?_;refine qC ?_;refine qC ?_;refine qB ?_;refine zai (fun h=>trivial) ?_;refine Or.inl ?_;refine zai (rfl) ?_;refine zei _ (zai (fun h=>⟨⟨⟨h,trivial⟩,trivial⟩,heavy_c sa⟩) ?_);refine zai (by first|(intro h;rw [h];rfl)|(intro h;cases h)) ?_;refine zai (fun h=>trivial) ?_;refine Or.inl ?_;refine zai (rfl) ?_;refine zei _ (zai (fun h=>⟨⟨⟨h,trivial⟩,trivial⟩,heavy_c sb⟩) ?_);refine zai (by first|(intro h;rw [h];rfl)|(intro h;cases h)) ?_;refine qK rfl (fun h37=>?_) (fun h37=>?_)
   ·try simp only [decide_eq_true_eq,Bool.or_eq_true] at h37
    try simp only [zds] at h37
    refine qC ?_;refine qB ?_;refine qM ?_
    first|rfl|exact ib_eq (by simp)
   ·try simp only [decide_eq_false_iff_not,Bool.or_eq_false_iff,Int.not_lt] at h37
    try simp only [zds] at h37
    obtain ⟨⟨hs3,hha⟩,hhb⟩:=h37;obtain ⟨hsa,hma⟩:=heavy_ok hha;obtain ⟨hsb,hmb⟩:=heavy_ok hhb;have hfa : ∀ e ∈ sa,xF e.2.2:=(fun e he=>much_ok (hma e he));have hfb : ∀ e ∈ sb,xF e.2.2:=(fun e he=>much_ok (hmb e he));refine qN ?_;refine qC ?_;rcases hra : xO s with e|l
    ·refine qB ?_;refine Or.inl ?_;refine zai (rfl) ?_;refine zei _ (zai (of_err s (by omega) (at_:=e.1) (n:=e.2) hra) ?_);refine qC ?_;refine qB ?_;refine Or.inl ?_;refine zai (rfl) ?_;refine zei _ (zai (refOf_err s (by omega) (at_:=e.1) (n:=e.2) hra) ?_);refine qC ?_;refine qC ?_;refine qB ?_;refine zai (fun h=>trivial) ?_;refine zai (fun h=>⟨⟨h,trivial⟩,trivial⟩) ?_;refine zai (by first|(intro h;rw [h];rfl)|(intro h;cases h)) ?_;refine qK rfl (fun h54=>?_) (fun h54=>?_)
     ·try simp only [decide_eq_false_iff_not,Bool.not_eq_true',Bool.or_eq_true] at h54
      try simp only [zds] at h54
      refine qC ?_;refine qB ?_;refine zai (fun h=>trivial) ?_;refine zai (fun h=>⟨⟨h,trivial⟩,trivial⟩) ?_;refine zai (by exact fun h=>h) ?_;refine qM ?_;exact ib_eq (by have:=parse_ne (at_:=e.1) hra;simp [this])
     ·try simp only [decide_eq_true_eq,Bool.not_eq_false',Bool.or_eq_false_iff] at h54
      try simp only [zds] at h54
      simp at h54
    ·refine qB ?_;refine Or.inr (Or.inl (zei [] (zei [] (zei _ (zei _ (zei _ (zei _ (zei _ (zai (of_ok s (by omega) hra) (zai rfl (zai True.intro (zai rfl ?_))))))))))));refine qC ?_;refine qB ?_;refine Or.inl ?_;refine zai (rfl) ?_;refine zei _ (zai (refOf_ok s (by omega) hra) ?_);refine qC ?_;refine qC ?_;refine qB ?_;refine zai (fun h=>trivial) ?_;refine zai (fun h=>⟨⟨h,trivial⟩,trivial⟩) ?_;refine zai (by first|(intro h;rw [h];rfl)|(intro h;cases h)) ?_;refine qK rfl (fun h54=>?_) (fun h54=>?_)
     ·try simp only [decide_eq_false_iff_not,Bool.not_eq_true',Bool.or_eq_true] at h54
      try simp only [zds] at h54
      simp at h54
     ·try simp only [decide_eq_true_eq,Bool.not_eq_false',Bool.or_eq_false_iff] at h54
      try simp only [zds] at h54
      have hlk:=of_lok (by omega) hra;have hgd:=ofT_gd hra;obtain ⟨L0,hL0⟩ : ∃ L0,ofT l = L0:=⟨_,rfl⟩;have hRL : ((numI 1 l,1 + (cntR l : Int)) : RLs) = (L0.1,L0.2.1):=(by rw [← hL0];rfl);rw [hL0] at hlk hgd ⊢;rw [hRL];refine qN ?_;refine qC ?_;refine qC ?_;refine qB ?_;intro l9_1
      try simp only [zds] at l9_1
      refine qP ?_;refine qV (fun (i : Nat)=>i ≤ sa.length) (fun (i : Nat)=>[(2,.one (.sl rEdt sb)),(7,.one (.own 0 0)),(9,.one (.own 2 0)),(61,.one (.sl rEdt sa)),(62,ii .i64 sa.length),(63,ii .i64 i)]) (fun (i : Nat)=>[(0,.box 109 [.vec 1,.lit (.int .i64 (xL L0 sa i).2.1),.lit (.int .i64 (xL L0 sa i).2.2)]),(1,.vec 111 rEnt (xL L0 sa i).1),(2,.box 49 (toL rRL ((xL L0 sa i).1,(xL L0 sa i).2.1)))]) 3 (fun (i : Nat)=>sa.length - i) 0 (Nat.zero_le _) (qQ ⟨rfl,rfl,rfl,rfl,rfl,rfl⟩ ⟨rfl,rfl,rfl⟩ rfl) ?_;intro i hI0;have hLi:=plays_ok hlk hfa i hI0;have hGi:=plays_gd hlk hgd hma i hI0;refine qC ?_;refine qB ?_;refine qC ?_;refine qK rfl (fun h64=>?_) (fun h64=>?_)
      ·try simp only [decide_eq_true_eq] at h64
       try simp only [zds] at h64
       have hil : i < sa.length:=(by omega);have hsn:=plays_snoc L0 hil;have hfe:=hfa _ (yK hil ((0 : Int),(0 : Int),([] : List Fld)));have hLx:=hLi.next;have hLl:=hLi.len;obtain ⟨b,hdo,hbt⟩:=do_ref (xL L0 sa i) ((xL L0 sa i).1,(xL L0 sa i).2.1) (sa.getD i ((0 : Int),(0 : Int),([] : List Fld))) hLi (by omega) hfe (by show (xL L0 sa i).1.length ≤ 1000000;omega) (by show 0 ≤ (xL L0 sa i).2.1 ∧ (xL L0 sa i).2.1 ≤ 1000000000;omega);rw [hbt rfl,refDo_eq hLi] at hdo;have hLd:=doL_ok hLi hfe;have hGd:=doL_gd hLi hGi (hma _ (yK hil ((0 : Int),(0 : Int),([] : List Fld))));have hGs:=hGd.sz;refine qN ?_;refine qC ?_;refine qP ?_;refine qC ?_;refine qB ?_;refine zai (by first|omega|assumption|decide|(simp only [zds];omega)|(simp <;> omega)) ?_;refine qB ?_;refine Or.inr (Or.inl (zei [] (zei [0,1] (zei _ (zei _ (zei _ (zei _ (zei _ (zai (hdo) (zai rfl (zai (zai (zai rfl rfl) (zai (zai rfl rfl) True.intro)) (zai rfl ?_))))))))))));refine qB ?_;refine zai (by first|omega|assumption|decide|(simp only [zds];omega)|(simp <;> omega)) ?_;exact ⟨i + 1,by omega,by first|omega|(simp <;> omega),qQ ⟨rfl,rfl,rfl,rfl,rfl,(qU (by omega))⟩ ⟨(lsbox_eq hsn),(lsvec_eq hsn),(rlb_eq hsn)⟩ rfl⟩
      ·try simp only [decide_eq_false_iff_not,Int.not_lt] at h64
       try simp only [zds] at h64
       refine qX ?_;obtain ⟨M,hM⟩ : ∃ M,xL L0 sa i = M:=⟨_,rfl⟩;rw [hM] at hLi hGi ⊢;have hMl:=hLi.len;have hMs:=hGi.sz;refine acode_cut (fun (b : Bool)=>True) (fun (b : Bool)=>[(2,.one (.sl rEdt sb)),(7,.one (.own 0 0)),(9,.one (.own 2 0)),(14,.one (.own (cond b 4 5) 0)),(15,.one (.own (cond b 5 3) 0))]) (fun (b : Bool)=>[(0,.box 109 [.vec 1,.lit (.int .i64 M.2.1),.lit (.int .i64 M.2.2)]),(1,.vec 111 rEnt M.1),(2,.box 49 (toL rRL (M.1,M.2.1))),(cond b 3 4,.vec 111 rEnt M.1),(cond b 4 5,.box 109 [.vec (cond b 3 4),.lit (.int .i64 M.2.1),.lit (.int .i64 M.2.2)]),(cond b 5 3,.box 49 (toL rRL (M.1,M.2.1)))]) 6 ?_ ?_
       ·refine yH rfl ?_;refine qJ 0 rfl rfl rfl (by kernel_rfl) ?_;refine qE [1,2,3] (by kernel_rfl) rfl ?_;refine zai ?_ ?_
        ·refine Or.inr (Or.inr (Or.inr (zei [] (zei [] (zei _ (zei _ (zei _ (zei _ (zei _ (zai ((copyL_o (k:=1) M.1 M.2.1 M.2.2 (by omega)).x) (zai rfl (zai True.intro (zai rfl ?_)))))))))))));refine qE [2,3] (by kernel_rfl) rfl ?_;refine zai ?_ ?_
         ·refine qE [3] (by kernel_rfl) rfl ?_;refine qJ 4 rfl rfl rfl (by kernel_rfl) ?_;refine qE [5] (by kernel_rfl) rfl ?_;refine qO (by kernel_rfl) ?_;exact ⟨true,trivial,qQ ⟨rfl,rfl,rfl,rfl,rfl⟩ ⟨rfl,rfl,rfl,rfl,rfl,rfl⟩ rfl⟩
         ·refine qJ 4 rfl rfl rfl (by kernel_rfl) ?_;refine qE [2] (by kernel_rfl) rfl ?_;refine qE [5] (by kernel_rfl) rfl ?_;refine qO (by kernel_rfl) ?_;exact ⟨true,trivial,qQ ⟨rfl,rfl,rfl,rfl,rfl⟩ ⟨rfl,rfl,rfl,rfl,rfl,rfl⟩ rfl⟩
        refine zai ?_ ?_
        ·refine qE [1,3] (by kernel_rfl) rfl ?_;refine zai ?_ ?_
         ·refine Or.inr (Or.inr (Or.inr (zei [] (zei [] (zei _ (zei _ (zei _ (zei _ (zei _ (zai ((copyL_o (k:=1) M.1 M.2.1 M.2.2 (by omega)).x) (zai rfl (zai True.intro (zai rfl ?_)))))))))))));refine qE [3] (by kernel_rfl) rfl ?_;refine qJ 4 rfl rfl rfl (by kernel_rfl) ?_;refine qE [5] (by kernel_rfl) rfl ?_;refine qO (by kernel_rfl) ?_;exact ⟨true,trivial,qQ ⟨rfl,rfl,rfl,rfl,rfl⟩ ⟨rfl,rfl,rfl,rfl,rfl,rfl⟩ rfl⟩
         ·refine qE [1] (by kernel_rfl) rfl ?_;refine Or.inr (Or.inr (Or.inr (zei [] (zei [] (zei _ (zei _ (zei _ (zei _ (zei _ (zai ((copyL_o (k:=1) M.1 M.2.1 M.2.2 (by omega)).x) (zai rfl (zai True.intro (zai rfl ?_)))))))))))));refine qJ 4 rfl rfl rfl (by kernel_rfl) ?_;refine qE [5] (by kernel_rfl) rfl ?_;refine qO (by kernel_rfl) ?_;exact ⟨false,trivial,qQ ⟨rfl,rfl,rfl,rfl,rfl⟩ ⟨rfl,rfl,rfl,rfl,rfl,rfl⟩ rfl⟩
        ·refine qE [1,2] (by kernel_rfl) rfl ?_;refine zai ?_ ?_
         ·refine Or.inr (Or.inr (Or.inr (zei [] (zei [] (zei _ (zei _ (zei _ (zei _ (zei _ (zai ((copyL_o (k:=1) M.1 M.2.1 M.2.2 (by omega)).x) (zai rfl (zai True.intro (zai rfl ?_)))))))))))));refine qJ 4 rfl rfl rfl (by kernel_rfl) ?_;refine qE [2] (by kernel_rfl) rfl ?_;refine qE [5] (by kernel_rfl) rfl ?_;refine qO (by kernel_rfl) ?_;exact ⟨false,trivial,qQ ⟨rfl,rfl,rfl,rfl,rfl⟩ ⟨rfl,rfl,rfl,rfl,rfl,rfl⟩ rfl⟩
         ·refine qE [1] (by kernel_rfl) rfl ?_;refine Or.inr (Or.inr (Or.inr (zei [] (zei [] (zei _ (zei _ (zei _ (zei _ (zei _ (zai ((copyL_o (k:=1) M.1 M.2.1 M.2.2 (by omega)).x) (zai rfl (zai True.intro (zai rfl ?_)))))))))))));refine qJ 4 rfl rfl rfl (by kernel_rfl) ?_;refine qE [5] (by kernel_rfl) rfl ?_;refine qO (by kernel_rfl) ?_;exact ⟨false,trivial,qQ ⟨rfl,rfl,rfl,rfl,rfl⟩ ⟨rfl,rfl,rfl,rfl,rfl,rfl⟩ rfl⟩
       ·intro b hcut15;refine qC ?_;refine qC ?_;cases b <;> simp only [cond]
        ·refine qB ?_;intro l15_1
         try simp only [zds] at l15_1
         refine qP ?_;refine qV (fun (j : Nat)=>j ≤ sb.length) (fun (j : Nat)=>[(7,.one (.own 0 0)),(9,.one (.own 2 0)),(14,.one (.own 5 0)),(15,.one (.own 3 0)),(78,.one (.sl rEdt sb)),(79,ii .i64 sb.length),(80,ii .i64 j)]) (fun (j : Nat)=>[(0,.box 109 [.vec 1,.lit (.int .i64 M.2.1),.lit (.int .i64 M.2.2)]),(1,.vec 111 rEnt M.1),(2,.box 49 (toL rRL (M.1,M.2.1))),(3,.box 49 (toL rRL ((xL M sb j).1,(xL M sb j).2.1))),(4,.vec 111 rEnt (xL M sb j).1),(5,.box 109 [.vec 4,.lit (.int .i64 (xL M sb j).2.1),.lit (.int .i64 (xL M sb j).2.2)])]) 6 (fun (j : Nat)=>sb.length - j) 0 (Nat.zero_le _) (qQ ⟨rfl,rfl,rfl,rfl,rfl,rfl,rfl⟩ ⟨rfl,rfl,rfl,rfl,rfl,rfl⟩ rfl) ?_;intro j hI2;have hLj:=plays_ok hLi hfb j hI2;have hGj:=plays_gd hLi hGi hmb j hI2;refine qC ?_;refine qB ?_;refine qC ?_;refine qK rfl (fun h81=>?_) (fun h81=>?_)
         ·try simp only [decide_eq_true_eq] at h81
          try simp only [zds] at h81
          have hjl : j < sb.length:=(by omega);have hsm:=plays_snoc M hjl;have hfe:=hfb _ (yK hjl ((0 : Int),(0 : Int),([] : List Fld)));have hLx:=hLj.next;have hLl:=hLj.len;obtain ⟨b,hdo,hbt⟩:=do_ref (xL M sb j) ((xL M sb j).1,(xL M sb j).2.1) (sb.getD j ((0 : Int),(0 : Int),([] : List Fld))) hLj (by omega) hfe (by show (xL M sb j).1.length ≤ 1000000;omega) (by show 0 ≤ (xL M sb j).2.1 ∧ (xL M sb j).2.1 ≤ 1000000000;omega);rw [hbt rfl,refDo_eq hLj] at hdo;have hLd:=doL_ok hLj hfe;have hGd:=doL_gd hLj hGj (hmb _ (yK hjl ((0 : Int),(0 : Int),([] : List Fld))));have hGs:=hGd.sz;refine qN ?_;refine qC ?_;refine qP ?_;refine qC ?_;refine qB ?_;refine zai (by first|omega|assumption|decide|(simp only [zds];omega)|(simp <;> omega)) ?_;refine qB ?_;refine Or.inr (Or.inl (zei [] (zei [5,4] (zei _ (zei _ (zei _ (zei _ (zei _ (zai (hdo) (zai rfl (zai (zai (zai rfl rfl) (zai (zai rfl rfl) True.intro)) (zai rfl ?_))))))))))));refine qB ?_;refine zai (by first|omega|assumption|decide|(simp only [zds];omega)|(simp <;> omega)) ?_;exact ⟨j + 1,by omega,by first|omega|(simp <;> omega),qQ ⟨rfl,rfl,rfl,rfl,rfl,rfl,(qU (by omega))⟩ ⟨rfl,rfl,rfl,(rlb_eq hsm),(lsvec_eq hsm),(lsboxk_eq 4 hsm)⟩ rfl⟩
         ·try simp only [decide_eq_false_iff_not,Int.not_lt] at h81
          try simp only [zds] at h81
          refine qX ?_;obtain ⟨K,hK⟩ : ∃ K,xL M sb j = K:=⟨_,rfl⟩;rw [hK] at hLj hGj ⊢;have hKl:=hLj.len;have hKs:=hGj.sz;refine qC ?_;refine qB ?_;refine qC ?_;refine qB ?_;refine Or.inl ?_;refine zai (rfl) ?_;refine zei _ (zai (insN_c 0 _) ?_);refine qC ?_;refine qB ?_;refine Or.inl ?_;refine zai (rfl) ?_;refine zei _ (zai (getN_c 1) ?_);refine qC ?_;refine qB ?_;refine Or.inl ?_;refine zai (rfl) ?_;refine zei _ (zai (rawN_c 1) ?_);refine qC ?_;refine qB ?_;refine Or.inl ?_;refine zai (rfl) ?_;refine zei _ (zai (stands_c M.1 M.2.1 M.2.2 hLi (by omega) (by omega)) ?_);refine zai (fun h=>trivial) ?_;refine zai (fun h=>trivial) ?_;refine Or.inl ?_;refine zai (rfl) ?_;refine zei _ (zai (fun h=>⟨⟨⟨h,trivial⟩,⟨h,trivial⟩,trivial⟩,stands_c K.1 K.2.1 K.2.2 hLj (by omega) (by omega)⟩) ?_);refine zai (by exact fun h=>h) ?_;refine zai (fun h=>trivial) ?_;refine Or.inl ?_;refine zai (rfl) ?_;refine zei _ (zai (fun h=>⟨⟨⟨h,trivial⟩,trivial⟩,isNoneL_c⟩) ?_);refine zai (by exact fun h=>h) ?_;refine zai (fun h=>trivial) ?_;refine Or.inl ?_;refine zai (rfl) ?_;refine zei _ (zai (fun h=>⟨⟨⟨h,trivial⟩,trivial⟩,repN_c 1⟩) ?_);refine Or.inl ?_;refine zai (rfl) ?_;refine zei _ (zai (fun h=>⟨⟨⟨h,trivial⟩,trivial⟩,isNoneL_c⟩) ?_);refine zai (by exact fun h=>h) ?_;refine zai (fun h=>trivial) ?_;refine Or.inl ?_;refine zai (rfl) ?_;refine zei _ (zai (fun h=>⟨⟨⟨h,trivial⟩,trivial⟩,delN_c 1⟩) ?_);refine Or.inl ?_;refine zai (rfl) ?_;refine zei _ (zai (fun h=>⟨⟨⟨h,trivial⟩,trivial⟩,isNoneL_c⟩) ?_);refine zai (by exact fun h=>h) ?_;refine zai (fun h=>trivial) ?_;refine zai (fun h=>⟨⟨h,trivial⟩,trivial⟩) ?_;refine zai (by exact fun h=>h) ?_;refine zai (fun h=>trivial) ?_;refine zai (fun h=>⟨⟨h,trivial⟩,trivial⟩) ?_;refine zai (by exact fun h=>h) ?_;refine zai (fun h=>trivial) ?_;refine Or.inl ?_;refine zai (rfl) ?_;refine zei _ (zai (fun h=>⟨⟨⟨h,trivial⟩,trivial⟩,stanzasN_c⟩) ?_);refine zai (fun h=>⟨⟨h,trivial⟩,trivial⟩) ?_;refine zai (fun h=>⟨⟨h,trivial⟩,trivial⟩) ?_;refine zai (by exact fun h=>h) ?_;refine zai (fun h=>trivial) ?_;refine Or.inl ?_;refine zai (rfl) ?_;refine zei _ (zai (fun h=>⟨⟨⟨h,trivial⟩,trivial⟩,itmsN_c⟩) ?_);refine zai (fun h=>⟨⟨h,trivial⟩,trivial⟩) ?_;refine zai (fun h=>⟨⟨h,trivial⟩,trivial⟩) ?_;refine zai (by exact fun h=>h) ?_;refine zai (fun h=>trivial) ?_;refine Or.inl ?_;refine zai (rfl) ?_;refine zei _ (zai (fun h=>⟨⟨⟨h,trivial⟩,trivial⟩,placeN_c7 1⟩) ?_);refine zai (fun h=>⟨⟨h,trivial⟩,trivial⟩) ?_;refine zai (by exact fun h=>h) ?_;refine zai (fun h=>trivial) ?_;refine Or.inl ?_;refine zai (rfl) ?_;refine zei _ (zai (fun h=>⟨⟨⟨h,trivial⟩,trivial⟩,lenN_c⟩) ?_);refine zai (fun h=>⟨⟨h,trivial⟩,trivial⟩) ?_;refine zai (by exact fun h=>h) ?_;refine zai (fun h=>trivial) ?_;refine Or.inl ?_;refine zai (rfl) ?_;refine zei _ (zai (fun h=>⟨⟨⟨h,trivial⟩,trivial⟩,nextN_c⟩) ?_);refine zai (fun h=>⟨⟨h,trivial⟩,trivial⟩) ?_;refine zai (by exact fun h=>h) ?_;refine zai (fun h=>trivial) ?_;refine Or.inl ?_;refine zai (rfl) ?_;refine zei _ (zai (fun h=>⟨⟨⟨h,trivial⟩,trivial⟩,textN_c⟩) ?_);refine zai (fun h=>⟨⟨h,trivial⟩,trivial⟩) ?_;refine zai (by exact fun h=>h) ?_;refine zai (fun h=>trivial) ?_;refine Or.inl ?_;refine zai (rfl) ?_;refine zei _ (zai (fun h=>⟨⟨⟨h,trivial⟩,trivial⟩,copyN_c⟩) ?_);refine zai (fun h=>⟨⟨h,trivial⟩,trivial⟩) ?_;refine zai (by exact fun h=>h) ?_;refine qM ?_
          first|rfl|exact ib_eq (by simp)
        ·refine qB ?_;intro l15_1
         try simp only [zds] at l15_1
         refine qP ?_;refine qV (fun (j : Nat)=>j ≤ sb.length) (fun (j : Nat)=>[(7,.one (.own 0 0)),(9,.one (.own 2 0)),(14,.one (.own 4 0)),(15,.one (.own 5 0)),(78,.one (.sl rEdt sb)),(79,ii .i64 sb.length),(80,ii .i64 j)]) (fun (j : Nat)=>[(0,.box 109 [.vec 1,.lit (.int .i64 M.2.1),.lit (.int .i64 M.2.2)]),(1,.vec 111 rEnt M.1),(2,.box 49 (toL rRL (M.1,M.2.1))),(3,.vec 111 rEnt (xL M sb j).1),(4,.box 109 [.vec 3,.lit (.int .i64 (xL M sb j).2.1),.lit (.int .i64 (xL M sb j).2.2)]),(5,.box 49 (toL rRL ((xL M sb j).1,(xL M sb j).2.1)))]) 6 (fun (j : Nat)=>sb.length - j) 0 (Nat.zero_le _) (qQ ⟨rfl,rfl,rfl,rfl,rfl,rfl,rfl⟩ ⟨rfl,rfl,rfl,rfl,rfl,rfl⟩ rfl) ?_;intro j hI2;have hLj:=plays_ok hLi hfb j hI2;have hGj:=plays_gd hLi hGi hmb j hI2;refine qC ?_;refine qB ?_;refine qC ?_;refine qK rfl (fun h81=>?_) (fun h81=>?_)
         ·try simp only [decide_eq_true_eq] at h81
          try simp only [zds] at h81
          have hjl : j < sb.length:=(by omega);have hsm:=plays_snoc M hjl;have hfe:=hfb _ (yK hjl ((0 : Int),(0 : Int),([] : List Fld)));have hLx:=hLj.next;have hLl:=hLj.len;obtain ⟨b,hdo,hbt⟩:=do_ref (xL M sb j) ((xL M sb j).1,(xL M sb j).2.1) (sb.getD j ((0 : Int),(0 : Int),([] : List Fld))) hLj (by omega) hfe (by show (xL M sb j).1.length ≤ 1000000;omega) (by show 0 ≤ (xL M sb j).2.1 ∧ (xL M sb j).2.1 ≤ 1000000000;omega);rw [hbt rfl,refDo_eq hLj] at hdo;have hLd:=doL_ok hLj hfe;have hGd:=doL_gd hLj hGj (hmb _ (yK hjl ((0 : Int),(0 : Int),([] : List Fld))));have hGs:=hGd.sz;refine qN ?_;refine qC ?_;refine qP ?_;refine qC ?_;refine qB ?_;refine zai (by first|omega|assumption|decide|(simp only [zds];omega)|(simp <;> omega)) ?_;refine qB ?_;refine Or.inr (Or.inl (zei [] (zei [4,3] (zei _ (zei _ (zei _ (zei _ (zei _ (zai (hdo) (zai rfl (zai (zai (zai rfl rfl) (zai (zai rfl rfl) True.intro)) (zai rfl ?_))))))))))));refine qB ?_;refine zai (by first|omega|assumption|decide|(simp only [zds];omega)|(simp <;> omega)) ?_;exact ⟨j + 1,by omega,by first|omega|(simp <;> omega),qQ ⟨rfl,rfl,rfl,rfl,rfl,rfl,(qU (by omega))⟩ ⟨rfl,rfl,rfl,(lsvec_eq hsm),(lsboxk_eq 3 hsm),(rlb_eq hsm)⟩ rfl⟩
         ·try simp only [decide_eq_false_iff_not,Int.not_lt] at h81
          try simp only [zds] at h81
          refine qX ?_;obtain ⟨K,hK⟩ : ∃ K,xL M sb j = K:=⟨_,rfl⟩;rw [hK] at hLj hGj ⊢;have hKl:=hLj.len;have hKs:=hGj.sz;refine qC ?_;refine qB ?_;refine qC ?_;refine qB ?_;refine Or.inl ?_;refine zai (rfl) ?_;refine zei _ (zai (insN_c 0 _) ?_);refine qC ?_;refine qB ?_;refine Or.inl ?_;refine zai (rfl) ?_;refine zei _ (zai (getN_c 1) ?_);refine qC ?_;refine qB ?_;refine Or.inl ?_;refine zai (rfl) ?_;refine zei _ (zai (rawN_c 1) ?_);refine qC ?_;refine qB ?_;refine Or.inl ?_;refine zai (rfl) ?_;refine zei _ (zai (stands_c M.1 M.2.1 M.2.2 hLi (by omega) (by omega)) ?_);refine zai (fun h=>trivial) ?_;refine zai (fun h=>trivial) ?_;refine Or.inl ?_;refine zai (rfl) ?_;refine zei _ (zai (fun h=>⟨⟨⟨h,trivial⟩,⟨h,trivial⟩,trivial⟩,stands_c K.1 K.2.1 K.2.2 hLj (by omega) (by omega)⟩) ?_);refine zai (by exact fun h=>h) ?_;refine zai (fun h=>trivial) ?_;refine Or.inl ?_;refine zai (rfl) ?_;refine zei _ (zai (fun h=>⟨⟨⟨h,trivial⟩,trivial⟩,isNoneL_c⟩) ?_);refine zai (by exact fun h=>h) ?_;refine zai (fun h=>trivial) ?_;refine Or.inl ?_;refine zai (rfl) ?_;refine zei _ (zai (fun h=>⟨⟨⟨h,trivial⟩,trivial⟩,repN_c 1⟩) ?_);refine Or.inl ?_;refine zai (rfl) ?_;refine zei _ (zai (fun h=>⟨⟨⟨h,trivial⟩,trivial⟩,isNoneL_c⟩) ?_);refine zai (by exact fun h=>h) ?_;refine zai (fun h=>trivial) ?_;refine Or.inl ?_;refine zai (rfl) ?_;refine zei _ (zai (fun h=>⟨⟨⟨h,trivial⟩,trivial⟩,delN_c 1⟩) ?_);refine Or.inl ?_;refine zai (rfl) ?_;refine zei _ (zai (fun h=>⟨⟨⟨h,trivial⟩,trivial⟩,isNoneL_c⟩) ?_);refine zai (by exact fun h=>h) ?_;refine zai (fun h=>trivial) ?_;refine zai (fun h=>⟨⟨h,trivial⟩,trivial⟩) ?_;refine zai (by exact fun h=>h) ?_;refine zai (fun h=>trivial) ?_;refine zai (fun h=>⟨⟨h,trivial⟩,trivial⟩) ?_;refine zai (by exact fun h=>h) ?_;refine zai (fun h=>trivial) ?_;refine Or.inl ?_;refine zai (rfl) ?_;refine zei _ (zai (fun h=>⟨⟨⟨h,trivial⟩,trivial⟩,stanzasN_c⟩) ?_);refine zai (fun h=>⟨⟨h,trivial⟩,trivial⟩) ?_;refine zai (fun h=>⟨⟨h,trivial⟩,trivial⟩) ?_;refine zai (by exact fun h=>h) ?_;refine zai (fun h=>trivial) ?_;refine Or.inl ?_;refine zai (rfl) ?_;refine zei _ (zai (fun h=>⟨⟨⟨h,trivial⟩,trivial⟩,itmsN_c⟩) ?_);refine zai (fun h=>⟨⟨h,trivial⟩,trivial⟩) ?_;refine zai (fun h=>⟨⟨h,trivial⟩,trivial⟩) ?_;refine zai (by exact fun h=>h) ?_;refine zai (fun h=>trivial) ?_;refine Or.inl ?_;refine zai (rfl) ?_;refine zei _ (zai (fun h=>⟨⟨⟨h,trivial⟩,trivial⟩,placeN_c7 1⟩) ?_);refine zai (fun h=>⟨⟨h,trivial⟩,trivial⟩) ?_;refine zai (by exact fun h=>h) ?_;refine zai (fun h=>trivial) ?_;refine Or.inl ?_;refine zai (rfl) ?_;refine zei _ (zai (fun h=>⟨⟨⟨h,trivial⟩,trivial⟩,lenN_c⟩) ?_);refine zai (fun h=>⟨⟨h,trivial⟩,trivial⟩) ?_;refine zai (by exact fun h=>h) ?_;refine zai (fun h=>trivial) ?_;refine Or.inl ?_;refine zai (rfl) ?_;refine zei _ (zai (fun h=>⟨⟨⟨h,trivial⟩,trivial⟩,nextN_c⟩) ?_);refine zai (fun h=>⟨⟨h,trivial⟩,trivial⟩) ?_;refine zai (by exact fun h=>h) ?_;refine zai (fun h=>trivial) ?_;refine Or.inl ?_;refine zai (rfl) ?_;refine zei _ (zai (fun h=>⟨⟨⟨h,trivial⟩,trivial⟩,textN_c⟩) ?_);refine zai (fun h=>⟨⟨h,trivial⟩,trivial⟩) ?_;refine zai (by exact fun h=>h) ?_;refine zai (fun h=>trivial) ?_;refine Or.inl ?_;refine zai (rfl) ?_;refine zei _ (zai (fun h=>⟨⟨⟨h,trivial⟩,trivial⟩,copyN_c⟩) ?_);refine zai (fun h=>⟨⟨h,trivial⟩,trivial⟩) ?_;refine zai (by exact fun h=>h) ?_;refine qM ?_
          first|rfl|exact ib_eq (by simp)
end Q
end Ab
end Go.Proofs.YtlbainbjlibfiaaGreatDoor
namespace Go.Proofs.YtlbainbjlibfiaaGreatDoor
open Go.RowKit
namespace Ab
set_option maxRecDepth 100000
theorem o_str : Opens Tryz.prog 9 .str:=opens_str Tryz.underlying9 (by kernel_rfl)
theorem o_int : Opens Tryz.prog 3 (.int .i64):=opens_int Tryz.underlying3 (by kernel_rfl)
theorem o_field : Opens Tryz.prog 73 (.st .str .str):=opens_st Tryz.underlying73 (by kernel_rfl) (.cons rfl o_str (.one rfl o_str))
theorem o_fields : Opens Tryz.prog 40 (.sl (.st .str .str)):=opens_sl (by decide) Tryz.underlying40 (by kernel_rfl) o_field
theorem globAt {W : World} (h : W.ShapedOpen Tryz.prog) : GlobAt AllOk W:=by
  have hc : GlobCell W:=cell_of_shapedOpen_int (g:=0) (t:=3) (zero:=#[.int .i64 0]) h (of_decide_eq_true (by kernel_rfl)) (by kernel_rfl) rfl (by kernel_rfl) (by kernel_rfl) Tryz.underlying3;refine ⟨trivial,?_,hc⟩;obtain ⟨m,hm⟩:=hc;rcases Nat.lt_or_ge 0 W.heap.size with h1|h1
  · exact h1
  · exfalso
    simp only [World.cell?,Array.getElem?_eq_none h1] at hm;cases hm
end Ab
end Go.Proofs.YtlbainbjlibfiaaGreatDoor
namespace Go.Proofs.YtlbainbjlibfiaaGreatDoor
open Go.RowKit
namespace Ab
set_option maxRecDepth 100000
theorem o_edit : Opens Tryz.prog 54 (.st (.int .i64) (.st (.int .i64) (.sl (.st .str .str)))):=opens_st Tryz.underlying54 (by kernel_rfl) (.cons rfl o_int (.cons rfl o_int (.one rfl o_fields)))
theorem o_edits : Opens Tryz.prog 45 (.sl (.st (.int .i64) (.st (.int .i64) (.sl (.st .str .str))))):=opens_sl (by decide) Tryz.underlying45 (by kernel_rfl) o_edit
theorem open_edits {H : Type} {enc : TypeId × Value → H} {W : World} {base : Nat} {v : Value} {d : DataW H} {p : List MemPlace} (hv : Value.okWide Tryz.prog W .any base 45 v) (h : DataW.Trod enc Tryz.prog W 0 (fun _=>true) true 45 v d p) :
    ∃ xs,(C.sl (.st (.int .i64) (.st (.int .i64) (.sl (.st .str .str)))) xs).rep AllOk yN W v:=open_sl Tryz.underlying45 o_edits hv h
end Ab
end Go.Proofs.YtlbainbjlibfiaaGreatDoor
