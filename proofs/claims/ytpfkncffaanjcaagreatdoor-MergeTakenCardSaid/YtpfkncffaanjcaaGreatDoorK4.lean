/-
  The texts of this proof, joined: abstract values, the library, the functions of the program and what they compute (part 4). No condition.
-/
import Derived.Lib.UnsafeStr
import Derived.Shelf.RegionOpenPlain
import Derived.Shelf.Spec.SlicesInsert
import Derived.Lib.AppendZerosOnto
import Derived.Laws.NewBlocks
import Derived.Test.YtpfkncffaanjcaaGreatDoorProg
import Derived.WalkKit
import Derived.LaidEql
import Derived.Stop.Asserts
import Derived.RowKitTokens
import Derived.WalkSpells
import Derived.Test.YtpfkncffaanjcaaGreatDoorK1
import Derived.Test.YtpfkncffaanjcaaGreatDoorK2
import Derived.Test.YtpfkncffaanjcaaGreatDoorK3
namespace Go.Proofs.YtpfkncffaanjcaaGreatDoor
open Go.RowKit
namespace Ab
set_option maxRecDepth 100000
namespace Q
def szI (l : List Itm) : Nat:=(l.map (·.2.1.size)).sum
def szB (l : List ByteArray) : Nat:=(l.map (fun b=>b.size + 1)).sum
def rawN (p : PSt) : Nat:=szI p.its + szB p.blk
def Idle (p : PSt) : Prop:=p.lns = [] ∧ p.blk = [] ∧ p.flds = []
theorem szI_app (a b : List Itm) : szI (a ++ b) = szI a + szI b:=by simp [szI]
theorem szB_app (a b : List ByteArray) : szB (a ++ b) = szB a + szB b:=by simp [szB]
theorem join_eq (c : UInt8) : ∀ (l : List ByteArray),l ≠ [] → (Lib.join (l.map (·.data.toList)) [c]).length + 1 = szB l
  | [],h=>absurd rfl h
  | [a],_=>by
    rw [List.map_cons,List.map_nil,show Lib.join [a.data.toList] [c] = a.data.toList from by simp [Lib.join]];rw [← yB];simp [szB]
  | a :: b :: r,_=>by
    have:=join_eq c (b :: r) (by simp);rw [List.map_cons] at this;rw [List.map_cons,List.map_cons,join_two];simp only [List.length_append,List.length_cons,List.length_nil,szB,List.map_cons,List.sum_cons,← yB] at this ⊢;omega
theorem rawB_size {l : List ByteArray} (h : l ≠ []) : (rawB l).size = szB l:=by
  have:=join_eq 10 l h;unfold rawB;rw [ByteArray.size_append,yU];exact this
theorem flush_same {p q : PSt} (h : yO p = .inr q) : q.its = p.its ∧ q.blk = p.blk:=by
  unfold yO at h;split at h
  · cases h;exact ⟨rfl,rfl⟩
  · split at h
    · cases h
    · split at h
      · cases h
      · cases h;exact ⟨rfl,rfl⟩
theorem close_took (p : PSt) : (∃ X,(xO p).its = p.its ++ X ∧ ∀ x ∈ X,x.1 ≠ 1) ∧ rawN (xO p) = rawN p ∧ (xO p).blk = [] ∧ (xO p).flds = [] ∧ (xO p).lns = p.lns:=by
  unfold xO;split
  · rename_i h;exact ⟨⟨[],by simp,by simp⟩,by simp [rawN,h],rfl,rfl,rfl⟩
  · rename_i h;refine ⟨⟨_,rfl,fun x hx=>?_⟩,?_,rfl,rfl,rfl⟩
    · rw [List.mem_singleton.1 hx];simp only;split <;> decide
    · simp only [rawN,szI_app];simp only [szI,List.map_cons,List.map_nil,List.sum_cons,List.sum_nil,rawB_size h];simp [szB]
theorem end_took {p q : PSt} (h : endS p = .inr q) : (∃ X,q.its = p.its ++ X ∧ ∀ x ∈ X,x.1 ≠ 1) ∧ rawN q = rawN p ∧ Idle q:=by
  unfold endS at h;cases e : yO p with
  | inl x=>rw [e] at h;cases h
  | inr r =>
    rw [e] at h;cases h;obtain ⟨h1,h2⟩:=flush_same e;obtain ⟨h3,h4,h5,h6,h7⟩:=close_took r;rw [h1] at h3;refine ⟨h3,?_,h7.trans (flush_lns e),h5,h6⟩;rw [h4];unfold rawN;rw [h1,h2]
theorem ahead_took {p q : PSt} {l : Lne} {k : Int} (h : yQ p l k = .inr q) : (∃ X,q.its = p.its ++ X ∧ ∀ x ∈ X,x.1 ≠ 1) ∧ rawN q = rawN p ∧ (k = 1 → Idle q):=by
  unfold yQ at h;split at h
  · rename_i hk;subst hk;split at h
    · cases h
    · split at h
      · cases h;exact ⟨⟨[],by simp,by simp⟩,rfl,fun e=>by cases e⟩
      · obtain ⟨h1,h2⟩:=flush_same h;exact ⟨⟨[],by simp [h1],by simp⟩,by unfold rawN;rw [h1,h2],fun e=>by cases e⟩
  · split at h
    · obtain ⟨h1,h2,h3⟩:=end_took h;exact ⟨h1,h2,fun _=>h3⟩
    · rename_i hk;obtain ⟨h1,h2⟩:=flush_same h;exact ⟨⟨[],by simp [h1],by simp⟩,by unfold rawN;rw [h1,h2],fun e=>absurd e hk⟩
theorem take_took {p q : PSt} {l : Lne} (h : yT p l = .inr q) : l.2.2.2 = true ∧ rawN q = rawN p + (l.2.2.1.size + 1) ∧ ∃ X Y,q.its = p.its ++ X ++ Y ∧ (∀ x ∈ X,x.1 ≠ 1) ∧ (Y = [] ∨ (∃ b,Y = [b]) ∧ Idle q):=by
  unfold yT at h;cases e : yQ p l (yD (ls l.2.2.1)) with
  | inl x=>rw [e] at h;cases h
  | inr r =>
    rw [e] at h;obtain ⟨⟨X,h1,h2⟩,h3,h4⟩:=ahead_took e;simp only at h;unfold lineS at h;split at h
    · cases h
    · rename_i g0;have he : l.2.2.2 = true:=by
        cases e : l.2.2.2
        · exact absurd (.inr e) g0
        · rfl
      refine ⟨he,?_⟩;split at h
      · rename_i g1;cases h;obtain ⟨i1,i2,i3⟩:=h4 g1;refine ⟨?_,X,[(1,l.2.2.1 ++ ⟨#[10]⟩,[])],by simp only [h1],h2,.inr ⟨⟨_,rfl⟩,i1,i2,i3⟩⟩;rw [← h3];simp only [rawN,szI_app];simp only [szI,List.map_cons,List.map_nil,List.sum_cons,List.sum_nil,ByteArray.size_append];rw [show ByteArray.size ⟨#[10]⟩ = 1 from rfl];omega
      · split at h
        · cases h;refine ⟨?_,X,[],by simp [xM,h1],h2,.inl rfl⟩;rw [← h3];simp only [rawN,szB_app,xM];simp only [szB,List.map_cons,List.map_nil,List.sum_cons,List.sum_nil];omega
        · cases h;refine ⟨?_,X,[],by simp [h1],h2,.inl rfl⟩;rw [← h3];simp only [rawN,szB_app];simp only [szB,List.map_cons,List.map_nil,List.sum_cons,List.sum_nil];omega
def szL (L : List Lne) : Nat:=(L.map (fun l=>l.2.2.1.size + 1)).sum
theorem run_app : ∀ (L M : List Lne) (p q : PSt),runS p L = .inr q → runS p (L ++ M) = runS q M
  | [],M,p,q,h=>by cases h;rfl
  | l :: r,M,p,q,h=>by
    simp only [runS,List.cons_append] at h ⊢;cases e : yT p l with
    | inl x=>rw [e] at h;cases h
    | inr p1 =>
      rw [e] at h;exact run_app r M p1 q h
theorem rel_self {p : PSt} (I : List Itm) (h : Idle p) (hI : p.its = I) (h0 : 0 ≤ p.recs) (h4 : p.recs ≤ 400) : Rel I p.recs p pst0 :=
  ⟨h.1,(fun e=>by cases e),by rw [hI];simp [pst0],h.2.1,h.2.2,by simp [pst0],h0,h4,fun e=>absurd h.2.2 e,fun e=>absurd h.1 e⟩
theorem rel_0 : Rel [] 0 pst0 pst0:=⟨rfl,id,rfl,rfl,rfl,rfl,by decide,by decide,fun e=>absurd rfl e,fun e=>absurd rfl e⟩
theorem lines_text (s : ByteArray) : (yZ s).map (·.2.2) = linesB s.size (ls s):=texts_linesR _ _ _ _
def more (l : Lne) : Bool:=decide (yD (ls l.2.2.1) = 3)
def saidL (l : Lne) (r : List Lne) : List ByteArray:=l.2.2.1 :: (r.takeWhile more).map (·.2.2.1)
def wrongL (bh : Bool) (l : Lne) (r : List Lne) (fields recs : Int) : Int :=
  if yD (ls l.2.2.1) = 5 ∨ (yD (ls l.2.2.1) = 3 ∧ bh = false) ∨ l.2.2.2 = false then 2
  else if yD (ls l.2.2.1) ≠ 4 then 0
  else if (yJ ((saidL l r).map ls)).2 ≠ 0 then (yJ ((saidL l r).map ls)).2
  else if 40 ≤ fields ∨ (fields = 0 ∧ 400 ≤ recs) then 11
  else 0
structure RSt where
  kind : Int
  raw : ByteArray
  flds : List Fld
  out : List Itm
  recs : Int
def fldOf (L : List ByteArray) : Fld:=(bytes (yJ (L.map ls)).1.1,bytes (yJ (L.map ls)).1.2)
def stepR (t : RSt) (l : Lne) (r : List Lne) : RSt :=
  if yD (ls l.2.2.1) = 1 then ⟨2,ByteArray.empty,[],(if t.raw = ByteArray.empty then t.out else t.out ++ [(t.kind,t.raw,t.flds)]) ++ [(1,l.2.2.1 ++ ⟨#[10]⟩,[])],t.recs⟩
  else if yD (ls l.2.2.1) = 4 then ⟨3,t.raw ++ l.2.2.1 ++ ⟨#[10]⟩,t.flds ++ [fldOf (saidL l r)],t.out,if t.kind = 2 then t.recs + 1 else t.recs⟩
  else { t with raw:=t.raw ++ l.2.2.1 ++ ⟨#[10]⟩ }
def runR (bh : Bool) (t : RSt) : List Lne → (Int × Int) ⊕ List Itm
  | []=>.inr (if t.raw = ByteArray.empty then t.out else t.out ++ [(t.kind,t.raw,t.flds)])
  | l :: r=>if wrongL bh l r t.flds.length t.recs ≠ 0 then .inl (l.1,wrongL bh l r t.flds.length t.recs)
    else runR (decide (yD (ls l.2.2.1) = 4) || decide (yD (ls l.2.2.1) = 3)) (stepR t l r) r
def rst0 : RSt:=⟨2,ByteArray.empty,[],[],0⟩
def outP (p : PSt) (L : List Lne) : (Int × Int) ⊕ List Itm:=match runS p L with
  | .inl e=>.inl e
  | .inr q=>match endS q with
    | .inl e=>.inl e
    | .inr q=>.inr q.its
theorem outP_cons (p : PSt) (l : Lne) (r : List Lne) : outP p (l :: r) = match yT p l with
    | .inl e=>.inl e
    | .inr q=>outP q r:=by
  unfold outP;simp only [runS];cases yT p l <;> rfl
theorem parse_out (s : ByteArray) : xF s = outP pst0 (yZ s):=rfl
def Ends : List Lne → Prop
  | []=>True
  | l :: r=>(l.2.2.2 = false → r = []) ∧ Ends r
theorem ends_linesR : ∀ (f : Nat) (tot no : Int) (s : List UInt8),Ends (linesR f tot no s)
  | 0,_,_,_=>trivial
  | f + 1,_,_,[]=>trivial
  | f + 1,tot,no,a :: r=>by
    rw [linesR_cons];refine ⟨fun h=>?_,ends_linesR f _ _ _⟩;rcases cut_cases (a:=a) (s:=r) (c:=10) with ⟨x,b,e,_,hc⟩|⟨_,hc⟩
    · rw [hc] at h;cases h
    · rw [hc];cases f <;> rfl
theorem not_more {l : Lne} (h : yD (ls l.2.2.1) ≠ 3) (r : List Lne) : (l :: r).takeWhile more = []:=by
  rw [List.takeWhile_cons_of_neg (by unfold more;simp [h])]
theorem is_more {l : Lne} (h : yD (ls l.2.2.1) = 3) (r : List Lne) : (l :: r).takeWhile more = l :: r.takeWhile more:=by
  rw [List.takeWhile_cons_of_pos (by unfold more;simp [h])]
theorem pend_err : ∀ (r : List Lne) (p : PSt) (at_ n : Int),Ends r → p.lns ≠ [] → (∀ q : PSt,q.lns = p.lns ++ (r.takeWhile more).map (·.2.2.1) → q.full = p.full → q.frm = p.frm → yO q = .inl (at_,n)) → outP p r = .inl (at_,n)
  | [],p,at_,n,_,h0,hf=>by
    have:=hf p (by simp) rfl rfl;unfold outP;simp only [runS,endS,this]
  | l :: r,p,at_,n,hE,h0,hf=>by
    rw [outP_cons]
    by_cases hm : yD (ls l.2.2.1) = 3
    · rw [is_more hm] at hf
      by_cases he : l.2.2.2 = true
      · have ht : yT p l = .inr { p with lns:=p.lns ++ [l.2.2.1],blk:=p.blk ++ [l.2.2.1] }:=by
          unfold yT;simp only [hm];simp [yQ,lineS,h0,he]
        rw [ht];exact pend_err r _ at_ n hE.2 (by simp) (fun q h1 h2 h3=>hf q (by rw [h1];simp) h2 h3)
      · obtain rfl:=hE.1 (by simpa using he);have hfp:=hf { p with lns:=p.lns ++ [l.2.2.1] } (by simp) rfl rfl;have ht : yT p l = .inl (at_,n):=by
          unfold yT yQ;rw [if_pos hm,if_neg h0,if_neg he,hfp]
        rw [ht]
    · rw [not_more hm] at hf;have hfp:=hf p (by simp) rfl rfl;have ht : yT p l = .inl (at_,n):=by
        unfold yT yQ;rw [if_neg hm];unfold endS;rw [hfp];simp
      rw [ht]
def rawC (b : List ByteArray) : ByteArray:=bytes (endL (b.map ls))
theorem rawC_snoc (b : List ByteArray) (x : ByteArray) : rawC (b ++ [x]) = rawC b ++ x ++ ⟨#[10]⟩:=by
  unfold rawC endL;rw [List.map_append,List.flatMap_append,xL,ByteArray.append_assoc]
  congr 1
  simp only [List.map_cons,List.map_nil,List.flatMap_cons,List.flatMap_nil,List.append_nil];rw [xL,bytes_ls];rfl
theorem join_endL (c : UInt8) : ∀ (l : List (List UInt8)),l ≠ [] → Lib.join l [c] ++ [c] = l.flatMap fun s=>s ++ [c]
  | [],h=>absurd rfl h
  | [a],_=>by rw [Lib.join_one];simp
  | a :: b :: r,_=>by
    have:=join_endL c (b :: r) (by simp);rw [join_two,List.flatMap_cons,← this];simp
theorem rawB_C {b : List ByteArray} (h : b ≠ []) : rawB b = rawC b:=by
  unfold rawB rawC endL;rw [show b.map ls = b.map (·.data.toList) from rfl,← join_endL 10 (b.map (·.data.toList)) (by simpa using h),xL];rfl
theorem rawC_nil {b : List ByteArray} : rawC b = ByteArray.empty ↔ b = []:=by
  refine ⟨fun h=>?_,fun h=>by rw [h];rfl⟩;cases b with
  | nil=>rfl
  | cons x r =>
    have:=congrArg ByteArray.size h;unfold rawC endL at this;rw [yU] at this;simp at this
structure Alike (p : PSt) (t : RSt) (bh : Bool) (L : List Lne) : Prop where
  its : t.out = p.its
  raw : t.raw = rawC p.blk
  bh : bh = true ↔ p.lns ≠ []
  flds : t.flds = p.flds ++ (if p.lns = [] then [] else [fldOf (p.lns ++ (L.takeWhile more).map (·.2.2.1))])
  kind : t.kind = if t.flds = [] then 2 else 3
  recs : t.recs = p.recs + (if t.flds = [] then 0 else 1)
  pend : p.lns ≠ [] → p.full = false ∧ (yJ ((p.lns ++ (L.takeWhile more).map (·.2.2.1)).map ls)).2 = 0
  blk0 : p.blk = [] → t.flds = []
  r4 : p.recs ≤ 400
  rf : t.flds ≠ [] → p.recs < 400
  f40 : t.flds.length ≤ 40
section
variable {p : PSt} {t : RSt} {bh : Bool} {L : List Lne}
theorem alike_flush (h : Alike p t bh L) (hL : L.takeWhile more = []) : ∃ q,yO p = .inr q ∧ q.lns = [] ∧ q.flds = t.flds ∧ q.its = p.its ∧ q.blk = p.blk ∧ q.recs = p.recs:=by
  by_cases h0 : p.lns = []
  · refine ⟨p,by unfold yO;rw [if_pos h0],h0,?_,rfl,rfl,rfl⟩;rw [h.flds,if_pos h0,List.append_nil]
  · obtain ⟨h1,h2⟩:=h.pend h0;rw [hL,List.map_nil,List.append_nil] at h2;refine ⟨{ p with flds:=p.flds ++ [(bytes (yJ (p.lns.map ls)).1.1,bytes (yJ (p.lns.map ls)).1.2)],lns:=[] },?_,rfl,?_,rfl,rfl,rfl⟩
    · unfold yO;rw [if_neg h0,if_neg (by rw [h2];simp),if_neg (by rw [h1];simp)]
    · rw [h.flds,if_neg h0,hL];simp [fldOf]
theorem alike_end (h : Alike p t bh L) (hL : L.takeWhile more = []) : ∃ q,endS p = .inr q ∧ q.lns = [] ∧ q.flds = [] ∧ q.blk = [] ∧ q.its = (if t.raw = ByteArray.empty then t.out else t.out ++ [(t.kind,t.raw,t.flds)]) ∧ q.recs = t.recs:=by
  obtain ⟨q,f1,f2,f3,f4,f5,f6⟩:=alike_flush h hL;refine ⟨xO q,by unfold endS;rw [f1],?_⟩;unfold xO
  by_cases hb : p.blk = []
  · have hraw : t.raw = ByteArray.empty:=by rw [h.raw];exact rawC_nil.2 hb
    rw [if_pos (f5.trans hb),if_pos hraw];refine ⟨f2,rfl,rfl,by rw [h.its];exact f4,?_⟩;rw [h.recs,if_pos (h.blk0 hb),Int.add_zero];exact f6
  · have hraw : ¬ t.raw = ByteArray.empty:=fun e=>hb (rawC_nil.1 (by rw [← h.raw];exact e))
    rw [if_neg (by rw [f5];exact hb),if_neg hraw];refine ⟨f2,rfl,rfl,?_,?_⟩
    · simp only [h.its,h.kind,h.raw,rawB_C hb,f3,f4,f5]
    · simp only [f3,f6];rw [h.recs]
      by_cases hf : t.flds = []
      · simp [hf]
      · simp [hf]
end
theorem run_eq : ∀ (L : List Lne) (p : PSt) (t : RSt) (bh : Bool),Ends L → Alike p t bh L → outP p L = runR bh t L
  | [],p,t,bh,_,h=>by
    obtain ⟨q,e,_,_,_,h1,_⟩:=alike_end h rfl;unfold outP;simp only [runS,e,h1];rfl
  | l :: r,p,t,bh,hE,h=>by
    rw [outP_cons];unfold runR
    by_cases h3 : yD (ls l.2.2.1) = 3
    · by_cases hb : p.lns = []
      · have hbh : bh = false:=by
          cases bh
          · rfl
          · exact absurd hb (h.bh.1 rfl)
        have hw : wrongL bh l r t.flds.length t.recs = 2:=by
          unfold wrongL;rw [if_pos (.inr (.inl ⟨h3,hbh⟩))]
        have ht : yT p l = .inl (l.1,2):=by
          unfold yT yQ;rw [if_pos h3,if_pos hb]
        rw [hw,ht];rfl
      · have hbh : bh = true:=h.bh.2 hb;obtain ⟨h5,h6⟩:=h.pend hb;rw [is_more h3] at h6
        by_cases he : l.2.2.2 = true
        · have hw : wrongL bh l r t.flds.length t.recs = 0:=by
            unfold wrongL;rw [if_neg (by simp [h3,hbh,he]),if_pos (by rw [h3];decide)]
          have ht : yT p l = .inr { p with lns:=p.lns ++ [l.2.2.1],blk:=p.blk ++ [l.2.2.1] }:=by
            unfold yT;simp only [h3];simp [yQ,lineS,hb,he]
          rw [hw,ht,if_neg (by decide)];refine run_eq r _ _ _ hE.2 ?_;have hfl:=h.flds;rw [if_neg hb,is_more h3] at hfl;have hne : t.flds ≠ []:=by rw [hfl];simp
          unfold stepR;rw [if_neg (by rw [h3];decide),if_neg (by rw [h3];decide)];exact ⟨h.its,by simp only [h.raw,rawC_snoc],by simp [h3],by simp only;rw [hfl,if_neg (by simp)];simp,h.kind,h.recs,fun _=>⟨h5,by simpa using h6⟩,fun e=>by simp at e,h.r4,h.rf,h.f40⟩
        · have he' : l.2.2.2 = false:=by simpa using he
          obtain rfl:=hE.1 he';have hw : wrongL bh l [] t.flds.length t.recs = 2:=by
            unfold wrongL;rw [if_pos (.inr (.inr he'))]
          have ht : yT p l = .inl (l.1,2):=by
            have : yQ p l 3 = .inr { p with flds:=p.flds ++ [(bytes (yJ ((p.lns ++ [l.2.2.1]).map ls)).1.1,bytes (yJ ((p.lns ++ [l.2.2.1]).map ls)).1.2)],lns:=[] }:=by
              unfold yQ;rw [if_pos rfl,if_neg hb,if_neg he];unfold yO;simp only [List.takeWhile_nil,List.map_cons,List.map_nil] at h6;rw [if_neg (by simp),if_neg (by simp only [ne_eq,h6];simp),if_neg (by simp [h5])]
            unfold yT;rw [h3,this];simp [lineS,he']
          rw [hw,ht];rfl
    · have hno:=not_more h3 r
      by_cases h1 : yD (ls l.2.2.1) = 1
      · obtain ⟨q,e,e1,e2,e3,e4,e5⟩:=alike_end h hno
        by_cases he : l.2.2.2 = true
        · have hw : wrongL bh l r t.flds.length t.recs = 0:=by
            unfold wrongL;rw [if_neg (by simp [h1,he]),if_pos (by rw [h1];decide)]
          have ht : yT p l = .inr { q with its:=q.its ++ [(1,l.2.2.1 ++ ⟨#[10]⟩,[])] }:=by
            unfold yT yQ;rw [if_neg h3,if_pos h1,e];simp [lineS,h1,he]
          rw [hw,ht,if_neg (by decide)];refine run_eq r _ _ _ hE.2 ?_;unfold stepR;rw [if_pos h1];refine ⟨by simp only [e4],by rw [e3];rfl,by simp [h1,e1],by simp [e1,e2],rfl,by simp [e5],fun h=>absurd e1 h,fun _=>rfl,?_,fun e=>absurd rfl e,by simp⟩;simp only [e5,h.recs];split
          · have:=h.r4;omega
          · rename_i hf;have:=h.rf hf;omega
        · have he' : l.2.2.2 = false:=by simpa using he
          have hw : wrongL bh l r t.flds.length t.recs = 2:=by
            unfold wrongL;rw [if_pos (.inr (.inr he'))]
          have ht : yT p l = .inl (l.1,2):=by
            unfold yT yQ;rw [if_neg h3,if_pos h1,e];simp [lineS,he']
          rw [hw,ht];rfl
      · obtain ⟨q,f1,f2,f3,f4,f5,f6⟩:=alike_flush h hno;have hah : yQ p l (yD (ls l.2.2.1)) = .inr q:=by
          unfold yQ;rw [if_neg h3,if_neg h1,f1]
        by_cases hbad : yD (ls l.2.2.1) = 5 ∨ l.2.2.2 = false
        · have hw : wrongL bh l r t.flds.length t.recs = 2:=by
            unfold wrongL;rw [if_pos (hbad.elim .inl (fun h=>.inr (.inr h)))]
          have ht : yT p l = .inl (l.1,2):=by
            unfold yT lineS;rw [hah];simp only;rw [if_pos hbad]
          rw [hw,ht];rfl
        · have hb5 : yD (ls l.2.2.1) ≠ 5:=fun e=>hbad (.inl e)
          have he : l.2.2.2 = true:=by
            cases e : l.2.2.2
            · exact absurd (.inr e) hbad
            · rfl
          by_cases h4 : yD (ls l.2.2.1) = 4
          · have ht : yT p l = .inr { xM q l with blk:=q.blk ++ [l.2.2.1] }:=by
              unfold yT lineS;rw [hah];simp only;rw [if_neg hbad,if_neg h1,if_pos h4]
            have hfull : ((decide ((q.flds.length : Int) = 40) || (decide ((q.flds.length : Int) = 0) && decide (q.recs = 400))) = true) ↔ (40 ≤ (t.flds.length : Int) ∨ ((t.flds.length : Int) = 0 ∧ 400 ≤ t.recs)):=by
              have g1:=h.f40;have g2:=h.r4;have g3:=h.recs;rw [f3,f6];simp only [Bool.or_eq_true,Bool.and_eq_true,decide_eq_true_eq]
              constructor
              · rintro (g|⟨g,g'⟩)
                · exact .inl (by omega)
                · refine .inr ⟨g,?_⟩;rw [if_pos (List.eq_nil_of_length_eq_zero (by omega))] at g3;omega
              · rintro (g|⟨g,g'⟩)
                · exact .inl (by omega)
                · refine .inr ⟨g,?_⟩;rw [if_pos (List.eq_nil_of_length_eq_zero (by omega))] at g3;omega
            rw [ht]
            by_cases hu : (yJ ((saidL l r).map ls)).2 = 0
            · by_cases hfu : 40 ≤ (t.flds.length : Int) ∨ ((t.flds.length : Int) = 0 ∧ 400 ≤ t.recs)
              · have hw : wrongL bh l r t.flds.length t.recs = 11:=by
                  unfold wrongL;rw [if_neg (by simp [h4,he]),if_neg (by simp [h4]),if_neg (by simp [hu]),if_pos hfu]
                rw [hw,if_pos (by decide)];refine pend_err r _ l.1 11 hE.2 (by simp [xM]) (fun q' g1 g2 g3=>?_);have g1' : q'.lns = saidL l r:=g1;have g2' : q'.full = true:=g2.trans (hfull.2 hfu);have g3' : q'.frm = l.1:=g3;unfold yO;rw [g1',if_neg (by unfold saidL;simp),if_neg (by simp [hu]),if_pos g2',g3']
              · have hw : wrongL bh l r t.flds.length t.recs = 0:=by
                  unfold wrongL;rw [if_neg (by simp [h4,he]),if_neg (by simp [h4]),if_neg (by simp [hu]),if_neg hfu]
                rw [hw,if_neg (by decide)];refine run_eq r _ _ _ hE.2 ?_;have hff : (decide ((q.flds.length : Int) = 40) || (decide ((q.flds.length : Int) = 0) && decide (q.recs = 400))) = false:=by
                  cases e : (decide ((q.flds.length : Int) = 40) || (decide ((q.flds.length : Int) = 0) && decide (q.recs = 400)))
                  · rfl
                  · exact absurd (hfull.1 e) hfu
                unfold stepR;rw [if_neg h1,if_pos h4];refine ⟨by simp only [xM,h.its,f4],by simp only [h.raw,rawC_snoc,f5],by simp [h4,xM],?_,by simp,?_,fun _=>⟨hff,hu⟩,fun e=>by simp at e,?_,fun _=>?_,?_⟩
                · simp only [xM,f3];rw [if_neg (by simp)];rfl
                · simp only [xM,f6];have g3:=h.recs;have g4:=h.kind
                  by_cases hf : t.flds = []
                  · rw [if_pos hf] at g3 g4;rw [if_pos g4,if_neg (by simp),g3];omega
                  · rw [if_neg hf] at g3 g4;rw [if_neg (by rw [g4];decide),if_neg (by simp),g3]
                · simp only [xM,f6];exact h.r4
                · simp only [xM,f6]
                  by_cases hf : t.flds = []
                  · have g3:=h.recs;rw [if_pos hf] at g3;have : ¬ 400 ≤ t.recs:=fun e=>hfu (.inr ⟨by rw [hf];rfl,e⟩)
                    omega
                  · exact h.rf hf
                · rw [List.length_append,List.length_singleton];have : ¬ 40 ≤ (t.flds.length : Int):=fun e=>hfu (.inl e)
                  omega
            · have hw : wrongL bh l r t.flds.length t.recs = (yJ ((saidL l r).map ls)).2:=by
                unfold wrongL;rw [if_neg (by simp [h4,he]),if_neg (by simp [h4]),if_pos hu]
              rw [hw,if_pos hu];refine pend_err r _ l.1 _ hE.2 (by simp [xM]) (fun q' g1 g2 g3=>?_);have g1' : q'.lns = saidL l r:=g1;have g3' : q'.frm = l.1:=g3;unfold yO;rw [g1',if_neg (by unfold saidL;simp),if_pos hu,g3']
          · have hw : wrongL bh l r t.flds.length t.recs = 0:=by
              unfold wrongL;rw [if_neg (by simp [h3,hb5,he]),if_pos h4]
            have ht : yT p l = .inr { q with blk:=q.blk ++ [l.2.2.1] }:=by
              unfold yT lineS;rw [hah];simp only;rw [if_neg hbad,if_neg h1,if_neg h4]
            rw [hw,ht,if_neg (by decide)];refine run_eq r _ _ _ hE.2 ?_;unfold stepR;rw [if_neg h1,if_neg h4];exact ⟨by simp only [h.its,f4],by simp only [h.raw,rawC_snoc,f5],by simp [h3,h4,f2],by simp [f2,f3],h.kind,by simp only [f6];exact h.recs,fun e=>absurd f2 e,fun e=>by simp at e,by simp only [f6];exact h.r4,by simp only [f6];exact h.rf,h.f40⟩
theorem parse_ref (s : ByteArray) : xF s = runR false rst0 (yZ s):=by
  rw [parse_out];exact run_eq _ _ _ _ (ends_linesR _ _ _ _) ⟨rfl,rfl,by simp [pst0],by simp [rst0,pst0],rfl,rfl,fun e=>absurd rfl e,fun _=>rfl,by decide,fun e=>absurd rfl e,by simp [rst0]⟩
def mkL (t : ByteArray) : Lne:=(0,0,t,true)
def Ready (p : PSt) (F : List Fld) : Prop:=∃ q,yO p = .inr q ∧ q.lns = [] ∧ q.flds = F ∧ q.its = p.its ∧ q.recs = p.recs ∧ q.blk = p.blk
def foldsL (a b : List Fld) (n : List UInt8) : List ByteArray:=bytes (35 :: n) :: ((a.flatMap fun f=>lineB f.1 f.2) ++ (⟨#[]⟩ :: ((b.flatMap fun f=>lineB f.1 f.2) ++ [bytes (35 :: n)])))
theorem at_fault (at_ n : Int) : qT Tryz.prog 16 [.one (errF at_ n)] (ii .i64 at_):=by
  refine qQ (rs:=[2]) Tryz.func16 rfl rfl rfl teOk rfl ?_;refine qC ?_;refine qB ?_;refine qC ?_;refine qC ?_;refine qB ?_;refine qC ?_;refine qB ?_;refine zai (fun h=>trivial) ?_;refine zai (fun h=>⟨⟨h,trivial⟩,trivial⟩) ?_;refine zai (by exact fun h=>h) ?_;refine qJ rfl (fun h14=>?_) (fun h14=>?_)
  ·try simp only [Bool.and_eq_true] at h14
   try simp only [zds] at h14
   refine qC ?_;refine qB ?_;refine qM ?_;rfl
  ·try simp only [Bool.and_eq_false_iff] at h14
   try simp only [zds] at h14
   simp at h14
theorem is_fault (at_ n : Int) (hn : n ≠ 0) : qT Tryz.prog 29 [.one (errF at_ n),ii .i64 n] (ib true):=by
  refine qQ (rs:=[4]) Tryz.func29 rfl rfl rfl teOk rfl ?_;refine qC ?_;refine qB ?_;refine qC ?_;refine qB ?_;refine Or.inl ?_;refine zai (rfl) ?_;refine zei _ (zai (num_fault at_ n hn) ?_);refine qM ?_;exact ib_eq (decide_eq_true rfl)
structure SpI (s : ByteArray) (i at_ : Nat) (out : List Lne) : Prop where
  ai : at_ ≤ i
  is : i ≤ s.size
  no : (10 : UInt8) ∉ ((ls s).drop at_).take (i - at_)
  ol : out.length ≤ at_
  eq : ∃ f,((ls s).drop at_).length ≤ f ∧ out ++ linesR f s.size out.length ((ls s).drop at_) = yZ s
def rawsL (l : List Itm) : List UInt8:=l.flatMap fun x=>ls x.2.1
def bhI (k : List Int) (i : Nat) : Bool:=decide (0 < i) && (decide (k.getD (i - 1) 0 = 4) || decide (k.getD (i - 1) 0 = 3))
structure RI (L : List Lne) (k : List Int) (i : Nat) (t : RSt) : Prop where
  il : i ≤ L.length
  eq : runR false rst0 L = runR (bhI k i) t (L.drop i)
  r0 : 0 ≤ t.recs
  ri : t.recs ≤ i
  oi : t.out.length ≤ 2 * i
  fi : t.flds.length ≤ i
  rw_ : t.raw.size ≤ ((L.take i).map (fun l=>l.2.2.1.size + 1)).sum
  rd : t.raw = ByteArray.empty ↔ t.raw.size = 0
def resR : (Int × Int) ⊕ List Itm → A
  | .inl e=>.tup [(false,[.sl rItm []]),(false,[.lit (.int .i64 e.1)]),(false,[.lit (.int .i64 e.2)])]
  | .inr l=>.tup [(false,[.sl rItm l]),(false,[.lit (.int .i64 (-9))]),(false,[.lit (.int .i64 0)])]
abbrev rRow : Rd (List Fld):=.sl rFld
def recsL (l : List Itm) : List (List Fld):=(l.filter fun x=>decide (x.1 = 3)).map (·.2.2)
def contP (p : PSt) : List UInt8:=rawsL p.its ++ endL (p.blk.map ls)
theorem raws_app (a b : List Itm) : rawsL (a ++ b) = rawsL a ++ rawsL b:=by simp [rawsL]
theorem endL_app (a b : List (List UInt8)) : endL (a ++ b) = endL a ++ endL b:=by simp [endL]
theorem close_cont (p : PSt) : contP (xO p) = contP p:=by
  unfold xO;split
  · rename_i h;unfold contP;simp [h]
  · rename_i h;unfold contP;simp only [raws_app];rw [rawB_C h];have : rawsL [((if p.flds = [] then 2 else 3 : Int),rawC p.blk,p.flds)] = endL (p.blk.map ls):=by
      unfold rawsL rawC;simp only [List.flatMap_cons,List.flatMap_nil,List.append_nil];exact yC _
    rw [this];simp [endL]
theorem flush_cont {p q : PSt} (h : yO p = .inr q) : contP q = contP p:=by
  obtain ⟨h1,h2⟩:=flush_same h;unfold contP;rw [h1,h2]
theorem end_cont {p q : PSt} (h : endS p = .inr q) : contP q = contP p:=by
  unfold endS at h;cases e : yO p with
  | inl x=>rw [e] at h;cases h
  | inr r =>
    rw [e] at h;cases h;rw [close_cont,flush_cont e]
theorem ahead_cont {p q : PSt} {l : Lne} {k : Int} (h : yQ p l k = .inr q) : contP q = contP p:=by
  unfold yQ at h;split at h
  · split at h
    · cases h
    · split at h
      · cases h;rfl
      · rw [flush_cont h];rfl
  · split at h
    · exact end_cont h
    · exact flush_cont h
theorem take_cont {p q : PSt} {l : Lne} (h : yT p l = .inr q) : contP q = contP p ++ (ls l.2.2.1 ++ [10]):=by
  have hi:=fun hk=>(ahead_took (p:=p) (l:=l) (k:=yD (ls l.2.2.1)) (q:=q) hk)
  unfold yT at h;cases e : yQ p l (yD (ls l.2.2.1)) with
  | inl x=>rw [e] at h;cases h
  | inr r =>
    rw [e] at h;have hc:=ahead_cont e;obtain ⟨_,_,h4⟩:=ahead_took e;simp only at h;unfold lineS at h;split at h
    · cases h
    · split at h
      · rename_i g1;cases h;rw [← hc];unfold contP;simp only [raws_app,(h4 g1).2.1];simp [rawsL,endL,ls]
      · split at h
        · cases h;rw [← hc];unfold contP xM;simp only [List.map_append,endL_app];simp [endL,ls]
        · cases h;rw [← hc];unfold contP;simp only [List.map_append,endL_app];simp [endL,ls]
theorem run_cont : ∀ (L : List Lne) (p q : PSt),runS p L = .inr q → contP q = contP p ++ glue (L.map (·.2.2))
  | [],p,q,h=>by cases h;simp [glue]
  | l :: r,p,q,h=>by
    simp only [runS] at h;cases e : yT p l with
    | inl x=>rw [e] at h;cases h
    | inr p1 =>
      rw [e] at h;obtain ⟨he,_⟩:=take_took e;rw [run_cont r p1 q h,take_cont e,List.map_cons];simp only [glue,he,if_true,List.append_assoc]
theorem raws_text {s : ByteArray} {l : List Itm} (hp : xF s = .inr l) : bytes (rawsL l) = s:=by
  unfold xF at hp;cases e : runS pst0 (yZ s) with
  | inl x=>rw [e] at hp;cases hp
  | inr p =>
    rw [e] at hp;simp only at hp;cases e2 : endS p with
    | inl x=>rw [e2] at hp;cases hp
    | inr q =>
      rw [e2] at hp;cases hp;obtain ⟨_,_,hidle⟩:=end_took e2;have h1 : contP q = rawsL q.its:=by unfold contP;rw [hidle.2.1];simp [endL]
      rw [← h1,end_cont e2,run_cont _ _ _ e,lines_text,glue_lines _ _ (by rw [show (ls s).length = s.size from (yB s).symm];exact Nat.le_refl _)];exact bytes_ls s
theorem items_flds {s : ByteArray} {l : List Itm} (hs : s.size ≤ 60000) (hp : xF s = .inr l) : l.length ≤ 1000000 ∧ ∀ x ∈ l,x.2.2.length ≤ 1000000:=by
  have h0:=parse_ref s;rw [hp] at h0;obtain ⟨h1,_⟩:=linesT_len s;have key : ∀ (L : List Lne) (t : RSt) (bh : Bool) (l : List Itm),runR bh t L = .inr l → l.length ≤ t.out.length + 1 + 2 * L.length ∧ ∀ (B : Nat),t.flds.length + L.length ≤ B → (∀ x ∈ t.out,x.2.2.length ≤ B) → ∀ x ∈ l,x.2.2.length ≤ B:=by
    intro L
    induction L with
    | nil =>
      intro t bh l h;unfold runR at h;cases h;refine ⟨by split <;> simp,fun B hB ho x hx=>?_⟩;split at hx
      · exact ho x hx
      · rcases List.mem_append.1 hx with hx|hx
        · exact ho x hx
        · rw [List.mem_singleton.1 hx];simpa using hB
    | cons a r ih =>
      intro t bh l h;unfold runR at h;split at h
      · cases h
      · obtain ⟨i1,i2⟩:=ih _ _ _ h;have so : (stepR t a r).out.length ≤ t.out.length + 2:=by
          unfold stepR;split
          · simp only;split <;> simp
          · split <;> simp
        have sf : (stepR t a r).flds.length ≤ t.flds.length + 1:=by
          unfold stepR;split
          · simp
          · split <;> simp
        refine ⟨by rw [List.length_cons];omega,fun B hB ho=>i2 B (by rw [List.length_cons] at hB;omega) (fun x hx=>?_)⟩;have hB2 : t.flds.length ≤ B:=by omega
        unfold stepR at hx;split at hx
        · simp only at hx;rcases List.mem_append.1 hx with hx|hx
          · split at hx
            · exact ho x hx
            · rcases List.mem_append.1 hx with hx|hx
              · exact ho x hx
              · rw [List.mem_singleton.1 hx];exact hB2
          · rw [List.mem_singleton.1 hx];exact Nat.zero_le _
        · split at hx
          · exact ho x hx
          · exact ho x hx
  obtain ⟨k1,k2⟩:=key _ _ _ _ h0.symm;refine ⟨by simp only [rst0,List.length_nil] at k1;omega,k2 1000000 (by simp only [rst0,List.length_nil];omega) (fun x hx=>by cases hx)⟩
def apartK (k : Int) : List Itm → List Itm
  | []=>[]
  | x :: r=>if k ≠ 1 ∧ x.1 ≠ 1 then (1,⟨#[10]⟩,[]) :: x :: apartK x.1 r else x :: apartK x.1 r
def apartL (l : List Itm) : List Itm:=apartK 1 l
def altK (k : Int) : List Itm → Prop
  | []=>True
  | x :: r=>(k = 1 ∨ x.1 = 1) ∧ altK x.1 r
def lastK (k : Int) : List Itm → Int
  | []=>k
  | x :: r=>lastK x.1 r
def AltP (p : PSt) : Prop:=altK 1 p.its ∧ lastK 1 p.its = 1
theorem flush_recs {p q : PSt} (h : yO p = .inr q) : q.recs = p.recs:=by
  unfold yO at h;split at h
  · cases h;rfl
  · split at h
    · cases h
    · split at h
      · cases h
      · cases h;rfl
theorem close_recs (p : PSt) : p.recs ≤ (xO p).recs ∧ (xO p).recs ≤ p.recs + 1:=by
  unfold xO;split
  · exact ⟨Int.le_refl _,by simp only;omega⟩
  · simp only;split <;> omega
theorem end_recs {p q : PSt} (h : endS p = .inr q) : p.recs ≤ q.recs ∧ q.recs ≤ p.recs + 1:=by
  unfold endS at h;cases e : yO p with
  | inl x=>rw [e] at h;cases h
  | inr r =>
    rw [e] at h;cases h;rw [← flush_recs e];exact close_recs r
theorem ahead_recs {p q : PSt} {l : Lne} {k : Int} (h : yQ p l k = .inr q) : p.recs ≤ q.recs ∧ (k ≠ 1 → q.recs = p.recs):=by
  unfold yQ at h;split at h
  · split at h
    · cases h
    · split at h
      · cases h;exact ⟨Int.le_refl _,fun _=>rfl⟩
      · have:=flush_recs h;simp only at this;exact ⟨by omega,fun _=>this⟩
  · split at h
    · rename_i h1;exact ⟨(end_recs h).1,fun e=>absurd h1 e⟩
    · have:=flush_recs h;exact ⟨by omega,fun _=>this⟩
theorem line_recs {p q : PSt} {l : Lne} {k : Int} (h : lineS p l k = .inr q) : q.recs = p.recs:=by
  unfold lineS at h;split at h
  · cases h
  · split at h
    · cases h;rfl
    · split at h <;> (cases h;rfl)
theorem take_recs {p q : PSt} {l : Lne} (h : yT p l = .inr q) : p.recs ≤ q.recs ∧ (yD (ls l.2.2.1) ≠ 1 → q.recs = p.recs):=by
  unfold yT at h;cases e : yQ p l (yD (ls l.2.2.1)) with
  | inl x=>rw [e] at h;cases h
  | inr r =>
    rw [e] at h;rw [line_recs h];exact ahead_recs e
theorem take_its {p q : PSt} {l : Lne} (h : yT p l = .inr q) (hk : yD (ls l.2.2.1) ≠ 1) : q.its = p.its:=by
  unfold yT at h;cases e : yQ p l (yD (ls l.2.2.1)) with
  | inl x=>rw [e] at h;cases h
  | inr r =>
    rw [e] at h;have h1 : r.its = p.its:=by
      unfold yQ at e;split at e
      · split at e
        · cases e
        · split at e
          · cases e;rfl
          · exact (flush_same e).1
      · exact (flush_same e).1
    rw [← h1];simp only at h;unfold lineS at h;split at h
    · cases h
    · split at h <;> (cases h;rfl)
structure Fwd (I : List Itm) (c : Int) (p q : PSt) : Prop where
  lns : p.lns = q.lns
  full : q.lns ≠ [] → q.full = false → p.full = false
  its : p.its = I ++ q.its
  blk : p.blk = q.blk
  flds : p.flds = q.flds
  recs : p.recs = q.recs + c
  c0 : 0 ≤ c
section
variable {I : List Itm} {c : Int} {p q q1 : PSt}
end
def Blk (x : Itm) : Prop:=∃ (L : List Lne) (q qe : PSt),(∀ l ∈ L,l.2.2.2 = true ∧ (10 : UInt8) ∉ ls l.2.2.1) ∧ runS pst0 L = .inr q ∧ q.its = [] ∧ q.recs = 0 ∧ endS q = .inr qe ∧ qe.its = [x] ∧ glue (L.map (·.2.2)) = ls x.2.1
theorem end_one {q qe : PSt} (h : endS q = .inr qe) (h0 : q.its = []) : qe.its = [] ∨ ∃ x,qe.its = [x]:=by
  unfold endS at h;cases e : yO q with
  | inl x=>rw [e] at h;cases h
  | inr r =>
    rw [e] at h;cases h;have h1:=(flush_same e).1;unfold xO;split
    · left;simp only;rw [h1,h0]
    · right;simp only;rw [h1,h0];exact ⟨_,rfl⟩
def Par (p : PSt) : Prop:=∃ (I : List Itm) (c : Int) (L : List Lne) (q : PSt),Rel I c p q ∧ runS pst0 L = .inr q ∧ q.its = [] ∧ q.recs = 0 ∧ (∀ l ∈ L,l.2.2.2 = true ∧ (10 : UInt8) ∉ ls l.2.2.1) ∧ ∀ x ∈ I,x.1 ≠ 1 → Blk x
theorem end_par {p pe : PSt} (hp : Par p) (h : endS p = .inr pe) : (∀ x ∈ pe.its,x.1 ≠ 1 → Blk x) ∧ Idle pe ∧ 0 ≤ pe.recs ∧ pe.recs ≤ 400:=by
  obtain ⟨I,c,L,q,hrel,hrun,hits,hrec,hL,hI⟩:=hp;obtain ⟨qe,h1,h2⟩:=end_rel hrel h;obtain ⟨_,_,hid⟩:=end_took h;have hqr:=end_recs h1;refine ⟨fun x hx hx1=>?_,hid,by have:=h2.recs;have:=h2.c0;omega,h2.r4⟩;rw [h2.its] at hx;rcases List.mem_append.1 hx with hx|hx
  · exact hI x hx hx1
  · rcases end_one h1 hits with e|⟨y,e⟩
    · rw [e] at hx;cases hx
    · rw [e] at hx;obtain rfl:=List.mem_singleton.1 hx;refine ⟨L,q,qe,hL,hrun,hits,hrec,h1,e,?_⟩;obtain ⟨_,_,hidq⟩:=end_took h1;have c1:=end_cont h1;have c2:=run_cont _ _ _ hrun;have c3 : contP qe = rawsL qe.its:=by unfold contP;rw [hidq.2.1];simp [endL]
      have c4 : contP pst0 = []:=rfl;rw [c4,List.nil_append] at c2;rw [← c2,← c1,c3,e];simp [rawsL]
theorem take_par {p p1 : PSt} {l : Lne} (hp : Par p) (h : yT p l = .inr p1) (hn : (10 : UInt8) ∉ ls l.2.2.1) : Par p1:=by
  by_cases hk : yD (ls l.2.2.1) = 1
  · unfold yT at h;rw [hk] at h;cases e : yQ p l 1 with
    | inl x=>rw [e] at h;cases h
    | inr pe =>
      rw [e] at h;have e' : endS p = .inr pe:=e;obtain ⟨hb,hid,h0,h4⟩:=end_par hp e';simp only at h;unfold lineS at h;split at h
      · cases h
      · rw [if_pos rfl] at h;cases h;refine ⟨_,_,[],pst0,rel_self (pe.its ++ [(1,l.2.2.1 ++ ⟨#[10]⟩,[])]) ⟨hid.1,hid.2.1,hid.2.2⟩ rfl h0 h4,rfl,rfl,rfl,(fun _ h=>by cases h),fun x hx hx1=>?_⟩;rcases List.mem_append.1 hx with hx|hx
        · exact hb x hx hx1
        · rw [List.mem_singleton.1 hx] at hx1;exact absurd rfl hx1
  · obtain ⟨I,c,L,q,hrel,hrun,hits,hrec,hL,hI⟩:=hp;obtain ⟨a,b,t⟩:=l;obtain ⟨q1,h1,h2⟩:=take_rel (a':=a) (b':=b) hrel h;refine ⟨I,c,L ++ [(a,b,t)],q1,h2,?_,(take_its h1 hk).trans hits,((take_recs h1).2 hk).trans hrec,fun x hx=>?_,hI⟩
    · rw [run_app _ _ _ _ hrun];simp only [runS,h1]
    · rcases List.mem_append.1 hx with hx|hx
      · exact hL x hx
      · rw [List.mem_singleton.1 hx];exact ⟨(take_took h).1,hn⟩
theorem run_par : ∀ (L : List Lne) (p q : PSt),Par p → runS p L = .inr q → (∀ l ∈ L,(10 : UInt8) ∉ ls l.2.2.1) → Par q
  | [],p,q,hp,h,_=>by cases h;exact hp
  | l :: r,p,q,hp,h,hn=>by
    simp only [runS] at h;cases e : yT p l with
    | inl x=>rw [e] at h;cases h
    | inr p1 =>
      rw [e] at h;exact run_par r p1 q (take_par hp e (hn l List.mem_cons_self)) h (fun x hx=>hn x (List.mem_cons_of_mem _ hx))
theorem parse_blks {s : ByteArray} {l : List Itm} (hp : xF s = .inr l) : ∀ x ∈ l,x.1 ≠ 1 → Blk x:=by
  unfold xF at hp;cases e : runS pst0 (yZ s) with
  | inl x=>rw [e] at hp;cases hp
  | inr p =>
    rw [e] at hp;simp only at hp;cases e2 : endS p with
    | inl x=>rw [e2] at hp;cases hp
    | inr q =>
      rw [e2] at hp;cases hp;refine (end_par (run_par _ _ _ ⟨[],0,[],pst0,rel_0,rfl,rfl,rfl,(fun _ h=>by cases h),(fun _ h=>by cases h)⟩ e fun l hl=>?_) e2).1;have h1 : l.2.2 ∈ (yZ s).map (·.2.2):=List.mem_map_of_mem hl;rw [lines_text] at h1;exact linesB_no _ _ _ h1
theorem raws_sz (l : List Itm) : (rawsL l).length = szI l:=by
  induction l with
  | nil=>rfl
  | cons x r ih =>
    unfold rawsL szI at *;simp only [List.flatMap_cons,List.length_append,List.map_cons,List.sum_cons,ih];rw [yB]
def mix1 (l : List Itm) (k : Nat) : List Itm:=if k < l.length ∧ (l.getD k ((0 : Int),ByteArray.empty,([] : List Fld))).1 ≠ 1 then [l.getD k ((0 : Int),ByteArray.empty,([] : List Fld))] else []
def mixL (turn : Bool) (l m : List Itm) (i : Nat) : List Itm:=(List.range i).flatMap fun k=>mix1 l k ++ if turn then mix1 m k else []
abbrev Ent:=Itm × Int
abbrev rEnt : Rd Ent:=.st rItm (.int .i64)
abbrev Lst:=List Ent × Int × Int
abbrev rLst (k : Nat) : Rd Lst:=.st (.slk k rEnt) (.st (.int .i64) (.int .i64))
abbrev Stz:=Int × List Fld
abbrev rStz : Rd Stz:=.st (.int .i64) (.sl rFld)
def isRec (x : Itm) : Bool:=decide (x.1 = 3)
def cntR (l : List Itm) : Nat:=(l.filter isRec).length
def numI (n : Int) : List Itm → List Ent
  | []=>[]
  | x :: r=>match isRec x with
    | true=>(x,n) :: numI (n + 1) r
    | false=>(x,0) :: numI n r
theorem cntR_app (a b : List Itm) : cntR (a ++ b) = cntR a + cntR b:=by simp [cntR]
theorem numI_snoc : ∀ (l : List Itm) (n : Int) (x : Itm),numI n (l ++ [x]) = numI n l ++ [(x,if isRec x then n + cntR l else 0)]
  | [],n,x=>by
    cases h : isRec x <;> simp [numI,h,cntR]
  | y :: r,n,x=>by
    have ih:=fun m=>numI_snoc r m x
    cases h : isRec y with
    | true =>
      have e : n + 1 + (cntR r : Int) = n + (cntR (y :: r) : Int):=by simp [cntR,h];omega
      simp only [List.cons_append,numI,h,ih,e]
    | false =>
      have e : (cntR r : Int) = (cntR (y :: r) : Int):=by simp [cntR,h]
      simp only [List.cons_append,numI,h,ih,e]
theorem numI_len : ∀ (l : List Itm) (n : Int),(numI n l).length = l.length
  | [],_=>rfl
  | x :: r,n=>by
    unfold numI;split <;> simp [numI_len r]
theorem numI_items : ∀ (l : List Itm) (n : Int),(numI n l).map (·.1) = l
  | [],_=>rfl
  | x :: r,n=>by
    unfold numI;split <;> simp [numI_items r]
def ofT (l : List Itm) : Lst:=(numI 1 l,1 + (cntR l : Int),(cntR l : Int))
def hasId (id : Int) (e : Ent) : Bool:=decide (e.2 = id)
def atE (es : List Ent) (id : Int) : Int:=if id < 1 then -1 else ixOf (hasId id) es
theorem at_cases (es : List Ent) (id : Int) : (atE es id = -1 ∧ ∀ e ∈ es,0 < id → e.2 ≠ id) ∨ ∃ i : Nat,i < es.length ∧ atE es id = i ∧ 0 < id ∧ (es.getD i (((0 : Int),ByteArray.empty,([] : List Fld)),(0 : Int))).2 = id ∧ ∀ e ∈ es.take i,e.2 ≠ id:=by
  unfold atE
  by_cases h : id < 1
  · exact .inl ⟨if_pos h,fun e _ h0=>by omega⟩
  · rw [if_neg h];rcases ixOf_cases (hasId id) es (((0 : Int),ByteArray.empty,([] : List Fld)),(0 : Int)) with ⟨h1,h2⟩|⟨i,h1,h2,h3,h4⟩
    · refine .inl ⟨h1,fun e he _=>?_⟩;have:=List.any_eq_false.1 h2 e he
      simpa [hasId] using this
    · refine .inr ⟨i,h1,h2,by omega,by simpa [hasId] using h4,fun e he=>?_⟩;have:=List.any_eq_false.1 h3 e he
      simpa [hasId] using this
def replE (es : List Ent) (i : Nat) (x : Itm) : List Ent:=es.set i (x,(es.getD i (((0 : Int),ByteArray.empty,([] : List Fld)),(0 : Int))).2)
def delE (es : List Ent) (i : Nat) : List Ent:=es.take i ++ es.drop (i + 1)
def insE (es : List Ent) (i : Nat) (e : Ent) : List Ent:=es.take i ++ e :: es.drop i
def live (e : Ent) : Bool:=decide (0 < e.2)
def stzOf (e : Ent) : Stz:=(e.2,e.1.2.2)
def stzL (es : List Ent) : List Stz:=(es.filter live).map stzOf
def itmL (es : List Ent) : List Itm:=es.map (·.1)
def plcL (es : List Ent) (id : Int) : Int:=ixOf (hasId id) (es.filter live)
def rowsL (es : List Ent) : List (List Fld):=(stzL es).map (·.2)
def getL (es : List Ent) (id : Int) : List Fld:=(es.getD (atE es id).toNat (((0 : Int),ByteArray.empty,([] : List Fld)),(0 : Int))).1.2.2
def rawL (es : List Ent) (id : Int) : ByteArray:=(es.getD (atE es id).toNat (((0 : Int),ByteArray.empty,([] : List Fld)),(0 : Int))).1.2.1
def txtL (es : List Ent) : List UInt8:=rawsL (apartL (itmL es))
theorem cntR_at {l : List Itm} {i : Nat} (h : i < l.length) : cntR (l.take (i + 1)) = cntR (l.take i) + if isRec (l.getD i ((0 : Int),ByteArray.empty,([] : List Fld))) then 1 else 0:=by
  rw [← yH ((0 : Int),ByteArray.empty,([] : List Fld)) h,cntR_app]
  generalize l.getD i ((0 : Int),ByteArray.empty,([] : List Fld)) = x
  cases hk : isRec x
  · simp [cntR,hk]
  · simp [cntR,hk]
theorem numI_at {l : List Itm} {i : Nat} (h : i < l.length) : numI 1 (l.take (i + 1)) = numI 1 (l.take i) ++ [(l.getD i ((0 : Int),ByteArray.empty,([] : List Fld)),if isRec (l.getD i ((0 : Int),ByteArray.empty,([] : List Fld))) then 1 + (cntR (l.take i) : Int) else 0)]:=by
  rw [← yH ((0 : Int),ByteArray.empty,([] : List Fld)) h];exact numI_snoc (l.take i) 1 _
theorem cntR_le (l : List Itm) : cntR l ≤ l.length:=List.length_filter_le _ _
def lsO (l : Lst) : Obs:=[(0,.box 116 [.vec 1,.lit (.int .i64 l.2.1),.lit (.int .i64 l.2.2)]),(1,.vec 111 rEnt l.1)]
theorem lbox_eq {a b c d : Int} (h1 : a = c) (h2 : b = d) : some (Ob.box 116 [.vec 1,.lit (.int .i64 a),.lit (.int .i64 b)]) = some (Ob.box 116 [.vec 1,.lit (.int .i64 c),.lit (.int .i64 d)]):=by rw [h1,h2]
theorem of_ok (s : ByteArray) (hs : s.size ≤ 60000) {l : List Itm} (hp : xF s = .inr l) : yA Tryz.prog 27 [is s] [] 0 (.tup [(false,[.own 0 0]),(false,[.lit .nilIface])]) (lsO (ofT l)) 2:=by
  have hpa:=parse_a s hs;rw [hp] at hpa;obtain ⟨hl1,hl2⟩:=items_flds hs hp;refine qY (rs:=[2,3]) Tryz.func27 rfl rfl rfl teOk (by decide) rfl ?_;refine qC ?_;refine qB ?_;refine qC ?_;refine qB ?_;refine Or.inl ?_;refine zai (rfl) ?_;refine zei _ (zai (hpa) ?_);refine qC ?_;refine qC ?_;refine qB ?_;refine qJ rfl (fun h16=>?_) (fun h16=>?_)
  ·try simp only [Bool.not_eq_true'] at h16
   try simp only [zds] at h16
   cases h16
  ·try simp only [Bool.not_eq_false'] at h16
   try simp only [zds] at h16
   refine qL ?_;refine qC ?_;refine qB ?_;refine qC ?_;refine qC ?_;refine yK 0 0 111 rEnt rfl rfl rfl ?_;refine qB ?_;intro l5_1
   try simp only [zds] at l5_1
   refine qN ?_;refine qR (fun (i : Nat)=>i ≤ l.length) (fun (i : Nat)=>[(0,is s),(6,.one (.own 0 0)),(20,.one (.sl rItm l)),(21,ii .i64 l.length),(22,ii .i64 i)]) (fun (i : Nat)=>[(0,.box 116 [.vec 1,.lit (.int .i64 (1 + (cntR (l.take i) : Int))),.lit (.int .i64 (cntR (l.take i)))]),(1,.vec 111 rEnt (numI 1 (l.take i)))]) 2 (fun (i : Nat)=>l.length - i) 0 (Nat.zero_le _) (qP ⟨rfl,rfl,rfl,rfl,rfl⟩ ⟨rfl,rfl⟩ rfl) ?_;intro i hI0;refine qC ?_;refine qB ?_;refine qC ?_;refine qJ rfl (fun h23=>?_) (fun h23=>?_)
   ·try simp only [decide_eq_true_eq] at h23
    try simp only [zds] at h23
    have hil : i < l.length:=(by omega);have hsn:=numI_at hil;have hcn:=cntR_at hil;have hcl:=cntR_le (l.take i);rw [List.length_take] at hcl;refine qL ?_;refine qC ?_;refine qN ?_;refine qC ?_;refine qB ?_;refine zai (by first|omega|assumption|decide|(simp only [zds];omega)|(simp <;> omega)) ?_;refine qC ?_;refine qB ?_;refine qC ?_;refine qC ?_;refine qB ?_;refine qJ rfl (fun h30=>?_) (fun h30=>?_)
    ·try simp only [decide_eq_true_eq] at h30
     try simp only [Int.toNat_natCast,qH,qG,qF,qE] at h30
     have hk : isRec (l.getD i ((0 : Int),ByteArray.empty,([] : List Fld))) = true:=decide_eq_true h30;rw [hk,if_pos rfl] at hsn hcn;refine qC ?_;refine qB ?_;refine qC ?_;refine qB ?_;refine zai (by first|omega|assumption|decide|(simp only [zds];omega)|(simp <;> omega)) ?_;refine qB ?_;refine zai (by first|omega|assumption|decide|(simp only [zds];omega)|(simp <;> omega)) ?_;refine yV rfl ?_;refine qI 0 rfl rfl rfl (by kernel_rfl) ?_;refine qI 1 rfl rfl rfl (by kernel_rfl) ?_;refine qI 2 rfl rfl rfl (by kernel_rfl) ?_;refine qI 3 rfl rfl rfl (by kernel_rfl) ?_;refine qK [4,5] (by kernel_rfl) rfl ?_;refine zai ?_ ?_
     ·refine qK [5] (by kernel_rfl) rfl ?_;refine qK [6] (by kernel_rfl) rfl ?_;refine qK [7] (by kernel_rfl) rfl ?_;refine zai (by exact qU (show (numI 1 (l.take i)).length + 1 ≤ 1000000000 by rw [numI_len,List.length_take];omega) (by decide)) ?_;refine qI 8 rfl rfl rfl (by kernel_rfl) ?_;refine qI 9 rfl rfl rfl (by kernel_rfl) ?_;refine qK [10] (by kernel_rfl) rfl ?_;refine qO (by kernel_rfl) ?_;refine qB ?_;refine zai (by first|omega|assumption|decide|(simp only [zds];omega)|(simp <;> omega)) ?_;exact ⟨i + 1,by omega,by first|omega|(simp <;> omega),qP ⟨rfl,rfl,rfl,rfl,rfl⟩ ⟨(lbox_eq (by omega) (by omega)),(qX (by rw [hsn];exact rfl))⟩ rfl⟩
     ·refine qK [4,6] (by kernel_rfl) rfl ?_;refine zai ?_ ?_
      ·refine qK [6] (by kernel_rfl) rfl ?_;refine qK [7] (by kernel_rfl) rfl ?_;refine zai (by exact qU (show (numI 1 (l.take i)).length + 1 ≤ 1000000000 by rw [numI_len,List.length_take];omega) (by decide)) ?_;refine qI 8 rfl rfl rfl (by kernel_rfl) ?_;refine qI 9 rfl rfl rfl (by kernel_rfl) ?_;refine qK [10] (by kernel_rfl) rfl ?_;refine qO (by kernel_rfl) ?_;refine qB ?_;refine zai (by first|omega|assumption|decide|(simp only [zds];omega)|(simp <;> omega)) ?_;exact ⟨i + 1,by omega,by first|omega|(simp <;> omega),qP ⟨rfl,rfl,rfl,rfl,rfl⟩ ⟨(lbox_eq (by omega) (by omega)),(qX (by rw [hsn];exact rfl))⟩ rfl⟩
      ·refine qK [4] (by kernel_rfl) rfl ?_;refine qK [7] (by kernel_rfl) rfl ?_;refine zai (by exact qU (show (numI 1 (l.take i)).length + 1 ≤ 1000000000 by rw [numI_len,List.length_take];omega) (by decide)) ?_;refine qI 8 rfl rfl rfl (by kernel_rfl) ?_;refine qI 9 rfl rfl rfl (by kernel_rfl) ?_;refine qK [10] (by kernel_rfl) rfl ?_;refine qO (by kernel_rfl) ?_;refine qB ?_;refine zai (by first|omega|assumption|decide|(simp only [zds];omega)|(simp <;> omega)) ?_;exact ⟨i + 1,by omega,by first|omega|(simp <;> omega),qP ⟨rfl,rfl,rfl,rfl,rfl⟩ ⟨(lbox_eq (by omega) (by omega)),(qX (by rw [hsn];exact rfl))⟩ rfl⟩
    ·try simp only [decide_eq_false_iff_not] at h30
     try simp only [Int.toNat_natCast,qH,qG,qF,qE] at h30
     have hk : isRec (l.getD i ((0 : Int),ByteArray.empty,([] : List Fld))) = false:=decide_eq_false h30;rw [hk,if_neg Bool.false_ne_true] at hsn hcn;refine qL ?_;refine yV rfl ?_;refine qI 0 rfl rfl rfl (by kernel_rfl) ?_;refine qI 1 rfl rfl rfl (by kernel_rfl) ?_;refine qI 2 rfl rfl rfl (by kernel_rfl) ?_;refine qI 3 rfl rfl rfl (by kernel_rfl) ?_;refine qK [4,5] (by kernel_rfl) rfl ?_;refine zai ?_ ?_
     ·refine qK [5] (by kernel_rfl) rfl ?_;refine qK [6] (by kernel_rfl) rfl ?_;refine qK [7] (by kernel_rfl) rfl ?_;refine zai (by exact qU (show (numI 1 (l.take i)).length + 1 ≤ 1000000000 by rw [numI_len,List.length_take];omega) (by decide)) ?_;refine qI 8 rfl rfl rfl (by kernel_rfl) ?_;refine qI 9 rfl rfl rfl (by kernel_rfl) ?_;refine qK [10] (by kernel_rfl) rfl ?_;refine qO (by kernel_rfl) ?_;refine qB ?_;refine zai (by first|omega|assumption|decide|(simp only [zds];omega)|(simp <;> omega)) ?_;exact ⟨i + 1,by omega,by first|omega|(simp <;> omega),qP ⟨rfl,rfl,rfl,rfl,rfl⟩ ⟨(lbox_eq (by omega) (by omega)),(qX (by rw [hsn];exact rfl))⟩ rfl⟩
     ·refine qK [4,6] (by kernel_rfl) rfl ?_;refine zai ?_ ?_
      ·refine qK [6] (by kernel_rfl) rfl ?_;refine qK [7] (by kernel_rfl) rfl ?_;refine zai (by exact qU (show (numI 1 (l.take i)).length + 1 ≤ 1000000000 by rw [numI_len,List.length_take];omega) (by decide)) ?_;refine qI 8 rfl rfl rfl (by kernel_rfl) ?_;refine qI 9 rfl rfl rfl (by kernel_rfl) ?_;refine qK [10] (by kernel_rfl) rfl ?_;refine qO (by kernel_rfl) ?_;refine qB ?_;refine zai (by first|omega|assumption|decide|(simp only [zds];omega)|(simp <;> omega)) ?_;exact ⟨i + 1,by omega,by first|omega|(simp <;> omega),qP ⟨rfl,rfl,rfl,rfl,rfl⟩ ⟨(lbox_eq (by omega) (by omega)),(qX (by rw [hsn];exact rfl))⟩ rfl⟩
      ·refine qK [4] (by kernel_rfl) rfl ?_;refine qK [7] (by kernel_rfl) rfl ?_;refine zai (by exact qU (show (numI 1 (l.take i)).length + 1 ≤ 1000000000 by rw [numI_len,List.length_take];omega) (by decide)) ?_;refine qI 8 rfl rfl rfl (by kernel_rfl) ?_;refine qI 9 rfl rfl rfl (by kernel_rfl) ?_;refine qK [10] (by kernel_rfl) rfl ?_;refine qO (by kernel_rfl) ?_;refine qB ?_;refine zai (by first|omega|assumption|decide|(simp only [zds];omega)|(simp <;> omega)) ?_;exact ⟨i + 1,by omega,by first|omega|(simp <;> omega),qP ⟨rfl,rfl,rfl,rfl,rfl⟩ ⟨(lbox_eq (by omega) (by omega)),(qX (by rw [hsn];exact rfl))⟩ rfl⟩
   ·try simp only [decide_eq_false_iff_not,Int.not_lt] at h23
    try simp only [zds] at h23
    refine qV ?_;refine qC ?_;refine qB ?_;refine qM ?_;rw [List.take_of_length_le (by omega)];exact ⟨rfl,⟨rfl,rfl⟩,rfl⟩
theorem of_err (s : ByteArray) (hs : s.size ≤ 60000) {at_ n : Int} (hp : xF s = .inl (at_,n)) : qT Tryz.prog 27 [is s] (.tup [(false,[.lit (.pointer none)]),(false,[errF at_ n])]):=by
  have hpa:=parse_a s hs;rw [hp] at hpa;refine qQ (rs:=[2,3]) Tryz.func27 rfl rfl rfl teOk rfl ?_;refine qC ?_;refine qB ?_;refine qC ?_;refine qB ?_;refine Or.inl ?_;refine zai (rfl) ?_;refine zei _ (zai (hpa) ?_);refine qC ?_;refine qC ?_;refine qB ?_;refine qJ rfl (fun h16=>?_) (fun h16=>?_)
  ·skip
   refine qC ?_;refine qB ?_;refine qM ?_;rfl
  ·try simp only [zbq] at h16
   try simp only [zds] at h16
   cases h16
end Q
end Ab
end Go.Proofs.YtpfkncffaanjcaaGreatDoor
namespace Go.Proofs.YtpfkncffaanjcaaGreatDoor
open Go.RowKit
namespace Ab
set_option maxRecDepth 100000
set_option maxHeartbeats 2000000
namespace Q
abbrev z4 : List Value:=[.int .i64 0,.string ⟨#[]⟩,.slice none 0 0,.int .i64 0]
theorem step_append_runI {P : Program} {ops : Array Oper} {o : Oper} {a : Act} {w : World} {K : Act → World → Prop} {Q : Exit → Act → World → Prop} {E : Prop}
    (hg : o.guard = none) (d x : Operand) (dT sT : TypeId) (hop : o.op = Op.call { callee:=Callee.builtin Builtin.append,args:=#[d,x],argTypes:=#[dT,sT] })
    (v u : Value) (hd : a.eval d = v) (hx : a.eval x = u) {v' : Value} {w' : World} (hr : (Builtin.append_ #[dT,sT] o.type #[v,u]).run P w = .ok v' w') (hK : K (a.put o.dst v') w') :
    if Region.wanted o (yielded ops a.tmps) = true then Oper.wp P o a w K Q else E:=by
  have hw : Region.wanted o (yielded ops a.tmps) = true:=by simp [Region.wanted,hg]
  rw [if_pos hw];unfold Oper.wp;simp [execOp,hop,resolve,invoke,builtin,hd,hx,hr,Result.andThen];exact hK
theorem wpList_clear_runI {P : Program} (w : World) {ops : Array Oper} {rest : List Oper} {o : Oper} {a : Act} {Q : Exit → Act → World → Prop} (hgd : o.guard = none) (d : Operand) (t : TypeId)
    (ho : o.op = .call { callee:=.builtin .clear,args:=#[d],argTypes:=#[t] }) (v : Value) (hd : a.eval d = v) {v' : Value} {w' : World}
    (hr : (Builtin.clear_ #[t] o.type #[v]).run P w = .ok v' w') (h : wpList P ops Q rest (a.put o.dst v') w') : wpList P ops Q (o :: rest) a w :=
  wpList_plain hgd fun K hK=>by
    unfold Oper.wp execOp;simp only [ho,resolve,invoke,builtin,Sem.run_bind,Sem.run_pure,Result.andThen_ok,List.map_toArray,List.map_cons,List.map_nil,hd,hr];exact hK _ _ h
theorem zs_len {P : Program} {t : TypeId} {i : TyI} (h : TyOk P t i) (n : Nat) : (Builtin.zeroCells i.zeroV.cells n).toList.length = n * i.size:=by
  rw [Array.length_toList,size_zeroCells,h.zeroCells,List.size_toArray,h.zlen]
theorem zs_one {P : Program} {t : TypeId} {i : TyI} (h : TyOk P t i) (n : Nat) : ∀ v ∈ (Builtin.zeroCells i.zeroV.cells n).toList,v.oneCell' = true:=by
  intro v hv;unfold Builtin.zeroCells at hv;rw [h.zeroCells] at hv;simp only [Array.toList_map,Array.toList_range,List.mem_map,List.mem_range,List.size_toArray] at hv;obtain ⟨k,hk,rfl⟩:=hv;have hlt : k % i.zero.length < i.zero.length:=Nat.mod_lt _ (by
    rcases Nat.eq_zero_or_pos i.zero.length with h0|h0
    · rw [h0,Nat.mul_zero] at hk;omega
    · exact h0)
  have e : (i.zero.toArray)[k % i.zero.length]! = i.zero[k % i.zero.length]:=by simp [hlt]
  rw [e];exact plain_one (h.zplain _ (List.getElem_mem hlt))
theorem run_clear_row {P : Program} {t e ty : TypeId} {ei : TyI} (ht : P.underlying t = some (.slice e)) (he : TyOk P e ei) (w : World) (b o n c : Nat) {cur : Array Value} {T : TypeId} (hb : w.heap[b]? = some (.cells cur T (0,0))) (hn : 0 < n) (hfit : o + n * ei.size ≤ cur.size) :
    (Builtin.clear_ #[t] ty #[.slice (some ⟨b,o,none⟩) n c]).run P w = .ok (.tuple #[]) (w.setRow b (cur.toList.take o ++ (Builtin.zeroCells ei.zeroV.cells n).toList ++ cur.toList.drop (o + n * ei.size)).toArray):=by
  have hst:=run_storeCells_at P b o T (Builtin.zeroCells ei.zeroV.cells n).toList 0 cur w hb (by rw [zs_len he];omega) (zs_one he n);simp only [Nat.add_zero,zs_len he] at hst;obtain ⟨m,rfl⟩ : ∃ m,n = m + 1:=⟨n - 1,by omega⟩;simp [Builtin.clear_,run_underlying ht,he.zeroValue,hst]
theorem tyEnt : TyOk Tryz.prog 111 ty111:=tyOk111
theorem del_w (b cap n i j : Nat) (cur : Array Value) (w : World) (hb : w.heap[b]? = some (.cells cur 111 (0,0))) (hcs : cur.size = cap * 4) (hnc : n ≤ cap) (_hcm : cap ≤ maxLen) (hij : i < j) (hj : j ≤ n) (h1 : ∀ v ∈ cur.toList.take (n * 4),v.oneCell' = true) :
    Calls Tryz.prog 119 #[.slice (some ⟨b,0,none⟩) n cap,.int .i64 i,.int .i64 j] w fun e w'=>e = .returned (.slice (some ⟨b,0,none⟩) (n - (j - i)) cap) ∧ ∃ cur',Grew w w' (some b) ∧ w'.heap[b]? = some (.cells cur' 111 (0,0)) ∧ cur'.size = cap * 4 ∧ cur'.toList.take ((n - (j - i)) * 4) = cur.toList.take (i * 4) ++ (cur.toList.drop (j * 4)).take ((n - j) * 4):=by
  have mixed : Tryz.prog.follows .mixedOrders = true:=by kernel_rfl
  have hic : i ≤ cap:=by omega
  have hjc : j ≤ cap:=by omega
  obtain ⟨news,hnews⟩ : ∃ news,(cur.toList.drop (j * 4)).take ((n - j) * 4) = news:=⟨_,rfl⟩;have hlen : news.length = (n - j) * 4:=by
    rw [← hnews,List.length_take,List.length_drop,Array.length_toList,hcs];have : (n - j) * 4 ≤ cap * 4 - j * 4:=by omega
    omega
  obtain ⟨i0,hi0,hz0,hz1,hz2⟩:=tyEnt.info;obtain ⟨A,hA,hsrc⟩ : ∃ A : Addr,(if cap = j then (some ⟨b,0,none⟩ : Option Addr) else some ⟨b,j * 4,none⟩) = some A ∧ (∀ t u,news[t]? = some u → w.drew.cell? (A.add t) = some u):=by
    by_cases h : cap = j
    · refine ⟨_,if_pos h,fun t u hu=>?_⟩;have h0 : news.length = 0:=by rw [hlen];omega
      rw [List.length_eq_zero_iff.1 h0] at hu;simp at hu
    · refine ⟨_,if_neg h,fun t u hu=>?_⟩;have ht:=(List.getElem?_eq_some_iff.1 hu).1;rw [← hnews,List.getElem?_take_of_lt (by omega),List.getElem?_drop] at hu;rw [Go.WideShapes.add_plain];show w.cell? _ = _;simp only [World.cell?,hb,Option.isSome_none,Bool.false_eq_true,if_false];rw [← hu];simp
  have hone : ∀ u ∈ news,u.oneCell' = true:=by
    intro u hu;rw [← hnews,show (n - j) * 4 = n * 4 - j * 4 by omega,← List.drop_take] at hu;exact h1 u (List.mem_of_mem_drop hu)
  obtain ⟨cur1,hcur1⟩ : ∃ c : Array Value,(cur.toList.take (i * 4) ++ news ++ cur.toList.drop (i * 4 + news.length)).toArray = c:=⟨_,rfl⟩;have hsz1 : cur1.size = cap * 4:=by
    rw [← hcur1];simp only [List.size_toArray,List.length_append,List.length_take,List.length_drop,Array.length_toList,hcs,hlen];omega
  obtain ⟨W1,hW1⟩ : ∃ W1,w.drew.setRow b cur1 = W1:=⟨_,rfl⟩;have hap : ∀ ty,(Builtin.append_ #[114,114] ty #[.slice (some ⟨b,0,none⟩) i cap,.slice (some A) (n - j) (cap - j)]).run Tryz.prog w.drew = .ok (.slice (some ⟨b,0,none⟩) (i + (n - j)) cap) W1:=by
    intro ty;have:=run_append_room (P:=Tryz.prog) w.drew 114 ty 111 i0 Tryz.underlying114 hi0 b i cap cur hb A (n - j) (cap - j) news (by rw [hlen,hz0];rfl) hsrc hone (by omega) (by rw [hz0,hlen,hcs];show i * 4 + _ ≤ _;omega);rw [show i0.size = 4 from hz0,hcur1,hW1] at this;exact this
  have hb1 : W1.heap[b]? = some (.cells cur1 111 (0,0)):=by rw [← hW1];exact setRow_heap w.drew b cur cur1 _ _ hb
  have hk : i + (n - j) < n:=by omega
  have hkc : ¬ cap = i + (n - j):=by omega
  obtain ⟨W2,cur2,hW2,hcl⟩ : ∃ W2 cur2,W2 = W1.setRow b cur2 ∧ cur2.size = cap * 4 ∧ cur2.toList.take ((i + (n - j)) * 4) = cur1.toList.take ((i + (n - j)) * 4) ∧ ∀ ty,(Builtin.clear_ #[114] ty #[.slice (some ⟨b,(i + (n - j)) * 4,none⟩) (n - (i + (n - j))) (cap - (i + (n - j)))]).run Tryz.prog W1 = .ok (.tuple #[]) W2:=by
    have hz:=zs_len tyEnt (n - (i + (n - j)));have hz4 : ty111.size = 4:=rfl;rw [hz4] at hz;refine ⟨_,_,rfl,?_,?_,fun ty=>run_clear_row Tryz.underlying114 tyEnt W1 b _ _ _ hb1 (by omega) (by rw [hsz1,hz4];omega)⟩
    · simp only [List.size_toArray,List.length_append,List.length_take,List.length_drop,Array.length_toList,hsz1,hz,hz4];omega
    · rw [List.append_assoc,List.take_append_of_le_length (by rw [List.length_take,Array.length_toList,hsz1];omega),List.take_take,Nat.min_self]
  obtain ⟨hsz2,htk,hcl⟩:=hcl;have fin : W2.heap[b]? = some (.cells cur2 111 (0,0)) ∧ Grew w W2 (some b):=by
    rw [hW2];exact ⟨setRow_heap W1 b cur1 cur2 _ _ hb1,by rw [← hW1,setRow_setRow];exact ⟨rfl,rfl,rfl,by simp,fun k hk hne=>setRow_other w.drew b k _ (fun e=>hne (by rw [e]))⟩⟩
  have hres : cur2.toList.take ((i + (n - j)) * 4) = cur.toList.take (i * 4) ++ news:=by
    rw [htk,← hcur1,List.take_append_of_le_length (by simp only [List.length_append,List.length_take,Array.length_toList,hcs,hlen];omega),List.take_of_length_le (by simp only [List.length_append,List.length_take,Array.length_toList,hcs,hlen];omega)]
  have hnn : n - (j - i) = i + (n - j):=by omega
  rw [hnn];rw [← hnews] at hres;clear hW2 hW1 htk hcur1 hb hb1 hsrc hone hlen hnews h1
  go_enter Tryz.func119,Tryz.ntmps119
  go_wp2
  go_region_law_o (refine step_append_runI rfl (.tmp 22) (.tmp 25) 114 114 rfl (.slice (some ⟨b,0,none⟩) i cap) (.slice (some A) (n - j) (cap - j)) (by simp [Act.eval,Act.put]) (by simp [Act.eval,Act.put]) (hap _) ?_)
  go_wp2_with (at_builtin;refine wpList_clear_runI _ rfl _ _ rfl _ rfl (hcl _) ?_)
  go_ret
  exact ⟨rfl,cur2,fin.2,fin.1,hsz2,hres⟩
end Q
end Ab
end Go.Proofs.YtpfkncffaanjcaaGreatDoor
namespace Go.Proofs.YtpfkncffaanjcaaGreatDoor
open Go.RowKit
namespace Ab
set_option maxRecDepth 100000
set_option maxHeartbeats 4000000
namespace Q
theorem run_copy_k {P : Program} (w : World) (dT sT ty elem : TypeId) {ei : TyI} (hu : P.underlying dT = some (.slice elem)) (he : TyOk P elem ei) (g o dLen dCap : Nat) (a : Addr) (sLen sCap n : Nat) (cur : Array Value) (t : TypeId) (cs : List Value)
    (hg : w.heap[g]? = some (.cells cur t (0,0))) (hm : Nat.min sLen dLen = n) (hn : cs.length = n * ei.size) (hsrc : ∀ j v,cs[j]? = some v → w.cell? (a.add j) = some v) (hfit : o + cs.length ≤ cur.size) (h1 : ∀ v ∈ cs,v.oneCell' = true) :
    (Builtin.copy_ #[dT,sT] ty #[.slice (some ⟨g,o,none⟩) dLen dCap,.slice (some a) sLen sCap]).run P w = .ok (goInt n) (w.setRow g (cur.toList.take o ++ cs ++ cur.toList.drop (o + cs.length)).toArray):=by
  have hl:=run_loadCells_list (P:=P) w a cs hsrc;have hst:=run_storeCells_at P g o t cs 0 cur w hg (by simpa using hfit) h1;simp only [Nat.add_zero] at hst;simp [Builtin.copy_,run_underlying hu,Builtin.lenOf,Builtin.firstCells,he.sizeOf,hm,← hn,hl,hst]
def RowTo (w w' : World) (v u : Value) (n : Nat) (cs : List Value) : Prop :=
  w'.ownsRow 0 111 4 u n cs ∧ Grew w w' (blk (some v)) ∧ (∀ b,blk (some u) = some b → blk (some v) = some b ∨ (w.heap.size ≤ b ∧ b < w'.heap.size)) ∧ ∃ a n c,u = .slice a n c
theorem rowCells {w : World} {b n cap : Nat} {cs : List Value} (h : w.ownsRow 0 111 4 (.slice (some ⟨b,0,none⟩) n cap) n cs) : ∃ cur,w.heap[b]? = some (.cells cur 111 (0,0)) ∧ n ≤ cap ∧ cap ≤ maxLen ∧ cur.size = cap * 4 ∧ cur.toList.take (n * 4) = cs ∧ cs.length = n * 4:=by
  rcases h.2 with ⟨h0,_⟩|⟨g,c,cur,hsl,_,hg,hnc,hcm,hcs,htake⟩
  · cases h0
  · injection hsl with e1 e2 e3
    injection e1 with e1
    injection e1 with e1 _ _
    subst e1 e3;exact ⟨cur,hg,hnc,hcm,hcs,htake,h.1⟩
theorem ins_end (n : Nat) (v : Value) (cs ns : List Value) (vb vc : Nat) (w : World) (hown : w.ownsRow 0 111 4 v n cs) (hown2 : w.ownsRow 0 111 4 (.slice (some ⟨vb,0,none⟩) 1 vc) 1 ns) (h1 : ∀ u ∈ ns,u.oneCell' = true) (hn : n ≤ 1000000) :
    Calls Tryz.prog 120 #[v,.int .i64 n,.slice (some ⟨vb,0,none⟩) 1 vc] w fun e w'=>∃ u,e = .returned u ∧ RowTo w w' v u (n + 1) (cs ++ ns):=by
  obtain ⟨v',w',hr,h2,h3,h4,h5⟩:=Ab.run_app (P:=Tryz.prog) (w:=w) (ty:=114) Tryz.underlying114 tyEnt (by decide) hown (ad:=⟨vb,0,none⟩) (m:=1) (c:=vc) (news:=ns) hown2.1 (fun j u hj=>hown2.cells (g:=vb) rfl j u hj) h1 Nat.one_pos (by unfold maxLen;omega) (qU (show n + 1 ≤ 1000000000 by omega) (show ty111.bytes ≤ 1000 by decide));have mixed : Tryz.prog.follows .mixedOrders = true:=by kernel_rfl
  have fin : RowTo w w' v v' (n + 1) (cs ++ ns):=⟨h2,h3,h4,h5⟩;obtain ⟨va,vn,vcap,hv,hvn⟩ : ∃ a m c,v = .slice a m c ∧ m = n:=by
    rcases hown.2 with ⟨h0,hz⟩|⟨g,c,cur,hsl,_⟩
    · exact ⟨_,_,_,h0,hz.symm⟩
    · exact ⟨_,_,_,hsl,rfl⟩
  subst hvn;subst hv;have hcap : vn ≤ vcap:=by
    rcases hown.2 with ⟨h0,hz⟩|⟨g,c,cur,hsl,_,_,hnc,_⟩
    · omega
    · injection hsl with _ _ e3;omega
  clear hown hown2 h1 h2 h3 h4 h5
  by_cases hq : vcap = vn
  · subst hq
    go_enter Tryz.func120,Tryz.ntmps120
    go_wp2_with (at_builtin;refine Lib.wpList_append_run _ rfl _ _ _ _ rfl _ _ rfl rfl _ _ hr ?_)
    go_ret
    exact ⟨_,rfl,fin⟩
  · go_enter Tryz.func120,Tryz.ntmps120
    go_wp2_with (at_builtin;refine Lib.wpList_append_run _ rfl _ _ _ _ rfl _ _ rfl rfl _ _ hr ?_)
    go_ret
    exact ⟨_,rfl,fin⟩
theorem take4 {α : Type} (l : List α) (a b : Nat) (h : a ≤ b) : (l.take b).take a = l.take a:=by rw [List.take_take,Nat.min_eq_left h]
theorem ins_shift (n i : Nat) (b cap : Nat) (cs ns : List Value) (vb vc : Nat) (w : World) (hi : i < n) (hroom : n + 1 ≤ cap) (hown : w.ownsRow 0 111 4 (.slice (some ⟨b,0,none⟩) n cap) n cs) (hown2 : w.ownsRow 0 111 4 (.slice (some ⟨vb,0,none⟩) 1 vc) 1 ns) (hne : vb ≠ b) (h1 : ∀ u ∈ ns,u.oneCell' = true) (h1c : ∀ u ∈ cs,u.oneCell' = true) :
    Calls Tryz.prog 120 #[.slice (some ⟨b,0,none⟩) n cap,.int .i64 i,.slice (some ⟨vb,0,none⟩) 1 vc] w fun e w'=>∃ u,e = .returned u ∧ RowTo w w' (.slice (some ⟨b,0,none⟩) n cap) u (n + 1) (cs.take (i * 4) ++ ns ++ cs.drop (i * 4)):=by
  obtain ⟨cur,hb,hnc,hcm,hcz,htk,hcl⟩:=rowCells hown;obtain ⟨cur2,hvb,hvc,_,hcz2,htk2,hnl⟩:=rowCells hown2;have hz4 : ty111.size = 4:=rfl;have hdl : (cs.drop (i * 4)).length = (n - i) * 4:=by rw [List.length_drop,hcl];omega
  have hov : ∀ lb cb,(callFunc 148 #[.slice (some ⟨vb,0,none⟩) 1 vc,.slice (some ⟨b,(i + 1) * 4,none⟩) lb cb]).run Tryz.prog w = .ok (.value (.bool false)) w:=fun lb cb=>by
    rw [run_callFunc_extern Tryz.func148 (by kernel_rfl) (by kernel_rfl) (by kernel_rfl) (e:=Extern.SlicesOverlaps.overlaps #[114,114] #[4]) (by kernel_rfl),
      Lib.run_overlaps_apart w 114 4 111 Tryz.underlying114 4 (fun w=>tyEnt.sizeOf w) ⟨vb,0,none⟩ ⟨b,(i + 1) * 4,none⟩ 1 vc lb cb hne 111 111 cur2.size cur.size (by simp [World.shape?,hvb]) (by simp [World.shape?,hb]) (by omega) (by simp [World.frozen?,hvb]) (by simp [World.frozen?,hvb])]
    rfl
  obtain ⟨cur1,hcur1⟩ : ∃ c : Array Value,(cur.toList.take ((i + 1) * 4) ++ cs.drop (i * 4) ++ cur.toList.drop ((i + 1) * 4 + (cs.drop (i * 4)).length)).toArray = c:=⟨_,rfl⟩;have hsz1 : cur1.size = cap * 4:=by
    rw [← hcur1];simp only [List.size_toArray,List.length_append,List.length_take,hdl,List.length_drop (l:=cur.toList),Array.length_toList,hcz];omega
  have hcsrc : ∀ j v,(cs.drop (i * 4))[j]? = some v → w.cell? ⟨b,i * 4 + j,none⟩ = some v:=by
    intro j v hj;have hlt:=(List.getElem?_eq_some_iff.1 hj).1;rw [List.getElem?_drop,← htk,List.getElem?_take_of_lt (by omega)] at hj;simp only [World.cell?,hb,Option.isSome_none,Bool.false_eq_true,if_false];rw [← hj];simp
  have hcp1 : ∀ ty dc sc,(Builtin.copy_ #[114,114] ty #[.slice (some ⟨b,(i + 1) * 4,none⟩) (n - i) dc,.slice (some ⟨b,i * 4,none⟩) (n + 1 - i) sc]).run Tryz.prog w.drew = .ok (goInt ((n - i : Nat) : Int)) (w.drew.setRow b cur1):=fun ty dc sc=>by
    rw [← hcur1];exact run_copy_k w.drew _ _ ty 111 Tryz.underlying114 tyEnt b ((i + 1) * 4) (n - i) dc ⟨b,i * 4,none⟩ (n + 1 - i) sc (n - i) cur _ (cs.drop (i * 4)) hb (by simp only [Nat.min_def];split <;> omega) (by rw [hdl,hz4]) (fun j v hj=>by rw [Go.WideShapes.add_plain];exact hcsrc j v hj) (by rw [hdl,hcz];omega) (fun v hv=>h1c v (List.mem_of_mem_drop hv))
  obtain ⟨W1,hW1⟩ : ∃ W1,w.drew.setRow b cur1 = W1:=⟨_,rfl⟩;rw [hW1] at hcp1;have hb1 : W1.heap[b]? = some (.cells cur1 111 (0,0)):=by rw [← hW1];exact setRow_heap w.drew b cur cur1 _ _ hb
  have hvb1 : W1.heap[vb]? = w.heap[vb]?:=by rw [← hW1];exact setRow_other w.drew b vb _ hne
  obtain ⟨curn,hcurn⟩ : ∃ c : Array Value,(cur1.toList.take (i * 4) ++ ns ++ cur1.toList.drop (i * 4 + ns.length)).toArray = c:=⟨_,rfl⟩;have hszn : curn.size = cap * 4:=by
    rw [← hcurn];simp only [List.size_toArray,List.length_append,List.length_take,hnl,List.length_drop,Array.length_toList,hsz1];omega
  have hcp2 : ∀ (W : World),(∀ k : Nat,W.heap[k]? = W1.heap[k]?) → ∀ ty dc,(Builtin.copy_ #[114,114] ty #[.slice (some ⟨b,i * 4,none⟩) (n + 1 - i) dc,.slice (some ⟨vb,0,none⟩) 1 vc]).run Tryz.prog W = .ok (goInt 1) (W.setRow b curn):=fun W hW ty dc=>by
    rw [← hcurn];exact run_copy_k W _ _ ty 111 Tryz.underlying114 tyEnt b (i * 4) (n + 1 - i) dc ⟨vb,0,none⟩ 1 vc 1 cur1 _ ns (by rw [hW];exact hb1) (by simp only [Nat.min_def];split <;> omega) (by rw [hnl,hz4]) (fun j v hj=>by
      rw [Go.WideShapes.add_plain];have h0:=hown2.cells (g:=vb) rfl j v hj;rw [Go.WideShapes.add_plain] at h0;rw [← h0];simp only [World.cell?,hW,hvb1]) (by rw [hnl,hsz1];omega) h1
  have hrow : curn.toList.take ((n + 1) * 4) = cs.take (i * 4) ++ ns ++ cs.drop (i * 4):=by
    rw [← hcurn];have e1 : cur1.toList.take (i * 4) = cs.take (i * 4):=by
      rw [← hcur1,List.append_assoc,List.take_append_of_le_length (by simp only [List.length_take,Array.length_toList,hcz];omega),take4 _ _ _ (by omega),← htk,take4 _ _ _ (by omega)]
    have e2 : cur1.toList.drop (i * 4 + ns.length) = cs.drop (i * 4) ++ cur.toList.drop ((i + 1) * 4 + (cs.drop (i * 4)).length):=by
      rw [← hcur1,hnl,List.append_assoc,show i * 4 + 1 * 4 = (cur.toList.take ((i + 1) * 4)).length by simp only [List.length_take,Array.length_toList,hcz];omega,List.drop_left]
    rw [e1,e2,← List.append_assoc,List.take_append_of_le_length (by simp only [List.length_append,List.length_take,hcl,hnl,hdl];omega),List.take_of_length_le (by simp only [List.length_append,List.length_take,hcl,hnl,hdl];omega)]
  have fin : ∀ W : World,(∀ k : Nat,W.heap[k]? = W1.heap[k]?) → W.heap.size = W1.heap.size → W.os = W1.os → W.tape = W1.tape → W.output = W1.output → RowTo w (W.setRow b curn) (.slice (some ⟨b,0,none⟩) n cap) (.slice (some ⟨b,0,none⟩) (n + 1) cap) (n + 1) (cs.take (i * 4) ++ ns ++ cs.drop (i * 4)):=by
    intro W hW hs ho ht hu;refine ⟨⟨by simp only [List.length_append,List.length_take,hcl,hnl,hdl];omega,.inr ⟨b,cap,curn,rfl,Nat.zero_le _,setRow_heap W b cur1 curn _ _ (by rw [hW];exact hb1),hroom,hcm,hszn,hrow⟩⟩,⟨?_,?_,?_,?_,?_⟩,fun _ h=>.inl h,_,_,_,rfl⟩
    · show W.os = _;rw [ho,← hW1];rfl
    · show W.tape = _;rw [ht,← hW1];rfl
    · show W.output = _;rw [hu,← hW1];rfl
    · rw [show (W.setRow b curn).heap.size = W.heap.size by simp,hs,← hW1];simp
    · intro k hk hkb;have hkb' : k ≠ b:=fun e=>hkb (by rw [e];rfl)
      rw [setRow_other W b k _ hkb',hW,← hW1];exact setRow_other w.drew b k _ hkb'
  have mixed : Tryz.prog.follows .mixedOrders = true:=by kernel_rfl
  have hz2 : ¬ ((i : Int) = (n : Int)):=by omega
  have hc63 : cap ≤ 9223372036854775807:=by unfold maxLen at hcm;omega
  have hw1 : IntKind.i64.wrap ((i : Int) + 1) = (i : Int) + 1:=by rw [IntKind.wrap_i64];omega
  have hw2 : IntKind.i64.wrap ((n : Int) + 1) = (n : Int) + 1:=by rw [IntKind.wrap_i64];omega
  have hin : i ≤ n:=by omega
  have hb1' : (0 : Int) ≤ (i : Int) + 1:=by omega
  have htn : ((i : Int) + 1).toNat = i + 1:=by omega
  have hb2 : ¬ (cap = i + 1):=by omega
  have hb4 : ¬ (cap = i):=by omega
  have hb3 : (i : Int) ≤ (n : Int) + 1:=by omega
  clear hcur1 hcurn hW1 hown hown2 h1 h1c hcsrc hrow hdl hcl hnl htk htk2
  go_enter Tryz.func120,Tryz.ntmps120
  go_wp2_with (simp only [hov])
  go_region_law_o (refine step_copy_runI rfl _ _ 114 114 rfl _ _ (by simp [Act.eval,Act.put]) (by simp [Act.eval,Act.put]) (hcp1 _ _ _) ?_)
  go_wp2_with (at_builtin;refine wpList_copy_runI _ rfl _ _ 114 114 rfl _ _ rfl rfl (hcp2 _ (fun _=>rfl) _ _) ?_)
  go_ret
  exact ⟨_,rfl,fin _ (fun _=>rfl) rfl rfl rfl rfl⟩
theorem ins_grow (n i : Nat) (b cap : Nat) (cs ns : List Value) (vb vc : Nat) (w : World) (hi : i < n) (hroom : cap < n + 1) (hn1 : n ≤ 1000000) (hown : w.ownsRow 0 111 4 (.slice (some ⟨b,0,none⟩) n cap) n cs) (hown2 : w.ownsRow 0 111 4 (.slice (some ⟨vb,0,none⟩) 1 vc) 1 ns) (h1 : ∀ u ∈ ns,u.oneCell' = true) (h1c : ∀ u ∈ cs,u.oneCell' = true) :
    Calls Tryz.prog 120 #[.slice (some ⟨b,0,none⟩) n cap,.int .i64 i,.slice (some ⟨vb,0,none⟩) 1 vc] w fun e w'=>∃ u,e = .returned u ∧ RowTo w w' (.slice (some ⟨b,0,none⟩) n cap) u (n + 1) (cs.take (i * 4) ++ ns ++ cs.drop (i * 4)):=by
  obtain ⟨cur,hb,hnc,hcm,hcz,htk,hcl⟩:=rowCells hown;obtain ⟨cur2,hvb,hvc,_,hcz2,htk2,hnl⟩:=rowCells hown2;have hbw : b < w.heap.size:=(Array.getElem?_eq_some_iff.1 hb).1;have hvw : vb < w.heap.size:=(Array.getElem?_eq_some_iff.1 hvb).1;have hz4 : ty111.size = 4:=rfl;have hdl : (cs.drop (i * 4)).length = (n - i) * 4:=by rw [List.length_drop,hcl];omega
  obtain ⟨i0,hi0,hz0,hzb,hzz⟩:=tyEnt.info;have hkk : (n : Int) + 1 - (i : Int) = ((n + 1 - i : Nat) : Int):=by omega
  have hik : i + (n + 1 - i) = n + 1:=by omega
  have hold : (Builtin.firstCells i0.size i (.slice (some ⟨b,0,none⟩) i cap)).run Tryz.prog w.drew = .ok (cs.take (i * 4)).toArray w.drew:=by
    rw [hz0,hz4];exact run_firstCells_some w.drew 4 i ⟨b,0,none⟩ i cap (cs.take (i * 4)) (by rw [List.length_take];omega) (fun j v hj=>by
      have hlt:=(List.getElem?_eq_some_iff.1 hj).1;rw [List.length_take] at hlt;rw [List.getElem?_take_of_lt (by omega)] at hj;exact hown.cells (g:=b) rfl j v hj)
  obtain ⟨G,hG⟩ : ∃ G,grownCap w (n + 1) cap 111 = G:=⟨_,rfl⟩;obtain ⟨ROW,hROW⟩ : ∃ ROW : Array Value,(cs.take (i * 4)).toArray ++ Builtin.zeroCells ty111.zeroV.cells (n + 1 - i) ++ Builtin.zeroCells ty111.zeroV.cells (G - (n + 1)) = ROW:=⟨_,rfl⟩;have hGn : n + 1 ≤ G:=by rw [← hG];exact grownCap_ge w _ _ _
  have hGm : G ≤ maxLen:=by rw [← hG];exact grownCap_le_maxLen w (n + 1) cap _ (by unfold maxLen;omega)
  have hRs : ROW.size = G * 4:=by
    have e1:=zs_len tyEnt (n + 1 - i);have e2:=zs_len tyEnt (G - (n + 1));rw [Array.length_toList,hz4] at e1 e2;rw [← hROW];simp only [Array.size_append,List.size_toArray,List.length_take,e1,e2];omega
  have hRt : ROW.toList.take (i * 4) = cs.take (i * 4):=by
    rw [← hROW];simp only [Array.toList_append,List.append_assoc];rw [List.take_append_of_le_length (by simp only [List.length_take];omega),take4 _ _ _ (by omega)]
  have hrz : ∀ ty,(Builtin.append_ #[114,3] ty #[.slice (some ⟨b,0,none⟩) i cap,.int .i64 ((n : Int) + 1 - (i : Int))]).run Tryz.prog w = .ok (.slice (some ⟨w.heap.size,0,none⟩) (n + 1) G) (w.drew.alloc (.cells ROW 111)):=fun ty=>by
    have h:=Lib.run_append_grow_zeros w 114 3 ty 111 i0 _ .i64 .i64 Tryz.underlying114 Tryz.underlying3 hi0 hzz (some ⟨b,0,none⟩) i cap (cs.take (i * 4)) hold (n + 1 - i) (by omega) (by rw [hz0,hz4];decide) (by omega) (by omega) (by rw [hzb,show ty111.bytes = 56 from rfl];omega) (by rw [hzb,hik];exact growslice_fits hroom (qU (show n + 1 ≤ 1000000000 by omega) (show ty111.bytes ≤ 1000 by decide)));rw [hik,hG,hROW] at h;rw [hkk];exact h
  obtain ⟨W1,hW1⟩ : ∃ W1,w.drew.alloc (.cells ROW 111) = W1:=⟨_,rfl⟩;have hN1 : W1.heap[w.heap.size]? = some (.cells ROW 111 (0,0)):=by rw [← hW1];exact heap_new w.drew _
  have hO1 : ∀ k,k < w.heap.size → W1.heap[k]? = w.heap[k]?:=fun k hk=>by rw [← hW1];exact Lib.alloc_old w.drew _ k hk
  obtain ⟨curA,hcurA⟩ : ∃ c : Array Value,(ROW.toList.take (i * 4) ++ ns ++ ROW.toList.drop (i * 4 + ns.length)).toArray = c:=⟨_,rfl⟩;have hszA : curA.size = G * 4:=by
    rw [← hcurA];simp only [List.size_toArray,List.length_append,List.length_take,hnl,List.length_drop,Array.length_toList,hRs];omega
  have hcpA : ∀ (W : World),(∀ k : Nat,W.heap[k]? = W1.heap[k]?) → ∀ ty dc,(Builtin.copy_ #[114,114] ty #[.slice (some ⟨w.heap.size,i * 4,none⟩) (n + 1 - i) dc,.slice (some ⟨vb,0,none⟩) 1 vc]).run Tryz.prog W = .ok (goInt 1) (W.setRow w.heap.size curA):=fun W hW ty dc=>by
    rw [← hcurA];exact run_copy_k W _ _ ty 111 Tryz.underlying114 tyEnt w.heap.size (i * 4) (n + 1 - i) dc ⟨vb,0,none⟩ 1 vc 1 ROW _ ns (by rw [hW];exact hN1) (by simp only [Nat.min_def];split <;> omega) (by rw [hnl,hz4]) (fun j v hj=>by
      rw [Go.WideShapes.add_plain];have h0:=hown2.cells (g:=vb) rfl j v hj;rw [Go.WideShapes.add_plain] at h0;rw [← h0];simp only [World.cell?,hW,hO1 vb hvw]) (by rw [hnl,hRs];omega) h1
  obtain ⟨W2,hW2⟩ : ∃ W2,W1.setRow w.heap.size curA = W2:=⟨_,rfl⟩;have hN2 : W2.heap[w.heap.size]? = some (.cells curA 111 (0,0)):=by rw [← hW2];exact setRow_heap W1 _ ROW curA _ _ hN1
  have hO2 : ∀ k,k < w.heap.size → W2.heap[k]? = w.heap[k]?:=fun k hk=>by rw [← hW2,setRow_other W1 _ k _ (by omega)];exact hO1 k hk
  obtain ⟨curn,hcurn⟩ : ∃ c : Array Value,(curA.toList.take ((i + 1) * 4) ++ cs.drop (i * 4) ++ curA.toList.drop ((i + 1) * 4 + (cs.drop (i * 4)).length)).toArray = c:=⟨_,rfl⟩;have hszn : curn.size = G * 4:=by
    rw [← hcurn];simp only [List.size_toArray,List.length_append,List.length_take,hdl,List.length_drop (l:=curA.toList),Array.length_toList,hszA];omega
  have hcpB : ∀ (W : World),(∀ k : Nat,W.heap[k]? = W2.heap[k]?) → ∀ ty dc sc,(Builtin.copy_ #[114,114] ty #[.slice (some ⟨w.heap.size,(i + 1) * 4,none⟩) (n - i) dc,.slice (some ⟨b,i * 4,none⟩) (n - i) sc]).run Tryz.prog W = .ok (goInt ((n - i : Nat) : Int)) (W.setRow w.heap.size curn):=fun W hW ty dc sc=>by
    rw [← hcurn];exact run_copy_k W _ _ ty 111 Tryz.underlying114 tyEnt w.heap.size ((i + 1) * 4) (n - i) dc ⟨b,i * 4,none⟩ (n - i) sc (n - i) curA _ (cs.drop (i * 4)) (by rw [hW];exact hN2) (by simp only [Nat.min_def];split <;> omega) (by rw [hdl,hz4]) (fun j v hj=>by
      rw [Go.WideShapes.add_plain];rw [List.getElem?_drop] at hj;have h0:=hown.cells (g:=b) rfl _ v hj;rw [Go.WideShapes.add_plain,Nat.zero_add] at h0;rw [← h0];simp only [World.cell?,hW,hO2 b hbw]) (by rw [hdl,hszA];omega) (fun v hv=>h1c v (List.mem_of_mem_drop hv))
  have hrow : curn.toList.take ((n + 1) * 4) = cs.take (i * 4) ++ ns ++ cs.drop (i * 4):=by
    have e1 : curA.toList.take ((i + 1) * 4) = cs.take (i * 4) ++ ns:=by
      have hlen : (ROW.toList.take (i * 4) ++ ns).length = (i + 1) * 4:=by
        rw [List.length_append,List.length_take,Array.length_toList,hRs,hnl];omega
      rw [← hcurA,← hlen,List.take_left,hRt]
    rw [← hcurn,e1,List.take_append_of_le_length (by simp only [List.length_append,List.length_take,hcl,hnl,hdl];omega),List.take_of_length_le (by simp only [List.length_append,List.length_take,hcl,hnl,hdl];omega)]
  have fin : ∀ W : World,(∀ k : Nat,W.heap[k]? = W2.heap[k]?) → W.heap.size = W2.heap.size → W.os = W2.os → W.tape = W2.tape → W.output = W2.output → RowTo w (W.setRow w.heap.size curn) (.slice (some ⟨b,0,none⟩) n cap) (.slice (some ⟨w.heap.size,0,none⟩) (n + 1) G) (n + 1) (cs.take (i * 4) ++ ns ++ cs.drop (i * 4)):=by
    intro W hW hs ho ht hu;have hsz : (W.setRow w.heap.size curn).heap.size = w.heap.size + 1:=by rw [show (W.setRow w.heap.size curn).heap.size = W.heap.size by simp,hs,← hW2,← hW1];simp
    refine ⟨⟨by simp only [List.length_append,List.length_take,hcl,hnl,hdl];omega,.inr ⟨w.heap.size,G,curn,rfl,Nat.zero_le _,setRow_heap W _ curA curn _ _ (by rw [hW];exact hN2),hGn,hGm,hszn,hrow⟩⟩,⟨?_,?_,?_,by omega,?_⟩,fun b' h=>.inr ?_,_,_,_,rfl⟩
    · show W.os = _;rw [ho,← hW2,← hW1];rfl
    · show W.tape = _;rw [ht,← hW2,← hW1];rfl
    · show W.output = _;rw [hu,← hW2,← hW1];rfl
    · intro k hk _;rw [setRow_other W _ k _ (by omega),hW];exact hO2 k hk
    · cases h;exact ⟨Nat.le_refl _,by rw [hsz];exact Nat.lt_succ_self _⟩
  have mixed : Tryz.prog.follows .mixedOrders = true:=by kernel_rfl
  have hz2 : ¬ ((i : Int) = (n : Int)):=by omega
  have hz3 : (cap : Int) < (n : Int) + 1:=by omega
  have hw1 : IntKind.i64.wrap ((i : Int) + 1) = (i : Int) + 1:=by rw [IntKind.wrap_i64];omega
  have hw2 : IntKind.i64.wrap ((n : Int) + 1) = (n : Int) + 1:=by rw [IntKind.wrap_i64];omega
  have hin : i ≤ n:=by omega
  have hb1' : (0 : Int) ≤ (i : Int) + 1:=by omega
  have htn : ((i : Int) + 1).toNat = i + 1:=by omega
  have hGi : ¬ (G = i):=by omega
  have hGim : ¬ (G = i + 1):=by omega
  have hci : ¬ (cap = i):=by omega
  have hb3 : (i : Int) ≤ (n : Int):=by omega
  have hG63 : G ≤ 9223372036854775807:=by unfold maxLen at hGm;omega
  rw [← hW1] at hW2;have hA : ∀ k : Nat,((w.alloc (.cells ROW 111)).drew).heap[k]? = W1.heap[k]?:=fun k=>by rw [← hW1];rfl
  have hB : ∀ k : Nat,(((w.alloc (.cells ROW 111)).drew.setRow w.heap.size curA).drew).heap[k]? = W2.heap[k]?:=fun k=>by rw [← hW2];rfl
  have hfin:=fin _ hB (by rw [← hW2];rfl) (by rw [← hW2];rfl) (by rw [← hW2];rfl) (by rw [← hW2];rfl);have hcA:=hcpA _ hA;have hcB:=hcpB _ hB;rw [hW1] at hrz;rw [← hW1] at hrz;clear hcpA hcpB fin hA hB hkk hik hold hG hROW hRs hRt hcurA hcurn hW1 hW2 hN1 hN2 hO1 hO2 hown hown2 h1 h1c hrow hdl hcl hnl htk htk2 hroom
  go_enter Tryz.func120,Tryz.ntmps120
  go_wp2_with (first
    | (at_builtin;refine Lib.wpList_append_run _ rfl _ _ _ _ rfl _ _ rfl rfl _ _ (hrz _) ?_)
    | (at_builtin;refine wpList_copy_runI _ rfl _ _ 114 114 rfl _ _ rfl rfl (hcA _ _) ?_))
  go_region_law_o (refine step_copy_runI rfl _ _ 114 114 rfl (.slice (some ⟨w.heap.size,(i + 1) * 4,none⟩) (n - i) (G - (i + 1))) (.slice (some ⟨b,i * 4,none⟩) (n - i) (cap - i)) (by simp [Act.eval,Act.put]) (by simp [Act.eval,Act.put]) (hcB _ _ _) ?_)
  go_wp2
  go_ret
  exact ⟨_,rfl,hfin⟩
end Q
end Ab
end Go.Proofs.YtpfkncffaanjcaaGreatDoor
namespace Go.Proofs.YtpfkncffaanjcaaGreatDoor
open Go.RowKit
namespace Ab
set_option maxRecDepth 100000
namespace Q
theorem flat_take {n : Nat} : ∀ (css : List (List Value)) (k : Nat),(∀ c ∈ css,c.length = n) → (css.take k).flatten = css.flatten.take (k * n)
  | [],_,_=>by simp
  | c :: r,0,_=>by simp
  | c :: r,k + 1,h=>by
    have h0 : c.length = n:=h c (by simp);have ih:=flat_take r k fun d hd=>h d (by simp [hd])
    rw [List.take_succ_cons,List.flatten_cons,List.flatten_cons,ih,Nat.add_mul,Nat.one_mul,Nat.add_comm (k * n) n]
    conv=>rhs;rw [← h0]
    rw [List.take_length_add_append,h0]
theorem flat_drop {n : Nat} : ∀ (css : List (List Value)) (k : Nat),(∀ c ∈ css,c.length = n) → (css.drop k).flatten = css.flatten.drop (k * n)
  | [],_,_=>by simp
  | c :: r,0,_=>by simp
  | c :: r,k + 1,h=>by
    have h0 : c.length = n:=h c (by simp);have ih:=flat_drop r k fun d hd=>h d (by simp [hd])
    rw [List.drop_succ_cons,List.flatten_cons,ih,Nat.add_mul,Nat.one_mul,Nat.add_comm (k * n) n,← List.drop_drop,← h0,List.drop_left,h0]
section
variable {cx : Cx} {ob : Obs} {nx : Nat} {ρ : Nat → Option Value} {w w' : World}
theorem ent_lens {ok : Oks} {xs : List Ent} {css : List (List Value)} (h1 : css.length = xs.length) (h2 : ∀ i (h : i < xs.length),rEnt.is ok w (css.getD i []) xs[i]) : ∀ c ∈ css,c.length = 4:=css_lens h1 h2
theorem ent_ones {ok : Oks} {xs : List Ent} {css : List (List Value)} (h1 : css.length = xs.length) (h2 : ∀ i (h : i < xs.length),rEnt.is ok w (css.getD i []) xs[i]) : ∀ v ∈ css.flatten,v.oneCell' = true:=css_ones h1 h2
theorem row_st (hs : StOk cx [] ob nx ρ ⟨#[],[]⟩ w) {xs xs' : List Ent} (hg : getO ob 0 = some (.vec 111 rEnt xs)) {v u : Value} (hv : ρ 0 = some v) {css' : List (List Value)} (hl : css'.length = xs'.length)
    (hR : ∀ i (h : i < xs'.length),rEnt.is (okOf cx ρ ob) w (css'.getD i []) xs'[i]) (hrow : RowTo w w' v u xs'.length css'.flatten) :
    ∃ ρ',StOk cx [] (setO 0 (.vec 111 rEnt xs') (subOb 0 .any ob)) nx ρ' ⟨#[],[]⟩ w' ∧ (C.vec 0).rep (okOf cx ρ' (setO 0 (.vec 111 rEnt xs') (subOb 0 .any ob))) ρ' w' u:=by
  obtain ⟨h1,h2,h3,h4⟩:=hrow;rw [← hv] at h2;have h3' : ∀ b,blk (some u) = some b → blk (ρ 0) = some b ∨ (w.heap.size ≤ b ∧ b < w'.heap.size):=by rw [hv];exact h3
  have hkp:=okOf_swap (o':=.vec 111 rEnt xs') hs hg h2 (fun b hb=>(h3' b hb).imp (fun h=>h) (·.1));refine ⟨upd ρ 0 u,hs.swap hg h2 h3' ⟨u,xB,css',hl,fun i hi=>Rd.kept _ hkp (hR i hi),h1⟩,xB,h4⟩
end
theorem getD_app {α : Type} (a b : List α) (i : Nat) (d : α) : (a ++ b).getD i d = if i < a.length then a.getD i d else b.getD (i - a.length) d:=by
  simp only [List.getD_eq_getElem?_getD];split
  · rename_i h;rw [List.getElem?_append_left h]
  · rename_i h;rw [List.getElem?_append_right (by omega)]
theorem delete_x (xs : List Ent) (i j : Nat) (hij : i < j) (hj : j ≤ xs.length) : ACallX Tryz.prog 119 [.one (.vec 0),ii .i64 i,ii .i64 j] [(0,.vec 111 rEnt xs)] 1 (.one (.vec 0)) [(0,.vec 111 rEnt (xs.take i ++ xs.drop j))] 1 []:=by
  refine ⟨⟨_,Tryz.func119,rfl,rfl⟩,fun cx ρ w vs _ _ _ hs hvs=>?_⟩;obtain ⟨v,r1,rfl,⟨hv,_⟩,vi,r2,rfl,hvi,vj,r3,rfl,hvj,hr3⟩:=hvs;rw [show r3 = [] from hr3,show vi = _ from hvi,show vj = _ from hvj];obtain ⟨v',hv',css,h1,h2,hown⟩ : ∃ v,ρ 0 = some v ∧ VecOk (okOf cx ρ [(0,.vec 111 rEnt xs)]) w v 111 rEnt xs:=hs.obs (0,.vec 111 rEnt xs) (by simp);rw [hv] at hv';obtain rfl:=Option.some.inj hv';have hfl:=ent_lens h1 h2;have hon:=ent_ones h1 h2;rcases id hown.2 with ⟨_,h0⟩|⟨b,cap,cur,rfl,_⟩
  · omega
  obtain ⟨cur,hb,hnc,hcm,hcz,htk,hcl⟩:=rowCells hown;refine (del_w b cap xs.length i j cur w hb hcz hnc hcm hij hj (by rw [htk];exact hon)).mono ?_
  rintro e w' ⟨rfl,cur',hgr,hb',hcz',hrow⟩
  have hnl : xs.length - (j - i) = (xs.take i ++ xs.drop j).length:=by rw [List.length_append,List.length_take,List.length_drop];omega
  have hf : (css.take i ++ css.drop j).flatten = cur.toList.take (i * 4) ++ (cur.toList.drop (j * 4)).take ((xs.length - j) * 4):=by
    rw [List.flatten_append,flat_take css i hfl,flat_drop css j hfl,← htk,take4 _ _ _ (by omega),List.drop_take]
    congr 2
    omega
  have hown' : w'.ownsRow 0 111 4 (.slice (some ⟨b,0,none⟩) (xs.length - (j - i)) cap) (xs.length - (j - i)) (css.take i ++ css.drop j).flatten:=by
    rw [hf,← hrow];have hcl' : cur'.toList.length = cap * 4:=by simpa using hcz'
    exact ⟨by rw [List.length_take,hcl'];omega,.inr ⟨b,cap,cur',rfl,Nat.zero_le _,hb',by omega,hcm,hcz',rfl⟩⟩
  rw [hnl] at hown' ⊢;obtain ⟨ρ',h3,h4⟩:=row_st (xs':=xs.take i ++ xs.drop j) (css':=css.take i ++ css.drop j) (u:=.slice (some ⟨b,0,none⟩) (xs.take i ++ xs.drop j).length cap) hs rfl hv (by simp [h1]) (fun k hk=>by
    rw [List.length_append,List.length_take,List.length_drop] at hk;rw [getD_app,List.getElem_append];simp only [List.length_take,h1];split
    · rename_i hlt;have:=h2 k (by omega);rw [List.getElem_take];rw [List.getD_eq_getElem?_getD] at this ⊢;rw [List.getElem?_take_of_lt (by omega)];exact this
    · rename_i hlt;have:=h2 (j + (k - min i xs.length)) (by omega);rw [List.getElem_drop];rw [List.getD_eq_getElem?_getD] at this ⊢;rw [List.getElem?_drop];exact this) ⟨hown',hgr,fun _ h=>.inl h,_,_,_,rfl⟩
  exact ⟨_,ρ',rfl,h3,h4,fun k hk=>by cases hk⟩
theorem insert_x (xs : List Ent) (e : Ent) (i : Nat) (hi : i ≤ xs.length) (hn : xs.length ≤ 1000000) : ACallX Tryz.prog 120 [.one (.vec 0),ii .i64 i,.one (.vec 1)] [(0,.vec 111 rEnt xs),(1,.vec 111 rEnt [e])] 2 (.one (.vec 0)) [(0,.vec 111 rEnt (insE xs i e)),(1,.vec 111 rEnt [e])] 2 []:=by
  refine ⟨⟨_,Tryz.func120,rfl,rfl⟩,fun cx ρ w vs _ _ _ hs hvs=>?_⟩;obtain ⟨v,r1,rfl,⟨hv,_⟩,vi,r2,rfl,hvi,v2,r3,rfl,⟨hv2,_⟩,hr3⟩:=hvs;rw [show r3 = [] from hr3,show vi = _ from hvi];obtain ⟨v',hv',css,h1,h2,hown⟩ : ∃ v,ρ 0 = some v ∧ VecOk (okOf cx ρ [(0,.vec 111 rEnt xs),(1,.vec 111 rEnt [e])]) w v 111 rEnt xs:=hs.obs (0,.vec 111 rEnt xs) (by simp);rw [hv] at hv';obtain rfl:=Option.some.inj hv';obtain ⟨v2',hv2',ess,g1,g2,hown2⟩ : ∃ v,ρ 1 = some v ∧ VecOk (okOf cx ρ [(0,.vec 111 rEnt xs),(1,.vec 111 rEnt [e])]) w v 111 rEnt [e]:=hs.obs (1,.vec 111 rEnt [e]) (by simp);rw [hv2] at hv2';obtain rfl:=Option.some.inj hv2';obtain ⟨es,rfl⟩ : ∃ es,ess = [es]:=List.length_eq_one_iff.1 g1;have hge:=g2 0 Nat.one_pos;have hel : es.length = 4:=Rd.len rEnt hge;have hfl:=ent_lens h1 h2;have hon:=ent_ones h1 h2;have hon2:=ent_ones g1 g2;rcases id hown2.2 with ⟨_,h0⟩|⟨vb,vc,cur2,hv2e,_⟩
  · simp at h0
  have hv2e : v2 = .slice (some ⟨vb,0,none⟩) 1 vc:=hv2e;subst hv2e;rw [show ([es] : List (List Value)).flatten = es by simp] at hown2 hon2;have hrow : Calls Tryz.prog 120 #[v,.int .i64 i,.slice (some ⟨vb,0,none⟩) 1 vc] w fun e' w'=>∃ u,e' = .returned u ∧ RowTo w w' v u (xs.length + 1) (css.flatten.take (i * 4) ++ es ++ css.flatten.drop (i * 4)):=by
    have hcl : css.flatten.length = xs.length * 4:=hown.1;rcases Nat.lt_or_ge i xs.length with hlt|hge'
    · rcases id hown.2 with ⟨_,h0⟩|⟨b,cap,cur,rfl,_⟩
      · omega
      have hne : vb ≠ b:=fun e'=>hs.sep (0,.vec 111 rEnt xs) (by simp) (1,.vec 111 rEnt [e]) (by simp) Nat.zero_ne_one b (by rw [hv];rfl) (by rw [hv2,e'];rfl)
      by_cases hroom : xs.length + 1 ≤ cap
      · exact ins_shift xs.length i b cap css.flatten es vb vc w hlt hroom hown hown2 hne hon2 hon
      · exact ins_grow xs.length i b cap css.flatten es vb vc w hlt (by omega) hn hown hown2 hon2 hon
    · obtain rfl : i = xs.length:=by omega
      have:=ins_end xs.length v css.flatten es vb vc w hown hown2 hon2 hn;rw [List.take_of_length_le (by omega),List.drop_of_length_le (by omega),List.append_nil];exact this
  refine hrow.mono ?_
  rintro e' w' ⟨u,rfl,hrt⟩
  have hf : (css.take i ++ es :: css.drop i).flatten = css.flatten.take (i * 4) ++ es ++ css.flatten.drop (i * 4):=by
    rw [List.flatten_append,List.flatten_cons,flat_take css i hfl,flat_drop css i hfl,List.append_assoc]
  have hnl : xs.length + 1 = (insE xs i e).length:=by unfold insE;rw [List.length_append,List.length_cons,List.length_take,List.length_drop];omega
  rw [← hf,hnl] at hrt;obtain ⟨ρ',h3,h4⟩:=row_st (xs':=insE xs i e) hs rfl hv (by rw [← hnl];simp [h1];omega) (fun k hk=>by
    rw [← hnl] at hk;simp only [insE,getD_app,List.getElem_append,List.length_take,h1];split
    · rename_i hlt;have:=h2 k (by omega);rw [List.getElem_take];rw [List.getD_eq_getElem?_getD] at this ⊢;rw [List.getElem?_take_of_lt (by omega)];exact this
    · rename_i hlt;obtain ⟨q,hq⟩ : ∃ q,k - min i xs.length = q:=⟨_,rfl⟩;simp only [hq];cases q with
      | zero=>exact hge
      | succ q =>
        have:=h2 (i + q) (by omega);simp only [List.getElem_cons_succ,List.getD_cons_succ,List.getElem_drop];rw [List.getD_eq_getElem?_getD] at this ⊢;rw [List.getElem?_drop];exact this) hrt
  exact ⟨_,ρ',rfl,h3,h4,fun k hk=>by cases hk⟩
theorem cloneE_o {k : Nat} (es : List Ent) (hl : es.length ≤ 1000000) : yA Tryz.prog 82 [.one (.slk k rEnt es)] [] 0 (.one (.vec 0)) [(0,.vec 111 rEnt es)] 1:=by
  refine qY (rs:=[2]) Tryz.func82 rfl rfl rfl teOk (by decide) rfl ?_;refine qC ?_;refine qB ?_;refine qC ?_;refine qC ?_;refine acode_isnil (q:=k) [_] _ (R:=rEnt) (xs:=es) rfl rfl rfl rfl (e:=111) rfl rfl ?_;refine ⟨rfl,fun b hb=>?_⟩;refine qJ rfl (fun h4=>?_) (fun h4=>?_)
  ·have hl0:=hb h4;subst hl0;refine qC ?_;refine qB ?_;refine xA 2 111 rEnt rfl ?_;refine qM ?_;exact ⟨rfl,rfl,rfl⟩
  ·refine qL ?_;refine qC ?_;refine qB ?_;refine zai (by first|exact qU (show es.length ≤ 1000000000 by omega) (by decide)|exact qU (show 0 + es.length ≤ 1000000000 by omega) (by decide)) ?_;refine qM ?_;exact ⟨rfl,rfl,rfl⟩
def recsT (l : List Itm) : List (List Fld):=(l.filter fun x=>decide (x.1 = 3)).map (·.2.2)
def fldL (a : List Fld) : List ByteArray:=a.flatMap fun f=>lineB f.1 f.2
def textT : List (List Fld) → List ByteArray
  | []=>[]
  | [a]=>fldL a
  | a :: b :: r=>fldL a ++ (⟨#[]⟩ :: textT (b :: r))
def GoodS (a : List Fld) : Prop:=a ≠ [] ∧ a.length ≤ 40 ∧ ∀ f ∈ a,yS f = 0
def badAt : Int → List Fld → Int × Int
  | _,[]=>(-9,0)
  | i,f :: r=>if yS f ≠ 0 then (i,yS f) else badAt (i + 1) r
def chkR (l : List Fld) : Int × Int:=if l = [] then (-9,2) else if 40 < l.length then (-9,11) else badAt 0 l
def chkA (l : List Fld) : C:=if (chkR l).2 = 0 then .lit .nilIface else if (chkR l).1 = -9 then errN (chkR l).2 else errF (chkR l).1 (chkR l).2
theorem badAt_hit : ∀ (l : List Fld) (i : Nat) (k : Int),i < l.length → (∀ f ∈ l.take i,yS f = 0) → yS (l.getD i (ByteArray.empty,ByteArray.empty)) ≠ 0 → badAt k l = (k + i,yS (l.getD i (ByteArray.empty,ByteArray.empty)))
  | [],i,k,h,_,_=>by simp at h
  | f :: r,0,k,_,_,hb=>by
    unfold badAt;rw [if_pos (by simpa using hb)];simp
  | f :: r,i + 1,k,h,ht,hb=>by
    unfold badAt;rw [if_neg (by simpa using ht f (by simp))];rw [badAt_hit r i (k + 1) (by simpa using h) (fun g hg=>ht g (by simp [hg])) (by simpa using hb)];simp only [List.getD_cons_succ]
    congr 1
    omega
theorem badAt_no : ∀ (l : List Fld) (k : Int),(∀ f ∈ l,yS f = 0) → badAt k l = (-9,0)
  | [],_,_=>rfl
  | f :: r,k,h=>by
    unfold badAt;rw [if_neg (by simpa using h f (by simp))];exact badAt_no r (k + 1) (fun g hg=>h g (by simp [hg]))
theorem chkA_nil {l : List Fld} (h : chkR l = (-9,0)) : chkA l = .lit .nilIface:=by unfold chkA;rw [h];rfl
theorem chkA_no {l : List Fld} {n : Int} (h : chkR l = (-9,n)) (hn : n ≠ 0) : chkA l = errN n:=by unfold chkA;rw [h,if_neg hn,if_pos rfl]
theorem chkA_at {l : List Fld} {i n : Int} (h : chkR l = (i,n)) (hn : n ≠ 0) (hi : 0 ≤ i) : chkA l = errF i n:=by unfold chkA;rw [h,if_neg hn,if_neg (by show ¬ i = -9;omega)]
theorem pcheck_c {κ : Nat} (l : List Fld) (hl : qW l) : qT Tryz.prog 47 [.one (.slk κ rFld l)] (.one (chkA l)):=by
  have hln:=hl.1;refine qQ (rs:=[2]) Tryz.func47 rfl rfl rfl teOk rfl ?_;refine qC ?_;refine qB ?_;refine qC ?_;refine qN ?_;refine qC ?_;refine qB ?_;intro l1_1
  try simp only [zds] at l1_1
  refine qJ rfl (fun h6=>?_) (fun h6=>?_)
  ·try simp only [decide_eq_true_eq] at h6
   try simp only [zds] at h6
   refine qC ?_;refine qB ?_;refine qM ?_;rw [chkA_no (l:=l) (n:=2) (by unfold chkR;rw [if_pos (List.eq_nil_of_length_eq_zero (by omega))]) (by decide)];rfl
  ·try simp only [decide_eq_false_iff_not] at h6
   try simp only [zds] at h6
   refine qC ?_;refine qB ?_;intro l3_1
   try simp only [zds] at l3_1
   refine qJ rfl (fun h11=>?_) (fun h11=>?_)
   ·try simp only [decide_eq_true_eq] at h11
    try simp only [zds] at h11
    refine qC ?_;refine qB ?_;refine qM ?_;rw [chkA_no (l:=l) (n:=11) (by unfold chkR;rw [if_neg (fun e=>h6 (by rw [e];rfl)),if_pos (by omega)]) (by decide)];rfl
   ·try simp only [decide_eq_false_iff_not,Int.not_lt] at h11
    try simp only [zds] at h11
    refine qL ?_;refine qC ?_;refine qC ?_;refine qB ?_;intro l5_1
    try simp only [zds] at l5_1
    refine qN ?_;refine qR (fun (i : Nat)=>i ≤ l.length ∧ ∀ f ∈ l.take i,yS f = 0) (fun (i : Nat)=>[(16,.one (.slk κ rFld l)),(17,ii .i64 l.length),(18,ii .i64 i)]) (fun (i : Nat)=>[]) 0 (fun (i : Nat)=>l.length - i) 0 (⟨Nat.zero_le _,by simp⟩) (qP ⟨rfl,rfl,rfl⟩ trivial rfl) ?_;intro i hI1;obtain ⟨hi,hall⟩:=hI1;refine qC ?_;refine qB ?_;refine qC ?_;refine qJ rfl (fun h19=>?_) (fun h19=>?_)
    ·try simp only [decide_eq_true_eq] at h19
     try simp only [zds] at h19
     have hlt : i < l.length:=(by omega);have hm:=hl.2 _ (yF hlt (ByteArray.empty,ByteArray.empty));have hne : l ≠ []:=(fun e=>by rw [e] at hlt;simp at hlt);refine qL ?_;refine qC ?_;refine qN ?_;refine qC ?_;refine qB ?_;refine zai (by first|omega|assumption|decide|(simp only [zds];omega)|(simp <;> omega)) ?_;refine qC ?_;rcases check_cases (l.getD i (ByteArray.empty,ByteArray.empty)) with hc|hc|hc
     ·refine qB ?_;refine Or.inl ?_;refine zai (rfl) ?_;refine zei _ (zai (check_v (l.getD i (ByteArray.empty,ByteArray.empty)) _ (by omega) hc) ?_);refine qC ?_;refine qB ?_;refine qJ rfl (fun h26=>?_) (fun h26=>?_)
      ·skip
       refine qC ?_;refine qB ?_;refine qM ?_;rw [chkA_at (l:=l) (i:=i) (n:=5) (by unfold chkR;rw [if_neg hne,if_neg (by omega),badAt_hit l i 0 hlt hall (by rw [hc];decide),hc];simp) (by decide) (by omega)];rfl
      ·try simp only [zbq] at h26
       try simp only [zds] at h26
       cases h26
     ·refine qB ?_;refine Or.inl ?_;refine zai (rfl) ?_;refine zei _ (zai (check_v (l.getD i (ByteArray.empty,ByteArray.empty)) _ (by omega) hc) ?_);refine qC ?_;refine qB ?_;refine qJ rfl (fun h26=>?_) (fun h26=>?_)
      ·skip
       refine qC ?_;refine qB ?_;refine qM ?_;rw [chkA_at (l:=l) (i:=i) (n:=6) (by unfold chkR;rw [if_neg hne,if_neg (by omega),badAt_hit l i 0 hlt hall (by rw [hc];decide),hc];simp) (by decide) (by omega)];rfl
      ·try simp only [zbq] at h26
       try simp only [zds] at h26
       cases h26
     ·refine qB ?_;refine Or.inl ?_;refine zai (rfl) ?_;refine zei _ (zai (check_v (l.getD i (ByteArray.empty,ByteArray.empty)) _ (by omega) hc) ?_);refine qC ?_;refine qB ?_;refine qJ rfl (fun h26=>?_) (fun h26=>?_)
      ·try simp only [Bool.not_eq_true'] at h26
       try simp only [zds] at h26
       cases h26
      ·try simp only [Bool.not_eq_false'] at h26
       try simp only [zds] at h26
       refine qL ?_;refine qB ?_;refine zai (by first|omega|assumption|decide|(simp only [zds];omega)|(simp <;> omega)) ?_;exact ⟨i + 1,⟨by omega,by rw [← yH (ByteArray.empty,ByteArray.empty) hlt];intro f hf;rcases List.mem_append.1 hf with h|h;exact hall f h;rw [List.mem_singleton.1 h];exact hc⟩,by first|omega|(simp <;> omega),qP ⟨rfl,rfl,(qS (by omega))⟩ trivial rfl⟩
    ·try simp only [decide_eq_false_iff_not,Int.not_lt] at h19
     try simp only [zds] at h19
     refine qV ?_;refine qC ?_;refine qB ?_;refine qM ?_;rw [List.take_of_length_le (by omega)] at hall;rw [chkA_nil (by unfold chkR;rw [if_neg (fun e=>h6 (by rw [e];rfl)),if_neg (by omega)];exact badAt_no l 0 hall)];rfl
theorem badAt_zero : ∀ (l : List Fld) (k : Int),(badAt k l).2 = 0 → (∀ f ∈ l,yS f = 0)
  | [],_,_,f,hf=>by cases hf
  | g :: r,k,h,f,hf=>by
    unfold badAt at h;split at h
    · rename_i hg;exact absurd h hg
    · rename_i hg;rcases List.mem_cons.1 hf with rfl|hf
      · exact Classical.not_not.1 hg
      · exact badAt_zero r (k + 1) h f hf
theorem chk_good {l : List Fld} (h : (chkR l).2 = 0) : GoodS l ∧ badF l = 0 ∧ chkA l = .lit .nilIface:=by
  have hA : chkA l = .lit .nilIface:=by unfold chkA;rw [if_pos h]
  unfold chkR at h;split at h
  · cases h
  · rename_i h0;split at h
    · cases h
    · rename_i h4;have:=badAt_zero l 0 h;exact ⟨⟨h0,by omega,this⟩,badF_ok this,hA⟩
theorem chk_bad {l : List Fld} (h : (chkR l).2 ≠ 0) : ∃ e,chkA l = e ∧ ((∃ n,n ≠ 0 ∧ e = errN n ∧ chkR l = (-9,n)) ∨ ∃ i n,n ≠ 0 ∧ e = errF i n ∧ chkR l = (i,n)):=by
  refine ⟨_,rfl,?_⟩;unfold chkA;rw [if_neg h]
  by_cases h9 : (chkR l).1 = -9
  · rw [if_pos h9];exact .inl ⟨_,h,rfl,Prod.ext h9 rfl⟩
  · rw [if_neg h9];exact .inr ⟨_,_,h,rfl,rfl⟩
theorem pstanza_ok {κ : Nat} {l : List Fld} (hl : qW l) (h : (chkR l).2 = 0) : qT Tryz.prog 147 [.one (.slk κ rFld l)] (.tup [(false,[.lit (.string (bytes (foldL l)))]),(false,[.lit .nilIface])]):=by
  obtain ⟨h1,h2,h3⟩:=chk_good h;have hc:=pcheck_c (κ:=κ) l hl;rw [h3] at hc;refine qQ (rs:=[2,3]) Tryz.func147 rfl rfl rfl teOk rfl ?_;refine qC ?_;refine qB ?_;refine qC ?_;refine qC ?_;refine qB ?_;refine Or.inl ?_;refine zai (rfl) ?_;refine zei _ (zai (hc) ?_);refine qC ?_;refine qB ?_;refine qJ rfl (fun h8=>?_) (fun h8=>?_)
  ·try simp only [Bool.not_eq_true'] at h8
   try simp only [zds] at h8
   cases h8
  ·try simp only [Bool.not_eq_false'] at h8
   try simp only [zds] at h8
   refine qL ?_;refine qC ?_;refine qB ?_;refine Or.inl ?_;refine zai (rfl) ?_;refine zei _ (zai (fold_yes hl h2) ?_);refine qM ?_;rfl
theorem pstanza_err {κ : Nat} {l : List Fld} (hl : qW l) (h : (chkR l).2 ≠ 0) : qT Tryz.prog 147 [.one (.slk κ rFld l)] (.tup [(false,[.lit (.string ⟨#[]⟩)]),(false,[chkA l])]):=by
  have hc:=pcheck_c (κ:=κ) l hl;obtain ⟨e,he,hs⟩:=chk_bad h;rw [he] at hc ⊢;rcases hs with ⟨n,hn,rfl,_⟩|⟨i,n,hn,rfl,_⟩
  ·
    refine qQ (rs:=[2,3]) Tryz.func147 rfl rfl rfl teOk rfl ?_;refine qC ?_;refine qB ?_;refine qC ?_;refine qC ?_;refine qB ?_;refine Or.inl ?_;refine zai (rfl) ?_;refine zei _ (zai (hc) ?_);refine qC ?_;refine qB ?_;refine qJ rfl (fun h8=>?_) (fun h8=>?_)
    ·skip
     refine qC ?_;refine qB ?_;refine qM ?_;rfl
    ·try simp only [zbq] at h8
     try simp only [zds] at h8
     cases h8
  ·
    refine qQ (rs:=[2,3]) Tryz.func147 rfl rfl rfl teOk rfl ?_;refine qC ?_;refine qB ?_;refine qC ?_;refine qC ?_;refine qB ?_;refine Or.inl ?_;refine zai (rfl) ?_;refine zei _ (zai (hc) ?_);refine qC ?_;refine qB ?_;refine qJ rfl (fun h8=>?_) (fun h8=>?_)
    ·skip
     refine qC ?_;refine qB ?_;refine qM ?_;rfl
    ·try simp only [zbq] at h8
     try simp only [zds] at h8
     cases h8
theorem clone_c {k : Nat} (l : List Fld) (hl : l.length ≤ 1000000) : qT Tryz.prog 62 [.one (.slk k rFld l)] (.one (.sl rFld l)):=by
  refine qQ (rs:=[2]) Tryz.func62 rfl rfl rfl teOk rfl ?_;refine qC ?_;refine qB ?_;refine qC ?_;refine qC ?_;refine acode_isnil (q:=k) [_] _ (R:=rFld) (xs:=l) rfl rfl rfl rfl (e:=82) rfl rfl ?_;refine ⟨rfl,fun b hb=>?_⟩;refine qJ rfl (fun h4=>?_) (fun h4=>?_)
  ·have hl0:=hb h4;subst hl0;refine qC ?_;refine qB ?_;refine xA 2 82 rFld rfl ?_;refine qM ?_;rfl
  ·refine qL ?_;refine qC ?_;refine qB ?_;refine zai (by first|exact qU (show l.length ≤ 1000000000 by omega) (by decide)|exact qU (show 0 + l.length ≤ 1000000000 by omega) (by decide)) ?_;refine qM ?_;rfl
def al6 : List (List Fld):=[[(⟨#[65]⟩,⟨#[49]⟩)],[(⟨#[66]⟩,⟨#[50]⟩)]]
def itEs (es : List Ent) : List (List A):=(es.filter live).map fun e=>[A.agg (toL rEnt e)]
def cntL (es : List Ent) : Nat:=(es.filter live).length
theorem index_E (f : FuncId) {k : Nat} {β : Type} (S : Rd β) (y : β) (l : List Ent) (p : Ent → Bool) (hp : ∀ x ∈ l,qT Tryz.prog f [.agg (toL rEnt x),.one (.addr S y)] (ib (p x))) : qT Tryz.prog 137 [.one (.slk k rEnt l),.one (.clo f (.addr S y))] (ii .i64 (ixOf p l)):=by
  refine qQ (rs:=[4]) Tryz.func137 rfl rfl rfl teOk rfl ?_;refine qC ?_;refine qB ?_;refine qC ?_;refine qC ?_;refine qB ?_;intro l1_1
  try simp only [zds] at l1_1
  refine qN ?_;refine qR (fun (i : Nat)=>i ≤ l.length ∧ (l.take i).any p = false) (fun (i : Nat)=>[(0,.one (.slk k rEnt l)),(1,.one (.clo f (.addr S y))),(7,ii .i64 l.length),(8,ii .i64 i)]) (fun (i : Nat)=>[]) 0 (fun (i : Nat)=>l.length - i) 0 (⟨Nat.zero_le _,rfl⟩) (qP ⟨rfl,rfl,rfl,rfl⟩ trivial rfl) ?_;intro i hI0;obtain ⟨hi,hn⟩:=hI0;refine qC ?_;refine qB ?_;refine qC ?_;refine qJ rfl (fun h9=>?_) (fun h9=>?_)
  ·try simp only [decide_eq_true_eq] at h9
   try simp only [zds] at h9
   refine qL ?_;refine qC ?_;refine qN ?_;refine qC ?_;refine qB ?_;refine qC ?_;refine qB ?_;refine zai (by first|omega|assumption|decide|(simp only [zds];omega)|(simp <;> omega)) ?_;refine Or.inl ?_;refine zai (rfl) ?_;refine zei _ (zai (hp _ (yF (show i < l.length by omega) _)) ?_);refine qJ rfl (fun h16=>?_) (fun h16=>?_)
   ·try simp only [zbq] at h16
    try simp only [Int.toNat_natCast,qH,qG,qF,qE] at h16
    refine qC ?_;refine qB ?_;refine qM ?_;exact qS (ixOf_at (((0 : Int),ByteArray.empty,([] : List Fld)),(0 : Int)) (by omega) hn h16).symm
   ·try simp only [zbq] at h16
    try simp only [Int.toNat_natCast,qH,qG,qF,qE] at h16
    refine qL ?_;refine qB ?_;refine zai (by first|omega|assumption|decide|(simp only [zds];omega)|(simp <;> omega)) ?_;exact ⟨i + 1,⟨by omega,by rw [take_any l p (((0 : Int),ByteArray.empty,([] : List Fld)),(0 : Int)) i (by omega),hn];exact h16⟩,by first|omega|(simp <;> omega),qP ⟨rfl,rfl,rfl,rfl⟩ trivial rfl⟩
  ·try simp only [decide_eq_false_iff_not,Int.not_lt] at h9
   try simp only [zds] at h9
   refine qV ?_;refine qC ?_;refine qB ?_;refine qM ?_;have e : i = l.length:=by omega
   subst e;rw [List.take_length] at hn;exact qS (ixOf_none hn).symm
theorem at1_c (id : Int) (e : Ent) : qT Tryz.prog 138 [.agg (toL rEnt e),.one (.addr (.int .i64) id)] (ib (hasId id e)):=by
  refine qQ (rs:=[3]) Tryz.func138 rfl rfl rfl teOk rfl ?_;refine qC ?_;refine qB ?_;refine qC ?_;refine qB ?_;refine qM ?_;rfl
theorem at_c {k : Nat} (es : List Ent) (n m id : Int) : qT Tryz.prog 104 [.one (.adk k (rLst k) (es,n,m)),ii .i64 id] (ii .i64 (atE es id)):=by
  refine qQ (rs:=[4]) Tryz.func104 rfl rfl rfl teOk rfl ?_;refine qC ?_;refine qB ?_;refine qC ?_;refine qC ?_;refine qB ?_;refine zai (fun h=>trivial) ?_;refine zai (fun h=>⟨⟨h,trivial⟩,trivial⟩) ?_;refine zai (by first|(intro h;rw [h];rfl)|(intro h;cases h)) ?_;refine qJ rfl (fun h10=>?_) (fun h10=>?_)
  ·try simp only [decide_eq_true_eq,Bool.or_eq_true] at h10
   try simp only [zds] at h10
   have h10 : id < 1:=h10.elim (fun h=>by cases h) (fun h=>h);refine qC ?_;refine qB ?_;refine qM ?_;exact qS (by unfold atE;rw [if_pos h10])
  ·try simp only [decide_eq_false_iff_not,Bool.or_eq_false_iff,Int.not_lt] at h10
   try simp only [zds] at h10
   have h10 : ¬ id < 1:=(by simp at h10;omega);refine qL ?_;refine qC ?_;refine qB ?_;refine Or.inl ?_;refine zai (rfl) ?_;refine zei _ (zai (index_E _ (.int .i64) id es (hasId id) (fun x _=>at1_c id x)) ?_);refine qM ?_;exact qS (by unfold atE;rw [if_neg h10])
theorem next_c {k : Nat} (es : List Ent) (n m : Int) : qT Tryz.prog 25 [.one (.adk k (rLst k) (es,n,m))] (ii .i64 n):=by
  refine qQ (rs:=[2]) Tryz.func25 rfl rfl rfl teOk rfl ?_;refine qC ?_;refine qB ?_;refine qC ?_;refine qC ?_;refine qB ?_;refine qJ rfl (fun h4=>?_) (fun h4=>?_)
  ·try simp only [zbq] at h4
   try simp only [zds] at h4
   simp at h4
  ·skip
   refine qL ?_;refine qC ?_;refine qB ?_;refine qM ?_;rfl
theorem at_lt {es : List Ent} {id : Int} (h : ¬ atE es id < 0) : ∃ i : Nat,i < es.length ∧ atE es id = i ∧ 0 < id ∧ (es.getD i (((0 : Int),ByteArray.empty,([] : List Fld)),(0 : Int))).2 = id:=by
  rcases at_cases es id with ⟨h1,_⟩|⟨i,h1,h2,h3,h4,_⟩
  · omega
  · exact ⟨i,h1,h2,h3,h4⟩
theorem get_c {k : Nat} (es : List Ent) (n m id : Int) (hf : ∀ e ∈ es,e.1.2.2.length ≤ 1000000) : qT Tryz.prog 68 [.one (.adk k (rLst k) (es,n,m)),ii .i64 id] (.tup [(false,[.sl rFld (if atE es id < 0 then [] else getL es id)]),(false,[.lit (.bool (decide (0 ≤ atE es id)))])]):=by
  refine qQ (rs:=[4,5]) Tryz.func68 rfl rfl rfl teOk rfl ?_;refine qC ?_;refine qB ?_;refine qC ?_;refine qB ?_;refine Or.inl ?_;refine zai (rfl) ?_;refine zei _ (zai (at_c es n m id) ?_);refine qC ?_;refine qC ?_;refine qB ?_;refine qJ rfl (fun h11=>?_) (fun h11=>?_)
  ·try simp only [decide_eq_true_eq] at h11
   try simp only [zds] at h11
   rw [if_pos h11,decide_eq_false (show ¬ 0 ≤ atE es id by omega)];refine qC ?_;refine qB ?_;refine xA 4 82 rFld rfl ?_;refine qM ?_;rfl
  ·try simp only [decide_eq_false_iff_not,Int.not_lt] at h11
   try simp only [zds] at h11
   have h11' : ¬ atE es id < 0:=(by omega);obtain ⟨i,hi,he,_,_⟩:=at_lt h11';rw [if_neg h11',decide_eq_true (show 0 ≤ atE es id by omega)];have hfi:=hf _ (yF hi (((0 : Int),ByteArray.empty,([] : List Fld)),(0 : Int)));unfold getL;rw [he];rw [Int.toNat_natCast];refine qL ?_;refine qC ?_;refine qB ?_;refine zai (by first|omega|assumption|decide|(simp only [];omega)|(simp <;> omega)) ?_;refine Or.inl ?_;refine zai (rfl) ?_;refine zei _ (zai (clone_c _ hfi) ?_);refine qM ?_;rfl
theorem lDel_no (es : List Ent) (n m id : Int) (h : atE es id < 0) : yA Tryz.prog 84 [.one (.own 0 0),ii .i64 id] (lsO (es,n,m)) 2 (.one (errN 7)) (lsO (es,n,m)) 2:=by
  refine qY (rs:=[4]) Tryz.func84 rfl rfl rfl teOk (by decide) rfl ?_;refine qC ?_;refine qB ?_;refine qC ?_;refine qB ?_;refine Or.inr (Or.inr (Or.inl ?_));refine zai rfl ?_;refine zei _ (zai (at_c es n m id) ?_);refine qC ?_;refine qC ?_;refine qB ?_;refine qJ rfl (fun h10=>?_) (fun h10=>?_)
  ·try simp only [decide_eq_true_eq] at h10
   try simp only [zds] at h10
   refine qC ?_;refine qB ?_;refine qM ?_;exact ⟨rfl,⟨rfl,rfl⟩,rfl⟩
  ·try simp only [decide_eq_false_iff_not,Int.not_lt] at h10
   try simp only [zds] at h10
   omega
theorem lDel_ok (es : List Ent) (n m id : Int) (i : Nat) (hi : i < es.length) (h : atE es id = i) (hm : 0 ≤ m ∧ m ≤ 1000000) (hl : es.length ≤ 1000000) : yA Tryz.prog 84 [.one (.own 0 0),ii .i64 id] (lsO (es,n,m)) 2 (.one (.lit .nilIface)) (lsO (delE es i,n,m - 1)) 2:=by
  refine qY (rs:=[4]) Tryz.func84 rfl rfl rfl teOk (by decide) rfl ?_;refine qC ?_;refine qB ?_;refine qC ?_;refine qB ?_;refine Or.inr (Or.inr (Or.inl ?_));refine zai rfl ?_;refine zei _ (zai ((by have:=at_c (k:=1) es n m id;rw [h] at this;exact this)) ?_);refine qC ?_;refine qC ?_;refine qB ?_;refine qJ rfl (fun h10=>?_) (fun h10=>?_)
  ·try simp only [decide_eq_true_eq] at h10
   try simp only [zds] at h10
   omega
  ·try simp only [decide_eq_false_iff_not,Int.not_lt] at h10
   try simp only [zds] at h10
   refine qL ?_;refine qC ?_;refine qB ?_;refine zai (by first|omega|assumption|decide|(simp only [zds];omega)|(simp <;> omega)) ?_;refine Or.inr (Or.inr (Or.inr (zei [1] (zei [] (zei _ (zei _ (zei _ (zei _ (zei _ (zai (delete_x es i (i + 1) (Nat.lt_succ_self _) hi) (zai rfl (zai (zai (zai rfl rfl) True.intro) (zai rfl ?_)))))))))))));refine qC ?_;refine qB ?_;refine zai (by first|omega|assumption|decide|(simp only [];omega)|(simp <;> omega)) ?_;refine qC ?_;refine qB ?_;refine qM ?_;exact ⟨rfl,⟨rfl,rfl⟩,rfl⟩
theorem pitem_ok {κ : Nat} {l : List Fld} (hl : qW l) (h : (chkR l).2 = 0) : qT Tryz.prog 118 [.one (.slk κ rFld l)] (.tup [(true,toL rItm (3,bytes (foldL l),l)),(false,[.lit .nilIface])]):=by
  refine yX (rs:=[.cell 2 109,.tmp 3]) Tryz.func118 rfl rfl rfl teOk rfl ?_;refine qC ?_;refine qB ?_;refine qC ?_;refine qB ?_;refine Or.inl ?_;refine zai (rfl) ?_;refine zei _ (zai (pstanza_ok hl h) ?_);refine qC ?_;refine qC ?_;refine qB ?_;refine qJ rfl (fun h12=>?_) (fun h12=>?_)
  ·try simp only [Bool.not_eq_true'] at h12
   try simp only [zds] at h12
   cases h12
  ·try simp only [Bool.not_eq_false'] at h12
   try simp only [zds] at h12
   refine qL ?_;refine qC ?_;refine qB ?_;refine Or.inl ?_;refine zai (rfl) ?_;refine zei _ (zai (clone_c l (Nat.le_trans hl.1 (by decide))) ?_);refine qM ?_;rfl
theorem pitem_err {κ : Nat} {l : List Fld} (hl : qW l) (h : (chkR l).2 ≠ 0) : qT Tryz.prog 118 [.one (.slk κ rFld l)] (.tup [(true,[.lit (.int .i64 0),.lit (.string ⟨#[]⟩),.lit (.slice none 0 0)]),(false,[chkA l])]):=by
  have hc:=pstanza_err (κ:=κ) hl h;obtain ⟨e,he,hs⟩:=chk_bad h;rw [he] at hc ⊢;rcases hs with ⟨n,hn,rfl,_⟩|⟨i,n,hn,rfl,_⟩
  ·
    refine yX (rs:=[.cell 2 109,.tmp 3]) Tryz.func118 rfl rfl rfl teOk rfl ?_;refine qC ?_;refine qB ?_;refine qC ?_;refine qB ?_;refine Or.inl ?_;refine zai (rfl) ?_;refine zei _ (zai (hc) ?_);refine qC ?_;refine qC ?_;refine qB ?_;refine qJ rfl (fun h12=>?_) (fun h12=>?_)
    ·skip
     refine qC ?_;refine qB ?_;refine qM ?_;rfl
    ·try simp only [zbq] at h12
     try simp only [zds] at h12
     cases h12
  ·
    refine yX (rs:=[.cell 2 109,.tmp 3]) Tryz.func118 rfl rfl rfl teOk rfl ?_;refine qC ?_;refine qB ?_;refine qC ?_;refine qB ?_;refine Or.inl ?_;refine zai (rfl) ?_;refine zei _ (zai (hc) ?_);refine qC ?_;refine qC ?_;refine qB ?_;refine qJ rfl (fun h12=>?_) (fun h12=>?_)
    ·skip
     refine qC ?_;refine qB ?_;refine qM ?_;rfl
    ·try simp only [zbq] at h12
     try simp only [zds] at h12
     cases h12
def xH (f : List Fld) : Itm:=(3,bytes (foldL f),f)
theorem lRep_no {κ : Nat} (es : List Ent) (n m id : Int) (f : List Fld) (h : atE es id < 0) : yA Tryz.prog 83 [.one (.own 0 0),ii .i64 id,.one (.slk κ rFld f)] (lsO (es,n,m)) 2 (.one (errN 7)) (lsO (es,n,m)) 2:=by
  refine qY (rs:=[6]) Tryz.func83 rfl rfl rfl teOk (by decide) rfl ?_;refine qC ?_;refine qB ?_;refine qC ?_;refine qB ?_;refine Or.inr (Or.inr (Or.inl ?_));refine zai rfl ?_;refine zei _ (zai (at_c es n m id) ?_);refine qC ?_;refine qC ?_;refine qB ?_;refine qJ rfl (fun h14=>?_) (fun h14=>?_)
  ·try simp only [decide_eq_true_eq] at h14
   try simp only [zds] at h14
   refine qC ?_;refine qB ?_;refine qM ?_;exact ⟨rfl,⟨rfl,rfl⟩,rfl⟩
  ·try simp only [decide_eq_false_iff_not,Int.not_lt] at h14
   try simp only [zds] at h14
   omega
theorem lRep_bad {κ : Nat} (es : List Ent) (n m id : Int) (f : List Fld) (h : 0 ≤ atE es id) (hf : qW f) (hc : (chkR f).2 ≠ 0) : yA Tryz.prog 83 [.one (.own 0 0),ii .i64 id,.one (.slk κ rFld f)] (lsO (es,n,m)) 2 (.one (chkA f)) (lsO (es,n,m)) 2:=by
  have hpi:=pitem_err (κ:=κ) hf hc;obtain ⟨e,he,hs⟩:=chk_bad hc;rw [he] at hpi ⊢;rcases hs with ⟨x,hx,rfl,_⟩|⟨j,x,hx,rfl,_⟩
  ·
    refine qY (rs:=[6]) Tryz.func83 rfl rfl rfl teOk (by decide) rfl ?_;refine qC ?_;refine qB ?_;refine qC ?_;refine qB ?_;refine Or.inr (Or.inr (Or.inl ?_));refine zai rfl ?_;refine zei _ (zai (at_c es n m id) ?_);refine qC ?_;refine qC ?_;refine qB ?_;refine qJ rfl (fun h14=>?_) (fun h14=>?_)
    ·try simp only [decide_eq_true_eq] at h14
     try simp only [zds] at h14
     omega
    ·try simp only [decide_eq_false_iff_not,Int.not_lt] at h14
     try simp only [zds] at h14
     refine qL ?_;refine qC ?_;refine qB ?_;refine Or.inl ?_;refine zai (rfl) ?_;refine zei _ (zai (hpi) ?_);refine qC ?_;refine qC ?_;refine qB ?_;refine qJ rfl (fun h22=>?_) (fun h22=>?_)
     ·skip
      refine qC ?_;refine qB ?_;refine qM ?_;exact ⟨rfl,⟨rfl,rfl⟩,rfl⟩
     ·try simp only [zbq] at h22
      try simp only [zds] at h22
      cases h22
  ·
    refine qY (rs:=[6]) Tryz.func83 rfl rfl rfl teOk (by decide) rfl ?_;refine qC ?_;refine qB ?_;refine qC ?_;refine qB ?_;refine Or.inr (Or.inr (Or.inl ?_));refine zai rfl ?_;refine zei _ (zai (at_c es n m id) ?_);refine qC ?_;refine qC ?_;refine qB ?_;refine qJ rfl (fun h14=>?_) (fun h14=>?_)
    ·try simp only [decide_eq_true_eq] at h14
     try simp only [zds] at h14
     omega
    ·try simp only [decide_eq_false_iff_not,Int.not_lt] at h14
     try simp only [zds] at h14
     refine qL ?_;refine qC ?_;refine qB ?_;refine Or.inl ?_;refine zai (rfl) ?_;refine zei _ (zai (hpi) ?_);refine qC ?_;refine qC ?_;refine qB ?_;refine qJ rfl (fun h22=>?_) (fun h22=>?_)
     ·skip
      refine qC ?_;refine qB ?_;refine qM ?_;exact ⟨rfl,⟨rfl,rfl⟩,rfl⟩
     ·try simp only [zbq] at h22
      try simp only [zds] at h22
      cases h22
theorem lRep_ok {κ : Nat} (es : List Ent) (n m id : Int) (f : List Fld) (i : Nat) (hi : i < es.length) (h : atE es id = i) (hf : qW f) (hc : (chkR f).2 = 0) : yA Tryz.prog 83 [.one (.own 0 0),ii .i64 id,.one (.slk κ rFld f)] (lsO (es,n,m)) 2 (.one (.lit .nilIface)) (lsO (replE es i (xH f),n,m)) 2:=by
  refine qY (rs:=[6]) Tryz.func83 rfl rfl rfl teOk (by decide) rfl ?_;refine qC ?_;refine qB ?_;refine qC ?_;refine qB ?_;refine Or.inr (Or.inr (Or.inl ?_));refine zai rfl ?_;refine zei _ (zai ((by have:=at_c (k:=1) es n m id;rw [h] at this;exact this)) ?_);refine qC ?_;refine qC ?_;refine qB ?_;refine qJ rfl (fun h14=>?_) (fun h14=>?_)
  ·try simp only [decide_eq_true_eq] at h14
   try simp only [zds] at h14
   omega
  ·try simp only [decide_eq_false_iff_not,Int.not_lt] at h14
   try simp only [zds] at h14
   refine qL ?_;refine qC ?_;refine qB ?_;refine Or.inl ?_;refine zai (rfl) ?_;refine zei _ (zai (pitem_ok hf hc) ?_);refine qC ?_;refine qC ?_;refine qB ?_;refine qJ rfl (fun h22=>?_) (fun h22=>?_)
   ·try simp only [Bool.not_eq_true'] at h22
    try simp only [zds] at h22
    cases h22
   ·try simp only [Bool.not_eq_false'] at h22
    try simp only [zds] at h22
    refine qL ?_;refine qC ?_;refine yV rfl ?_;refine qI 0 rfl rfl rfl (by kernel_rfl) ?_;refine qI 1 rfl rfl rfl (by kernel_rfl) ?_;refine qI 2 rfl rfl rfl (by kernel_rfl) ?_;refine qI 4 rfl rfl rfl (by kernel_rfl) ?_;refine qK [3,5] (by kernel_rfl) rfl ?_;refine zai ?_ ?_
    ·refine qK [5] (by kernel_rfl) rfl ?_;refine qI 6 rfl rfl rfl (by kernel_rfl) ?_;refine zai (by first|omega|assumption|decide|(simp only [];omega)|(simp <;> omega)) ?_;refine qK [7] (by kernel_rfl) rfl ?_;refine qK [8] (by kernel_rfl) rfl ?_;refine zai (by (rw [Int.toNat_natCast];exact hi)) ?_;refine qO (by kernel_rfl) ?_;refine qC ?_;refine qB ?_;refine qM ?_;exact ⟨rfl,⟨rfl,rfl⟩,rfl⟩
    ·refine qK [3] (by kernel_rfl) rfl ?_;refine qI 6 rfl rfl rfl (by kernel_rfl) ?_;refine zai (by first|omega|assumption|decide|(simp only [];omega)|(simp <;> omega)) ?_;refine qK [7] (by kernel_rfl) rfl ?_;refine qK [8] (by kernel_rfl) rfl ?_;refine zai (by (rw [Int.toNat_natCast];exact hi)) ?_;refine qO (by kernel_rfl) ?_;refine qC ?_;refine qB ?_;refine qM ?_;exact ⟨rfl,⟨rfl,rfl⟩,rfl⟩
theorem lIns_no {κ : Nat} (es : List Ent) (n m id : Int) (f : List Fld) (h : atE es id < 0) (h0 : id ≠ 0) : yA Tryz.prog 85 [.one (.own 0 0),ii .i64 id,.one (.slk κ rFld f)] (lsO (es,n,m)) 2 (.tup [(false,[.lit (.int .i64 0)]),(false,[errN 7])]) (lsO (es,n,m)) 2:=by
  refine qY (rs:=[6,7]) Tryz.func85 rfl rfl rfl teOk (by decide) rfl ?_;refine qC ?_;refine qB ?_;refine qC ?_;refine qB ?_;refine Or.inr (Or.inr (Or.inl ?_));refine zai rfl ?_;refine zei _ (zai (at_c es n m id) ?_);refine qC ?_;refine qC ?_;refine qB ?_;refine zai (fun h=>trivial) ?_;refine zai (fun h=>⟨⟨h,trivial⟩,trivial⟩) ?_;refine zai (fun h=>⟨⟨h,trivial⟩,trivial⟩) ?_;refine zai (fun h=>trivial) ?_;refine zai (fun h=>⟨⟨h,trivial⟩,trivial⟩) ?_;refine zai (fun h=>⟨⟨⟨h,trivial⟩,trivial⟩,by first|exact fun h2=>h2|(intro h2;rw [h,h2];rfl)|(intro h2;cases h2)|(intro h2;simp_all [gq])⟩) ?_;refine zai (by first|(intro h;rw [h];rfl)|(intro h;cases h)) ?_;refine qJ rfl (fun h24=>?_) (fun h24=>?_)
  ·try simp only [decide_eq_true_eq,decide_eq_false_iff_not,Bool.and_eq_true,Bool.not_eq_true',Bool.or_eq_true] at h24
   try simp only [zds] at h24
   refine qC ?_;refine qB ?_;refine qM ?_;exact ⟨rfl,⟨rfl,rfl⟩,rfl⟩
  ·try simp only [decide_eq_true_eq,decide_eq_false_iff_not,Bool.not_eq_false',Bool.or_eq_false_iff,Bool.and_eq_false_iff,Int.not_lt] at h24
   try simp only [zds] at h24
   simp at h24;omega
theorem lIns_bad {κ : Nat} (es : List Ent) (n m id : Int) (f : List Fld) (h : ¬ (atE es id < 0 ∧ id ≠ 0)) (hf : qW f) (hc : (chkR f).2 ≠ 0) : yA Tryz.prog 85 [.one (.own 0 0),ii .i64 id,.one (.slk κ rFld f)] (lsO (es,n,m)) 2 (.tup [(false,[.lit (.int .i64 0)]),(false,[chkA f])]) (lsO (es,n,m)) 2:=by
  have hpi:=pitem_err (κ:=κ) hf hc;obtain ⟨e,he,hs⟩:=chk_bad hc;rw [he] at hpi ⊢;rcases hs with ⟨x,hx,rfl,_⟩|⟨j,x,hx,rfl,_⟩
  ·
    refine qY (rs:=[6,7]) Tryz.func85 rfl rfl rfl teOk (by decide) rfl ?_;refine qC ?_;refine qB ?_;refine qC ?_;refine qB ?_;refine Or.inr (Or.inr (Or.inl ?_));refine zai rfl ?_;refine zei _ (zai (at_c es n m id) ?_);refine qC ?_;refine qC ?_;refine qB ?_;refine zai (fun h=>trivial) ?_;refine zai (fun h=>⟨⟨h,trivial⟩,trivial⟩) ?_;refine zai (fun h=>⟨⟨h,trivial⟩,trivial⟩) ?_;refine zai (fun h=>trivial) ?_;refine zai (fun h=>⟨⟨h,trivial⟩,trivial⟩) ?_;refine zai (fun h=>⟨⟨⟨h,trivial⟩,trivial⟩,by first|exact fun h2=>h2|(intro h2;rw [h,h2];rfl)|(intro h2;cases h2)|(intro h2;simp_all [gq])⟩) ?_;refine zai (by first|(intro h;rw [h];rfl)|(intro h;cases h)) ?_;refine qJ rfl (fun h24=>?_) (fun h24=>?_)
    ·try simp only [decide_eq_true_eq,decide_eq_false_iff_not,Bool.and_eq_true,Bool.not_eq_true',Bool.or_eq_true] at h24
     try simp only [zds] at h24
     exact absurd (by simpa using h24) h
    ·try simp only [decide_eq_true_eq,decide_eq_false_iff_not,Bool.not_eq_false',Bool.or_eq_false_iff,Bool.and_eq_false_iff,Int.not_lt] at h24
     try simp only [zds] at h24
     refine qL ?_;refine qC ?_;refine qB ?_;refine Or.inl ?_;refine zai (rfl) ?_;refine zei _ (zai (hpi) ?_);refine qC ?_;refine qN ?_;refine qC ?_;refine qB ?_;refine qJ rfl (fun h31=>?_) (fun h31=>?_)
     ·skip
      refine qC ?_;refine qB ?_;refine qM ?_;exact ⟨rfl,⟨rfl,rfl⟩,rfl⟩
     ·try simp only [zbq] at h31
      try simp only [zds] at h31
      cases h31
  ·
    refine qY (rs:=[6,7]) Tryz.func85 rfl rfl rfl teOk (by decide) rfl ?_;refine qC ?_;refine qB ?_;refine qC ?_;refine qB ?_;refine Or.inr (Or.inr (Or.inl ?_));refine zai rfl ?_;refine zei _ (zai (at_c es n m id) ?_);refine qC ?_;refine qC ?_;refine qB ?_;refine zai (fun h=>trivial) ?_;refine zai (fun h=>⟨⟨h,trivial⟩,trivial⟩) ?_;refine zai (fun h=>⟨⟨h,trivial⟩,trivial⟩) ?_;refine zai (fun h=>trivial) ?_;refine zai (fun h=>⟨⟨h,trivial⟩,trivial⟩) ?_;refine zai (fun h=>⟨⟨⟨h,trivial⟩,trivial⟩,by first|exact fun h2=>h2|(intro h2;rw [h,h2];rfl)|(intro h2;cases h2)|(intro h2;simp_all [gq])⟩) ?_;refine zai (by first|(intro h;rw [h];rfl)|(intro h;cases h)) ?_;refine qJ rfl (fun h24=>?_) (fun h24=>?_)
    ·try simp only [decide_eq_true_eq,decide_eq_false_iff_not,Bool.and_eq_true,Bool.not_eq_true',Bool.or_eq_true] at h24
     try simp only [zds] at h24
     exact absurd (by simpa using h24) h
    ·try simp only [decide_eq_true_eq,decide_eq_false_iff_not,Bool.not_eq_false',Bool.or_eq_false_iff,Bool.and_eq_false_iff,Int.not_lt] at h24
     try simp only [zds] at h24
     refine qL ?_;refine qC ?_;refine qB ?_;refine Or.inl ?_;refine zai (rfl) ?_;refine zei _ (zai (hpi) ?_);refine qC ?_;refine qN ?_;refine qC ?_;refine qB ?_;refine qJ rfl (fun h31=>?_) (fun h31=>?_)
     ·skip
      refine qC ?_;refine qB ?_;refine qM ?_;exact ⟨rfl,⟨rfl,rfl⟩,rfl⟩
     ·try simp only [zbq] at h31
      try simp only [zds] at h31
      cases h31
theorem lIns_full {κ : Nat} (es : List Ent) (n m id : Int) (f : List Fld) (h : ¬ (atE es id < 0 ∧ id ≠ 0)) (hf : qW f) (hc : (chkR f).2 = 0) (hm : 400 ≤ m) : yA Tryz.prog 85 [.one (.own 0 0),ii .i64 id,.one (.slk κ rFld f)] (lsO (es,n,m)) 2 (.tup [(false,[.lit (.int .i64 0)]),(false,[errN 11])]) (lsO (es,n,m)) 2:=by
  refine qY (rs:=[6,7]) Tryz.func85 rfl rfl rfl teOk (by decide) rfl ?_;refine qC ?_;refine qB ?_;refine qC ?_;refine qB ?_;refine Or.inr (Or.inr (Or.inl ?_));refine zai rfl ?_;refine zei _ (zai (at_c es n m id) ?_);refine qC ?_;refine qC ?_;refine qB ?_;refine zai (fun h=>trivial) ?_;refine zai (fun h=>⟨⟨h,trivial⟩,trivial⟩) ?_;refine zai (fun h=>⟨⟨h,trivial⟩,trivial⟩) ?_;refine zai (fun h=>trivial) ?_;refine zai (fun h=>⟨⟨h,trivial⟩,trivial⟩) ?_;refine zai (fun h=>⟨⟨⟨h,trivial⟩,trivial⟩,by first|exact fun h2=>h2|(intro h2;rw [h,h2];rfl)|(intro h2;cases h2)|(intro h2;simp_all [gq])⟩) ?_;refine zai (by first|(intro h;rw [h];rfl)|(intro h;cases h)) ?_;refine qJ rfl (fun h24=>?_) (fun h24=>?_)
  ·try simp only [decide_eq_true_eq,decide_eq_false_iff_not,Bool.and_eq_true,Bool.not_eq_true',Bool.or_eq_true] at h24
   try simp only [zds] at h24
   exact absurd (by simpa using h24) h
  ·try simp only [decide_eq_true_eq,decide_eq_false_iff_not,Bool.not_eq_false',Bool.or_eq_false_iff,Bool.and_eq_false_iff,Int.not_lt] at h24
   try simp only [zds] at h24
   refine qL ?_;refine qC ?_;refine qB ?_;refine Or.inl ?_;refine zai (rfl) ?_;refine zei _ (zai (pitem_ok hf hc) ?_);refine qC ?_;refine qN ?_;refine qC ?_;refine qB ?_;refine qJ rfl (fun h31=>?_) (fun h31=>?_)
   ·try simp only [Bool.not_eq_true'] at h31
    try simp only [zds] at h31
    cases h31
   ·try simp only [Bool.not_eq_false'] at h31
    try simp only [zds] at h31
    refine qC ?_;refine qB ?_;refine qJ rfl (fun h35=>?_) (fun h35=>?_)
    ·try simp only [decide_eq_true_eq] at h35
     try simp only [zds] at h35
     refine qC ?_;refine qB ?_;refine qM ?_;exact ⟨rfl,⟨rfl,rfl⟩,rfl⟩
    ·try simp only [decide_eq_false_iff_not,Int.not_le] at h35
     try simp only [zds] at h35
     omega
theorem lIns_ok {κ : Nat} (es : List Ent) (n m id : Int) (f : List Fld) (j : Nat) (hj : j ≤ es.length) (h : ¬ (atE es id < 0 ∧ id ≠ 0)) (ha : atE es id + 1 = (j : Int)) (hf : qW f) (hc : (chkR f).2 = 0) (hm : 0 ≤ m ∧ m < 400) (hn : 0 ≤ n ∧ n ≤ 1000000000) (hl : es.length ≤ 1000000) : yA Tryz.prog 85 [.one (.own 0 0),ii .i64 id,.one (.slk κ rFld f)] (lsO (es,n,m)) 2 (.tup [(false,[.lit (.int .i64 n)]),(false,[.lit .nilIface])]) (lsO (insE es j (xH f,n),n + 1,m + 1)) 2:=by
  have hins:=insert_x es (xH f,n) j hj hl;rw [← ha] at hins;refine qY (rs:=[6,7]) Tryz.func85 rfl rfl rfl teOk (by decide) rfl ?_;refine qC ?_;refine qB ?_;refine qC ?_;refine qB ?_;refine Or.inr (Or.inr (Or.inl ?_));refine zai rfl ?_;refine zei _ (zai (at_c es n m id) ?_);refine qC ?_;refine qC ?_;refine qB ?_;refine zai (fun h=>trivial) ?_;refine zai (fun h=>⟨⟨h,trivial⟩,trivial⟩) ?_;refine zai (fun h=>⟨⟨h,trivial⟩,trivial⟩) ?_;refine zai (fun h=>trivial) ?_;refine zai (fun h=>⟨⟨h,trivial⟩,trivial⟩) ?_;refine zai (fun h=>⟨⟨⟨h,trivial⟩,trivial⟩,by first|exact fun h2=>h2|(intro h2;rw [h,h2];rfl)|(intro h2;cases h2)|(intro h2;simp_all [gq])⟩) ?_;refine zai (by first|(intro h;rw [h];rfl)|(intro h;cases h)) ?_;refine qJ rfl (fun h24=>?_) (fun h24=>?_)
  ·try simp only [decide_eq_true_eq,decide_eq_false_iff_not,Bool.and_eq_true,Bool.not_eq_true',Bool.or_eq_true] at h24
   try simp only [zds] at h24
   exact absurd (by simpa using h24) h
  ·try simp only [decide_eq_true_eq,decide_eq_false_iff_not,Bool.not_eq_false',Bool.or_eq_false_iff,Bool.and_eq_false_iff,Int.not_lt] at h24
   try simp only [zds] at h24
   refine qL ?_;refine qC ?_;refine qB ?_;refine Or.inl ?_;refine zai (rfl) ?_;refine zei _ (zai (pitem_ok hf hc) ?_);refine qC ?_;refine qN ?_;refine qC ?_;refine qB ?_;refine qJ rfl (fun h31=>?_) (fun h31=>?_)
   ·try simp only [Bool.not_eq_true'] at h31
    try simp only [zds] at h31
    cases h31
   ·try simp only [Bool.not_eq_false'] at h31
    try simp only [zds] at h31
    refine qC ?_;refine qB ?_;refine qJ rfl (fun h35=>?_) (fun h35=>?_)
    ·try simp only [decide_eq_true_eq] at h35
     try simp only [zds] at h35
     omega
    ·try simp only [decide_eq_false_iff_not,Int.not_le] at h35
     try simp only [zds] at h35
     refine qL ?_;refine qC ?_;refine qB ?_;refine qC ?_;refine yV rfl ?_;refine qI 0 rfl rfl rfl (by kernel_rfl) ?_;refine qI 1 rfl rfl rfl (by kernel_rfl) ?_;refine qI 2 rfl rfl rfl (by kernel_rfl) ?_;refine qI 3 rfl rfl rfl (by kernel_rfl) ?_;refine qI 5 rfl rfl rfl (by kernel_rfl) ?_;refine qI 6 rfl rfl rfl (by kernel_rfl) ?_;refine zai (by first|omega|assumption|decide|(simp only [zds];omega)|(simp <;> omega)) ?_;refine qI 8 rfl rfl rfl (by kernel_rfl) ?_;refine qK [4,7] (by kernel_rfl) rfl ?_;refine zai ?_ ?_
     ·refine qK [7] (by kernel_rfl) rfl ?_;refine qK [9] (by kernel_rfl) rfl ?_;refine qK [10] (by kernel_rfl) rfl ?_;refine qK [11] (by kernel_rfl) rfl ?_;refine Or.inr (Or.inr (Or.inr (zei [1,3] (zei [] (zei _ (zei _ (zei _ (zei _ (zei _ (zai (hins) (zai rfl (zai (zai (zai rfl rfl) (zai (zai rfl rfl) True.intro)) (zai rfl ?_)))))))))))));refine qI 12 rfl rfl rfl (by kernel_rfl) ?_;refine qI 13 rfl rfl rfl (by kernel_rfl) ?_;refine qK [14] (by kernel_rfl) rfl ?_;refine qO (by kernel_rfl) ?_;refine qC ?_;refine qB ?_;refine zai (by first|omega|assumption|decide|(simp only [];omega)|(simp <;> omega)) ?_;refine qC ?_;refine qB ?_;refine zai (by first|omega|assumption|decide|(simp only [];omega)|(simp <;> omega)) ?_;refine qC ?_;refine qB ?_;refine qM ?_;exact ⟨rfl,⟨rfl,rfl⟩,rfl⟩
     ·refine qK [4,9] (by kernel_rfl) rfl ?_;refine zai ?_ ?_
      ·refine qK [9] (by kernel_rfl) rfl ?_;refine qK [10] (by kernel_rfl) rfl ?_;refine qK [11] (by kernel_rfl) rfl ?_;refine Or.inr (Or.inr (Or.inr (zei [1,3] (zei [] (zei _ (zei _ (zei _ (zei _ (zei _ (zai (hins) (zai rfl (zai (zai (zai rfl rfl) (zai (zai rfl rfl) True.intro)) (zai rfl ?_)))))))))))));refine qI 12 rfl rfl rfl (by kernel_rfl) ?_;refine qI 13 rfl rfl rfl (by kernel_rfl) ?_;refine qK [14] (by kernel_rfl) rfl ?_;refine qO (by kernel_rfl) ?_;refine qC ?_;refine qB ?_;refine zai (by first|omega|assumption|decide|(simp only [];omega)|(simp <;> omega)) ?_;refine qC ?_;refine qB ?_;refine zai (by first|omega|assumption|decide|(simp only [];omega)|(simp <;> omega)) ?_;refine qC ?_;refine qB ?_;refine qM ?_;exact ⟨rfl,⟨rfl,rfl⟩,rfl⟩
      ·refine qK [4,10] (by kernel_rfl) rfl ?_;refine zai ?_ ?_
       ·refine qK [10] (by kernel_rfl) rfl ?_;refine qK [11] (by kernel_rfl) rfl ?_;refine Or.inr (Or.inr (Or.inr (zei [1,3] (zei [] (zei _ (zei _ (zei _ (zei _ (zei _ (zai (hins) (zai rfl (zai (zai (zai rfl rfl) (zai (zai rfl rfl) True.intro)) (zai rfl ?_)))))))))))));refine qI 12 rfl rfl rfl (by kernel_rfl) ?_;refine qI 13 rfl rfl rfl (by kernel_rfl) ?_;refine qK [14] (by kernel_rfl) rfl ?_;refine qO (by kernel_rfl) ?_;refine qC ?_;refine qB ?_;refine zai (by first|omega|assumption|decide|(simp only [];omega)|(simp <;> omega)) ?_;refine qC ?_;refine qB ?_;refine zai (by first|omega|assumption|decide|(simp only [];omega)|(simp <;> omega)) ?_;refine qC ?_;refine qB ?_;refine qM ?_;exact ⟨rfl,⟨rfl,rfl⟩,rfl⟩
       ·refine qK [4] (by kernel_rfl) rfl ?_;refine qK [11] (by kernel_rfl) rfl ?_;refine Or.inr (Or.inr (Or.inr (zei [1,3] (zei [] (zei _ (zei _ (zei _ (zei _ (zei _ (zai (hins) (zai rfl (zai (zai (zai rfl rfl) (zai (zai rfl rfl) True.intro)) (zai rfl ?_)))))))))))));refine qI 12 rfl rfl rfl (by kernel_rfl) ?_;refine qI 13 rfl rfl rfl (by kernel_rfl) ?_;refine qK [14] (by kernel_rfl) rfl ?_;refine qO (by kernel_rfl) ?_;refine qC ?_;refine qB ?_;refine zai (by first|omega|assumption|decide|(simp only [];omega)|(simp <;> omega)) ?_;refine qC ?_;refine qB ?_;refine zai (by first|omega|assumption|decide|(simp only [];omega)|(simp <;> omega)) ?_;refine qC ?_;refine qB ?_;refine qM ?_;exact ⟨rfl,⟨rfl,rfl⟩,rfl⟩
end Q
end Ab
end Go.Proofs.YtpfkncffaanjcaaGreatDoor
namespace Go.Proofs.YtpfkncffaanjcaaGreatDoor
open Go.RowKit
namespace Ab
set_option maxRecDepth 100000
abbrev Edt:=Int × Int × List Fld
abbrev rEdt : Rd Edt:=.st (.int .i64) (.st (.int .i64) (.sl rFld))
namespace Q
def heavyB (l : List Edt) : Bool:=decide (51 < l.length) || l.any fun e=>muchB e.2.2
theorem heavy_c (l : List Edt) : qT Tryz.prog 10 [.one (.sl rEdt l)] (ib (heavyB l)):=by
  refine qQ (rs:=[2]) Tryz.func10 rfl rfl rfl teOk rfl ?_;refine qC ?_;refine qB ?_;refine qC ?_;refine qC ?_;refine qB ?_;intro l1_1
  try simp only [zds] at l1_1
  refine qN ?_;refine qR (fun (i : Nat)=>i ≤ l.length ∧ i ≤ 51 ∧ (l.take i).any (fun e=>muchB e.2.2) = false) (fun (i : Nat)=>[(5,.one (.sl rEdt l)),(6,ii .i64 l.length),(7,ii .i64 i)]) (fun (i : Nat)=>[]) 0 (fun (i : Nat)=>l.length - i) 0 (⟨Nat.zero_le _,Nat.zero_le _,rfl⟩) (qP ⟨rfl,rfl,rfl⟩ trivial rfl) ?_;intro i hI0;obtain ⟨hi,hi2,hn⟩:=hI0;refine qC ?_;refine qB ?_;refine qC ?_;refine qJ rfl (fun h8=>?_) (fun h8=>?_)
  ·try simp only [decide_eq_true_eq] at h8
   try simp only [zds] at h8
   have hil : i < l.length:=(by omega);have hsn:=take_any l (fun e : Edt=>muchB e.2.2) ((0 : Int),(0 : Int),([] : List Fld)) i hil;rw [hn,Bool.false_or] at hsn;refine qL ?_;refine qC ?_;refine qN ?_;refine qC ?_;refine qB ?_;refine zai (by first|omega|assumption|decide|(simp only [zds];omega)|(simp <;> omega)) ?_;refine qC ?_;refine qB ?_;refine zai (fun h=>trivial) ?_;refine zai (fun h=>⟨⟨h,trivial⟩,trivial⟩) ?_;refine Or.inl ?_;refine zai (rfl) ?_;refine zei _ (zai (fun h=>⟨⟨⟨h,trivial⟩,trivial⟩,much_c _⟩) ?_);refine zai (by first|(intro h;rw [h];rfl)|(intro h;cases h)) ?_;refine qJ rfl (fun h18=>?_) (fun h18=>?_)
   ·try simp only [decide_eq_true_eq,Bool.or_eq_true] at h18
    try simp only [Int.toNat_natCast,qH,qG,qE] at h18
    refine qC ?_;refine qB ?_;refine qM ?_;refine ib_eq (Eq.symm ?_);unfold heavyB;rcases h18 with h|h
    rw [decide_eq_true (show 51 < l.length by omega)];rfl;rw [show l.any (fun e : Edt=>muchB e.2.2) = true from List.any_eq_true.2 ⟨_,yF hil ((0 : Int),(0 : Int),([] : List Fld)),h⟩,Bool.or_true]
   ·try simp only [decide_eq_false_iff_not,Bool.or_eq_false_iff,Int.not_lt] at h18
    try simp only [Int.toNat_natCast,qH,qG,qE] at h18
    refine qL ?_;refine qB ?_;refine zai (by first|omega|assumption|decide|(simp only [zds];omega)|(simp <;> omega)) ?_;exact ⟨i + 1,⟨by omega,by omega,by rw [hsn];exact h18.2⟩,by first|omega|(simp <;> omega),qP ⟨rfl,rfl,(qS (by omega))⟩ trivial rfl⟩
  ·try simp only [decide_eq_false_iff_not,Int.not_lt] at h8
   try simp only [zds] at h8
   refine qV ?_;refine qC ?_;refine qB ?_;refine qM ?_;rw [List.take_of_length_le (by omega)] at hn;refine ib_eq (Eq.symm ?_);unfold heavyB;rw [hn,decide_eq_false (by omega)];rfl
def spF : Fld:=(⟨#[115,112,111,105,108,116]⟩,⟨#[115,112,111,105,108,116]⟩)
theorem fieldsk_c {κ : Nat} (a b : List Fld) : qT Tryz.prog 60 [.one (.slk κ rFld a),.one (.sl rFld b)] (ib (decide (a = b))):=by
  refine qQ (rs:=[4]) Tryz.func60 rfl rfl rfl teOk rfl ?_;refine qC ?_;refine qB ?_;refine qC ?_;refine qC ?_;refine qB ?_;intro l1_1
  try simp only [zds] at l1_1
  intro l1_3
  try simp only [zds] at l1_3
  refine qJ rfl (fun h10=>?_) (fun h10=>?_)
  ·try simp only [decide_eq_false_iff_not,Bool.not_eq_true'] at h10
   try simp only [zds] at h10
   refine qC ?_;refine qB ?_;refine qM ?_;exact ib_eq (decide_eq_false (fun e=>by rw [e] at h10;omega)).symm
  ·try simp only [decide_eq_true_eq,Bool.not_eq_false'] at h10
   try simp only [zds] at h10
   refine qL ?_;refine qC ?_;refine qC ?_;refine qB ?_;intro l3_1
   try simp only [zds] at l3_1
   refine qN ?_;refine qR (fun (i : Nat)=>i ≤ a.length ∧ a.take i = b.take i) (fun (i : Nat)=>[(0,.one (.slk κ rFld a)),(1,.one (.sl rFld b)),(12,ii .i64 a.length),(13,ii .i64 i)]) (fun (i : Nat)=>[]) 0 (fun (i : Nat)=>a.length - i) 0 (⟨Nat.zero_le _,by simp⟩) (qP ⟨rfl,rfl,rfl,rfl⟩ trivial rfl) ?_;intro i hI0;obtain ⟨hi,ht⟩:=hI0;refine qC ?_;refine qB ?_;refine qC ?_;refine qJ rfl (fun h14=>?_) (fun h14=>?_)
   ·try simp only [decide_eq_true_eq] at h14
    try simp only [zds] at h14
    have hla : i < a.length:=by omega
    have hlb : i < b.length:=by omega
    refine qL ?_;refine qC ?_;refine qN ?_;refine qC ?_;refine qB ?_;refine qC ?_;refine acode_draw rfl (by kernel_rfl) ?_;refine zai (by first|omega|assumption|decide|(simp only [zds];omega)|(simp <;> omega)) ?_;refine zai (by first|omega|assumption|decide|(simp only [zds];omega)|(simp <;> omega)) ?_;refine zai (by rfl) ?_;refine qJ rfl (fun h24=>?_) (fun h24=>?_)
    ·try simp only [decide_eq_false_iff_not,Bool.not_eq_true',Bool.and_eq_false_iff] at h24
     try simp only [Int.toNat_natCast,qG,qF] at h24
     refine qC ?_;refine qB ?_;refine qM ?_;exact ib_eq (decide_eq_false (ne_at (i:=i) (ByteArray.empty,ByteArray.empty) (fun e=>h24.elim (fun h=>h (congrArg Prod.fst e)) (fun h=>h (congrArg Prod.snd e))))).symm
    ·try simp only [decide_eq_true_eq,Bool.and_eq_true,Bool.not_eq_false'] at h24
     try simp only [Int.toNat_natCast,qG,qF] at h24
     refine qL ?_;refine qB ?_;refine zai (by first|omega|assumption|decide|(simp only [zds];omega)|(simp <;> omega)) ?_;exact ⟨i + 1,⟨by omega,list_ext_take (ByteArray.empty,ByteArray.empty) hla hlb ht (Prod.ext h24.1 h24.2)⟩,by first|omega|(simp <;> omega),qP ⟨rfl,rfl,rfl,(qS (by omega))⟩ trivial rfl⟩
   ·try simp only [decide_eq_false_iff_not,Int.not_lt] at h14
    try simp only [zds] at h14
    refine qV ?_;refine qC ?_;refine qB ?_;refine qM ?_;exact ib_eq (decide_eq_true (by rw [List.take_of_length_le (by omega),List.take_of_length_le (by omega)] at ht;exact ht)).symm
end Q
end Ab
end Go.Proofs.YtpfkncffaanjcaaGreatDoor
namespace Go.Proofs.YtpfkncffaanjcaaGreatDoor
open Go.RowKit
namespace Ab
set_option maxRecDepth 100000
namespace Q
def stT (es : List Ent) (i : Nat) : List Stz:=((es.filter live).take i).map stzOf
def SmallF (l : List Fld) : Prop:=∀ f ∈ l,f.1.size ≤ 1000 ∧ f.2.size ≤ 1000
structure GP (p : PSt) : Prop where
  flds : SmallF p.flds
  room : p.lns ≠ [] → p.full = false → p.flds.length < 40
  len : p.flds.length ≤ 40
  its : ∀ x ∈ p.its,SmallF x.2.2 ∧ x.2.2.length ≤ 40
theorem smallF_nil : SmallF []:=fun f hf=>by cases hf
theorem flush_gp {p q : PSt} (h : GP p) (hf : yO p = .inr q) : GP q:=by
  unfold yO at hf;split at hf
  · cases hf;exact h
  · rename_i h0;split at hf
    · cases hf
    · split at hf
      · cases hf
      · rename_i h1 h2;cases hf;have hr:=h.room h0 (by simpa using h2);refine ⟨fun f hf=>?_,fun h=>absurd rfl h,by simp only [List.length_append,List.length_cons,List.length_nil];omega,h.its⟩;rcases List.mem_append.1 hf with hf|hf
        · exact h.flds f hf
        · rw [List.mem_singleton.1 hf];rcases unf_cases (p.lns.map ls) with ⟨n,hn,e⟩|⟨k,v,e,hk,hv⟩
          · rw [e];exact ⟨by show (bytes []).size ≤ 1000;decide,by show (bytes []).size ≤ 1000;decide⟩
          · rw [e];simp only [yU];refine ⟨?_,hv⟩;unfold keyOk at hk;simp only [Bool.and_eq_true,decide_eq_true_eq] at hk;omega
theorem close_gp {q : PSt} (h : GP q) : GP (xO q):=by
  unfold xO;split
  · exact ⟨smallF_nil,fun _ _=>(by show 0 < 40;decide),(by show 0 ≤ 40;decide),h.its⟩
  · refine ⟨smallF_nil,fun _ _=>(by show 0 < 40;decide),(by show 0 ≤ 40;decide),fun x hx=>?_⟩;rcases List.mem_append.1 hx with hx|hx
    · exact h.its x hx
    · rw [List.mem_singleton.1 hx];exact ⟨h.flds,h.len⟩
theorem end_gp {p q : PSt} (h : GP p) (hf : endS p = .inr q) : GP q:=by
  unfold endS at hf;split at hf
  · cases hf
  · rename_i r e;cases hf;exact close_gp (flush_gp h e)
theorem begin_gp {p : PSt} (l : Lne) (h : GP p) : GP (xM p l):=by
  refine ⟨h.flds,fun _ hf=>?_,h.len,h.its⟩;have:=h.len;unfold xM at hf;simp only [Bool.or_eq_false_iff,decide_eq_false_iff_not] at hf;show p.flds.length < 40;omega
theorem ahead_gp {p q : PSt} {l : Lne} {k : Int} (h : GP p) (hf : yQ p l k = .inr q) : GP q:=by
  unfold yQ at hf;split at hf
  · split at hf
    · cases hf
    · rename_i h0;have h2 : GP { p with lns:=p.lns ++ [l.2.2.1] }:=⟨h.flds,fun _=>h.room h0,h.len,h.its⟩;split at hf
      · cases hf;exact h2
      · exact flush_gp h2 hf
  · split at hf
    · exact end_gp h hf
    · exact flush_gp h hf
theorem line_gp {p q : PSt} {l : Lne} {k : Int} (h : GP p) (hf : lineS p l k = .inr q) : GP q:=by
  unfold lineS at hf;split at hf
  · cases hf
  · split at hf
    · cases hf;refine ⟨h.flds,h.room,h.len,fun x hx=>?_⟩;rcases List.mem_append.1 hx with hx|hx
      · exact h.its x hx
      · rw [List.mem_singleton.1 hx];exact ⟨smallF_nil,by show 0 ≤ 40;decide⟩
    · split at hf
      · cases hf;have:=begin_gp l h;exact ⟨this.flds,this.room,this.len,this.its⟩
      · cases hf;exact ⟨h.flds,h.room,h.len,h.its⟩
theorem take_gp {p q : PSt} {l : Lne} (h : GP p) (hf : yT p l = .inr q) : GP q:=by
  unfold yT at hf;split at hf
  · cases hf
  · rename_i r e;exact line_gp (ahead_gp h e) hf
theorem run_gp : ∀ (L : List Lne) {p q : PSt},GP p → runS p L = .inr q → GP q
  | [],p,q,h,hf=>by
    cases hf;exact h
  | l :: r,p,q,h,hf=>by
    unfold runS at hf;split at hf
    · cases hf
    · rename_i t e;exact run_gp r (take_gp h e) hf
theorem items_small {s : ByteArray} {l : List Itm} (hp : xF s = .inr l) : ∀ x ∈ l,SmallF x.2.2 ∧ x.2.2.length ≤ 40:=by
  unfold xF at hp;split at hp
  · cases hp
  · rename_i p e;split at hp
    · cases hp
    · rename_i q e2;cases hp;exact (end_gp (run_gp _ ⟨smallF_nil,fun h=>absurd rfl h,by decide,fun x hx=>by cases hx⟩ e) e2).its
theorem fldsOk_of {l : List Fld} (h : SmallF l) (hl : l.length ≤ 40) : qW l:=⟨by omega,fun f hf=>by have:=h f hf;omega⟩
abbrev RLs:=List Ent × Int
abbrev rRL : Rd RLs:=.st (.sl rEnt) (.int .i64)
def doL (L : Lst) (e : Edt) : Lst :=
  if e.1 = 1 then
    if atE L.1 e.2.1 < 0 then L else if (chkR e.2.2).2 ≠ 0 then L else (replE L.1 (atE L.1 e.2.1).toNat (xH e.2.2),L.2)
  else if e.1 = 2 then
    if atE L.1 e.2.1 < 0 then L else (delE L.1 (atE L.1 e.2.1).toNat,L.2.1,L.2.2 - 1)
  else if atE L.1 e.2.1 < 0 ∧ e.2.1 ≠ 0 then L else if (chkR e.2.2).2 ≠ 0 then L else if 400 ≤ L.2.2 then L else
    (insE L.1 (atE L.1 e.2.1 + 1).toNat (xH e.2.2,L.2.1),L.2.1 + 1,L.2.2 + 1)
def refRep (M : RLs) (id : Int) (f : List Fld) : RLs × Int × Int :=
  if atE M.1 id < 0 then (M,-9,7) else if (chkR f).2 ≠ 0 then (M,(chkR f).1,(chkR f).2) else ((replE M.1 (atE M.1 id).toNat (xH f),M.2),-9,0)
def refDel (M : RLs) (id : Int) : RLs × Int :=
  if atE M.1 id < 0 then (M,7) else ((delE M.1 (atE M.1 id).toNat,M.2),0)
def refIns (M : RLs) (id : Int) (f : List Fld) : RLs × Int × Int × Int :=
  if atE M.1 id < 0 ∧ id ≠ 0 then (M,0,-9,7) else if (chkR f).2 ≠ 0 then (M,0,(chkR f).1,(chkR f).2) else if 400 ≤ ((M.1.filter live).length : Int) then (M,0,-9,11) else
    ((insE M.1 (atE M.1 id + 1).toNat (xH f,M.2),M.2 + 1),M.2,-9,0)
def posI (n : Int) : Bool:=decide (0 < n)
def nmsL (es : List Ent) : List Int:=(es.map (·.2)).filter posI
theorem ids_eq (es : List Ent) : (es.filter live).map (·.2) = nmsL es:=by
  unfold nmsL;rw [List.filter_map];rfl
theorem ids_len (es : List Ent) : (nmsL es).length = (es.filter live).length:=by rw [← ids_eq,List.length_map]
structure LOk (c : Nat) (L : Lst) : Prop where
  flds : ∀ e ∈ L.1,qW e.1.2.2
  ids : ∀ e ∈ L.1,0 ≤ e.2 ∧ e.2 < L.2.1
  nd : (nmsL L.1).Nodup
  many : L.2.2 = ((nmsL L.1).length : Int)
  next : 1 ≤ L.2.1 ∧ L.2.1 ≤ c
  len : L.1.length ≤ c
theorem ids_repl (es : List Ent) (i : Nat) (x : Itm) (h : i < es.length) : (replE es i x).map (·.2) = es.map (·.2):=by
  apply List.ext_getElem
  · simp [replE]
  · intro j h1 h2;simp only [replE,List.getElem_map,List.getElem_set];split
    · rename_i e;subst e;simp only;rw [List.getD_eq_getElem?_getD,List.getElem?_eq_getElem h];rfl
    · rfl
theorem mem_repl {es : List Ent} {i : Nat} {x : Itm} {e : Ent} (h : e ∈ replE es i x) : e ∈ es ∨ e = (x,(es.getD i (((0 : Int),ByteArray.empty,([] : List Fld)),(0 : Int))).2):=List.mem_or_eq_of_mem_set h
theorem del_split {es : List Ent} {i : Nat} (h : i < es.length) : es = es.take i ++ (es.getD i (((0 : Int),ByteArray.empty,([] : List Fld)),(0 : Int))) :: es.drop (i + 1):=by
  conv=>lhs;rw [← List.take_append_drop i es,List.drop_eq_getElem_cons h]
  rw [List.getD_eq_getElem?_getD,List.getElem?_eq_getElem h];rfl
theorem mem_del {es : List Ent} {i : Nat} {e : Ent} (h : e ∈ delE es i) : e ∈ es:=by
  rcases List.mem_append.1 h with h|h
  · exact List.mem_of_mem_take h
  · exact List.mem_of_mem_drop h
theorem ids_app (a b : List Ent) : nmsL (a ++ b) = nmsL a ++ nmsL b:=by unfold nmsL;rw [List.map_append,List.filter_append]
theorem ids_cons (e : Ent) (b : List Ent) : nmsL (e :: b) = if 0 < e.2 then e.2 :: nmsL b else nmsL b:=by
  unfold nmsL;rw [List.map_cons,List.filter_cons];unfold posI
  by_cases h : 0 < e.2
  · rw [if_pos h,if_pos (decide_eq_true h)]
  · rw [if_neg h,if_neg (by simpa using h)]
theorem ids_del {es : List Ent} {i : Nat} (h : i < es.length) (hp : 0 < (es.getD i (((0 : Int),ByteArray.empty,([] : List Fld)),(0 : Int))).2) : (nmsL es).length = (nmsL (delE es i)).length + 1 ∧ ((nmsL es).Nodup → (nmsL (delE es i)).Nodup):=by
  have e1 : nmsL es = nmsL (es.take i) ++ (es.getD i (((0 : Int),ByteArray.empty,([] : List Fld)),(0 : Int))).2 :: nmsL (es.drop (i + 1)):=by
    conv=>lhs;rw [del_split h,ids_app,ids_cons,if_pos hp]
  have e2 : nmsL (delE es i) = nmsL (es.take i) ++ nmsL (es.drop (i + 1)):=ids_app _ _;rw [e1,e2];refine ⟨by simp only [List.length_append,List.length_cons];omega,fun hn=>?_⟩;exact hn.sublist (List.Sublist.append_left (List.sublist_cons_self _ _) _)
theorem mem_ins {es : List Ent} {i : Nat} {x e : Ent} (h : e ∈ insE es i x) : e ∈ es ∨ e = x:=by
  rcases List.mem_append.1 h with h|h
  · exact .inl (List.mem_of_mem_take h)
  · rcases List.mem_cons.1 h with h|h
    · exact .inr h
    · exact .inl (List.mem_of_mem_drop h)
theorem ids_ins {es : List Ent} {i : Nat} {x : Ent} (hp : 0 < x.2) (hlt : ∀ e ∈ es,e.2 < x.2) : (nmsL (insE es i x)).length = (nmsL es).length + 1 ∧ ((nmsL es).Nodup → (nmsL (insE es i x)).Nodup):=by
  have e1 : nmsL es = nmsL (es.take i) ++ nmsL (es.drop i):=by
    conv=>lhs;rw [← List.take_append_drop i es,ids_app]
  have e2 : nmsL (insE es i x) = nmsL (es.take i) ++ x.2 :: nmsL (es.drop i):=by unfold insE;rw [ids_app,ids_cons,if_pos hp]
  have hno : x.2 ∉ nmsL es:=fun h=>by
    unfold nmsL at h;obtain ⟨e,he,hx⟩:=List.mem_map.1 (List.mem_filter.1 h).1;have:=hlt e he;omega
  rw [e1] at hno ⊢;rw [e2];refine ⟨by simp only [List.length_append,List.length_cons];omega,fun hn=>?_⟩;rw [List.perm_middle.nodup_iff];exact List.nodup_cons.2 ⟨hno,hn⟩
theorem doL_ok {c : Nat} {L : Lst} {e : Edt} (h : LOk c L) (hf : qW e.2.2) : LOk (c + 1) (doL L e):=by
  have h0 : LOk (c + 1) L:=⟨h.flds,h.ids,h.nd,h.many,⟨h.next.1,by have:=h.next.2;omega⟩,by have:=h.len;omega⟩;have hat : ∀ id,¬ atE L.1 id < 0 → ∃ i : Nat,i < L.1.length ∧ atE L.1 id = i ∧ 0 < id ∧ (L.1.getD i (((0 : Int),ByteArray.empty,([] : List Fld)),(0 : Int))).2 = id:=fun id hn=>by
    rcases at_cases L.1 id with ⟨h1,_⟩|⟨i,h1,h2,h3,h4,_⟩
    · omega
    · exact ⟨i,h1,h2,h3,h4⟩
  unfold doL;split
  · split
    · exact h0
    · rename_i hn;obtain ⟨i,hi,he,hp,hid⟩:=hat _ hn;rw [he,Int.toNat_natCast];split
      · exact h0
      · have hids : nmsL (replE L.1 i (xH e.2.2)) = nmsL L.1:=by unfold nmsL;rw [ids_repl _ _ _ hi]
        refine ⟨fun x hx=>?_,fun x hx=>?_,by show (nmsL (replE L.1 i _)).Nodup;rw [hids];exact h.nd,by show L.2.2 = ((nmsL (replE L.1 i _)).length : Int);rw [hids];exact h.many,h0.next,?_⟩
        · rcases mem_repl hx with hx|rfl
          · exact h.flds x hx
          · exact hf
        · rcases mem_repl hx with hx|rfl
          · exact h.ids x hx
          · show 0 ≤ (L.1.getD i (((0 : Int),ByteArray.empty,([] : List Fld)),(0 : Int))).2 ∧ (L.1.getD i (((0 : Int),ByteArray.empty,([] : List Fld)),(0 : Int))).2 < L.2.1;exact h.ids _ (yF hi (((0 : Int),ByteArray.empty,([] : List Fld)),(0 : Int)))
        · show (replE L.1 i _).length ≤ c + 1;unfold replE;rw [List.length_set];exact h0.len
  · split
    · split
      · exact h0
      · rename_i hn;obtain ⟨i,hi,he,hp,hid⟩:=hat _ hn;rw [he,Int.toNat_natCast];obtain ⟨h1,h2⟩:=ids_del hi (by omega);refine ⟨fun x hx=>h.flds x (mem_del hx),fun x hx=>h.ids x (mem_del hx),h2 h.nd,?_,h0.next,?_⟩
        · show L.2.2 - 1 = ((nmsL (delE L.1 i)).length : Int);rw [h.many];omega
        · show (delE L.1 i).length ≤ c + 1;have:=h.len;unfold delE;rw [List.length_append,List.length_take,List.length_drop];omega
    · split
      · exact h0
      · rename_i hn;split
        · exact h0
        · split
          · exact h0
          · have hnx:=h.next;obtain ⟨h1,h2⟩:=ids_ins (es:=L.1) (i:=(atE L.1 e.2.1 + 1).toNat) (x:=(xH e.2.2,L.2.1)) (by show 0 < L.2.1;omega) (fun x hx=>(h.ids x hx).2);refine ⟨fun x hx=>?_,fun x hx=>?_,h2 h.nd,?_,⟨by show 1 ≤ L.2.1 + 1;omega,by show L.2.1 + 1 ≤ ((c + 1 : Nat) : Int);omega⟩,?_⟩
            · rcases mem_ins hx with hx|rfl
              · exact h.flds x hx
              · exact hf
            · show 0 ≤ x.2 ∧ x.2 < L.2.1 + 1;rcases mem_ins hx with hx|rfl
              · have:=h.ids x hx;omega
              · show 0 ≤ L.2.1 ∧ L.2.1 < L.2.1 + 1;omega
            · show L.2.2 + 1 = _;rw [h1,h.many];omega
            · have:=h.len;show (insE L.1 _ _).length ≤ c + 1;unfold insE;rw [List.length_append,List.length_cons,List.length_take,List.length_drop];omega
theorem ids_num : ∀ (l : List Itm) (n : Int),1 ≤ n → nmsL (numI n l) = (List.range (cntR l)).map (fun k : Nat=>n + (k : Int)) ∧ ∀ e ∈ numI n l,0 ≤ e.2 ∧ e.2 < n + (cntR l : Int)
  | [],n,_=>⟨rfl,fun e he=>by cases he⟩
  | x :: r,n,hn=>by
    unfold numI;split
    · rename_i h;obtain ⟨h1,h2⟩:=ids_num r (n + 1) (by omega);have hc : cntR (x :: r) = cntR r + 1:=by simp [cntR,h]
      rw [hc];refine ⟨?_,fun e he=>?_⟩
      · rw [ids_cons,if_pos (show 0 < n by omega),h1,List.range_succ_eq_map,List.map_cons,List.map_map]
        congr 1
        · simp
        · apply List.map_congr_left;intro k _;simp only [Function.comp];omega
      · rcases List.mem_cons.1 he with rfl|he
        · show 0 ≤ n ∧ n < _;omega
        · have:=h2 e he;omega
    · rename_i h;obtain ⟨h1,h2⟩:=ids_num r n hn;have hc : cntR (x :: r) = cntR r:=by simp [cntR,h]
      rw [hc];refine ⟨?_,fun e he=>?_⟩
      · rw [ids_cons,if_neg (show ¬ (0 : Int) < 0 by omega),h1]
      · rcases List.mem_cons.1 he with rfl|he
        · show 0 ≤ (0 : Int) ∧ (0 : Int) < _;omega
        · exact h2 e he
theorem ofT_ok {l : List Itm} {c : Nat} (hl : l.length < c) (hf : ∀ x ∈ l,qW x.2.2) : LOk c (ofT l):=by
  obtain ⟨h1,h2⟩:=ids_num l 1 (Int.le_refl _);have h3:=List.length_filter_le isRec l;have h4 : cntR l ≤ l.length:=h3;refine ⟨fun e he=>?_,h2,?_,?_,⟨?_,?_⟩,?_⟩
  · have : e.1 ∈ (numI 1 l).map (·.1):=List.mem_map.2 ⟨e,he,rfl⟩;rw [numI_items] at this;exact hf _ this
  · show (nmsL (numI 1 l)).Nodup;rw [h1];refine List.Pairwise.map _ ?_ List.nodup_range;intro a b hab e;apply hab;omega
  · show (cntR l : Int) = _;rw [show nmsL (ofT l).1 = _ from h1,List.length_map,List.length_range]
  · show 1 ≤ 1 + (cntR l : Int);omega
  · show 1 + (cntR l : Int) ≤ c;omega
  · show (numI 1 l).length ≤ c;rw [numI_len];omega
def refDo (M : RLs) (e : Edt) : RLs:=if e.1 = 1 then (refRep M e.2.1 e.2.2).1 else if e.1 = 2 then (refDel M e.2.1).1 else (refIns M e.2.1 e.2.2).1
def prPl (es : List Ent) (id : Int) : Bool → Nat → Nat × Int → Prop
  | false,j,x=>x.1 = j ∧ x.2 = 0 ∧ ((es.filter live).take x.1).any (hasId id) = false
  | true,_,x=>x.2 = plcL es id
theorem copyL_o {k : Nat} (es : List Ent) (n m : Int) (hl : es.length ≤ 1000000) : yA Tryz.prog 51 [.one (.adk k (rLst k) (es,n,m))] [] 0 (.one (.own 1 0)) [(1,.box 116 [.vec 0,.lit (.int .i64 n),.lit (.int .i64 m)]),(0,.vec 111 rEnt es)] 2:=by
  have hcl:=cloneE_o (k:=k) es hl;refine qY (rs:=[2]) Tryz.func51 rfl rfl rfl teOk (by decide) rfl ?_;refine qC ?_;refine qB ?_;refine qC ?_;refine qC ?_;refine qB ?_;refine qJ rfl (fun h4=>?_) (fun h4=>?_)
  ·try simp only [zbq] at h4
   try simp only [zds] at h4
   simp at h4
  ·try simp only [zbq] at h4
   try simp only [zds] at h4
   refine qL ?_;refine qC ?_;refine yV rfl ?_;refine qI 0 rfl rfl rfl (by kernel_rfl) ?_;refine qI 1 rfl rfl rfl (by kernel_rfl) ?_;refine qI 2 rfl rfl rfl (by kernel_rfl) ?_;refine qI 5 rfl rfl rfl (by kernel_rfl) ?_;refine qI 6 rfl rfl rfl (by kernel_rfl) ?_;refine qI 7 rfl rfl rfl (by kernel_rfl) ?_;refine qI 9 rfl rfl rfl (by kernel_rfl) ?_;refine qI 10 rfl rfl rfl (by kernel_rfl) ?_;refine qI 11 rfl rfl rfl (by kernel_rfl) ?_;refine qK [3,8,12] (by kernel_rfl) rfl ?_;refine zai ?_ ?_
   ·refine qK [4,8,12] (by kernel_rfl) rfl ?_;refine zai ?_ ?_
    ·refine Or.inr (Or.inl (zei [] (zei [] (zei _ (zei _ (zei _ (zei _ (zei _ (zai (hcl) (zai rfl (zai True.intro (zai rfl ?_))))))))))));refine qK [8,12] (by kernel_rfl) rfl ?_;refine zai ?_ ?_
     ·refine qK [12] (by kernel_rfl) rfl ?_;refine qK [13] (by kernel_rfl) rfl ?_;refine qK [14] (by kernel_rfl) rfl ?_;refine qI 15 rfl rfl rfl (by kernel_rfl) ?_;refine qO (by kernel_rfl) ?_;refine qM ?_;exact ⟨rfl,⟨rfl,rfl⟩,rfl⟩
     ·refine qK [8] (by kernel_rfl) rfl ?_;refine qK [13] (by kernel_rfl) rfl ?_;refine qK [14] (by kernel_rfl) rfl ?_;refine qI 15 rfl rfl rfl (by kernel_rfl) ?_;refine qO (by kernel_rfl) ?_;refine qM ?_;exact ⟨rfl,⟨rfl,rfl⟩,rfl⟩
    refine zai ?_ ?_
    ·refine qK [4,12] (by kernel_rfl) rfl ?_;refine zai ?_ ?_
     ·refine Or.inr (Or.inl (zei [] (zei [] (zei _ (zei _ (zei _ (zei _ (zei _ (zai (hcl) (zai rfl (zai True.intro (zai rfl ?_))))))))))));refine qK [12] (by kernel_rfl) rfl ?_;refine qK [13] (by kernel_rfl) rfl ?_;refine qK [14] (by kernel_rfl) rfl ?_;refine qI 15 rfl rfl rfl (by kernel_rfl) ?_;refine qO (by kernel_rfl) ?_;refine qM ?_;exact ⟨rfl,⟨rfl,rfl⟩,rfl⟩
     ·refine qK [4] (by kernel_rfl) rfl ?_;refine Or.inr (Or.inl (zei [] (zei [] (zei _ (zei _ (zei _ (zei _ (zei _ (zai (hcl) (zai rfl (zai True.intro (zai rfl ?_))))))))))));refine qK [13] (by kernel_rfl) rfl ?_;refine qK [14] (by kernel_rfl) rfl ?_;refine qI 15 rfl rfl rfl (by kernel_rfl) ?_;refine qO (by kernel_rfl) ?_;refine qM ?_;exact ⟨rfl,⟨rfl,rfl⟩,rfl⟩
    ·refine qK [4,8] (by kernel_rfl) rfl ?_;refine zai ?_ ?_
     ·refine Or.inr (Or.inl (zei [] (zei [] (zei _ (zei _ (zei _ (zei _ (zei _ (zai (hcl) (zai rfl (zai True.intro (zai rfl ?_))))))))))));refine qK [8] (by kernel_rfl) rfl ?_;refine qK [13] (by kernel_rfl) rfl ?_;refine qK [14] (by kernel_rfl) rfl ?_;refine qI 15 rfl rfl rfl (by kernel_rfl) ?_;refine qO (by kernel_rfl) ?_;refine qM ?_;exact ⟨rfl,⟨rfl,rfl⟩,rfl⟩
     ·refine qK [4] (by kernel_rfl) rfl ?_;refine Or.inr (Or.inl (zei [] (zei [] (zei _ (zei _ (zei _ (zei _ (zei _ (zai (hcl) (zai rfl (zai True.intro (zai rfl ?_))))))))))));refine qK [13] (by kernel_rfl) rfl ?_;refine qK [14] (by kernel_rfl) rfl ?_;refine qI 15 rfl rfl rfl (by kernel_rfl) ?_;refine qO (by kernel_rfl) ?_;refine qM ?_;exact ⟨rfl,⟨rfl,rfl⟩,rfl⟩
   refine zai ?_ ?_
   ·refine qK [3,12] (by kernel_rfl) rfl ?_;refine zai ?_ ?_
    ·refine qK [4,12] (by kernel_rfl) rfl ?_;refine zai ?_ ?_
     ·refine Or.inr (Or.inl (zei [] (zei [] (zei _ (zei _ (zei _ (zei _ (zei _ (zai (hcl) (zai rfl (zai True.intro (zai rfl ?_))))))))))));refine qK [12] (by kernel_rfl) rfl ?_;refine qK [13] (by kernel_rfl) rfl ?_;refine qK [14] (by kernel_rfl) rfl ?_;refine qI 15 rfl rfl rfl (by kernel_rfl) ?_;refine qO (by kernel_rfl) ?_;refine qM ?_;exact ⟨rfl,⟨rfl,rfl⟩,rfl⟩
     ·refine qK [4] (by kernel_rfl) rfl ?_;refine Or.inr (Or.inl (zei [] (zei [] (zei _ (zei _ (zei _ (zei _ (zei _ (zai (hcl) (zai rfl (zai True.intro (zai rfl ?_))))))))))));refine qK [13] (by kernel_rfl) rfl ?_;refine qK [14] (by kernel_rfl) rfl ?_;refine qI 15 rfl rfl rfl (by kernel_rfl) ?_;refine qO (by kernel_rfl) ?_;refine qM ?_;exact ⟨rfl,⟨rfl,rfl⟩,rfl⟩
    ·refine qK [3] (by kernel_rfl) rfl ?_;refine qK [4] (by kernel_rfl) rfl ?_;refine Or.inr (Or.inl (zei [] (zei [] (zei _ (zei _ (zei _ (zei _ (zei _ (zai (hcl) (zai rfl (zai True.intro (zai rfl ?_))))))))))));refine qK [13] (by kernel_rfl) rfl ?_;refine qK [14] (by kernel_rfl) rfl ?_;refine qI 15 rfl rfl rfl (by kernel_rfl) ?_;refine qO (by kernel_rfl) ?_;refine qM ?_;exact ⟨rfl,⟨rfl,rfl⟩,rfl⟩
   ·refine qK [3,8] (by kernel_rfl) rfl ?_;refine zai ?_ ?_
    ·refine qK [4,8] (by kernel_rfl) rfl ?_;refine zai ?_ ?_
     ·refine Or.inr (Or.inl (zei [] (zei [] (zei _ (zei _ (zei _ (zei _ (zei _ (zai (hcl) (zai rfl (zai True.intro (zai rfl ?_))))))))))));refine qK [8] (by kernel_rfl) rfl ?_;refine qK [13] (by kernel_rfl) rfl ?_;refine qK [14] (by kernel_rfl) rfl ?_;refine qI 15 rfl rfl rfl (by kernel_rfl) ?_;refine qO (by kernel_rfl) ?_;refine qM ?_;exact ⟨rfl,⟨rfl,rfl⟩,rfl⟩
     ·refine qK [4] (by kernel_rfl) rfl ?_;refine Or.inr (Or.inl (zei [] (zei [] (zei _ (zei _ (zei _ (zei _ (zei _ (zai (hcl) (zai rfl (zai True.intro (zai rfl ?_))))))))))));refine qK [13] (by kernel_rfl) rfl ?_;refine qK [14] (by kernel_rfl) rfl ?_;refine qI 15 rfl rfl rfl (by kernel_rfl) ?_;refine qO (by kernel_rfl) ?_;refine qM ?_;exact ⟨rfl,⟨rfl,rfl⟩,rfl⟩
    ·refine qK [3] (by kernel_rfl) rfl ?_;refine qK [4] (by kernel_rfl) rfl ?_;refine Or.inr (Or.inl (zei [] (zei [] (zei _ (zei _ (zei _ (zei _ (zei _ (zai (hcl) (zai rfl (zai True.intro (zai rfl ?_))))))))))));refine qK [13] (by kernel_rfl) rfl ?_;refine qK [14] (by kernel_rfl) rfl ?_;refine qI 15 rfl rfl rfl (by kernel_rfl) ?_;refine qO (by kernel_rfl) ?_;refine qM ?_;exact ⟨rfl,⟨rfl,rfl⟩,rfl⟩
theorem refFindAt_c (es : List Ent) (n id : Int) : qT Tryz.prog 123 [.agg (toL rRL (es,n)),ii .i64 id] (ii .i64 (atE es id)):=by
  refine qQ (rs:=[4]) Tryz.func123 rfl rfl rfl teOk rfl ?_;refine qC ?_;refine qB ?_;refine qC ?_;refine qC ?_;refine qB ?_;refine qN ?_;refine qR (fun (i : Nat)=>i ≤ es.length ∧ (es.take i).any (hasId id) = false) (fun (i : Nat)=>[(1,ii .i64 id),(2,.one (.own 0 0)),(5,ii .i64 i)]) (fun (i : Nat)=>[(0,.box 28 (toL rRL (es,n)))]) 1 (fun (i : Nat)=>es.length - i) 0 (⟨Nat.zero_le _,rfl⟩) (qP ⟨rfl,rfl,rfl⟩ rfl rfl) ?_;intro i hI0;obtain ⟨hi,hn⟩:=hI0;refine qC ?_;refine qC ?_;refine qB ?_;intro l2_3
  try simp only [zds] at l2_3
  refine zai (fun h=>trivial) ?_;refine zai (fun h=>⟨⟨h,trivial⟩,trivial⟩) ?_;refine zai (by exact fun h=>h) ?_;refine qJ rfl (fun h14=>?_) (fun h14=>?_)
  ·try simp only [zbq] at h14
   try simp only [zds] at h14
   have hil : i < es.length:=(by omega);have hid : ¬ id < 1:=(by omega);refine qL ?_;refine qC ?_;refine qN ?_;refine qC ?_;refine qB ?_;refine zai (by first|omega|assumption|decide|(simp only [zds];omega)|(simp <;> omega)) ?_;refine qJ rfl (fun h24=>?_) (fun h24=>?_)
   ·try simp only [zbq] at h24
    try simp only [zds] at h24
    refine qC ?_;refine qB ?_;refine qM ?_;exact qS (by unfold atE;rw [if_neg hid];exact (ixOf_at (((0 : Int),ByteArray.empty,([] : List Fld)),(0 : Int)) hil hn (decide_eq_true h24)).symm)
   ·try simp only [zbq] at h24
    try simp only [zds] at h24
    refine qL ?_;refine qB ?_;refine zai (by first|omega|assumption|decide|(simp only [zds];omega)|(simp <;> omega)) ?_;exact ⟨i + 1,⟨by omega,by rw [take_any es (hasId id) (((0 : Int),ByteArray.empty,([] : List Fld)),(0 : Int)) i hil,hn];exact decide_eq_false h24⟩,by first|omega|(simp <;> omega),qP ⟨rfl,rfl,rfl⟩ rfl rfl⟩
  ·try simp only [zbq] at h14
   try simp only [zds] at h14
   refine qV ?_;refine qC ?_;refine qB ?_;refine qM ?_
   by_cases hid : id < 1
   exact qS (by unfold atE;rw [if_pos hid]);have e : i = es.length:=(by omega);subst e;rw [List.take_length] at hn;exact qS (by unfold atE;rw [if_neg hid];exact (ixOf_none hn).symm)
theorem refChk_c (l : List Fld) (hl : qW l) : qT Tryz.prog 122 [.one (.sl rFld l)] (.tup [(false,[.lit (.int .i64 (chkR l).1)]),(false,[.lit (.int .i64 (chkR l).2)])]):=by
  have hln:=hl.1;refine qQ (rs:=[2,3]) Tryz.func122 rfl rfl rfl teOk rfl ?_;refine qC ?_;refine qB ?_;refine qC ?_;refine qC ?_;refine qB ?_;intro l1_1
  try simp only [zds] at l1_1
  refine qJ rfl (fun h8=>?_) (fun h8=>?_)
  ·try simp only [decide_eq_true_eq] at h8
   try simp only [zds] at h8
   refine qC ?_;refine qB ?_;refine qM ?_;have e : chkR l = (-9,2):=(by unfold chkR;rw [if_pos (List.eq_nil_of_length_eq_zero (by omega))]);rw [e];rfl
  ·try simp only [decide_eq_false_iff_not] at h8
   try simp only [zds] at h8
   refine qL ?_;refine qC ?_;refine qC ?_;refine qB ?_;intro l3_1
   try simp only [zds] at l3_1
   refine qJ rfl (fun h11=>?_) (fun h11=>?_)
   ·try simp only [decide_eq_true_eq] at h11
    try simp only [zds] at h11
    refine qC ?_;refine qB ?_;refine qM ?_;have e : chkR l = (-9,11):=(by unfold chkR;rw [if_neg (fun e=>h8 (by rw [e];rfl)),if_pos (by omega)]);rw [e];rfl
   ·try simp only [decide_eq_false_iff_not,Int.not_lt] at h11
    try simp only [zds] at h11
    refine qL ?_;refine qC ?_;refine qC ?_;refine qB ?_;refine qN ?_;refine qR (fun (i : Nat)=>i ≤ l.length ∧ ∀ f ∈ l.take i,yS f = 0) (fun (i : Nat)=>[(0,.one (.sl rFld l)),(4,ii .i64 i)]) (fun (i : Nat)=>[]) 0 (fun (i : Nat)=>l.length - i) 0 (⟨Nat.zero_le _,by simp⟩) (qP ⟨rfl,rfl⟩ trivial rfl) ?_;intro i hI0;obtain ⟨hi,hall⟩:=hI0;refine qC ?_;refine qC ?_;refine qB ?_;intro l6_2
    try simp only [zds] at l6_2
    refine qJ rfl (fun h15=>?_) (fun h15=>?_)
    ·try simp only [decide_eq_true_eq] at h15
     try simp only [zds] at h15
     have hlt : i < l.length:=(by omega);have hm:=hl.2 _ (yF hlt (ByteArray.empty,ByteArray.empty));have hne : l ≠ []:=(fun e=>by rw [e] at hlt;simp at hlt);refine qL ?_;refine qC ?_;refine qN ?_;refine qC ?_;refine qB ?_;refine zai (by first|omega|assumption|decide|(simp only [zds];omega)|(simp <;> omega)) ?_;refine Or.inl ?_;refine zai (rfl) ?_;refine zei _ (zai (refCheck_c (l.getD i (ByteArray.empty,ByteArray.empty)) (by omega)) ?_);refine qC ?_;refine qB ?_;refine qJ rfl (fun h24=>?_) (fun h24=>?_)
     ·try simp only [decide_eq_false_iff_not,Bool.not_eq_true'] at h24
      try simp only [zds] at h24
      refine qC ?_;refine qB ?_;refine qM ?_;have e : chkR l = ((i : Int),yS (l.getD i (ByteArray.empty,ByteArray.empty))):=(by unfold chkR;rw [if_neg hne,if_neg (by omega),badAt_hit l i 0 hlt hall h24,Int.zero_add]);rw [e];rfl
     ·try simp only [decide_eq_true_eq,Bool.not_eq_false'] at h24
      try simp only [zds] at h24
      refine qL ?_;refine qB ?_;refine zai (by first|omega|assumption|decide|(simp only [zds];omega)|(simp <;> omega)) ?_;exact ⟨i + 1,⟨by omega,by rw [← yH (ByteArray.empty,ByteArray.empty) hlt];intro f hf;rcases List.mem_append.1 hf with h|h;exact hall f h;rw [List.mem_singleton.1 h];exact h24⟩,by first|omega|(simp <;> omega),qP ⟨rfl,(qS (by omega))⟩ trivial rfl⟩
    ·try simp only [decide_eq_false_iff_not,Int.not_lt] at h15
     try simp only [zds] at h15
     refine qV ?_;refine qC ?_;refine qB ?_;refine qM ?_;rw [List.take_of_length_le (by omega)] at hall;have e : chkR l = (-9,0):=(by unfold chkR;rw [if_neg (fun e=>h8 (by rw [e];rfl)),if_neg (by omega)];exact badAt_no l 0 hall);rw [e];rfl
abbrev zRL : List C:=[.lit (.slice none 0 0),.lit (.int .i64 0)]
theorem refItem_c (f : List Fld) (hg : ∀ x ∈ f,yS x = 0) (hn : f.length ≤ 1000) : qT Tryz.prog 124 [.one (.sl rFld f)] (.agg (toL rItm (xH f))):=by
  refine yX (rs:=[.cell 2 109]) Tryz.func124 rfl rfl rfl teOk rfl ?_;refine qC ?_;refine qB ?_;refine qC ?_;refine qB ?_;refine Or.inl ?_;refine zai (rfl) ?_;refine zei _ (zai (refFold_c f hg hn) ?_);refine qM ?_;rfl
theorem repl_len (es : List Ent) (k : Nat) (x : Itm) : (replE es k x).length = es.length:=List.length_set
theorem repl_at {es : List Ent} {k i : Nat} {x : Itm} (hk : k < es.length) (h : i < es.length) : (replE es k x).take (i + 1) = (replE es k x).take i ++ [if i = k then (x,(es.getD k (((0 : Int),ByteArray.empty,([] : List Fld)),(0 : Int))).2) else es.getD i (((0 : Int),ByteArray.empty,([] : List Fld)),(0 : Int))]:=by
  have h1 : i < (replE es k x).length:=by rw [repl_len];exact h
  rw [← yH (((0 : Int),ByteArray.empty,([] : List Fld)),(0 : Int)) h1]
  congr 2
  unfold replE;rw [List.getD_eq_getElem?_getD,List.getElem?_set]
  by_cases e : i = k
  · subst e;rw [if_pos rfl,if_pos hk,if_pos rfl];rfl
  · rw [if_neg (fun h=>e h.symm),if_neg e,← List.getD_eq_getElem?_getD]
theorem refRep_c (es : List Ent) (n id : Int) (f : List Fld) (hf : qW f) (hl : es.length ≤ 1000000) : qT Tryz.prog 88 [.agg (toL rRL (es,n)),ii .i64 id,.one (.sl rFld f)] (.tup [(true,toL rRL (refRep (es,n) id f).1),(false,[.lit (.int .i64 (refRep (es,n) id f).2.1)]),(false,[.lit (.int .i64 (refRep (es,n) id f).2.2)])]):=by
  have hat:=refFindAt_c es n id;have hck:=refChk_c f hf;unfold refRep
  by_cases h0 : atE es id < 0
  · simp only [if_pos h0];refine yX (rs:=[.cell 6 28,.tmp 7,.tmp 8]) Tryz.func88 rfl rfl rfl teOk rfl ?_;refine qC ?_;refine qB ?_;refine qC ?_;refine qB ?_;refine Or.inl ?_;refine zai (rfl) ?_;refine zei _ (zai (hat) ?_);refine qC ?_;refine qC ?_;refine qB ?_;refine qJ rfl (fun h19=>?_) (fun h19=>?_)
    ·try simp only [decide_eq_true_eq] at h19
     try simp only [zds] at h19
     refine qC ?_;refine qB ?_;refine qM ?_;rfl
    ·try simp only [decide_eq_false_iff_not,Int.not_lt] at h19
     try simp only [zds] at h19
     omega
  · simp only [if_neg h0]
    by_cases hc : (chkR f).2 ≠ 0
    · simp only [if_pos hc];refine yX (rs:=[.cell 6 28,.tmp 7,.tmp 8]) Tryz.func88 rfl rfl rfl teOk rfl ?_;refine qC ?_;refine qB ?_;refine qC ?_;refine qB ?_;refine Or.inl ?_;refine zai (rfl) ?_;refine zei _ (zai (hat) ?_);refine qC ?_;refine qC ?_;refine qB ?_;refine qJ rfl (fun h19=>?_) (fun h19=>?_)
      ·try simp only [decide_eq_true_eq] at h19
       try simp only [zds] at h19
       omega
      ·try simp only [decide_eq_false_iff_not,Int.not_lt] at h19
       try simp only [zds] at h19
       refine qL ?_;refine qC ?_;refine qB ?_;refine Or.inl ?_;refine zai (rfl) ?_;refine zei _ (zai (hck) ?_);refine qC ?_;refine qC ?_;refine qB ?_;refine qJ rfl (fun h27=>?_) (fun h27=>?_)
       ·try simp only [decide_eq_false_iff_not,Bool.not_eq_true'] at h27
        try simp only [zds] at h27
        refine qC ?_;refine qB ?_;refine qM ?_;rfl
       ·try simp only [decide_eq_true_eq,Bool.not_eq_false'] at h27
        try simp only [zds] at h27
        exact absurd h27 hc
    · simp only [if_neg hc];have hc : (chkR f).2 = 0:=Classical.not_not.1 hc;have hg:=(chk_good hc).1;obtain ⟨k,hk,he,_,_⟩:=at_lt h0;rw [he,Int.toNat_natCast];rw [he] at hat;refine yX (rs:=[.cell 6 28,.tmp 7,.tmp 8]) Tryz.func88 rfl rfl rfl teOk rfl ?_;refine qC ?_;refine qB ?_;refine qC ?_;refine qB ?_;refine Or.inl ?_;refine zai (rfl) ?_;refine zei _ (zai (hat) ?_);refine qC ?_;refine qC ?_;refine qB ?_;refine qJ rfl (fun h19=>?_) (fun h19=>?_)
      ·try simp only [decide_eq_true_eq] at h19
       try simp only [zds] at h19
       omega
      ·try simp only [decide_eq_false_iff_not,Int.not_lt] at h19
       try simp only [zds] at h19
       refine qL ?_;refine qC ?_;refine qB ?_;refine Or.inl ?_;refine zai (rfl) ?_;refine zei _ (zai (hck) ?_);refine qC ?_;refine qC ?_;refine qB ?_;refine qJ rfl (fun h27=>?_) (fun h27=>?_)
       ·try simp only [decide_eq_false_iff_not,Bool.not_eq_true'] at h27
        try simp only [zds] at h27
        exact absurd hc h27
       ·try simp only [decide_eq_true_eq,Bool.not_eq_false'] at h27
        try simp only [zds] at h27
        refine qL ?_;refine qC ?_;refine qB ?_;refine qC ?_;refine qC ?_;refine yK 2 0 113 rEnt rfl rfl rfl ?_;refine qB ?_;refine qN ?_;refine qR (fun (i : Nat)=>i ≤ es.length) (fun (i : Nat)=>[(2,.one (.sl rFld f)),(3,.one (.own 0 0)),(6,.one (.own 1 0)),(9,ii .i64 k),(12,.one (.own 2 0)),(13,ii .i64 i)]) (fun (i : Nat)=>[(0,.box 28 (toL rRL (es,n))),(1,.box 28 [.lit (.slice none 0 0),.lit (.int .i64 0)]),(2,.box 28 [.vec 3,.lit (.int .i64 n)]),(3,.vec 113 rEnt ((replE es k (xH f)).take i))]) 4 (fun (i : Nat)=>es.length - i) 0 (Nat.zero_le _) (qP ⟨rfl,rfl,rfl,rfl,rfl,rfl⟩ ⟨rfl,rfl,rfl,rfl⟩ rfl) ?_;intro i hI0;refine qC ?_;refine qC ?_;refine qB ?_;intro l9_3;refine qJ rfl (fun h38=>?_) (fun h38=>?_)
        ·try simp only [decide_eq_true_eq] at h38
         try simp only [zds] at h38
         have hil : i < es.length:=(by omega);have hsn:=repl_at (x:=xH f) hk hil;refine qL ?_;refine qC ?_;refine qN ?_;refine qC ?_;refine qB ?_;refine zai (by first|omega|assumption|decide|(simp only [];omega)|(simp <;> omega)) ?_;refine qC ?_;refine qC ?_;refine qB ?_;refine qJ rfl (fun h48=>?_) (fun h48=>?_)
         ·try simp only [decide_eq_true_eq] at h48
          try simp only [zds] at h48
          have e1 : i = k:=(by omega);rw [if_pos e1] at hsn;subst e1;refine qB ?_;refine Or.inl ?_;refine zai (rfl) ?_;refine zei _ (zai (refItem_c f hg.2.2 hf.1) ?_);refine qB ?_;refine zai (by exact qU (show ((replE es _ (xH f)).take _).length + 1 ≤ 1000000000 by rw [List.length_take,repl_len];omega) (by decide)) ?_;refine qB ?_;refine zai (by first|omega|assumption|decide|(simp only [zds];omega)|(simp <;> omega)) ?_;exact ⟨i + 1,by omega,by first|omega|(simp <;> omega),qP ⟨rfl,rfl,rfl,rfl,rfl,(qS (by omega))⟩ ⟨rfl,rfl,rfl,(qX (by rw [hsn];exact rfl))⟩ rfl⟩
         ·try simp only [decide_eq_false_iff_not] at h48
          try simp only [zds] at h48
          rw [if_neg (fun e1=>h48 (by rw [e1]))] at hsn;refine qL ?_;refine qB ?_;refine zai (by exact qU (show ((replE es _ (xH f)).take _).length + 1 ≤ 1000000000 by rw [List.length_take,repl_len];omega) (by decide)) ?_;refine qB ?_;refine zai (by first|omega|assumption|decide|(simp only [zds];omega)|(simp <;> omega)) ?_;exact ⟨i + 1,by omega,by first|omega|(simp <;> omega),qP ⟨rfl,rfl,rfl,rfl,rfl,(qS (by omega))⟩ ⟨rfl,rfl,rfl,(qX (by rw [hsn];exact rfl))⟩ rfl⟩
        ·try simp only [decide_eq_false_iff_not,Int.not_lt] at h38
         try simp only [zds] at h38
         refine qV ?_;refine qC ?_;refine qB ?_;refine acode_frz [3] ?_;refine qM ?_;rw [List.take_of_length_le (by rw [repl_len];omega)];exact rfl
theorem del_at {es : List Ent} {k i : Nat} (h : i < es.length) : delE (es.take (i + 1)) k = delE (es.take i) k ++ (if i = k then [] else [es.getD i (((0 : Int),ByteArray.empty,([] : List Fld)),(0 : Int))]):=by
  unfold delE;rw [← yH (((0 : Int),ByteArray.empty,([] : List Fld)),(0 : Int)) h,List.take_append,List.drop_append,List.length_take,Nat.min_eq_left (by omega)];rcases Nat.lt_trichotomy i k with h1|h1|h1
  · rw [if_neg (by omega)];have e1 : (es.take i).drop (k + 1) = []:=List.drop_of_length_le (by rw [List.length_take];omega);have e2 : [es.getD i (((0 : Int),ByteArray.empty,([] : List Fld)),(0 : Int))].take (k - i) = [es.getD i (((0 : Int),ByteArray.empty,([] : List Fld)),(0 : Int))]:=List.take_of_length_le (by simp;omega);have e3 : [es.getD i (((0 : Int),ByteArray.empty,([] : List Fld)),(0 : Int))].drop (k + 1 - i) = []:=List.drop_of_length_le (by simp;omega);rw [e1,e2,e3];simp
  · subst h1;rw [if_pos rfl];have e3 : [es.getD i (((0 : Int),ByteArray.empty,([] : List Fld)),(0 : Int))].drop (i + 1 - i) = []:=List.drop_of_length_le (by simp);rw [e3,Nat.sub_self];simp
  · rw [if_neg (by omega)];have e2 : [es.getD i (((0 : Int),ByteArray.empty,([] : List Fld)),(0 : Int))].take (k - i) = []:=by rw [show k - i = 0 by omega];rfl
    have e3 : [es.getD i (((0 : Int),ByteArray.empty,([] : List Fld)),(0 : Int))].drop (k + 1 - i) = [es.getD i (((0 : Int),ByteArray.empty,([] : List Fld)),(0 : Int))]:=by rw [show k + 1 - i = 0 by omega];rfl
    rw [e2,e3];simp
theorem del_le (es : List Ent) (k i : Nat) : (delE (es.take i) k).length ≤ es.length:=by
  unfold delE;rw [List.length_append,List.length_take,List.length_drop,List.length_take];omega
theorem refDel_c (es : List Ent) (n id : Int) (hl : es.length ≤ 1000000) : qT Tryz.prog 89 [.agg (toL rRL (es,n)),ii .i64 id] (.tup [(true,toL rRL (refDel (es,n) id).1),(false,[.lit (.int .i64 (refDel (es,n) id).2)])]):=by
  have hat:=refFindAt_c es n id;unfold refDel
  by_cases h0 : atE es id < 0
  · simp only [if_pos h0];refine yX (rs:=[.cell 4 28,.tmp 5]) Tryz.func89 rfl rfl rfl teOk rfl ?_;refine qC ?_;refine qB ?_;refine qC ?_;refine qB ?_;refine Or.inl ?_;refine zai (rfl) ?_;refine zei _ (zai (hat) ?_);refine qC ?_;refine qC ?_;refine qB ?_;refine qJ rfl (fun h13=>?_) (fun h13=>?_)
    ·try simp only [decide_eq_true_eq] at h13
     try simp only [zds] at h13
     refine qC ?_;refine qB ?_;refine qM ?_;rfl
    ·try simp only [decide_eq_false_iff_not,Int.not_lt] at h13
     try simp only [zds] at h13
     omega
  · simp only [if_neg h0];obtain ⟨k,hk,he,_,_⟩:=at_lt h0;rw [he,Int.toNat_natCast];rw [he] at hat;refine yX (rs:=[.cell 4 28,.tmp 5]) Tryz.func89 rfl rfl rfl teOk rfl ?_;refine qC ?_;refine qB ?_;refine qC ?_;refine qB ?_;refine Or.inl ?_;refine zai (rfl) ?_;refine zei _ (zai (hat) ?_);refine qC ?_;refine qC ?_;refine qB ?_;refine qJ rfl (fun h13=>?_) (fun h13=>?_)
    ·try simp only [decide_eq_true_eq] at h13
     try simp only [zds] at h13
     omega
    ·try simp only [decide_eq_false_iff_not,Int.not_lt] at h13
     try simp only [zds] at h13
     refine qL ?_;refine qC ?_;refine qB ?_;refine qC ?_;refine qC ?_;refine yK 2 0 113 rEnt rfl rfl rfl ?_;refine qB ?_;refine qN ?_;refine qR (fun (i : Nat)=>i ≤ es.length) (fun (i : Nat)=>[(2,.one (.own 0 0)),(4,.one (.own 1 0)),(6,ii .i64 k),(7,.one (.own 2 0)),(8,ii .i64 i)]) (fun (i : Nat)=>[(0,.box 28 (toL rRL (es,n))),(1,.box 28 [.lit (.slice none 0 0),.lit (.int .i64 0)]),(2,.box 28 [.vec 3,.lit (.int .i64 n)]),(3,.vec 113 rEnt (delE (es.take i) k))]) 4 (fun (i : Nat)=>es.length - i) 0 (Nat.zero_le _) (qP ⟨rfl,rfl,rfl,rfl,rfl⟩ ⟨rfl,rfl,rfl,(qX (by simp [delE]))⟩ rfl) ?_;intro i hI0;refine qC ?_;refine qC ?_;refine qB ?_;intro l6_3;refine qJ rfl (fun h22=>?_) (fun h22=>?_)
     ·try simp only [decide_eq_true_eq] at h22
      try simp only [zds] at h22
      have hil : i < es.length:=(by omega);have hsn:=del_at (k:=k) hil;have hdl:=del_le es k i;refine qL ?_;refine qC ?_;refine qN ?_;refine qC ?_;refine qB ?_;refine qJ rfl (fun h27=>?_) (fun h27=>?_)
      ·try simp only [decide_eq_false_iff_not,Bool.not_eq_true'] at h27
       try simp only [zds] at h27
       rw [if_neg (fun e1=>h27 (by rw [e1]))] at hsn;refine yV rfl ?_;refine qI 0 rfl rfl rfl (by kernel_rfl) ?_;refine qI 2 rfl rfl rfl (by kernel_rfl) ?_;refine qI 4 rfl rfl rfl (by kernel_rfl) ?_;refine qK [1,3] (by kernel_rfl) rfl ?_;refine zai ?_ ?_
       ·refine qK [3] (by kernel_rfl) rfl ?_;refine qI 5 rfl rfl rfl (by kernel_rfl) ?_;refine zai (by first|omega|assumption|decide|(simp only [];omega)|(simp <;> omega)) ?_;refine qK [6] (by kernel_rfl) rfl ?_;refine qK [7] (by kernel_rfl) rfl ?_;refine qK [8] (by kernel_rfl) rfl ?_;refine zai (by exact qU (show (delE (es.take i) k).length + 1 ≤ 1000000000 by omega) (by decide)) ?_;refine qI 9 rfl rfl rfl (by kernel_rfl) ?_;refine qK [10] (by kernel_rfl) rfl ?_;refine qO (by kernel_rfl) ?_;refine qB ?_;refine zai (by first|omega|assumption|decide|(simp only [zds];omega)|(simp <;> omega)) ?_;exact ⟨i + 1,by omega,by first|omega|(simp <;> omega),qP ⟨rfl,rfl,rfl,rfl,(qS (by omega))⟩ ⟨rfl,rfl,rfl,(qX (by rw [hsn];try exact rfl))⟩ rfl⟩
       ·refine qI 5 rfl rfl rfl (by kernel_rfl) ?_;refine zai (by first|omega|assumption|decide|(simp only [];omega)|(simp <;> omega)) ?_;refine qK [1,6] (by kernel_rfl) rfl ?_;refine zai ?_ ?_
        ·refine qK [6] (by kernel_rfl) rfl ?_;refine qK [7] (by kernel_rfl) rfl ?_;refine qK [8] (by kernel_rfl) rfl ?_;refine zai (by exact qU (show (delE (es.take i) k).length + 1 ≤ 1000000000 by omega) (by decide)) ?_;refine qI 9 rfl rfl rfl (by kernel_rfl) ?_;refine qK [10] (by kernel_rfl) rfl ?_;refine qO (by kernel_rfl) ?_;refine qB ?_;refine zai (by first|omega|assumption|decide|(simp only [zds];omega)|(simp <;> omega)) ?_;exact ⟨i + 1,by omega,by first|omega|(simp <;> omega),qP ⟨rfl,rfl,rfl,rfl,(qS (by omega))⟩ ⟨rfl,rfl,rfl,(qX (by rw [hsn];try exact rfl))⟩ rfl⟩
        ·refine qK [1,7] (by kernel_rfl) rfl ?_;refine zai ?_ ?_
         ·refine qK [7] (by kernel_rfl) rfl ?_;refine qK [8] (by kernel_rfl) rfl ?_;refine zai (by exact qU (show (delE (es.take i) k).length + 1 ≤ 1000000000 by omega) (by decide)) ?_;refine qI 9 rfl rfl rfl (by kernel_rfl) ?_;refine qK [10] (by kernel_rfl) rfl ?_;refine qO (by kernel_rfl) ?_;refine qB ?_;refine zai (by first|omega|assumption|decide|(simp only [zds];omega)|(simp <;> omega)) ?_;exact ⟨i + 1,by omega,by first|omega|(simp <;> omega),qP ⟨rfl,rfl,rfl,rfl,(qS (by omega))⟩ ⟨rfl,rfl,rfl,(qX (by rw [hsn];try exact rfl))⟩ rfl⟩
         ·refine qK [1] (by kernel_rfl) rfl ?_;refine qK [8] (by kernel_rfl) rfl ?_;refine zai (by exact qU (show (delE (es.take i) k).length + 1 ≤ 1000000000 by omega) (by decide)) ?_;refine qI 9 rfl rfl rfl (by kernel_rfl) ?_;refine qK [10] (by kernel_rfl) rfl ?_;refine qO (by kernel_rfl) ?_;refine qB ?_;refine zai (by first|omega|assumption|decide|(simp only [zds];omega)|(simp <;> omega)) ?_;exact ⟨i + 1,by omega,by first|omega|(simp <;> omega),qP ⟨rfl,rfl,rfl,rfl,(qS (by omega))⟩ ⟨rfl,rfl,rfl,(qX (by rw [hsn];try exact rfl))⟩ rfl⟩
      ·try simp only [decide_eq_true_eq,Bool.not_eq_false'] at h27
       try simp only [zds] at h27
       rw [if_pos (by omega),List.append_nil] at hsn;refine qL ?_;refine qB ?_;refine zai (by first|omega|assumption|decide|(simp only [zds];omega)|(simp <;> omega)) ?_;exact ⟨i + 1,by omega,by first|omega|(simp <;> omega),qP ⟨rfl,rfl,rfl,rfl,(qS (by omega))⟩ ⟨rfl,rfl,rfl,(qX (by rw [hsn];try exact rfl))⟩ rfl⟩
     ·try simp only [decide_eq_false_iff_not,Int.not_lt] at h22
      try simp only [zds] at h22
      refine qV ?_;refine qC ?_;refine qB ?_;refine acode_frz [3] ?_;refine qM ?_;rw [List.take_of_length_le (show es.length ≤ i by omega)];exact rfl
def insT (es : List Ent) (j : Nat) (e : Ent) (i : Nat) : List Ent:=if i < j then es.take i else insE (es.take i) j e
theorem insT_snoc {es : List Ent} {j i : Nat} {e : Ent} (h : i < es.length) : insT es j e (i + 1) = insT es j e i ++ (if i + 1 = j then [es.getD i (((0 : Int),ByteArray.empty,([] : List Fld)),(0 : Int)),e] else [es.getD i (((0 : Int),ByteArray.empty,([] : List Fld)),(0 : Int))]):=by
  unfold insT insE;rcases Nat.lt_trichotomy (i + 1) j with h1|h1|h1
  · rw [if_pos h1,if_pos (by omega),if_neg (by omega),yH (((0 : Int),ByteArray.empty,([] : List Fld)),(0 : Int)) h]
  · subst h1;rw [if_neg (by omega),if_pos (by omega),if_pos rfl,← yH (((0 : Int),ByteArray.empty,([] : List Fld)),(0 : Int)) h];have e1 : (es.take i ++ [es.getD i (((0 : Int),ByteArray.empty,([] : List Fld)),(0 : Int))]).take (i + 1) = es.take i ++ [es.getD i (((0 : Int),ByteArray.empty,([] : List Fld)),(0 : Int))]:=List.take_of_length_le (by simp;omega);have e2 : (es.take i ++ [es.getD i (((0 : Int),ByteArray.empty,([] : List Fld)),(0 : Int))]).drop (i + 1) = []:=List.drop_of_length_le (by simp;omega);rw [e1,e2];simp
  · rw [if_neg (by omega),if_neg (by omega),if_neg (by omega),← yH (((0 : Int),ByteArray.empty,([] : List Fld)),(0 : Int)) h];have e1 : (es.take i ++ [es.getD i (((0 : Int),ByteArray.empty,([] : List Fld)),(0 : Int))]).take j = (es.take i).take j:=by rw [List.take_append_of_le_length (by rw [List.length_take];omega)]
    have e2 : (es.take i ++ [es.getD i (((0 : Int),ByteArray.empty,([] : List Fld)),(0 : Int))]).drop j = (es.take i).drop j ++ [es.getD i (((0 : Int),ByteArray.empty,([] : List Fld)),(0 : Int))]:=by rw [List.drop_append_of_le_length (by rw [List.length_take];omega)]
    rw [e1,e2];simp
theorem insT_le (es : List Ent) (j : Nat) (e : Ent) (i : Nat) : (insT es j e i).length ≤ es.length + 1:=by
  unfold insT insE;split
  · rw [List.length_take];omega
  · rw [List.length_append,List.length_cons,List.length_take,List.length_drop,List.length_take];omega
theorem insT_all {es : List Ent} {j i : Nat} {e : Ent} (hj : j ≤ es.length) (hi : es.length ≤ i) : insT es j e i = insE es j e:=by
  unfold insT;rw [if_neg (by omega),List.take_of_length_le hi]
theorem insT_0 (es : List Ent) (e : Ent) : insT es 0 e 0 = [e]:=by
  unfold insT insE;rw [if_neg (by omega)];simp
theorem insT_1 {es : List Ent} {j : Nat} {e : Ent} (hj : 0 < j) : insT es j e 0 = []:=by
  unfold insT;rw [if_pos hj];simp
theorem liveN_snoc {es : List Ent} {i : Nat} (h : i < es.length) : ((es.take (i + 1)).filter live).length = ((es.take i).filter live).length + if live (es.getD i (((0 : Int),ByteArray.empty,([] : List Fld)),(0 : Int))) then 1 else 0:=by
  rw [← yH (((0 : Int),ByteArray.empty,([] : List Fld)),(0 : Int)) h,List.filter_append,List.length_append]
  congr 1
  generalize es.getD i (((0 : Int),ByteArray.empty,([] : List Fld)),(0 : Int)) = x
  cases hx : live x
  · simp [hx]
  · simp [hx]
theorem liveN_le (es : List Ent) (i : Nat) : ((es.take i).filter live).length ≤ es.length:=by
  refine Nat.le_trans (List.length_filter_le _ _) ?_;rw [List.length_take];omega
theorem refLen_c (es : List Ent) (n : Int) (hl : es.length ≤ 1000000) : qT Tryz.prog 125 [.agg (toL rRL (es,n))] (ii .i64 ((es.filter live).length : Int)):=by
  refine qQ (rs:=[2]) Tryz.func125 rfl rfl rfl teOk rfl ?_;refine qC ?_;refine qB ?_;refine qC ?_;refine qB ?_;refine qC ?_;refine qC ?_;refine qB ?_;refine qN ?_;refine qR (fun (i : Nat)=>i ≤ es.length) (fun (i : Nat)=>[(1,.one (.own 0 0)),(3,ii .i64 (((es.take i).filter live).length : Int)),(4,ii .i64 i)]) (fun (i : Nat)=>[(0,.box 28 (toL rRL (es,n)))]) 1 (fun (i : Nat)=>es.length - i) 0 (Nat.zero_le _) (qP ⟨rfl,rfl,rfl⟩ rfl rfl) ?_;intro i hI0;refine qC ?_;refine qC ?_;refine qB ?_;intro l3_3;refine qJ rfl (fun h9=>?_) (fun h9=>?_)
  ·try simp only [decide_eq_true_eq] at h9
   try simp only [zds] at h9
   have hil : i < es.length:=(by omega);have hsn:=liveN_snoc hil;have hsl:=liveN_le es i;refine qL ?_;refine qC ?_;refine qN ?_;refine qC ?_;refine qB ?_;refine zai (by first|omega|assumption|decide|(simp only [];omega)|(simp <;> omega)) ?_;refine qJ rfl (fun h18=>?_) (fun h18=>?_)
   ·try simp only [decide_eq_true_eq] at h18
    try simp only [Int.toNat_natCast,qH,qG,qF,qE] at h18
    have hk : live (es.getD i (((0 : Int),ByteArray.empty,([] : List Fld)),(0 : Int))) = true:=decide_eq_true h18;rw [hk,if_pos rfl] at hsn;refine qB ?_;refine zai (by first|omega|assumption|decide|(simp only [zds];omega)|(simp <;> omega)) ?_;refine qB ?_;refine zai (by first|omega|assumption|decide|(simp only [zds];omega)|(simp <;> omega)) ?_;exact ⟨i + 1,by omega,by first|omega|(simp <;> omega),qP ⟨rfl,(qS (by omega)),(qS (by omega))⟩ rfl rfl⟩
   ·try simp only [decide_eq_false_iff_not,Int.not_lt] at h18
    try simp only [Int.toNat_natCast,qH,qG,qF,qE] at h18
    have hk : live (es.getD i (((0 : Int),ByteArray.empty,([] : List Fld)),(0 : Int))) = false:=decide_eq_false (by omega);rw [hk,if_neg Bool.false_ne_true] at hsn;refine qL ?_;refine qB ?_;refine zai (by first|omega|assumption|decide|(simp only [zds];omega)|(simp <;> omega)) ?_;exact ⟨i + 1,by omega,by first|omega|(simp <;> omega),qP ⟨rfl,(qS (by omega)),(qS (by omega))⟩ rfl rfl⟩
  ·try simp only [decide_eq_false_iff_not,Int.not_lt] at h9
   try simp only [zds] at h9
   refine qV ?_;refine qC ?_;refine qB ?_;refine qM ?_;rw [List.take_of_length_le (by omega)];exact rfl
theorem refIns_c (es : List Ent) (n id : Int) (f : List Fld) (hf : qW f) (hl : es.length ≤ 1000000) (hn : 0 ≤ n ∧ n ≤ 1000000000) : qT Tryz.prog 90 [.agg (toL rRL (es,n)),ii .i64 id,.one (.sl rFld f)] (.tup [(true,toL rRL (refIns (es,n) id f).1),(false,[.lit (.int .i64 (refIns (es,n) id f).2.1)]),(false,[.lit (.int .i64 (refIns (es,n) id f).2.2.1)]),(false,[.lit (.int .i64 (refIns (es,n) id f).2.2.2)])]):=by
  have hat:=refFindAt_c es n id;have hck:=refChk_c f hf;have hln:=refLen_c es n hl;unfold refIns
  by_cases h0 : atE es id < 0 ∧ id ≠ 0
  · simp only [if_pos h0];refine yX (rs:=[.cell 6 28,.tmp 7,.tmp 8,.tmp 9]) Tryz.func90 rfl rfl rfl teOk rfl ?_;refine qC ?_;refine qB ?_;refine qC ?_;refine qB ?_;refine Or.inl ?_;refine zai (rfl) ?_;refine zei _ (zai (hat) ?_);refine qC ?_;refine qC ?_;refine qB ?_;refine zai (fun h=>trivial) ?_;refine zai (fun h=>⟨⟨h,trivial⟩,trivial⟩) ?_;refine zai (by exact fun h=>h) ?_;refine qJ rfl (fun h24=>?_) (fun h24=>?_)
    ·try simp only [decide_eq_true_eq,decide_eq_false_iff_not,Bool.and_eq_true,Bool.not_eq_true'] at h24
     try simp only [zds] at h24
     refine qC ?_;refine qB ?_;refine qM ?_;rfl
    ·try simp only [decide_eq_true_eq,decide_eq_false_iff_not,Bool.not_eq_false',Bool.and_eq_false_iff,Int.not_lt] at h24
     try simp only [zds] at h24
     omega
  · simp only [if_neg h0]
    by_cases hc : (chkR f).2 ≠ 0
    · simp only [if_pos hc];refine yX (rs:=[.cell 6 28,.tmp 7,.tmp 8,.tmp 9]) Tryz.func90 rfl rfl rfl teOk rfl ?_;refine qC ?_;refine qB ?_;refine qC ?_;refine qB ?_;refine Or.inl ?_;refine zai (rfl) ?_;refine zei _ (zai (hat) ?_);refine qC ?_;refine qC ?_;refine qB ?_;refine zai (fun h=>trivial) ?_;refine zai (fun h=>⟨⟨h,trivial⟩,trivial⟩) ?_;refine zai (by exact fun h=>h) ?_;refine qJ rfl (fun h24=>?_) (fun h24=>?_)
      ·try simp only [decide_eq_true_eq,decide_eq_false_iff_not,Bool.and_eq_true,Bool.not_eq_true'] at h24
       try simp only [zds] at h24
       omega
      ·try simp only [decide_eq_true_eq,decide_eq_false_iff_not,Bool.not_eq_false',Bool.and_eq_false_iff,Int.not_lt] at h24
       try simp only [zds] at h24
       refine qL ?_;refine qC ?_;refine qB ?_;refine Or.inl ?_;refine zai (rfl) ?_;refine zei _ (zai (hck) ?_);refine qC ?_;refine qC ?_;refine qB ?_;refine qJ rfl (fun h32=>?_) (fun h32=>?_)
       ·try simp only [decide_eq_false_iff_not,Bool.not_eq_true'] at h32
        try simp only [zds] at h32
        refine qC ?_;refine qB ?_;refine qM ?_;rfl
       ·try simp only [decide_eq_true_eq,Bool.not_eq_false'] at h32
        try simp only [zds] at h32
        exact absurd h32 hc
    · simp only [if_neg hc];have hc : (chkR f).2 = 0:=Classical.not_not.1 hc;have hg:=(chk_good hc).1
      by_cases h4 : 400 ≤ ((es.filter live).length : Int)
      · simp only [if_pos h4];refine yX (rs:=[.cell 6 28,.tmp 7,.tmp 8,.tmp 9]) Tryz.func90 rfl rfl rfl teOk rfl ?_;refine qC ?_;refine qB ?_;refine qC ?_;refine qB ?_;refine Or.inl ?_;refine zai (rfl) ?_;refine zei _ (zai (hat) ?_);refine qC ?_;refine qC ?_;refine qB ?_;refine zai (fun h=>trivial) ?_;refine zai (fun h=>⟨⟨h,trivial⟩,trivial⟩) ?_;refine zai (by exact fun h=>h) ?_;refine qJ rfl (fun h24=>?_) (fun h24=>?_)
        ·try simp only [decide_eq_true_eq,decide_eq_false_iff_not,Bool.and_eq_true,Bool.not_eq_true'] at h24
         try simp only [zds] at h24
         omega
        ·try simp only [decide_eq_true_eq,decide_eq_false_iff_not,Bool.not_eq_false',Bool.and_eq_false_iff,Int.not_lt] at h24
         try simp only [zds] at h24
         refine qL ?_;refine qC ?_;refine qB ?_;refine Or.inl ?_;refine zai (rfl) ?_;refine zei _ (zai (hck) ?_);refine qC ?_;refine qC ?_;refine qB ?_;refine qJ rfl (fun h32=>?_) (fun h32=>?_)
         ·try simp only [decide_eq_false_iff_not,Bool.not_eq_true'] at h32
          try simp only [zds] at h32
          exact absurd hc h32
         ·try simp only [decide_eq_true_eq,Bool.not_eq_false'] at h32
          try simp only [zds] at h32
          refine qL ?_;refine qC ?_;refine qC ?_;refine qB ?_;refine Or.inl ?_;refine zai (rfl) ?_;refine zei _ (zai (hln) ?_);refine qJ rfl (fun h38=>?_) (fun h38=>?_)
          ·try simp only [decide_eq_true_eq] at h38
           try simp only [zds] at h38
           refine qC ?_;refine qB ?_;refine qM ?_;rfl
          ·try simp only [decide_eq_false_iff_not,Int.not_le] at h38
           try simp only [zds] at h38
           omega
      · simp only [if_neg h4];obtain ⟨j,hj,hje⟩ : ∃ j : Nat,j ≤ es.length ∧ atE es id + 1 = (j : Int):=by
          rcases at_cases es id with ⟨h1,_⟩|⟨i,h1,h2,_⟩
          · exact ⟨0,Nat.zero_le _,by omega⟩
          · exact ⟨i + 1,by omega,by omega⟩
        rw [hje,Int.toNat_natCast];refine yX (rs:=[.cell 6 28,.tmp 7,.tmp 8,.tmp 9]) Tryz.func90 rfl rfl rfl teOk rfl ?_;refine qC ?_;refine qB ?_;refine qC ?_;refine qB ?_;refine Or.inl ?_;refine zai (rfl) ?_;refine zei _ (zai (hat) ?_);refine qC ?_;refine qC ?_;refine qB ?_;refine zai (fun h=>trivial) ?_;refine zai (fun h=>⟨⟨h,trivial⟩,trivial⟩) ?_;refine zai (by exact fun h=>h) ?_;refine qJ rfl (fun h24=>?_) (fun h24=>?_)
        ·try simp only [decide_eq_true_eq,decide_eq_false_iff_not,Bool.and_eq_true,Bool.not_eq_true'] at h24
         try simp only [zds] at h24
         omega
        ·try simp only [decide_eq_true_eq,decide_eq_false_iff_not,Bool.not_eq_false',Bool.and_eq_false_iff,Int.not_lt] at h24
         try simp only [zds] at h24
         refine qL ?_;refine qC ?_;refine qB ?_;refine Or.inl ?_;refine zai (rfl) ?_;refine zei _ (zai (hck) ?_);refine qC ?_;refine qC ?_;refine qB ?_;refine qJ rfl (fun h32=>?_) (fun h32=>?_)
         ·try simp only [decide_eq_false_iff_not,Bool.not_eq_true'] at h32
          try simp only [zds] at h32
          exact absurd hc h32
         ·try simp only [decide_eq_true_eq,Bool.not_eq_false'] at h32
          try simp only [zds] at h32
          refine qL ?_;refine qC ?_;refine qC ?_;refine qB ?_;refine Or.inl ?_;refine zai (rfl) ?_;refine zei _ (zai (hln) ?_);refine qJ rfl (fun h38=>?_) (fun h38=>?_)
          ·try simp only [decide_eq_true_eq] at h38
           try simp only [zds] at h38
           omega
          ·try simp only [decide_eq_false_iff_not,Int.not_le] at h38
           try simp only [zds] at h38
           refine qL ?_;refine qC ?_;refine qB ?_;refine zai (by first|omega|assumption|decide|(simp only [zds];omega)|(simp <;> omega)) ?_;refine acode_cut (fun (u : Unit)=>True) (fun (u : Unit)=>[(3,.one (.own 0 0)),(6,.one (.own 1 0)),(10,ii .i64 (atE es id)),(13,.one (.own 2 0)),(14,.one (.own 4 0))]) (fun (u : Unit)=>[(0,.box 28 (toL rRL (es,n))),(1,.box 28 [.lit (.slice none 0 0),.lit (.int .i64 0)]),(2,.box 28 [.vec 3,.lit (.int .i64 (n + 1))]),(3,.vec 113 rEnt []),(4,.box 113 (toL rEnt (xH f,n)))]) 5 ?_ ?_
           ·refine yK 2 0 113 rEnt rfl rfl rfl ?_;refine yV rfl ?_;refine qI 0 rfl rfl rfl (by kernel_rfl) ?_;refine qI 2 rfl rfl rfl (by kernel_rfl) ?_;refine qK [1,3,5] (by kernel_rfl) rfl ?_;refine zai ?_ ?_
            ·refine Or.inl ?_;refine zai (rfl) ?_;refine zei _ (zai (refItem_c f hg.2.2 hf.1) ?_);refine qK [3,5] (by kernel_rfl) rfl ?_;refine zai ?_ ?_
             ·refine qK [4,5] (by kernel_rfl) rfl ?_;refine zai ?_ ?_
              ·refine qK [5] (by kernel_rfl) rfl ?_;refine qK [6] (by kernel_rfl) rfl ?_;refine qO (by kernel_rfl) ?_;exact ⟨(),trivial,qP ⟨rfl,rfl,rfl,rfl,rfl⟩ ⟨rfl,rfl,rfl,rfl,rfl⟩ rfl⟩
              ·refine qK [4] (by kernel_rfl) rfl ?_;refine qK [6] (by kernel_rfl) rfl ?_;refine qO (by kernel_rfl) ?_;exact ⟨(),trivial,qP ⟨rfl,rfl,rfl,rfl,rfl⟩ ⟨rfl,rfl,rfl,rfl,rfl⟩ rfl⟩
             ·refine qK [3] (by kernel_rfl) rfl ?_;refine qK [4] (by kernel_rfl) rfl ?_;refine qK [6] (by kernel_rfl) rfl ?_;refine qO (by kernel_rfl) ?_;exact ⟨(),trivial,qP ⟨rfl,rfl,rfl,rfl,rfl⟩ ⟨rfl,rfl,rfl,rfl,rfl⟩ rfl⟩
            refine zai ?_ ?_
            ·refine qK [1,5] (by kernel_rfl) rfl ?_;refine zai ?_ ?_
             ·refine Or.inl ?_;refine zai (rfl) ?_;refine zei _ (zai (refItem_c f hg.2.2 hf.1) ?_);refine qK [4,5] (by kernel_rfl) rfl ?_;refine zai ?_ ?_
              ·refine qK [5] (by kernel_rfl) rfl ?_;refine qK [6] (by kernel_rfl) rfl ?_;refine qO (by kernel_rfl) ?_;exact ⟨(),trivial,qP ⟨rfl,rfl,rfl,rfl,rfl⟩ ⟨rfl,rfl,rfl,rfl,rfl⟩ rfl⟩
              ·refine qK [4] (by kernel_rfl) rfl ?_;refine qK [6] (by kernel_rfl) rfl ?_;refine qO (by kernel_rfl) ?_;exact ⟨(),trivial,qP ⟨rfl,rfl,rfl,rfl,rfl⟩ ⟨rfl,rfl,rfl,rfl,rfl⟩ rfl⟩
             ·refine qK [1] (by kernel_rfl) rfl ?_;refine Or.inl ?_;refine zai (rfl) ?_;refine zei _ (zai (refItem_c f hg.2.2 hf.1) ?_);refine qK [4] (by kernel_rfl) rfl ?_;refine qK [6] (by kernel_rfl) rfl ?_;refine qO (by kernel_rfl) ?_;exact ⟨(),trivial,qP ⟨rfl,rfl,rfl,rfl,rfl⟩ ⟨rfl,rfl,rfl,rfl,rfl⟩ rfl⟩
            ·refine qK [1,3] (by kernel_rfl) rfl ?_;refine zai ?_ ?_
             ·refine Or.inl ?_;refine zai (rfl) ?_;refine zei _ (zai (refItem_c f hg.2.2 hf.1) ?_);refine qK [3] (by kernel_rfl) rfl ?_;refine qK [4] (by kernel_rfl) rfl ?_;refine qK [6] (by kernel_rfl) rfl ?_;refine qO (by kernel_rfl) ?_;exact ⟨(),trivial,qP ⟨rfl,rfl,rfl,rfl,rfl⟩ ⟨rfl,rfl,rfl,rfl,rfl⟩ rfl⟩
             ·refine qK [1] (by kernel_rfl) rfl ?_;refine Or.inl ?_;refine zai (rfl) ?_;refine zei _ (zai (refItem_c f hg.2.2 hf.1) ?_);refine qK [4] (by kernel_rfl) rfl ?_;refine qK [6] (by kernel_rfl) rfl ?_;refine qO (by kernel_rfl) ?_;exact ⟨(),trivial,qP ⟨rfl,rfl,rfl,rfl,rfl⟩ ⟨rfl,rfl,rfl,rfl,rfl⟩ rfl⟩
           ·intro u hcut11;refine acode_cut (fun (u : Unit)=>True) (fun (u : Unit)=>[(3,.one (.own 0 0)),(6,.one (.own 1 0)),(10,ii .i64 (atE es id)),(13,.one (.own 2 0)),(14,.one (.own 4 0))]) (fun (u : Unit)=>[(0,.box 28 (toL rRL (es,n))),(1,.box 28 [.lit (.slice none 0 0),.lit (.int .i64 0)]),(2,.box 28 [.vec 3,.lit (.int .i64 (n + 1))]),(3,.vec 113 rEnt (insT es j (xH f,n) 0)),(4,.box 113 (toL rEnt (xH f,n)))]) 5 ?_ ?_
            ·refine qC ?_;refine qB ?_;refine qJ rfl (fun h50=>?_) (fun h50=>?_)
             ·try simp only [decide_eq_true_eq] at h50
              try simp only [zds] at h50
              refine qB ?_;refine zai (by first|exact qU (by first|omega|(simp only [List.length_cons,List.length_nil];omega)|(simp;omega)) (by decide)|omega|assumption|decide|(simp only [zds];omega)|(simp <;> omega)) ?_;exact ⟨(),trivial,qP ⟨rfl,rfl,rfl,rfl,rfl⟩ ⟨rfl,rfl,rfl,(qX (by rw [show j = 0 by omega,insT_0];exact rfl)),rfl⟩ rfl⟩
             ·try simp only [decide_eq_false_iff_not,Int.not_lt] at h50
              try simp only [zds] at h50
              refine qL ?_;exact ⟨(),trivial,qP ⟨rfl,rfl,rfl,rfl,rfl⟩ ⟨rfl,rfl,rfl,(qX (by rw [insT_1 (by omega)])),rfl⟩ rfl⟩
            ·intro u hcut13;refine qC ?_;refine qC ?_;refine qB ?_;refine qN ?_;refine qR (fun (i : Nat)=>i ≤ es.length) (fun (i : Nat)=>[(3,.one (.own 0 0)),(6,.one (.own 1 0)),(10,ii .i64 (atE es id)),(13,.one (.own 2 0)),(14,.one (.own 4 0)),(15,ii .i64 i)]) (fun (i : Nat)=>[(0,.box 28 (toL rRL (es,n))),(1,.box 28 [.lit (.slice none 0 0),.lit (.int .i64 0)]),(2,.box 28 [.vec 3,.lit (.int .i64 (n + 1))]),(3,.vec 113 rEnt (insT es j (xH f,n) i)),(4,.box 113 (toL rEnt (xH f,n)))]) 5 (fun (i : Nat)=>es.length - i) 0 (Nat.zero_le _) (qP ⟨rfl,rfl,rfl,rfl,rfl,rfl⟩ ⟨rfl,rfl,rfl,rfl,rfl⟩ rfl) ?_;intro i hI0;refine qC ?_;refine qC ?_;refine qB ?_;intro l14_3;refine qJ rfl (fun h61=>?_) (fun h61=>?_)
             ·try simp only [decide_eq_true_eq] at h61
              try simp only [zds] at h61
              have hil : i < es.length:=(by omega);have hsn:=insT_snoc (j:=j) (e:=(xH f,n)) hil;have hsl:=insT_le es j (xH f,n) i;refine qL ?_;refine qC ?_;refine qN ?_;refine qC ?_;refine yV rfl ?_;refine qI 0 rfl rfl rfl (by kernel_rfl) ?_;refine qI 2 rfl rfl rfl (by kernel_rfl) ?_;refine qI 4 rfl rfl rfl (by kernel_rfl) ?_;refine qK [1,3] (by kernel_rfl) rfl ?_;refine zai ?_ ?_
              ·refine qK [3] (by kernel_rfl) rfl ?_;refine qI 5 rfl rfl rfl (by kernel_rfl) ?_;refine zai (by first|omega|assumption|decide|(simp only [];omega)|(simp <;> omega)) ?_;refine qK [6] (by kernel_rfl) rfl ?_;refine qK [7] (by kernel_rfl) rfl ?_;refine qK [8] (by kernel_rfl) rfl ?_;refine zai (by exact qU (show (insT es j (xH f,n) i).length + 1 ≤ 1000000000 by omega) (by decide)) ?_;refine qI 9 rfl rfl rfl (by kernel_rfl) ?_;refine qK [10] (by kernel_rfl) rfl ?_;refine qO (by kernel_rfl) ?_;refine qC ?_;refine qB ?_;refine qJ rfl (fun h76=>?_) (fun h76=>?_)
               ·try simp only [decide_eq_true_eq] at h76
                try simp only [zds] at h76
                rw [if_pos (by omega)] at hsn;refine qB ?_;refine zai (by exact qU (by rw [List.length_append];show (insT es j (xH f,n) i).length + 1 + 1 ≤ 1000000000;omega) (by decide)) ?_;refine qB ?_;refine zai (by first|omega|assumption|decide|(simp only [zds];omega)|(simp <;> omega)) ?_;exact ⟨i + 1,by omega,by first|omega|(simp <;> omega),qP ⟨rfl,rfl,rfl,rfl,rfl,(qS (by omega))⟩ ⟨rfl,rfl,rfl,(qX (by rw [hsn];(try rw [List.append_assoc]);(try exact rfl))),rfl⟩ rfl⟩
               ·try simp only [decide_eq_false_iff_not] at h76
                try simp only [zds] at h76
                rw [if_neg (by omega)] at hsn;refine qL ?_;refine qB ?_;refine zai (by first|omega|assumption|decide|(simp only [zds];omega)|(simp <;> omega)) ?_;exact ⟨i + 1,by omega,by first|omega|(simp <;> omega),qP ⟨rfl,rfl,rfl,rfl,rfl,(qS (by omega))⟩ ⟨rfl,rfl,rfl,(qX (by rw [hsn];(try rw [List.append_assoc]);(try exact rfl))),rfl⟩ rfl⟩
              ·refine qI 5 rfl rfl rfl (by kernel_rfl) ?_;refine zai (by first|omega|assumption|decide|(simp only [];omega)|(simp <;> omega)) ?_;refine qK [1,6] (by kernel_rfl) rfl ?_;refine zai ?_ ?_
               ·refine qK [6] (by kernel_rfl) rfl ?_;refine qK [7] (by kernel_rfl) rfl ?_;refine qK [8] (by kernel_rfl) rfl ?_;refine zai (by exact qU (show (insT es j (xH f,n) i).length + 1 ≤ 1000000000 by omega) (by decide)) ?_;refine qI 9 rfl rfl rfl (by kernel_rfl) ?_;refine qK [10] (by kernel_rfl) rfl ?_;refine qO (by kernel_rfl) ?_;refine qC ?_;refine qB ?_;refine qJ rfl (fun h76=>?_) (fun h76=>?_)
                ·try simp only [decide_eq_true_eq] at h76
                 try simp only [zds] at h76
                 rw [if_pos (by omega)] at hsn;refine qB ?_;refine zai (by exact qU (by rw [List.length_append];show (insT es j (xH f,n) i).length + 1 + 1 ≤ 1000000000;omega) (by decide)) ?_;refine qB ?_;refine zai (by first|omega|assumption|decide|(simp only [zds];omega)|(simp <;> omega)) ?_;exact ⟨i + 1,by omega,by first|omega|(simp <;> omega),qP ⟨rfl,rfl,rfl,rfl,rfl,(qS (by omega))⟩ ⟨rfl,rfl,rfl,(qX (by rw [hsn];(try rw [List.append_assoc]);(try exact rfl))),rfl⟩ rfl⟩
                ·try simp only [decide_eq_false_iff_not] at h76
                 try simp only [zds] at h76
                 rw [if_neg (by omega)] at hsn;refine qL ?_;refine qB ?_;refine zai (by first|omega|assumption|decide|(simp only [zds];omega)|(simp <;> omega)) ?_;exact ⟨i + 1,by omega,by first|omega|(simp <;> omega),qP ⟨rfl,rfl,rfl,rfl,rfl,(qS (by omega))⟩ ⟨rfl,rfl,rfl,(qX (by rw [hsn];(try rw [List.append_assoc]);(try exact rfl))),rfl⟩ rfl⟩
               ·refine qK [1,7] (by kernel_rfl) rfl ?_;refine zai ?_ ?_
                ·refine qK [7] (by kernel_rfl) rfl ?_;refine qK [8] (by kernel_rfl) rfl ?_;refine zai (by exact qU (show (insT es j (xH f,n) i).length + 1 ≤ 1000000000 by omega) (by decide)) ?_;refine qI 9 rfl rfl rfl (by kernel_rfl) ?_;refine qK [10] (by kernel_rfl) rfl ?_;refine qO (by kernel_rfl) ?_;refine qC ?_;refine qB ?_;refine qJ rfl (fun h76=>?_) (fun h76=>?_)
                 ·try simp only [decide_eq_true_eq] at h76
                  try simp only [zds] at h76
                  rw [if_pos (by omega)] at hsn;refine qB ?_;refine zai (by exact qU (by rw [List.length_append];show (insT es j (xH f,n) i).length + 1 + 1 ≤ 1000000000;omega) (by decide)) ?_;refine qB ?_;refine zai (by first|omega|assumption|decide|(simp only [zds];omega)|(simp <;> omega)) ?_;exact ⟨i + 1,by omega,by first|omega|(simp <;> omega),qP ⟨rfl,rfl,rfl,rfl,rfl,(qS (by omega))⟩ ⟨rfl,rfl,rfl,(qX (by rw [hsn];(try rw [List.append_assoc]);(try exact rfl))),rfl⟩ rfl⟩
                 ·try simp only [decide_eq_false_iff_not] at h76
                  try simp only [zds] at h76
                  rw [if_neg (by omega)] at hsn;refine qL ?_;refine qB ?_;refine zai (by first|omega|assumption|decide|(simp only [zds];omega)|(simp <;> omega)) ?_;exact ⟨i + 1,by omega,by first|omega|(simp <;> omega),qP ⟨rfl,rfl,rfl,rfl,rfl,(qS (by omega))⟩ ⟨rfl,rfl,rfl,(qX (by rw [hsn];(try rw [List.append_assoc]);(try exact rfl))),rfl⟩ rfl⟩
                ·refine qK [1] (by kernel_rfl) rfl ?_;refine qK [8] (by kernel_rfl) rfl ?_;refine zai (by exact qU (show (insT es j (xH f,n) i).length + 1 ≤ 1000000000 by omega) (by decide)) ?_;refine qI 9 rfl rfl rfl (by kernel_rfl) ?_;refine qK [10] (by kernel_rfl) rfl ?_;refine qO (by kernel_rfl) ?_;refine qC ?_;refine qB ?_;refine qJ rfl (fun h76=>?_) (fun h76=>?_)
                 ·try simp only [decide_eq_true_eq] at h76
                  try simp only [zds] at h76
                  rw [if_pos (by omega)] at hsn;refine qB ?_;refine zai (by exact qU (by rw [List.length_append];show (insT es j (xH f,n) i).length + 1 + 1 ≤ 1000000000;omega) (by decide)) ?_;refine qB ?_;refine zai (by first|omega|assumption|decide|(simp only [zds];omega)|(simp <;> omega)) ?_;exact ⟨i + 1,by omega,by first|omega|(simp <;> omega),qP ⟨rfl,rfl,rfl,rfl,rfl,(qS (by omega))⟩ ⟨rfl,rfl,rfl,(qX (by rw [hsn];(try rw [List.append_assoc]);(try exact rfl))),rfl⟩ rfl⟩
                 ·try simp only [decide_eq_false_iff_not] at h76
                  try simp only [zds] at h76
                  rw [if_neg (by omega)] at hsn;refine qL ?_;refine qB ?_;refine zai (by first|omega|assumption|decide|(simp only [zds];omega)|(simp <;> omega)) ?_;exact ⟨i + 1,by omega,by first|omega|(simp <;> omega),qP ⟨rfl,rfl,rfl,rfl,rfl,(qS (by omega))⟩ ⟨rfl,rfl,rfl,(qX (by rw [hsn];(try rw [List.append_assoc]);(try exact rfl))),rfl⟩ rfl⟩
             ·try simp only [decide_eq_false_iff_not,Int.not_lt] at h61
              try simp only [zds] at h61
              refine qV ?_;refine qC ?_;refine yV rfl ?_;refine qI 1 rfl rfl rfl (by kernel_rfl) ?_;refine qK [0,2] (by kernel_rfl) rfl ?_;refine zai ?_ ?_
              ·refine qK [2,3] (by kernel_rfl) rfl ?_;refine zai ?_ ?_
               ·refine qK [3] (by kernel_rfl) rfl ?_;refine qI 4 rfl rfl rfl (by kernel_rfl) ?_;refine qI 5 rfl rfl rfl (by kernel_rfl) ?_;refine qI 6 rfl rfl rfl (by kernel_rfl) ?_;refine qO (by kernel_rfl) ?_;refine acode_frz [3] ?_;refine qM ?_;rw [insT_all hj (by omega)];exact rfl
               ·refine qK [2] (by kernel_rfl) rfl ?_;refine qI 4 rfl rfl rfl (by kernel_rfl) ?_;refine qI 5 rfl rfl rfl (by kernel_rfl) ?_;refine qI 6 rfl rfl rfl (by kernel_rfl) ?_;refine qO (by kernel_rfl) ?_;refine acode_frz [3] ?_;refine qM ?_;rw [insT_all hj (by omega)];exact rfl
              ·refine qK [0] (by kernel_rfl) rfl ?_;refine qK [3] (by kernel_rfl) rfl ?_;refine qI 4 rfl rfl rfl (by kernel_rfl) ?_;refine qI 5 rfl rfl rfl (by kernel_rfl) ?_;refine qI 6 rfl rfl rfl (by kernel_rfl) ?_;refine qO (by kernel_rfl) ?_;refine acode_frz [3] ?_;refine qM ?_;rw [insT_all hj (by omega)];exact rfl
def doB (num at_ id bad at2 want : Int) : Bool:=((true && decide (num = bad)) && decide (at_ = at2)) && decide (id = want)
theorem chk_shape {f : List Fld} (h : (chkR f).2 ≠ 0) : (∃ k9,chkA f = errN k9 ∧ k9 ≠ 0 ∧ (-9 : Int) = (chkR f).1 ∧ k9 = (chkR f).2) ∨ ∃ a9 k9,chkA f = errF a9 k9 ∧ k9 ≠ 0 ∧ a9 = (chkR f).1 ∧ k9 = (chkR f).2:=by
  obtain ⟨e,he,hs⟩:=chk_bad h;rcases hs with ⟨n,hn,rfl,hr⟩|⟨i,n,hn,rfl,hr⟩
  · exact .inl ⟨n,he,hn,by rw [hr],by rw [hr]⟩
  · exact .inr ⟨i,n,he,hn,by rw [hr],by rw [hr]⟩
def yG (L : Lst) (s : List Edt) (i : Nat) : Lst:=(s.take i).foldl doL L
theorem plays_snoc (L : Lst) {s : List Edt} {i : Nat} (h : i < s.length) : yG L s (i + 1) = doL (yG L s i) (s.getD i ((0 : Int),(0 : Int),([] : List Fld))):=by
  unfold yG;rw [← yH ((0 : Int),(0 : Int),([] : List Fld)) h,List.foldl_append];rfl
theorem plays_ok {c : Nat} {L : Lst} {s : List Edt} (h : LOk c L) (hf : ∀ e ∈ s,qW e.2.2) : ∀ i,i ≤ s.length → LOk (c + i) (yG L s i)
  | 0,_=>by simpa [yG] using h
  | i + 1,hi=>by
    rw [plays_snoc L (by omega)];exact doL_ok (plays_ok h hf i (by omega)) (hf _ (yF (by omega) ((0 : Int),(0 : Int),([] : List Fld))))
theorem heavy_ok {s : List Edt} (h : heavyB s = false) : s.length ≤ 51 ∧ ∀ e ∈ s,muchB e.2.2 = false:=by
  unfold heavyB at h;simp only [Bool.or_eq_false_iff,decide_eq_false_iff_not] at h;exact ⟨by omega,fun e he=>by simpa using List.any_eq_false.1 h.2 e he⟩
theorem items_len {s : ByteArray} {l : List Itm} (hp : xF s = .inr l) : l.length ≤ 2 * s.size + 1:=by
  have h0:=parse_ref s;rw [hp] at h0;obtain ⟨h1,_⟩:=linesT_len s;have key : ∀ (L : List Lne) (t : RSt) (bh : Bool) (l : List Itm),runR bh t L = .inr l → l.length ≤ t.out.length + 1 + 2 * L.length:=by
    intro L
    induction L with
    | nil =>
      intro t bh l h;unfold runR at h;cases h;split <;> simp
    | cons a r ih =>
      intro t bh l h;unfold runR at h;split at h
      · cases h
      · have i1:=ih _ _ _ h;have so : (stepR t a r).out.length ≤ t.out.length + 2:=by
          unfold stepR;split
          · simp only;split <;> simp
          · split <;> simp
        rw [List.length_cons];omega
  have k1:=key _ _ _ _ h0.symm;simp only [rst0,List.length_nil] at k1;omega
theorem of_lok {s : ByteArray} {l : List Itm} (hs : s.size ≤ 4000) (hp : xF s = .inr l) : LOk 9000 (ofT l):=by
  have h1:=items_len hp;exact ofT_ok (by omega) fun x hx=>fldsOk_of (items_small hp x hx).1 (items_small hp x hx).2
theorem LOk.f1 {c : Nat} {L : Lst} (h : LOk c L) : ∀ e ∈ L.1,e.1.2.2.length ≤ 1000000:=fun e he=>Nat.le_trans (h.flds e he).1 (by decide)
end Q
end Ab
end Go.Proofs.YtpfkncffaanjcaaGreatDoor
namespace Go.Proofs.YtpfkncffaanjcaaGreatDoor
open Go.RowKit
namespace Ab
set_option maxRecDepth 100000
abbrev rEdk (κ : Nat) : Rd Edt:=.st (.int .i64) (.st (.int .i64) (.slk κ rFld))
namespace Q
def goodN (x : Edt) : Int:=if x.1 = 2 then (if 0 < x.2.2.length then 2 else 0) else if x.1 = 1 ∨ x.1 = 3 then (chkR x.2.2).2 else 2
def chkF (k : Int) : List Edt → Int × Int
  | []=>(-9,0)
  | x :: r=>if goodN x ≠ 0 then (k,goodN x) else chkF (k + 1) r
def chkB (l : List Edt) : Int × Int:=if l.length < 1 ∨ 40 < l.length then (-9,1) else chkF 0 l
theorem chkF_at : ∀ (l : List Edt) (i : Nat) (k : Int),i < l.length → (∀ e ∈ l.take i,goodN e = 0) → goodN (l.getD i ((0 : Int),(0 : Int),([] : List Fld))) ≠ 0 → chkF k l = (k + i,goodN (l.getD i ((0 : Int),(0 : Int),([] : List Fld))))
  | [],i,k,h,_,_=>by simp at h
  | f :: r,0,k,_,_,hb=>by
    unfold chkF;rw [if_pos (by simpa using hb)];simp
  | f :: r,i + 1,k,h,ht,hb=>by
    unfold chkF;rw [if_neg (by simpa using ht f (by simp))];rw [chkF_at r i (k + 1) (by simpa using h) (fun g hg=>ht g (by simp [hg])) (by simpa using hb)];simp only [List.getD_cons_succ]
    congr 1
    omega
theorem chkF_no : ∀ (l : List Edt) (k : Int),(∀ e ∈ l,goodN e = 0) → chkF k l = (-9,0)
  | [],_,_=>rfl
  | f :: r,k,h=>by
    unfold chkF;rw [if_neg (by simpa using h f (by simp))];exact chkF_no r (k + 1) (fun g hg=>h g (by simp [hg]))
theorem chkF_zero : ∀ (l : List Edt) (k : Int),(chkF k l).2 = 0 → ∀ e ∈ l,goodN e = 0
  | [],_,_,f,hf=>by cases hf
  | g :: r,k,h,f,hf=>by
    unfold chkF at h;split at h
    · rename_i hg;exact absurd h hg
    · rename_i hg;rcases List.mem_cons.1 hf with rfl|hf
      · exact Classical.not_not.1 hg
      · exact chkF_zero r (k + 1) h f hf
theorem chkB_rng {l : List Edt} (h : l.length < 1 ∨ 40 < l.length) : chkB l = (-9,1):=if_pos h
theorem chkB_at {l : List Edt} {i : Nat} (h1 : ¬ (l.length < 1 ∨ 40 < l.length)) (h : i < l.length) (ht : ∀ e ∈ l.take i,goodN e = 0) (hb : goodN (l.getD i ((0 : Int),(0 : Int),([] : List Fld))) ≠ 0) : chkB l = ((i : Int),goodN (l.getD i ((0 : Int),(0 : Int),([] : List Fld)))):=by
  unfold chkB;rw [if_neg h1,chkF_at l i 0 h ht hb,Int.zero_add]
theorem chkB_no {l : List Edt} (h1 : ¬ (l.length < 1 ∨ 40 < l.length)) (h : ∀ e ∈ l,goodN e = 0) : chkB l = (-9,0):=by
  unfold chkB;rw [if_neg h1,chkF_no l 0 h]
theorem chkB_zero {l : List Edt} (h : (chkB l).2 = 0) : (1 ≤ l.length ∧ l.length ≤ 40) ∧ ∀ e ∈ l,goodN e = 0:=by
  unfold chkB at h;split at h
  · cases h
  · exact ⟨by omega,chkF_zero l 0 h⟩
theorem chkB_good {l : List Edt} (h : (chkB l).2 = 0) : chkB l = (-9,0):=chkB_no (by have:=(chkB_zero h).1;omega) (chkB_zero h).2
theorem chkB_cases (l : List Edt) : (chkB l = (-9,0) ∧ (1 ≤ l.length ∧ l.length ≤ 40) ∧ ∀ e ∈ l,goodN e = 0) ∨ chkB l = (-9,1) ∨ ∃ (i : Nat) (n : Int),n ≠ 0 ∧ chkB l = ((i : Int),n):=by
  by_cases h : (chkB l).2 = 0
  · exact .inl ⟨chkB_good h,chkB_zero h⟩
  · by_cases h1 : l.length < 1 ∨ 40 < l.length
    · exact .inr (.inl (chkB_rng h1))
    · refine .inr (.inr ?_);have h2 : chkB l = chkF 0 l:=if_neg h1;rw [h2] at h ⊢;clear h1 h2;have key : ∀ (l : List Edt) (k : Nat),(chkF (k : Int) l).2 ≠ 0 → ∃ (i : Nat) (n : Int),n ≠ 0 ∧ chkF (k : Int) l = ((i : Int),n):=by
        intro l
        induction l with
        | nil=>intro k h;exact absurd rfl h
        | cons x r ih =>
          intro k h;unfold chkF at h ⊢;split at h
          · rename_i hg;rw [if_pos hg];exact ⟨k,_,hg,rfl⟩
          · rename_i hg;rw [if_neg hg];exact ih (k + 1) h
      exact key l 0 h
theorem take_good {l : List Edt} {i : Nat} (h : i < l.length) (ht : ∀ e ∈ l.take i,goodN e = 0) (hb : goodN (l.getD i ((0 : Int),(0 : Int),([] : List Fld))) = 0) : ∀ e ∈ l.take (i + 1),goodN e = 0:=by
  rw [← yH ((0 : Int),(0 : Int),([] : List Fld)) h];intro e he;rcases List.mem_append.1 he with he|he
  · exact ht e he
  · rw [List.mem_singleton.1 he];exact hb
def oneN (L : Lst) (e : Edt) : Int :=
  if e.1 = 1 then (if atE L.1 e.2.1 < 0 then 7 else (chkR e.2.2).2)
  else if e.1 = 2 then (if atE L.1 e.2.1 < 0 then 7 else 0)
  else if atE L.1 e.2.1 < 0 ∧ e.2.1 ≠ 0 then 7 else if (chkR e.2.2).2 ≠ 0 then (chkR e.2.2).2 else if 400 ≤ L.2.2 then 11 else 0
def newN (L : Lst) (e : Edt) : Int:=if e.1 = 1 ∨ e.1 = 2 then 0 else if oneN L e = 0 then L.2.1 else 0
def batK (k : Int) (L : Lst) : List Edt → Int × Int
  | []=>(-9,0)
  | x :: r=>if oneN L x ≠ 0 then (k,oneN L x) else batK (k + 1) (doL L x) r
def doR (L : Lst) (s : List Edt) : Int × Int:=if (chkB s).2 ≠ 0 then chkB s else batK 0 L s
def idsT (L : Lst) (s : List Edt) (i : Nat) : List Int:=((List.range i).map fun j=>newN (yG L s j) (s.getD j ((0 : Int),(0 : Int),([] : List Fld)))).filter posI
theorem idsT_snoc (L : Lst) (s : List Edt) (i : Nat) : idsT L s (i + 1) = idsT L s i ++ if 0 < newN (yG L s i) (s.getD i ((0 : Int),(0 : Int),([] : List Fld))) then [newN (yG L s i) (s.getD i ((0 : Int),(0 : Int),([] : List Fld)))] else []:=by
  unfold idsT;rw [List.range_succ,List.map_append,List.filter_append]
  congr 1
  simp only [List.map_cons,List.map_nil,List.filter_cons,List.filter_nil,posI,decide_eq_true_eq]
theorem idsT_len (L : Lst) (s : List Edt) (i : Nat) : (idsT L s i).length ≤ i:=by
  unfold idsT;have:=List.length_filter_le posI ((List.range i).map fun j=>newN (yG L s j) (s.getD j ((0 : Int),(0 : Int),([] : List Fld))));rw [List.length_map,List.length_range] at this;exact this
theorem batK_cases : ∀ (s : List Edt) (L : Lst) (k : Nat),(batK k L s = (-9,0) ∧ ∀ j,j < s.length → oneN (yG L s j) (s.getD j ((0 : Int),(0 : Int),([] : List Fld))) = 0) ∨
    ∃ (i : Nat),i < s.length ∧ batK k L s = (((k + i : Nat) : Int),oneN (yG L s i) (s.getD i ((0 : Int),(0 : Int),([] : List Fld)))) ∧ oneN (yG L s i) (s.getD i ((0 : Int),(0 : Int),([] : List Fld))) ≠ 0 ∧ ∀ j,j < i → oneN (yG L s j) (s.getD j ((0 : Int),(0 : Int),([] : List Fld))) = 0
  | [],_,_=>.inl ⟨rfl,fun j h=>by simp at h⟩
  | x :: r,L,k=>by
    by_cases h0 : oneN L x = 0
    · have e : batK k L (x :: r) = batK ((k + 1 : Nat) : Int) (doL L x) r:=by
        conv=>lhs;unfold batK
        rw [if_neg (by rw [h0];decide)];rfl
      rw [e];rcases batK_cases r (doL L x) (k + 1) with ⟨h1,h2⟩|⟨i,hi,h1,h2,h3⟩
      · refine .inl ⟨h1,fun j hj=>?_⟩;cases j with
        | zero=>exact h0
        | succ j=>exact h2 j (by simpa using hj)
      · refine .inr ⟨i + 1,by simpa using hi,?_,h2,fun j hj=>?_⟩
        · rw [h1];show (((k + 1 + i : Nat) : Int),_) = (((k + (i + 1) : Nat) : Int),oneN (yG (doL L x) r i) (r.getD i ((0 : Int),(0 : Int),([] : List Fld))))
          congr 1
          omega
        · cases j with
          | zero=>exact h0
          | succ j=>exact h3 j (by omega)
    · refine .inr ⟨0,by simp,?_,h0,fun j hj=>by omega⟩;unfold batK;rw [if_pos h0];rfl
theorem doR_cases (L : Lst) (s : List Edt) (hc : (chkB s).2 = 0) : (doR L s = (-9,0) ∧ ∀ j,j < s.length → oneN (yG L s j) (s.getD j ((0 : Int),(0 : Int),([] : List Fld))) = 0) ∨
    ∃ (i : Nat),i < s.length ∧ doR L s = ((i : Int),oneN (yG L s i) (s.getD i ((0 : Int),(0 : Int),([] : List Fld)))) ∧ oneN (yG L s i) (s.getD i ((0 : Int),(0 : Int),([] : List Fld))) ≠ 0 ∧ ∀ j,j < i → oneN (yG L s j) (s.getD j ((0 : Int),(0 : Int),([] : List Fld))) = 0:=by
  unfold doR;rw [if_neg (fun h=>h hc)];rcases batK_cases s L 0 with h|⟨i,h1,h2,h3⟩
  · exact .inl h
  · refine .inr ⟨i,h1,?_,h3⟩;rw [Nat.zero_add] at h2;exact h2
theorem ref_one {c : Nat} {L : Lst} (h : LOk c L) (e : Edt) :
    (e.1 = 1 → (refRep (L.1,L.2.1) e.2.1 e.2.2).2.2 = oneN L e ∧ ((refRep (L.1,L.2.1) e.2.1 e.2.2).1 = ((doL L e).1,(doL L e).2.1))) ∧
    (e.1 = 2 → (refDel (L.1,L.2.1) e.2.1).2 = oneN L e ∧ ((refDel (L.1,L.2.1) e.2.1).1 = ((doL L e).1,(doL L e).2.1))) ∧
    (e.1 ≠ 1 → e.1 ≠ 2 → (refIns (L.1,L.2.1) e.2.1 e.2.2).2.2.2 = oneN L e ∧ (refIns (L.1,L.2.1) e.2.1 e.2.2).2.1 = newN L e ∧ ((refIns (L.1,L.2.1) e.2.1 e.2.2).1 = ((doL L e).1,(doL L e).2.1))):=by
  have hmany:=h.many;have hids:=ids_len L.1;refine ⟨fun h1=>?_,fun h2=>?_,fun h1 h2=>?_⟩
  · unfold refRep oneN doL;simp only [if_pos h1]
    by_cases h3 : atE L.1 e.2.1 < 0
    · simp [h3]
    · by_cases h4 : (chkR e.2.2).2 ≠ 0
      · simp [h3,h4]
      · simp only [if_neg h3,if_neg h4];exact ⟨(Classical.not_not.1 h4).symm,trivial⟩
  · unfold refDel oneN doL;simp only [h2,if_neg (show ¬ (2 : Int) = 1 by decide),if_pos]
    by_cases h3 : atE L.1 e.2.1 < 0
    · simp [h3]
    · simp [h3]
  · unfold refIns newN oneN doL;simp only [if_neg h1,if_neg h2,if_neg (show ¬ (e.1 = 1 ∨ e.1 = 2) from fun h=>h.elim h1 h2)]
    by_cases h3 : atE L.1 e.2.1 < 0 ∧ e.2.1 ≠ 0
    · simp only [if_pos h3];simp
    · by_cases h4 : (chkR e.2.2).2 ≠ 0
      · simp only [if_neg h3,if_pos h4];simp [h4]
      · by_cases h5 : 400 ≤ L.2.2
        · have h6 : 400 ≤ ((L.1.filter live).length : Int):=by omega
          simp only [if_neg h3,if_neg h4,if_pos h5,if_pos h6];simp
        · have h6 : ¬ 400 ≤ ((L.1.filter live).length : Int):=by omega
          simp only [if_neg h3,if_neg h4,if_neg h5,if_neg h6];simp
end Q
end Ab
end Go.Proofs.YtpfkncffaanjcaaGreatDoor
namespace Go.Proofs.YtpfkncffaanjcaaGreatDoor.As
open Go.RowKit Go.Extern.Stop Go.Stop Go.Extern
theorem valueOf27 (t : Addr) (w : World) : (ReflectliteValue.unpack (.iface 193 (.pointer (some t)))).run Tryz.prog w
    = .ok (.agg #[.pointer (some ⟨4,193,none⟩),.pointer (some ⟨w.heap.size,0,none⟩),.int .u64 150]) (w.alloc (.cells #[.pointer (some t)] 193)):=by kernel_rfl
theorem type27 (a : Addr) (w : World) : (ReflectliteValue.methodAny (ReflectliteValue.valueError "reflectlite.Value.Type" 0) (fun t _ _ _ => ReflectliteType.toType t) #[.agg #[.pointer (some ⟨4, 193, none⟩), .pointer (some a), .int .u64 150]]).run Tryz.prog w
    = .ok (.iface 239 (.agg #[.pointer (some ⟨4,193,none⟩)])) w:=by kernel_rfl
theorem methodKind (h : Value) (w : World) : (Go.method 409 239 (.agg #[h]) "Kind").run Tryz.prog w = .ok (223, h) w := by kernel_rfl
theorem kind27 (w : World) : ((ReflectliteType.abiMethod fun t=>(fun a : Nat=>Value.int IntKind.u8 (a : Int)) <$> Rtype.kind t) #[.pointer (some ⟨4,193,none⟩)]).run Tryz.prog w = .ok (.int .u8 22) w:=by kernel_rfl
theorem kind25 (w : World) : ((ReflectliteType.abiMethod fun t=>(fun a : Nat=>Value.int IntKind.u8 (a : Int)) <$> Rtype.kind t) #[.pointer (some ⟨4,93,none⟩)]).run Tryz.prog w = .ok (.int .u8 22) w:=by kernel_rfl
theorem rlm (z : Sem Value) (f : TypeId → Addr → Nat → Nat → Sem Value) (v : Value) :
    ReflectliteValue.method z f #[v] = (do match ← ReflectliteValue.parts v with|none=>z|some (t,a,fl)=>f t a fl (fl % 32)):=rfl
theorem parts27 (a : Addr) (w : World) : (ReflectliteValue.parts (.agg #[.pointer (some ⟨4,193,none⟩),.pointer (some a),.int .u64 150])).run Tryz.prog w = .ok (some (193,a,150)) w:=by kernel_rfl
theorem isNil27 (a p : Addr) (W : World) (ha : W.cell? a = some (.pointer (some p))) :
    (ReflectliteValue.method (ReflectliteValue.valueError "reflectlite.Value.IsNil" 0) ReflectliteValue.isNil #[.agg #[.pointer (some ⟨4, 193, none⟩), .pointer (some a), .int .u64 150]]).run Tryz.prog W = .ok (.bool false) W := by
  rw [rlm];simp only [Sem.run_bind,parts27,Result.andThen];simp [ReflectliteValue.isNil,loadVar,isAgg,underlying,Tryz.underlying193,ha,Result.andThen]
theorem methodElem (h : Value) (w : World) : (Go.method 409 239 (.agg #[h]) "Elem").run Tryz.prog w = .ok (236, .agg #[h]) w := by kernel_rfl
theorem methodImplements (h : Value) (w : World) : (Go.method 409 239 (.agg #[h]) "Implements").run Tryz.prog w = .ok (237, .agg #[h]) w := by kernel_rfl
theorem methodAssignableTo (h : Value) (w : World) : (Go.method 409 239 (.agg #[h]) "AssignableTo").run Tryz.prog w = .ok (234, .agg #[h]) w := by kernel_rfl
theorem elem27 (w : World) : (ReflectliteType.method ReflectliteType.elem #[.agg #[.pointer (some ⟨4,193,none⟩)]]).run Tryz.prog w = .ok (.iface 239 (.agg #[.pointer (some ⟨4,93,none⟩)])) w:=by kernel_rfl
theorem implements25 (w : World) : (ReflectliteType.relation "Implements" ReflectliteType.implements_ #[.agg #[.pointer (some ⟨4, 93, none⟩)], .iface 239 (.agg #[.pointer (some ⟨4, 34, none⟩)])]).run Tryz.prog w = .ok (.bool true) w := by kernel_rfl
theorem typeOf25 (v : Value) (w : World) : (ReflectliteType.typeOf #[.iface 93 v]).run Tryz.prog w = .ok (.iface 239 (.agg #[.pointer (some ⟨4,93,none⟩)])) w:=by kernel_rfl
theorem assignable25 (w : World) : (ReflectliteType.relation "AssignableTo" ReflectliteType.assignableTo #[.agg #[.pointer (some ⟨4, 93, none⟩)], .iface 239 (.agg #[.pointer (some ⟨4, 93, none⟩)])]).run Tryz.prog w = .ok (.bool true) w := by kernel_rfl
theorem valueOf25 (e : Addr) (w : World) : (ReflectliteValue.unpack (.iface 93 (.pointer (some e)))).run Tryz.prog w
    = .ok (.agg #[.pointer (some ⟨4,93,none⟩),.pointer (some ⟨w.heap.size,0,none⟩),.int .u64 150]) (w.alloc (.cells #[.pointer (some e)] 93)):=by kernel_rfl
theorem elemOf27 (w : World) : (Rtype.elem? 193).run Tryz.prog w = .ok (some 93) w:=by kernel_rfl
theorem mk25 (p : Addr) (w : World) : (ReflectliteValue.mk 93 p ReflectliteValue.flagAddr).run Tryz.prog w = .ok (.agg #[.pointer (some ⟨4,93,none⟩),.pointer (some p),.int .u64 406]) w:=by kernel_rfl
theorem elemV27 (a p : Addr) (W : World) (ha : W.cell? a = some (.pointer (some p))) :
    (ReflectliteValue.method (ReflectliteValue.valueError "reflectlite.Value.Elem" 0) ReflectliteValue.elem #[.agg #[.pointer (some ⟨4, 193, none⟩), .pointer (some a), .int .u64 150]]).run Tryz.prog W
      = .ok (.agg #[.pointer (some ⟨4,93,none⟩),.pointer (some p),.int .u64 406]) W:=by
  rw [rlm];simp only [Sem.run_bind,parts27,Result.andThen];simp [ReflectliteValue.elem,loadVar,isAgg,underlying,Tryz.underlying193,ha,Result.andThen,elemOf27,mk25]
theorem rls (v x : Value) : ReflectliteValue.set #[v,x] = (do
    let (some (dst,a,fl),some (src,b,_)):=(← ReflectliteValue.parts v,← ReflectliteValue.parts x)
      | unsupported (.noEntry "extern/(internal/reflectlite.Value).Set.zeroValue")
    if fl / ReflectliteValue.flagAddr % 2 == 0 then unsupported (.noEntry "extern/(internal/reflectlite.Value).Set.unaddressable")
    let val ← loadVar src b
    if ← Rtype.directlyAssignable dst src then storeVar dst a val
    else if ← Rtype.implements dst src then
      if (← Rtype.kind src) == 20 then
        match val with
        | .nilIface => unsupported (.noEntry "extern/reflectlite: a nil value of one interface type handed on as a value of another")
        | _=>storeVar dst a val
      else storeVar dst a (.iface src val)
    else panicString ("reflectlite.Set: value of type " ++ (← Rtype.spelt src) ++ " is not assignable to type " ++ (← Rtype.spelt dst))
    pure (.tuple #[])):=rfl
theorem parts25a (a : Addr) (w : World) : (ReflectliteValue.parts (.agg #[.pointer (some ⟨4,93,none⟩),.pointer (some a),.int .u64 406])).run Tryz.prog w = .ok (some (93,a,406)) w:=by kernel_rfl
theorem parts25 (a : Addr) (w : World) : (ReflectliteValue.parts (.agg #[.pointer (some ⟨4,93,none⟩),.pointer (some a),.int .u64 150])).run Tryz.prog w = .ok (some (93,a,150)) w:=by kernel_rfl
theorem direct25 (w : World) : (Rtype.directlyAssignable 93 93).run Tryz.prog w = .ok true w:=by kernel_rfl
theorem set25 (ta b e : Addr) (old : Value) (W : World) (hb : W.cell? b = some (.pointer (some e))) (ht : W.cell? ta = some old) (hf : W.frozen? ta = false) :
    (ReflectliteValue.set #[.agg #[.pointer (some ⟨4,93,none⟩),.pointer (some ta),.int .u64 406],.agg #[.pointer (some ⟨4,93,none⟩),.pointer (some b),.int .u64 150]]).run Tryz.prog W
      = .ok (.tuple #[]) (W.setCell ta (.pointer (some e))):=by
  rw [rls];simp only [Sem.run_bind,parts25a,parts25,Result.andThen];simp [ReflectliteValue.flagAddr,loadVar,isAgg,underlying,Tryz.underlying93,hb,Result.andThen,direct25,storeVar,Value.cells,storeCells,Addr.add];rw [run_store Tryz.prog W ta _ _ (by rfl)];simp [ht,hf]
theorem typeOfN (v : Value) (w : World) : (ReflectliteType.typeOf #[.iface 59 v]).run Tryz.prog w = .ok (.iface 239 (.agg #[.pointer (some ⟨4,59,none⟩)])) w:=by kernel_rfl
theorem assignableN (w : World) : (ReflectliteType.relation "AssignableTo" ReflectliteType.assignableTo #[.agg #[.pointer (some ⟨4, 59, none⟩)], .iface 239 (.agg #[.pointer (some ⟨4, 93, none⟩)])]).run Tryz.prog w = .ok (.bool false) w := by kernel_rfl
theorem noAs (v : Value) (xT : TypeId) (w : World) : (Instr.typeAssert (.iface 59 v) xT 244 true).run Tryz.prog w = .ok (.tuple #[.nilIface,.bool false]) w:=run_typeAssert_lacksB Tryz.underlying244 (by kernel_rfl) (by kernel_rfl) v xT w
theorem noUnwrap (v : Value) (xT : TypeId) (w : World) : (Instr.typeAssert (.iface 59 v) xT 247 true).run Tryz.prog w = .ok (.tuple #[.nilIface,.bool false]) w:=run_typeAssert_lacksB Tryz.underlying247 (by kernel_rfl) (by kernel_rfl) v xT w
theorem noUnwraps (v : Value) (xT : TypeId) (w : World) : (Instr.typeAssert (.iface 59 v) xT 248 true).run Tryz.prog w = .ok (.tuple #[.nilIface,.bool false]) w:=run_typeAssert_lacksB Tryz.underlying248 (by kernel_rfl) (by kernel_rfl) v xT w
set_option maxHeartbeats 4000000 in
theorem as_hit (e t : Addr) (old : Value) (w : World) (hg : w.cell? ⟨0,0,none⟩ = some (.iface 239 (.agg #[.pointer (some ⟨4,34,none⟩)]))) (ht0 : w.cell? t = some old) (hf0 : w.frozen? t = false) :
    Calls Tryz.prog 121 #[.iface 93 (.pointer (some e)),.iface 193 (.pointer (some t))] w fun ev w'=>ev = .returned (.bool true) ∧ w' = ((((w.alloc (.cells #[.pointer (some t)] 193)).alloc (.cells #[.pointer (some ⟨4,193,none⟩),.pointer (some ⟨w.heap.size,0,none⟩),.int .u64 150] 222)).alloc (.cells #[.pointer (some ⟨4,193,none⟩),.pointer (some ⟨w.heap.size,0,none⟩),.int .u64 150] 222)).alloc (.cells #[.pointer (some e)] 93)).setCell t (.pointer (some e)):=by
  have h6 := @run_callFunc_extern Tryz.prog 150 _ (fun args => ReflectliteValue.unpack (args.getD 0 (.tuple #[]))) Tryz.func150 (by kernel_rfl) (by kernel_rfl) (by kernel_rfl) (by kernel_rfl);have h7 := @run_callFunc_extern Tryz.prog 151 _ (ReflectliteValue.methodAny (ReflectliteValue.valueError "reflectlite.Value.Type" 0) (fun t _ _ _ => ReflectliteType.toType t)) Tryz.func151 (by kernel_rfl) (by kernel_rfl) (by kernel_rfl) (by kernel_rfl);have h8 := @run_callFunc_extern Tryz.prog 152 _ (ReflectliteValue.method (ReflectliteValue.valueError "reflectlite.Value.IsNil" 0) ReflectliteValue.isNil) Tryz.func152 (by kernel_rfl) (by kernel_rfl) (by kernel_rfl) (by kernel_rfl);have h27 := @run_callFunc_extern Tryz.prog 223 _ (ReflectliteType.abiMethod fun t => do pure (.int .u8 (← Rtype.kind t))) Tryz.func223 (by kernel_rfl) (by kernel_rfl) (by kernel_rfl) (by kernel_rfl);have h37 := @run_callFunc_extern Tryz.prog 236 _ (ReflectliteType.method ReflectliteType.elem) Tryz.func236 (by kernel_rfl) (by kernel_rfl) (by kernel_rfl) (by kernel_rfl);have h38 := @run_callFunc_extern Tryz.prog 237 _ (ReflectliteType.relation "Implements" ReflectliteType.implements_) Tryz.func237 (by kernel_rfl) (by kernel_rfl) (by kernel_rfl) (by kernel_rfl);have h10 := @run_callFunc_extern Tryz.prog 166 _ ReflectliteType.typeOf Tryz.func166 (by kernel_rfl) (by kernel_rfl) (by kernel_rfl) (by kernel_rfl);have h35 := @run_callFunc_extern Tryz.prog 234 _ (ReflectliteType.relation "AssignableTo" ReflectliteType.assignableTo) Tryz.func234 (by kernel_rfl) (by kernel_rfl) (by kernel_rfl) (by kernel_rfl);have h11 := @run_callFunc_extern Tryz.prog 167 _ (ReflectliteValue.method (ReflectliteValue.valueError "reflectlite.Value.Elem" 0) ReflectliteValue.elem) Tryz.func167 (by kernel_rfl) (by kernel_rfl) (by kernel_rfl) (by kernel_rfl);have h12 := @run_callFunc_extern Tryz.prog 168 _ ReflectliteValue.set Tryz.func168 (by kernel_rfl) (by kernel_rfl) (by kernel_rfl) (by kernel_rfl);have tO := typeOf25;have mA := methodAssignableTo;have a25 := assignable25;have v25 := valueOf25;have f6 := valueOf27;have f7 := type27;have mK := methodKind;have mE := methodElem;have mI := methodImplements;have k27 := kind27;have k25 := kind25;have e27 := elem27;have i25 := implements25;have n8 := isNil27 ⟨w.heap.size, 0, none⟩ t ((w.alloc (.cells #[.pointer (some t)] 193)).alloc (.cells #[.pointer (some ⟨4, 193, none⟩), .pointer (some ⟨w.heap.size, 0, none⟩), .int .u64 150] 222)) (by simp);have hlt : 0 < w.heap.size := by
    rcases Nat.lt_or_ge 0 w.heap.size with h|h
    · exact h
    · simp [World.cell?,Array.getElem?_eq_none h] at hg
  have hg2 : ((w.alloc (.cells #[.pointer (some t)] 193)).alloc (.cells #[.pointer (some ⟨4,193,none⟩),.pointer (some ⟨w.heap.size,0,none⟩),.int .u64 150] 222)).cell? ⟨0,0,none⟩ = some (.iface 239 (.agg #[.pointer (some ⟨4,34,none⟩)])):=by
    rw [World.cell?_alloc_lt _ _ ⟨0,0,none⟩ (by simp),World.cell?_alloc_lt _ _ ⟨0,0,none⟩ hlt];exact hg
  have htl : t.block < w.heap.size:=by
    rcases Nat.lt_or_ge t.block w.heap.size with h|h
    · exact h
    · simp [World.cell?,Array.getElem?_eq_none h] at ht0
  have el:=elemV27 ⟨w.heap.size,0,none⟩ t (((w.alloc (.cells #[.pointer (some t)] 193)).alloc (.cells #[.pointer (some ⟨4,193,none⟩),.pointer (some ⟨w.heap.size,0,none⟩),.int .u64 150] 222)).alloc (.cells #[.pointer (some ⟨4,193,none⟩),.pointer (some ⟨w.heap.size,0,none⟩),.int .u64 150] 222)) (by rw [World.cell?_alloc_lt _ _ ⟨w.heap.size,0,none⟩ (by simp;omega)];simp);have st:=set25 t ⟨w.heap.size + 1 + 1 + 1,0,none⟩ e old ((((w.alloc (.cells #[.pointer (some t)] 193)).alloc (.cells #[.pointer (some ⟨4,193,none⟩),.pointer (some ⟨w.heap.size,0,none⟩),.int .u64 150] 222)).alloc (.cells #[.pointer (some ⟨4,193,none⟩),.pointer (some ⟨w.heap.size,0,none⟩),.int .u64 150] 222)).alloc (.cells #[.pointer (some e)] 93))
    (by rw [World.cell?_alloc_at _ _ _ _ (by simp)];rfl)
    (by rw [World.cell?_alloc_lt _ _ t (by simp;omega),World.cell?_alloc_lt _ _ t (by simp;omega),World.cell?_alloc_lt _ _ t (by simp;omega),World.cell?_alloc_lt _ _ t htl];exact ht0)
    (by rw [World.frozen?_alloc_old _ _ t (by simp;omega),World.frozen?_alloc_old _ _ t (by simp;omega),World.frozen?_alloc_old _ _ t (by simp;omega),World.frozen?_alloc_old _ _ t (Nat.ne_of_lt htl)];exact hf0)
  go_enter Tryz.func121,Tryz.ntmps121
  go_wp2
  refine wp_loop_rounds 1 ?_;rw [rounds_succ]
  go_wp2
  go_ret
  exact ⟨rfl,rfl⟩
set_option maxHeartbeats 4000000 in
theorem as_miss (v : Value) (t : Addr) (old : Value) (w : World) (hg : w.cell? ⟨0,0,none⟩ = some (.iface 239 (.agg #[.pointer (some ⟨4,34,none⟩)]))) (ht0 : w.cell? t = some old) (_ : w.frozen? t = false) :
    Calls Tryz.prog 121 #[.iface 59 v,.iface 193 (.pointer (some t))] w fun ev w'=>ev = .returned (.bool false) ∧ w' = ((w.alloc (.cells #[.pointer (some t)] 193)).alloc (.cells #[.pointer (some ⟨4,193,none⟩),.pointer (some ⟨w.heap.size,0,none⟩),.int .u64 150] 222)).alloc (.cells #[.pointer (some ⟨4,193,none⟩),.pointer (some ⟨w.heap.size,0,none⟩),.int .u64 150] 222):=by
  have h6 := @run_callFunc_extern Tryz.prog 150 _ (fun args => ReflectliteValue.unpack (args.getD 0 (.tuple #[]))) Tryz.func150 (by kernel_rfl) (by kernel_rfl) (by kernel_rfl) (by kernel_rfl);have h7 := @run_callFunc_extern Tryz.prog 151 _ (ReflectliteValue.methodAny (ReflectliteValue.valueError "reflectlite.Value.Type" 0) (fun t _ _ _ => ReflectliteType.toType t)) Tryz.func151 (by kernel_rfl) (by kernel_rfl) (by kernel_rfl) (by kernel_rfl);have h8 := @run_callFunc_extern Tryz.prog 152 _ (ReflectliteValue.method (ReflectliteValue.valueError "reflectlite.Value.IsNil" 0) ReflectliteValue.isNil) Tryz.func152 (by kernel_rfl) (by kernel_rfl) (by kernel_rfl) (by kernel_rfl);have h27 := @run_callFunc_extern Tryz.prog 223 _ (ReflectliteType.abiMethod fun t => do pure (.int .u8 (← Rtype.kind t))) Tryz.func223 (by kernel_rfl) (by kernel_rfl) (by kernel_rfl) (by kernel_rfl);have h37 := @run_callFunc_extern Tryz.prog 236 _ (ReflectliteType.method ReflectliteType.elem) Tryz.func236 (by kernel_rfl) (by kernel_rfl) (by kernel_rfl) (by kernel_rfl);have h38 := @run_callFunc_extern Tryz.prog 237 _ (ReflectliteType.relation "Implements" ReflectliteType.implements_) Tryz.func237 (by kernel_rfl) (by kernel_rfl) (by kernel_rfl) (by kernel_rfl);have h10 := @run_callFunc_extern Tryz.prog 166 _ ReflectliteType.typeOf Tryz.func166 (by kernel_rfl) (by kernel_rfl) (by kernel_rfl) (by kernel_rfl);have h35 := @run_callFunc_extern Tryz.prog 234 _ (ReflectliteType.relation "AssignableTo" ReflectliteType.assignableTo) Tryz.func234 (by kernel_rfl) (by kernel_rfl) (by kernel_rfl) (by kernel_rfl);have h11 := @run_callFunc_extern Tryz.prog 167 _ (ReflectliteValue.method (ReflectliteValue.valueError "reflectlite.Value.Elem" 0) ReflectliteValue.elem) Tryz.func167 (by kernel_rfl) (by kernel_rfl) (by kernel_rfl) (by kernel_rfl);have h12 := @run_callFunc_extern Tryz.prog 168 _ ReflectliteValue.set Tryz.func168 (by kernel_rfl) (by kernel_rfl) (by kernel_rfl) (by kernel_rfl);have tO := typeOfN;have q1 := noAs;have q2 := noUnwrap;have q3 := noUnwraps;have mA := methodAssignableTo;have a25 := assignableN;have v25 := valueOf25;have f6 := valueOf27;have f7 := type27;have mK := methodKind;have mE := methodElem;have mI := methodImplements;have k27 := kind27;have k25 := kind25;have e27 := elem27;have i25 := implements25;have n8 := isNil27 ⟨w.heap.size, 0, none⟩ t ((w.alloc (.cells #[.pointer (some t)] 193)).alloc (.cells #[.pointer (some ⟨4, 193, none⟩), .pointer (some ⟨w.heap.size, 0, none⟩), .int .u64 150] 222)) (by simp);have hlt : 0 < w.heap.size := by
    rcases Nat.lt_or_ge 0 w.heap.size with h|h
    · exact h
    · simp [World.cell?,Array.getElem?_eq_none h] at hg
  have hg2 : ((w.alloc (.cells #[.pointer (some t)] 193)).alloc (.cells #[.pointer (some ⟨4,193,none⟩),.pointer (some ⟨w.heap.size,0,none⟩),.int .u64 150] 222)).cell? ⟨0,0,none⟩ = some (.iface 239 (.agg #[.pointer (some ⟨4,34,none⟩)])):=by
    rw [World.cell?_alloc_lt _ _ ⟨0,0,none⟩ (by simp),World.cell?_alloc_lt _ _ ⟨0,0,none⟩ hlt];exact hg
  have htl : t.block < w.heap.size:=by
    rcases Nat.lt_or_ge t.block w.heap.size with h|h
    · exact h
    · simp [World.cell?,Array.getElem?_eq_none h] at ht0
  have el:=elemV27 ⟨w.heap.size,0,none⟩ t (((w.alloc (.cells #[.pointer (some t)] 193)).alloc (.cells #[.pointer (some ⟨4,193,none⟩),.pointer (some ⟨w.heap.size,0,none⟩),.int .u64 150] 222)).alloc (.cells #[.pointer (some ⟨4,193,none⟩),.pointer (some ⟨w.heap.size,0,none⟩),.int .u64 150] 222)) (by rw [World.cell?_alloc_lt _ _ ⟨w.heap.size,0,none⟩ (by simp;omega)];simp)
  go_enter Tryz.func121,Tryz.ntmps121
  go_wp2
  refine wp_loop_rounds 1 ?_;rw [rounds_succ]
  go_wp2
  go_ret
  exact ⟨rfl,rfl⟩
end Go.Proofs.YtpfkncffaanjcaaGreatDoor.As
namespace Go.Proofs.YtpfkncffaanjcaaGreatDoor
open Go.RowKit
namespace Ab
set_option maxRecDepth 100000
namespace Q
theorem errCell {ok : Oks} {w : World} (h : GlobAt ok w) : w.cell? ⟨0,0,none⟩ = some (.iface 239 (.agg #[.pointer (some ⟨3 + 1,34,none⟩)])):=h.2.2.2
theorem as_hit' {n0 : Nat} (e t : Addr) (old : Value) (w : World) (hg : w.cell? ⟨0,0,none⟩ = some (.iface 239 (.agg #[.pointer (some ⟨3 + 1,34,none⟩)]))) (ht : w.cell? t = some old) (hf : w.frozen? t = false) (h0 : n0 ≤ t.block) (h1 : n0 ≤ w.heap.size) :
    Calls Tryz.prog 121 #[.iface 93 (.pointer (some e)),.iface 193 (.pointer (some t))] w fun ev w'=>ev = .returned (.bool true) ∧ Below n0 w w' ∧ w'.cell? t = some (.pointer (some e)):=by
  have htl : t.block < w.heap.size:=by
    rcases Nat.lt_or_ge t.block w.heap.size with h|h
    · exact h
    · simp [World.cell?,Array.getElem?_eq_none h] at ht
  refine (As.as_hit e t old w hg ht hf).mono ?_
  rintro ev w' ⟨rfl,rfl⟩
  have hb:=((((Below.refl n0 w).alloc h1 (.cells #[.pointer (some t)] 193)).alloc (by simp;omega) (.cells #[.pointer (some ⟨3 + 1,193,none⟩),.pointer (some ⟨w.heap.size,0,none⟩),.int .u64 150] 222)).alloc (by simp;omega) (.cells #[.pointer (some ⟨3 + 1,193,none⟩),.pointer (some ⟨w.heap.size,0,none⟩),.int .u64 150] 222)).alloc (by simp;omega) (.cells #[.pointer (some e)] 93);refine ⟨rfl,hb.setCell h0 _,World.cell?_setCell_same _ _ _ (u:=old) ?_⟩;rw [World.cell?_alloc_lt _ _ t (by simp;omega),World.cell?_alloc_lt _ _ t (by simp;omega),World.cell?_alloc_lt _ _ t (by simp;omega),World.cell?_alloc_lt _ _ t htl];exact ht
theorem as_miss' {n0 : Nat} (v : Value) (t : Addr) (old : Value) (w : World) (hg : w.cell? ⟨0,0,none⟩ = some (.iface 239 (.agg #[.pointer (some ⟨3 + 1,34,none⟩)]))) (ht : w.cell? t = some old) (hf : w.frozen? t = false) (h1 : n0 ≤ w.heap.size) :
    Calls Tryz.prog 121 #[.iface 59 v,.iface 193 (.pointer (some t))] w fun ev w'=>ev = .returned (.bool false) ∧ Below n0 w w':=by
  refine (As.as_miss v t old w hg ht hf).mono ?_
  rintro ev w' ⟨rfl,rfl⟩
  exact ⟨rfl,(((Below.refl n0 w).alloc h1 _).alloc (by simp;omega) _).alloc (by simp;omega) _⟩
set_option maxHeartbeats 4000000 in
theorem bareN_calls (v : Value) (w : World) (hg : w.cell? ⟨0,0,none⟩ = some (.iface 239 (.agg #[.pointer (some ⟨3 + 1,34,none⟩)]))) (hlt : 0 < w.heap.size) :
    Calls Tryz.prog 86 #[.iface 59 v] w fun e w'=>e = .returned (.iface 59 v) ∧ Below w.heap.size w w':=by
  have hgA : (w.alloc (.cells #[.pointer none] 93)).cell? ⟨0,0,none⟩ = some (.iface 239 (.agg #[.pointer (some ⟨3 + 1,34,none⟩)])):=by
    rw [World.cell?_alloc_lt _ _ ⟨0,0,none⟩ hlt];exact hg
  have htA : (w.alloc (.cells #[.pointer none] 93)).cell? ⟨w.heap.size,0,none⟩ = some (.pointer none):=by simp
  have hfA : (w.alloc (.cells #[.pointer none] 93)).frozen? ⟨w.heap.size,0,none⟩ = false:=by simp
  have hbA : Below w.heap.size w (w.alloc (.cells #[.pointer none] 93)):=(Below.refl _ w).alloc (Nat.le_refl _) _
  go_enter Tryz.func86,Tryz.ntmps86
  go_wp2_with (go_at_call 121;refine (as_miss' (n0:=w.heap.size) v _ _ _ hgA htA hfA (by simp)).mono ?_;rintro e w' ⟨rfl,hb⟩)
  go_ret
  exact ⟨rfl,hbA.trans hb⟩
set_option maxHeartbeats 4000000 in
theorem bareF_calls (b off : Nat) (x : Value) (w : World) (hg : w.cell? ⟨0,0,none⟩ = some (.iface 239 (.agg #[.pointer (some ⟨3 + 1,34,none⟩)]))) (hlt : 0 < w.heap.size) (hx : w.cell? ⟨b,off + 1,none⟩ = some x) :
    Calls Tryz.prog 86 #[.iface 93 (.pointer (some ⟨b,off,none⟩))] w fun e w'=>e = .returned x ∧ Below w.heap.size w w':=by
  have hgA : (w.alloc (.cells #[.pointer none] 93)).cell? ⟨0,0,none⟩ = some (.iface 239 (.agg #[.pointer (some ⟨3 + 1,34,none⟩)])):=by
    rw [World.cell?_alloc_lt _ _ ⟨0,0,none⟩ hlt];exact hg
  have htA : (w.alloc (.cells #[.pointer none] 93)).cell? ⟨w.heap.size,0,none⟩ = some (.pointer none):=by simp
  have hfA : (w.alloc (.cells #[.pointer none] 93)).frozen? ⟨w.heap.size,0,none⟩ = false:=by simp
  have hbA : Below w.heap.size w (w.alloc (.cells #[.pointer none] 93)):=(Below.refl _ w).alloc (Nat.le_refl _) _
  go_enter Tryz.func86,Tryz.ntmps86
  go_wp2_with (go_at_call 121;refine (as_hit' (n0:=w.heap.size) ⟨b,off,none⟩ _ _ _ hgA htA hfA (by simp) (by simp)).mono ?_;rintro e w' ⟨rfl,hb,hc⟩;have hx2 : w'.cell? ⟨b,off + 1,none⟩ = some x:=cell_later (hbA.trans hb) hx)
  go_ret
  exact ⟨rfl,hbA.trans hb⟩
theorem bareN_c (n : Int) : qT Tryz.prog 86 [.one (errN n)] (.one (errN n)):=by
  refine ⟨⟨_,Tryz.func86,rfl,rfl⟩,fun ok w vs hg hvs=>?_⟩;obtain ⟨v,t,rfl,hv,ht⟩:=hvs;rw [show t = [] from ht,show v = _ from hv];exact (bareN_calls (.int .i64 n) w (errCell hg) (Nat.lt_of_lt_of_le (by decide) hg.2.1)).mono fun e w' ⟨he,hb⟩=>⟨_,he,hb,rfl⟩
theorem bareF_c (a n : Int) : qT Tryz.prog 86 [.one (errF a n)] (.one (errN n)):=by
  refine ⟨⟨_,Tryz.func86,rfl,rfl⟩,fun ok w vs hg hvs=>?_⟩;obtain ⟨v,t,rfl,⟨u,rfl,b,off,cs,rfl,_,hlt,hc,hr⟩,ht⟩:=hvs;obtain ⟨c,d,rfl,h1,h2⟩:=hr;rw [show t = [] from ht];have hx : w.cell? ⟨b,off + 1,none⟩ = some (.iface 59 (.int .i64 n)):=by
    rw [hc.2 1 (by decide),show c = _ from h1,show d = _ from h2.1];rfl
  exact (bareF_calls b off _ w (errCell hg) (Nat.lt_of_lt_of_le (by decide) hg.2.1) hx).mono fun e w' ⟨he,hb⟩=>⟨_,he,hb,rfl⟩
end Q
end Ab
end Go.Proofs.YtpfkncffaanjcaaGreatDoor
namespace Go.Proofs.YtpfkncffaanjcaaGreatDoor
open Go.RowKit
namespace Ab
set_option maxRecDepth 100000
abbrev rItm3 : Rd Itm:=rItm.kd 3
namespace Q
end Q
end Ab
end Go.Proofs.YtpfkncffaanjcaaGreatDoor
namespace Go.Proofs.YtpfkncffaanjcaaGreatDoor
open Go.RowKit
namespace Ab
set_option maxRecDepth 100000
namespace Q
theorem a1_parse7 : xF ⟨#[65,58,32,49,10]⟩ = .inr [(3,⟨#[65,58,32,49,10]⟩,[(⟨#[65]⟩,⟨#[49]⟩)])]:=by decide +kernel
def al0 : List Ent:=[((3,⟨#[65,58,32,49,10]⟩,[(⟨#[65]⟩,⟨#[49]⟩)]),1)]
def alF : List Fld:=[(⟨#[66]⟩,⟨#[50]⟩)]
def al1 : List Ent:=insE al0 0 (xH alF,2)
structure SeenI (es : List Ent) (n : Int) (i : Nat) (sn : List Bool) : Prop where
  le : i ≤ (stzL es).length
  len : sn.length = n.toNat
  seen : ∀ k : Nat,sn.getD k false = true → ∃ j,j < i ∧ ((stzL es).getD j ((0 : Int),([] : List Fld))).1 = k
theorem SeenI.next {es : List Ent} {n : Int} {i : Nat} {sn : List Bool} (h : SeenI es n i sn) (hi : i < (stzL es).length) (hp : 0 < ((stzL es).getD i ((0 : Int),([] : List Fld))).1) : SeenI es n (i + 1) (sn.set (((stzL es).getD i ((0 : Int),([] : List Fld))).1).toNat true):=by
  refine ⟨hi,by rw [List.length_set];exact h.len,fun k hk=>?_⟩
  by_cases e : (((stzL es).getD i ((0 : Int),([] : List Fld))).1).toNat = k
  · exact ⟨i,Nat.lt_succ_self _,by omega⟩
  · rw [List.getD_eq_getElem?_getD,List.getElem?_set_ne e,← List.getD_eq_getElem?_getD] at hk;obtain ⟨j,hj,h2⟩:=h.seen k hk;exact ⟨j,by omega,h2⟩
theorem lsvec_eq {L M : Lst} (h : M = L) : some (Ob.vec 111 rEnt L.1) = some (Ob.vec 111 rEnt M.1):=by rw [h]
theorem doL_n (L : Lst) (e : Edt) (h : e.1 = 1 ∨ e.1 = 2) : (doL L e).2.1 = L.2.1:=by
  unfold doL;rcases h with h|h
  · rw [if_pos h]
    repeat' (first|rfl|split)
  · rw [if_neg (by omega),if_pos h]
    repeat' (first|rfl|split)
abbrev rStz3 : Rd Stz:=rStz.kd 3
def goodA (x : Edt) : C:=if x.1 = 2 then (if 0 < x.2.2.length then errN 2 else .lit .nilIface) else if x.1 = 1 ∨ x.1 = 3 then chkA x.2.2 else errN 2
theorem goodA_cases (x : Edt) : (goodN x = 0 ∧ goodA x = .lit .nilIface) ∨ (∃ n,n ≠ 0 ∧ goodN x = n ∧ goodA x = errN n) ∨ ∃ a n,n ≠ 0 ∧ goodN x = n ∧ goodA x = errF a n:=by
  unfold goodN goodA
  by_cases h2 : x.1 = 2
  · simp only [if_pos h2]
    by_cases h3 : 0 < x.2.2.length
    · simp only [if_pos h3];exact .inr (.inl ⟨2,by decide,rfl,rfl⟩)
    · simp only [if_neg h3];exact .inl ⟨trivial,trivial⟩
  · simp only [if_neg h2]
    by_cases h3 : x.1 = 1 ∨ x.1 = 3
    · simp only [if_pos h3]
      by_cases hc : (chkR x.2.2).2 = 0
      · exact .inl ⟨hc,(chk_good hc).2.2⟩
      · obtain ⟨e,he,hs⟩:=chk_bad hc;rcases hs with ⟨n,hn,rfl,hr⟩|⟨i,n,hn,rfl,hr⟩
        · exact .inr (.inl ⟨n,hn,by rw [hr],he⟩)
        · exact .inr (.inr ⟨i,n,hn,by rw [hr],he⟩)
    · simp only [if_neg h3];exact .inr (.inl ⟨2,by decide,rfl,rfl⟩)
theorem goodA_2 {x : Edt} (h : x.1 = 2) (h3 : 0 < x.2.2.length) : goodA x = errN 2:=by unfold goodA;rw [if_pos h,if_pos h3]
theorem goodA_20 {x : Edt} (h : x.1 = 2) (h3 : ¬ 0 < x.2.2.length) : goodA x = .lit .nilIface:=by unfold goodA;rw [if_pos h,if_neg h3]
theorem goodA_13 {x : Edt} (h : x.1 = 1 ∨ x.1 = 3) : goodA x = chkA x.2.2:=by unfold goodA;rw [if_neg (by omega),if_pos h]
theorem goodA_no {x : Edt} (h : x.1 ≠ 2) (h3 : ¬ (x.1 = 1 ∨ x.1 = 3)) : goodA x = errN 2:=by unfold goodA;rw [if_neg h,if_neg h3]
theorem chkA_cases (l : List Fld) : chkA l = .lit .nilIface ∨ (∃ n,chkA l = errN n) ∨ ∃ a n,chkA l = errF a n:=by
  unfold chkA;split
  · exact .inl rfl
  · split
    · exact .inr (.inl ⟨_,rfl⟩)
    · exact .inr (.inr ⟨_,_,rfl⟩)
theorem good_c {κ : Nat} (x : Edt) (hf : qW x.2.2) : qT Tryz.prog 81 [.agg (toL (rEdk κ) x)] (.one (goodA x)):=by
  refine qQ (rs:=[2]) Tryz.func81 rfl rfl rfl teOk rfl ?_;refine qC ?_;refine qB ?_;refine qC ?_;refine qC ?_;refine qB ?_;refine qN ?_;refine qC ?_;refine qB ?_;refine qJ rfl (fun h5=>?_) (fun h5=>?_)
  ·try simp only [decide_eq_true_eq] at h5
   try simp only [zds] at h5
   refine qC ?_;refine qC ?_;refine qB ?_;intro l3_2
   try simp only [zds] at l3_2
   refine qJ rfl (fun h10=>?_) (fun h10=>?_)
   ·try simp only [decide_eq_true_eq] at h10
    try simp only [zds] at h10
    refine qC ?_;refine qB ?_;refine qM ?_;rw [goodA_2 h5 (by omega)];rfl
   ·try simp only [decide_eq_false_iff_not,Int.not_lt] at h10
    try simp only [zds] at h10
    refine qL ?_;refine qC ?_;refine qB ?_;refine qM ?_;rw [goodA_20 h5 (by omega)];rfl
  ·try simp only [decide_eq_false_iff_not] at h5
   try simp only [zds] at h5
   refine qC ?_;refine qC ?_;refine qB ?_;refine qJ rfl (fun h12=>?_) (fun h12=>?_)
   ·try simp only [decide_eq_true_eq] at h12
    try simp only [zds] at h12
    refine qL ?_;refine qJ rfl (fun h12=>?_) (fun h12=>?_)
    ·try simp only [decide_eq_true_eq] at h12
     try simp only [zds] at h12
     refine qC ?_;have hk:=pcheck_c (κ:=κ) x.2.2 hf ; rcases chkA_cases x.2.2 with hA|⟨n,hA⟩|⟨a,n,hA⟩ <;> rw [hA] at hk
     ·refine qB ?_;refine Or.inl ?_;refine zai (rfl) ?_;refine zei _ (zai (hk) ?_);refine qM ?_;rw [goodA_13 (by omega),hA];rfl
     ·refine qB ?_;refine Or.inl ?_;refine zai (rfl) ?_;refine zei _ (zai (hk) ?_);refine qM ?_;rw [goodA_13 (by omega),hA];rfl
     ·refine qB ?_;refine Or.inl ?_;refine zai (rfl) ?_;refine zei _ (zai (hk) ?_);refine qM ?_;rw [goodA_13 (by omega),hA];rfl
    ·try simp only [decide_eq_false_iff_not] at h12
     try simp only [zds] at h12
     omega
   ·try simp only [decide_eq_false_iff_not] at h12
    try simp only [zds] at h12
    refine qB ?_;refine qJ rfl (fun h12=>?_) (fun h12=>?_)
    ·try simp only [decide_eq_true_eq] at h12
     try simp only [zds] at h12
     refine qC ?_;have hk:=pcheck_c (κ:=κ) x.2.2 hf ; rcases chkA_cases x.2.2 with hA|⟨n,hA⟩|⟨a,n,hA⟩ <;> rw [hA] at hk
     ·refine qB ?_;refine Or.inl ?_;refine zai (rfl) ?_;refine zei _ (zai (hk) ?_);refine qM ?_;rw [goodA_13 (by omega),hA];rfl
     ·refine qB ?_;refine Or.inl ?_;refine zai (rfl) ?_;refine zei _ (zai (hk) ?_);refine qM ?_;rw [goodA_13 (by omega),hA];rfl
     ·refine qB ?_;refine Or.inl ?_;refine zai (rfl) ?_;refine zei _ (zai (hk) ?_);refine qM ?_;rw [goodA_13 (by omega),hA];rfl
    ·try simp only [decide_eq_false_iff_not] at h12
     try simp only [zds] at h12
     skip
     refine qL ?_;refine qC ?_;refine qB ?_;refine qM ?_;rw [goodA_no (by omega) (by omega)];rfl
theorem faultN_c (i n : Int) : qT Tryz.prog 53 [ii .i64 i,.one (errN n)] (.one (errF i n)):=by
  refine qQ (rs:=[4]) Tryz.func53 rfl rfl rfl teOk rfl ?_;refine qC ?_;refine qB ?_;refine qC ?_;refine qB ?_;refine Or.inl ?_;refine zai (rfl) ?_;refine zei _ (zai (bareN_c n) ?_);refine qM ?_;rfl
theorem faultF_c (i a n : Int) : qT Tryz.prog 53 [ii .i64 i,.one (errF a n)] (.one (errF i n)):=by
  refine qQ (rs:=[4]) Tryz.func53 rfl rfl rfl teOk rfl ?_;refine qC ?_;refine qB ?_;refine qC ?_;refine qB ?_;refine Or.inl ?_;refine zai (rfl) ?_;refine zei _ (zai (bareF_c a n) ?_);refine qM ?_;rfl
def erB (p : Int × Int) : C:=if p.2 = 0 then .lit .nilIface else if p.1 = -9 then errN p.2 else errF p.1 p.2
theorem erB_z : erB (-9,0) = .lit .nilIface:=rfl
theorem erB_n {n : Int} (h : n ≠ 0) : erB (-9,n) = errN n:=by unfold erB;rw [if_neg h,if_pos rfl]
theorem erB_f {i : Nat} {n : Int} (h : n ≠ 0) : erB ((i : Int),n) = errF i n:=by unfold erB;rw [if_neg h,if_neg (show ¬ (i : Int) = -9 by omega)]
theorem check_c9 {κ κ' : Nat} (s : List Edt) (hf : ∀ e ∈ s,qW e.2.2) (hl : s.length ≤ 1000000) : qT Tryz.prog 50 [.one (.slk κ (rEdk κ') s)] (.one (erB (chkB s))):=by
  refine qQ (rs:=[2]) Tryz.func50 rfl rfl rfl teOk rfl ?_;refine qC ?_;refine qB ?_;refine qC ?_;refine qC ?_;refine qB ?_;intro l1_1
  try simp only [zds] at l1_1
  refine zai (fun h=>trivial) ?_;refine zai (fun h=>⟨⟨h,trivial⟩,trivial⟩) ?_;refine zai (fun h=>⟨⟨h,trivial⟩,trivial⟩) ?_;refine zai (by first|(intro h;rw [h];rfl)|(intro h;cases h)) ?_;refine qJ rfl (fun h13=>?_) (fun h13=>?_)
  ·try simp only [decide_eq_true_eq,Bool.or_eq_true] at h13
   try simp only [zds] at h13
   refine qC ?_;refine qB ?_;refine qM ?_;rw [chkB_rng (by omega),erB_n (by decide)];rfl
  ·try simp only [decide_eq_false_iff_not,Bool.or_eq_false_iff,Int.not_lt] at h13
   try simp only [zds] at h13
   refine qL ?_;refine qC ?_;refine qC ?_;refine qB ?_;intro l3_1
   try simp only [zds] at l3_1
   refine qN ?_;refine qR (fun (i : Nat)=>i ≤ s.length ∧ ∀ e ∈ s.take i,goodN e = 0) (fun (i : Nat)=>[(15,.one (.slk κ (rEdk κ') s)),(16,ii .i64 s.length),(17,ii .i64 i)]) (fun (i : Nat)=>[]) 0 (fun (i : Nat)=>s.length - i) 0 (⟨Nat.zero_le _,by simp⟩) (qP ⟨rfl,rfl,rfl⟩ trivial rfl) ?_;intro i hI0;obtain ⟨hi,hall⟩:=hI0;refine qC ?_;refine qB ?_;refine qC ?_;refine qJ rfl (fun h18=>?_) (fun h18=>?_)
   ·try simp only [decide_eq_true_eq] at h18
    try simp only [zds] at h18
    have hlt : i < s.length:=(by omega);have hm:=hf _ (yF hlt ((0 : Int),(0 : Int),([] : List Fld)));have hg:=good_c (κ:=κ') (s.getD i ((0 : Int),(0 : Int),([] : List Fld))) hm;refine qL ?_;refine qC ?_;refine qN ?_;refine qC ?_;refine qB ?_;refine zai (by first|omega|assumption|decide|(simp only [zds];omega)|(simp <;> omega)) ?_;refine qC ?_;rcases goodA_cases (s.getD i ((0 : Int),(0 : Int),([] : List Fld))) with ⟨hz,hA⟩|⟨n,hn,hz,hA⟩|⟨a,n,hn,hz,hA⟩ <;> rw [hA] at hg
    ·refine qB ?_;refine Or.inl ?_;refine zai (rfl) ?_;refine zei _ (zai (hg) ?_);refine qC ?_;refine qB ?_;refine qJ rfl (fun h25=>?_) (fun h25=>?_)
     ·try simp only [Bool.not_eq_true'] at h25
      try simp only [zds] at h25
      cases h25
     ·try simp only [Bool.not_eq_false'] at h25
      try simp only [zds] at h25
      refine qL ?_;refine qB ?_;refine zai (by first|omega|assumption|decide|(simp only [zds];omega)|(simp <;> omega)) ?_;exact ⟨i + 1,⟨by omega,take_good hlt hall hz⟩,by first|omega|(simp <;> omega),qP ⟨rfl,rfl,(qS (by omega))⟩ trivial rfl⟩
    ·refine qB ?_;refine Or.inl ?_;refine zai (rfl) ?_;refine zei _ (zai (hg) ?_);refine qC ?_;refine qB ?_;refine qJ rfl (fun h25=>?_) (fun h25=>?_)
     ·skip
      refine qC ?_;refine qB ?_;refine Or.inl ?_;refine zai (rfl) ?_;refine zei _ (zai (faultN_c i n) ?_);refine qM ?_;rw [chkB_at (by omega) hlt hall (by rw [hz];exact hn),hz,erB_f hn];rfl
     ·try simp only [zbq] at h25
      try simp only [zds] at h25
      cases h25
    ·refine qB ?_;refine Or.inl ?_;refine zai (rfl) ?_;refine zei _ (zai (hg) ?_);refine qC ?_;refine qB ?_;refine qJ rfl (fun h25=>?_) (fun h25=>?_)
     ·skip
      refine qC ?_;refine qB ?_;refine Or.inl ?_;refine zai (rfl) ?_;refine zei _ (zai (faultF_c i a n) ?_);refine qM ?_;rw [chkB_at (by omega) hlt hall (by rw [hz];exact hn),hz,erB_f hn];rfl
     ·try simp only [zbq] at h25
      try simp only [zds] at h25
      cases h25
   ·try simp only [decide_eq_false_iff_not,Int.not_lt] at h18
    try simp only [zds] at h18
    refine qV ?_;refine qC ?_;refine qB ?_;refine qM ?_;rw [List.take_of_length_le (by omega)] at hall;rw [chkB_no (by omega) hall,erB_z];rfl
theorem refGood9_c (x : Edt) (hf : qW x.2.2) : qT Tryz.prog 87 [.agg (toL rEdt x)] (ii .i64 (goodN x)):=by
  have hk:=refChk_c x.2.2 hf;refine qQ (rs:=[2]) Tryz.func87 rfl rfl rfl teOk rfl ?_;refine qC ?_;refine qB ?_;refine qC ?_;refine qC ?_;refine qB ?_;refine zai (fun h=>trivial) ?_;refine zai (fun h=>⟨⟨h,trivial⟩,trivial⟩) ?_;refine zai (fun h=>⟨⟨h,trivial⟩,trivial⟩) ?_;refine zai (by first|(intro h;rw [h];rfl)|(intro h;cases h)) ?_;refine zai (fun h=>trivial) ?_;refine zai (fun h=>⟨⟨h,trivial⟩,trivial⟩) ?_;refine zai (fun h=>⟨⟨h,trivial⟩,trivial⟩) ?_;refine zai (fun h=>⟨⟨h,trivial⟩,trivial⟩) ?_;refine zai (fun h=>trivial) ?_;refine zai (fun h=>⟨⟨h,trivial⟩,trivial⟩) ?_;refine zai (fun h=>⟨⟨h,trivial⟩,trivial⟩) ?_;refine zai (fun h=>⟨⟨h,trivial⟩,trivial⟩) ?_;refine zai (fun h=>⟨⟨⟨h,trivial⟩,trivial⟩,by first|exact fun h2=>h2|(intro h2;rw [h,h2];rfl)|(intro h2;cases h2)|(intro h2;simp_all [gq])⟩) ?_;refine zai (by first|(intro h;rw [h];rfl)|(intro h;cases h)) ?_;refine qJ rfl (fun h23=>?_) (fun h23=>?_)
  ·try simp only [decide_eq_true_eq,Bool.and_eq_true,Bool.or_eq_true] at h23
   try simp only [zds] at h23
   refine qC ?_;refine qB ?_;refine qM ?_;exact qS (by unfold goodN;split <;> (try split) <;> omega)
  ·try simp only [decide_eq_false_iff_not,Bool.or_eq_false_iff,Bool.and_eq_false_iff,Int.not_lt] at h23
   try simp only [zds] at h23
   refine qL ?_;refine qC ?_;refine qC ?_;refine qB ?_;refine qJ rfl (fun h26=>?_) (fun h26=>?_)
   ·try simp only [decide_eq_true_eq] at h26
    try simp only [zds] at h26
    refine qC ?_;refine qB ?_;refine qM ?_;exact qS (by unfold goodN;rw [if_pos h26,if_neg (by omega)])
   ·try simp only [decide_eq_false_iff_not] at h26
    try simp only [zds] at h26
    refine qL ?_;refine qC ?_;refine qB ?_;refine Or.inl ?_;refine zai (rfl) ?_;refine zei _ (zai (hk) ?_);refine qC ?_;refine qB ?_;refine qM ?_;exact qS (by unfold goodN;rw [if_neg h26,if_pos (by omega)])
theorem refCheck9_c (s : List Edt) (hf : ∀ e ∈ s,qW e.2.2) (hl : s.length ≤ 1000000) : qT Tryz.prog 54 [.one (.sl rEdt s)] (.tup [(false,[.lit (.int .i64 (chkB s).1)]),(false,[.lit (.int .i64 (chkB s).2)])]):=by
  refine qQ (rs:=[2,3]) Tryz.func54 rfl rfl rfl teOk rfl ?_;refine qC ?_;refine qB ?_;refine qC ?_;refine qC ?_;refine qB ?_;intro l1_1
  try simp only [zds] at l1_1
  refine zai (fun h=>trivial) ?_;refine zai (fun h=>⟨⟨h,trivial⟩,trivial⟩) ?_;refine zai (fun h=>⟨⟨h,trivial⟩,trivial⟩) ?_;refine zai (by first|(intro h;rw [h];rfl)|(intro h;cases h)) ?_;refine qJ rfl (fun h13=>?_) (fun h13=>?_)
  ·try simp only [decide_eq_true_eq,Bool.or_eq_true] at h13
   try simp only [zds] at h13
   refine qC ?_;refine qB ?_;refine qM ?_;rw [chkB_rng (by omega)];rfl
  ·try simp only [decide_eq_false_iff_not,Bool.or_eq_false_iff,Int.not_lt] at h13
   try simp only [zds] at h13
   refine qL ?_;refine qC ?_;refine qC ?_;refine qB ?_;refine qN ?_;refine qR (fun (i : Nat)=>i ≤ s.length ∧ ∀ e ∈ s.take i,goodN e = 0) (fun (i : Nat)=>[(0,.one (.sl rEdt s)),(4,ii .i64 i)]) (fun (i : Nat)=>[]) 0 (fun (i : Nat)=>s.length - i) 0 (⟨Nat.zero_le _,by simp⟩) (qP ⟨rfl,rfl⟩ trivial rfl) ?_;intro i hI0;obtain ⟨hi,hall⟩:=hI0;refine qC ?_;refine qC ?_;refine qB ?_;intro l4_2
   try simp only [zds] at l4_2
   refine qJ rfl (fun h17=>?_) (fun h17=>?_)
   ·try simp only [decide_eq_true_eq] at h17
    try simp only [zds] at h17
    have hlt : i < s.length:=(by omega);have hm:=hf _ (yF hlt ((0 : Int),(0 : Int),([] : List Fld)));refine qL ?_;refine qC ?_;refine qN ?_;refine qC ?_;refine qB ?_;refine zai (by first|omega|assumption|decide|(simp only [zds];omega)|(simp <;> omega)) ?_;refine Or.inl ?_;refine zai (rfl) ?_;refine zei _ (zai (refGood9_c (s.getD i ((0 : Int),(0 : Int),([] : List Fld))) hm) ?_);refine qC ?_;refine qB ?_;refine qJ rfl (fun h26=>?_) (fun h26=>?_)
    ·try simp only [decide_eq_false_iff_not,Bool.not_eq_true'] at h26
     try simp only [zds] at h26
     refine qC ?_;refine qB ?_;refine qM ?_;rw [chkB_at (by omega) hlt hall (by omega)];rfl
    ·try simp only [decide_eq_true_eq,Bool.not_eq_false'] at h26
     try simp only [zds] at h26
     refine qL ?_;refine qB ?_;refine zai (by first|omega|assumption|decide|(simp only [zds];omega)|(simp <;> omega)) ?_;exact ⟨i + 1,⟨by omega,take_good hlt hall (by omega)⟩,by first|omega|(simp <;> omega),qP ⟨rfl,(qS (by omega))⟩ trivial rfl⟩
   ·try simp only [decide_eq_false_iff_not,Int.not_lt] at h17
    try simp only [zds] at h17
    refine qV ?_;refine qC ?_;refine qB ?_;refine qM ?_;rw [List.take_of_length_le (by omega)] at hall;rw [chkB_no (by omega) hall];rfl
theorem oneRep_z {κ : Nat} (L L' : Lst) (id : Int) (f : List Fld) (h : yA Tryz.prog 83 [.one (.own 0 0),ii .i64 id,.one (.slk κ rFld f)] (lsO L) 2 (.one (.lit .nilIface)) (lsO L') 2) : yA Tryz.prog 52 [.one (.own 0 0),.agg (toL (rEdk κ) ((1 : Int),id,f))] (lsO L) 2 (.tup [(false,[.lit (.int .i64 0)]),(false,[.lit .nilIface])]) (lsO L') 2:=by
  refine qY (rs:=[4,5]) Tryz.func52 rfl rfl rfl teOk (by decide) rfl ?_;refine qC ?_;refine qB ?_;refine qC ?_;refine qC ?_;refine qB ?_;refine qN ?_;refine qC ?_;refine qB ?_;refine qJ rfl (fun h8=>?_) (fun h8=>?_)
  ·try simp only [decide_eq_true_eq] at h8
   try simp only [zds] at h8
   refine qC ?_;refine qB ?_;refine Or.inr (Or.inl (zei [] (zei [0,1] (zei _ (zei _ (zei _ (zei _ (zei _ (zai (h) (zai rfl (zai (zai (zai rfl rfl) (zai (zai rfl rfl) True.intro)) (zai rfl ?_))))))))))));refine qM ?_;exact ⟨rfl,⟨rfl,rfl⟩,rfl⟩
  ·try simp only [decide_eq_false_iff_not] at h8
   try simp only [zds] at h8
   simp at h8
theorem oneDel_z {κ : Nat} (L L' : Lst) (id : Int) (f : List Fld) (h : yA Tryz.prog 84 [.one (.own 0 0),ii .i64 id] (lsO L) 2 (.one (.lit .nilIface)) (lsO L') 2) : yA Tryz.prog 52 [.one (.own 0 0),.agg (toL (rEdk κ) ((2 : Int),id,f))] (lsO L) 2 (.tup [(false,[.lit (.int .i64 0)]),(false,[.lit .nilIface])]) (lsO L') 2:=by
  refine qY (rs:=[4,5]) Tryz.func52 rfl rfl rfl teOk (by decide) rfl ?_;refine qC ?_;refine qB ?_;refine qC ?_;refine qC ?_;refine qB ?_;refine qN ?_;refine qC ?_;refine qB ?_;refine qJ rfl (fun h8=>?_) (fun h8=>?_)
  ·try simp only [decide_eq_true_eq] at h8
   try simp only [zds] at h8
   simp at h8
  ·try simp only [decide_eq_false_iff_not] at h8
   try simp only [zds] at h8
   refine qC ?_;refine qB ?_;refine qJ rfl (fun h16=>?_) (fun h16=>?_)
   ·try simp only [decide_eq_true_eq] at h16
    try simp only [zds] at h16
    refine qC ?_;refine qB ?_;refine Or.inr (Or.inl (zei [] (zei [0,1] (zei _ (zei _ (zei _ (zei _ (zei _ (zai (h) (zai rfl (zai (zai (zai rfl rfl) (zai (zai rfl rfl) True.intro)) (zai rfl ?_))))))))))));refine qM ?_;exact ⟨rfl,⟨rfl,rfl⟩,rfl⟩
   ·try simp only [decide_eq_false_iff_not] at h16
    try simp only [zds] at h16
    simp at h16
theorem oneIns_z {κ : Nat} (L L' : Lst) (k id m : Int) (f : List Fld) (h1 : k ≠ 1) (h2 : k ≠ 2) (h : yA Tryz.prog 85 [.one (.own 0 0),ii .i64 id,.one (.slk κ rFld f)] (lsO L) 2 (.tup [(false,[.lit (.int .i64 m)]),(false,[.lit .nilIface])]) (lsO L') 2) : yA Tryz.prog 52 [.one (.own 0 0),.agg (toL (rEdk κ) (k,id,f))] (lsO L) 2 (.tup [(false,[.lit (.int .i64 m)]),(false,[.lit .nilIface])]) (lsO L') 2:=by
  refine qY (rs:=[4,5]) Tryz.func52 rfl rfl rfl teOk (by decide) rfl ?_;refine qC ?_;refine qB ?_;refine qC ?_;refine qC ?_;refine qB ?_;refine qN ?_;refine qC ?_;refine qB ?_;refine qJ rfl (fun h8=>?_) (fun h8=>?_)
  ·try simp only [decide_eq_true_eq] at h8
   try simp only [zds] at h8
   exact absurd h8 h1
  ·try simp only [decide_eq_false_iff_not] at h8
   try simp only [zds] at h8
   refine qC ?_;refine qB ?_;refine qJ rfl (fun h16=>?_) (fun h16=>?_)
   ·try simp only [decide_eq_true_eq] at h16
    try simp only [zds] at h16
    exact absurd h16 h2
   ·try simp only [decide_eq_false_iff_not] at h16
    try simp only [zds] at h16
    refine qL ?_;refine qC ?_;refine qB ?_;refine Or.inr (Or.inl (zei [] (zei [0,1] (zei _ (zei _ (zei _ (zei _ (zei _ (zai (h) (zai rfl (zai (zai (zai rfl rfl) (zai (zai rfl rfl) True.intro)) (zai rfl ?_))))))))))));refine qM ?_;exact ⟨rfl,⟨rfl,rfl⟩,rfl⟩
theorem oneRep_n {κ : Nat} (L L' : Lst) (k9 : Int) (id : Int) (f : List Fld) (h : yA Tryz.prog 83 [.one (.own 0 0),ii .i64 id,.one (.slk κ rFld f)] (lsO L) 2 (.one (errN k9)) (lsO L') 2) : yA Tryz.prog 52 [.one (.own 0 0),.agg (toL (rEdk κ) ((1 : Int),id,f))] (lsO L) 2 (.tup [(false,[.lit (.int .i64 0)]),(false,[errN k9])]) (lsO L') 2:=by
  refine qY (rs:=[4,5]) Tryz.func52 rfl rfl rfl teOk (by decide) rfl ?_;refine qC ?_;refine qB ?_;refine qC ?_;refine qC ?_;refine qB ?_;refine qN ?_;refine qC ?_;refine qB ?_;refine qJ rfl (fun h8=>?_) (fun h8=>?_)
  ·try simp only [decide_eq_true_eq] at h8
   try simp only [zds] at h8
   refine qC ?_;refine qB ?_;refine Or.inr (Or.inl (zei [] (zei [0,1] (zei _ (zei _ (zei _ (zei _ (zei _ (zai (h) (zai rfl (zai (zai (zai rfl rfl) (zai (zai rfl rfl) True.intro)) (zai rfl ?_))))))))))));refine qM ?_;exact ⟨rfl,⟨rfl,rfl⟩,rfl⟩
  ·try simp only [decide_eq_false_iff_not] at h8
   try simp only [zds] at h8
   simp at h8
theorem oneDel_n {κ : Nat} (L L' : Lst) (k9 : Int) (id : Int) (f : List Fld) (h : yA Tryz.prog 84 [.one (.own 0 0),ii .i64 id] (lsO L) 2 (.one (errN k9)) (lsO L') 2) : yA Tryz.prog 52 [.one (.own 0 0),.agg (toL (rEdk κ) ((2 : Int),id,f))] (lsO L) 2 (.tup [(false,[.lit (.int .i64 0)]),(false,[errN k9])]) (lsO L') 2:=by
  refine qY (rs:=[4,5]) Tryz.func52 rfl rfl rfl teOk (by decide) rfl ?_;refine qC ?_;refine qB ?_;refine qC ?_;refine qC ?_;refine qB ?_;refine qN ?_;refine qC ?_;refine qB ?_;refine qJ rfl (fun h8=>?_) (fun h8=>?_)
  ·try simp only [decide_eq_true_eq] at h8
   try simp only [zds] at h8
   simp at h8
  ·try simp only [decide_eq_false_iff_not] at h8
   try simp only [zds] at h8
   refine qC ?_;refine qB ?_;refine qJ rfl (fun h16=>?_) (fun h16=>?_)
   ·try simp only [decide_eq_true_eq] at h16
    try simp only [zds] at h16
    refine qC ?_;refine qB ?_;refine Or.inr (Or.inl (zei [] (zei [0,1] (zei _ (zei _ (zei _ (zei _ (zei _ (zai (h) (zai rfl (zai (zai (zai rfl rfl) (zai (zai rfl rfl) True.intro)) (zai rfl ?_))))))))))));refine qM ?_;exact ⟨rfl,⟨rfl,rfl⟩,rfl⟩
   ·try simp only [decide_eq_false_iff_not] at h16
    try simp only [zds] at h16
    simp at h16
theorem oneIns_n {κ : Nat} (L L' : Lst) (k9 : Int) (k id m : Int) (f : List Fld) (h1 : k ≠ 1) (h2 : k ≠ 2) (h : yA Tryz.prog 85 [.one (.own 0 0),ii .i64 id,.one (.slk κ rFld f)] (lsO L) 2 (.tup [(false,[.lit (.int .i64 m)]),(false,[errN k9])]) (lsO L') 2) : yA Tryz.prog 52 [.one (.own 0 0),.agg (toL (rEdk κ) (k,id,f))] (lsO L) 2 (.tup [(false,[.lit (.int .i64 m)]),(false,[errN k9])]) (lsO L') 2:=by
  refine qY (rs:=[4,5]) Tryz.func52 rfl rfl rfl teOk (by decide) rfl ?_;refine qC ?_;refine qB ?_;refine qC ?_;refine qC ?_;refine qB ?_;refine qN ?_;refine qC ?_;refine qB ?_;refine qJ rfl (fun h8=>?_) (fun h8=>?_)
  ·try simp only [decide_eq_true_eq] at h8
   try simp only [zds] at h8
   exact absurd h8 h1
  ·try simp only [decide_eq_false_iff_not] at h8
   try simp only [zds] at h8
   refine qC ?_;refine qB ?_;refine qJ rfl (fun h16=>?_) (fun h16=>?_)
   ·try simp only [decide_eq_true_eq] at h16
    try simp only [zds] at h16
    exact absurd h16 h2
   ·try simp only [decide_eq_false_iff_not] at h16
    try simp only [zds] at h16
    refine qL ?_;refine qC ?_;refine qB ?_;refine Or.inr (Or.inl (zei [] (zei [0,1] (zei _ (zei _ (zei _ (zei _ (zei _ (zai (h) (zai rfl (zai (zai (zai rfl rfl) (zai (zai rfl rfl) True.intro)) (zai rfl ?_))))))))))));refine qM ?_;exact ⟨rfl,⟨rfl,rfl⟩,rfl⟩
theorem oneRep_f {κ : Nat} (L L' : Lst) (a9 k9 : Int) (id : Int) (f : List Fld) (h : yA Tryz.prog 83 [.one (.own 0 0),ii .i64 id,.one (.slk κ rFld f)] (lsO L) 2 (.one (errF a9 k9)) (lsO L') 2) : yA Tryz.prog 52 [.one (.own 0 0),.agg (toL (rEdk κ) ((1 : Int),id,f))] (lsO L) 2 (.tup [(false,[.lit (.int .i64 0)]),(false,[errF a9 k9])]) (lsO L') 2:=by
  refine qY (rs:=[4,5]) Tryz.func52 rfl rfl rfl teOk (by decide) rfl ?_;refine qC ?_;refine qB ?_;refine qC ?_;refine qC ?_;refine qB ?_;refine qN ?_;refine qC ?_;refine qB ?_;refine qJ rfl (fun h8=>?_) (fun h8=>?_)
  ·try simp only [decide_eq_true_eq] at h8
   try simp only [zds] at h8
   refine qC ?_;refine qB ?_;refine Or.inr (Or.inl (zei [] (zei [0,1] (zei _ (zei _ (zei _ (zei _ (zei _ (zai (h) (zai rfl (zai (zai (zai rfl rfl) (zai (zai rfl rfl) True.intro)) (zai rfl ?_))))))))))));refine qM ?_;exact ⟨rfl,⟨rfl,rfl⟩,rfl⟩
  ·try simp only [decide_eq_false_iff_not] at h8
   try simp only [zds] at h8
   simp at h8
theorem oneIns_f {κ : Nat} (L L' : Lst) (a9 k9 : Int) (k id m : Int) (f : List Fld) (h1 : k ≠ 1) (h2 : k ≠ 2) (h : yA Tryz.prog 85 [.one (.own 0 0),ii .i64 id,.one (.slk κ rFld f)] (lsO L) 2 (.tup [(false,[.lit (.int .i64 m)]),(false,[errF a9 k9])]) (lsO L') 2) : yA Tryz.prog 52 [.one (.own 0 0),.agg (toL (rEdk κ) (k,id,f))] (lsO L) 2 (.tup [(false,[.lit (.int .i64 m)]),(false,[errF a9 k9])]) (lsO L') 2:=by
  refine qY (rs:=[4,5]) Tryz.func52 rfl rfl rfl teOk (by decide) rfl ?_;refine qC ?_;refine qB ?_;refine qC ?_;refine qC ?_;refine qB ?_;refine qN ?_;refine qC ?_;refine qB ?_;refine qJ rfl (fun h8=>?_) (fun h8=>?_)
  ·try simp only [decide_eq_true_eq] at h8
   try simp only [zds] at h8
   exact absurd h8 h1
  ·try simp only [decide_eq_false_iff_not] at h8
   try simp only [zds] at h8
   refine qC ?_;refine qB ?_;refine qJ rfl (fun h16=>?_) (fun h16=>?_)
   ·try simp only [decide_eq_true_eq] at h16
    try simp only [zds] at h16
    exact absurd h16 h2
   ·try simp only [decide_eq_false_iff_not] at h16
    try simp only [zds] at h16
    refine qL ?_;refine qC ?_;refine qB ?_;refine Or.inr (Or.inl (zei [] (zei [0,1] (zei _ (zei _ (zei _ (zei _ (zei _ (zai (h) (zai rfl (zai (zai (zai rfl rfl) (zai (zai rfl rfl) True.intro)) (zai rfl ?_))))))))))));refine qM ?_;exact ⟨rfl,⟨rfl,rfl⟩,rfl⟩
theorem one_cases {κ c : Nat} {L : Lst} (h : LOk c L) (hc : c ≤ 200000) (e : Edt) (hf : qW e.2.2) :
    (oneN L e = 0 ∧ yA Tryz.prog 52 [.one (.own 0 0),.agg (toL (rEdk κ) e)] (lsO L) 2 (.tup [(false,[.lit (.int .i64 (newN L e))]),(false,[.lit .nilIface])]) (lsO (doL L e)) 2) ∨
    (∃ k9,k9 ≠ 0 ∧ oneN L e = k9 ∧ yA Tryz.prog 52 [.one (.own 0 0),.agg (toL (rEdk κ) e)] (lsO L) 2 (.tup [(false,[.lit (.int .i64 0)]),(false,[errN k9])]) (lsO L) 2) ∨
    (∃ a9 k9,k9 ≠ 0 ∧ oneN L e = k9 ∧ yA Tryz.prog 52 [.one (.own 0 0),.agg (toL (rEdk κ) e)] (lsO L) 2 (.tup [(false,[.lit (.int .i64 0)]),(false,[errF a9 k9])]) (lsO L) 2):=by
  obtain ⟨es,n,m⟩:=L;obtain ⟨k,id,f⟩:=e;have hmany:=h.many;have hnx:=h.next;have hln:=h.len;have hids:=ids_len es;have hil:=List.length_filter_le live es;simp only at hmany hnx hln hf;unfold newN oneN doL;simp only
  by_cases h1 : k = 1
  · subst h1;simp only [if_pos,true_or]
    by_cases h0 : atE es id < 0
    · simp only [if_pos h0];exact .inr (.inl ⟨7,by decide,rfl,oneRep_n _ _ 7 id f (lRep_no es n m id f h0)⟩)
    · simp only [if_neg h0]
      by_cases hck : (chkR f).2 ≠ 0
      · have hb:=lRep_bad (κ:=κ) es n m id f (by omega) hf hck;rcases chk_shape hck with ⟨k9,g1,g2,g3,g4⟩|⟨a9,k9,g1,g2,g3,g4⟩
        · rw [g1] at hb;exact .inr (.inl ⟨k9,g2,g4.symm,oneRep_n _ _ k9 id f hb⟩)
        · rw [g1] at hb;exact .inr (.inr ⟨a9,k9,g2,g4.symm,oneRep_f _ _ a9 k9 id f hb⟩)
      · have hck' : (chkR f).2 = 0:=Classical.not_not.1 hck;simp only [if_neg hck];obtain ⟨i,hi,he,_,_⟩:=at_lt h0;rw [he,Int.toNat_natCast];exact .inl ⟨hck',oneRep_z _ _ id f (lRep_ok es n m id f i hi he hf hck')⟩
  · by_cases h2 : k = 2
    · subst h2;simp only [if_neg (show ¬ (2 : Int) = 1 by decide),if_pos,or_true]
      by_cases h0 : atE es id < 0
      · simp only [if_pos h0];exact .inr (.inl ⟨7,by decide,rfl,oneDel_n _ _ 7 id f (lDel_no es n m id h0)⟩)
      · simp only [if_neg h0];obtain ⟨i,hi,he,_,_⟩:=at_lt h0;rw [he,Int.toNat_natCast];exact .inl ⟨trivial,oneDel_z _ _ id f (lDel_ok es n m id i hi he (by omega) (by omega))⟩
    · simp only [if_neg h1,if_neg h2,if_neg (show ¬ (k = 1 ∨ k = 2) from fun h=>h.elim h1 h2)]
      by_cases h0 : atE es id < 0 ∧ id ≠ 0
      · simp only [if_pos h0];exact .inr (.inl ⟨7,by decide,rfl,oneIns_n _ _ 7 k id 0 f h1 h2 (lIns_no es n m id f h0.1 h0.2)⟩)
      · simp only [if_neg h0]
        by_cases hck : (chkR f).2 ≠ 0
        · have hb:=lIns_bad (κ:=κ) es n m id f h0 hf hck;simp only [if_pos hck];rcases chk_shape hck with ⟨k9,g1,g2,g3,g4⟩|⟨a9,k9,g1,g2,g3,g4⟩
          · rw [g1] at hb;exact .inr (.inl ⟨k9,g2,g4.symm,oneIns_n _ _ k9 k id 0 f h1 h2 hb⟩)
          · rw [g1] at hb;exact .inr (.inr ⟨a9,k9,g2,g4.symm,oneIns_f _ _ a9 k9 k id 0 f h1 h2 hb⟩)
        · have hck' : (chkR f).2 = 0:=Classical.not_not.1 hck;simp only [if_neg hck]
          by_cases h4 : 400 ≤ m
          · simp only [if_pos h4];exact .inr (.inl ⟨11,by decide,rfl,oneIns_n _ _ 11 k id 0 f h1 h2 (lIns_full es n m id f h0 hf hck' h4)⟩)
          · simp only [if_neg h4];obtain ⟨j,hj,hje⟩ : ∃ j : Nat,j ≤ es.length ∧ atE es id + 1 = (j : Int):=by
              rcases at_cases es id with ⟨h1,_⟩|⟨i,h1,h2,_⟩
              · exact ⟨0,Nat.zero_le _,by omega⟩
              · exact ⟨i + 1,by omega,by omega⟩
            rw [hje,Int.toNat_natCast];exact .inl ⟨trivial,oneIns_z _ _ k id n f h1 h2 (lIns_ok es n m id f j hj h0 hje hf hck' (by omega) (by omega) (by omega))⟩
end Q
end Ab
end Go.Proofs.YtpfkncffaanjcaaGreatDoor
