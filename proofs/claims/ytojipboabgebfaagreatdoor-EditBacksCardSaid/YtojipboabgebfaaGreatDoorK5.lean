/-
  The texts of this proof, joined: abstract values, the library, the functions of the program and what they compute (part 5). No condition.
-/
import Derived.Lib.UnsafeStr
import Derived.Shelf.RegionOpenPlain
import Derived.Shelf.Spec.SlicesInsert
import Derived.Lib.AppendZerosOnto
import Derived.Laws.NewBlocks
import Derived.Test.YtojipboabgebfaaGreatDoorK1
import Derived.Test.YtojipboabgebfaaGreatDoorK2
import Derived.Test.YtojipboabgebfaaGreatDoorK3
import Derived.Test.YtojipboabgebfaaGreatDoorK4
namespace Go.Proofs.YtojipboabgebfaaGreatDoor
open Go.RowKit
namespace Ab
set_option maxRecDepth 100000
namespace Q
def linesB : Nat → List UInt8 → List (ByteArray × Bool)
  | 0,_=>[]
  | f + 1,s=>match s with
    | []=>[]
    | s=>(bytes (Lib.cut s [10]).1,(Lib.cut s [10]).2.2) :: linesB f (Lib.cut s [10]).2.1
theorem linesB_cons (f : Nat) (a : UInt8) (r : List UInt8) : linesB (f + 1) (a :: r) = (bytes (Lib.cut (a :: r) [10]).1,(Lib.cut (a :: r) [10]).2.2) :: linesB f (Lib.cut (a :: r) [10]).2.1:=rfl
theorem texts_linesR : ∀ (f : Nat) (tot no : Int) (s : List UInt8),(linesR f tot no s).map (·.2.2) = linesB f s
  | 0,_,_,_=>rfl
  | f + 1,_,_,[]=>rfl
  | f + 1,tot,no,a :: r=>by rw [linesR_cons,linesB_cons,List.map_cons,texts_linesR]
def glue : List (ByteArray × Bool) → List UInt8
  | []=>[]
  | l :: r=>ls l.1 ++ ((if l.2 then [10] else []) ++ glue r)
theorem cut_cases {a : UInt8} {s : List UInt8} {c : UInt8} : (∃ x b,a :: s = x ++ c :: b ∧ c ∉ x ∧ Lib.cut (a :: s) [c] = (x,b,true)) ∨ (c ∉ a :: s ∧ Lib.cut (a :: s) [c] = (a :: s,[],false)):=by
  by_cases hm : c ∈ a :: s
  · obtain ⟨x,b,e,hn⟩:=List.eq_append_cons_of_mem hm;exact .inl ⟨x,b,e,hn,by rw [e];exact cut_at hn⟩
  · exact .inr ⟨hm,cut_none hm⟩
theorem glue_lines : ∀ (f : Nat) (s : List UInt8),s.length ≤ f → glue (linesB f s) = s
  | 0,s,h=>by
    obtain rfl:=List.eq_nil_of_length_eq_zero (Nat.le_zero.1 h);rfl
  | f + 1,[],_=>rfl
  | f + 1,a :: r,h=>by
    have h3:=cut_less (r:=a :: r) (c:=10) (by simp);rw [linesB_cons];simp only [glue];rw [glue_lines f _ (by omega)];rcases cut_cases (a:=a) (s:=r) (c:=10) with ⟨x,b,e,_,hc⟩|⟨_,hc⟩
    · rw [hc,e];simp [yG]
    · rw [hc];simp [yG]
theorem linesB_no : ∀ (f : Nat) (s : List UInt8),∀ l ∈ linesB f s,(10 : UInt8) ∉ ls l.1
  | 0,_,l,hl=>by cases hl
  | f + 1,[],l,hl=>by cases hl
  | f + 1,a :: r,l,hl=>by
    rw [linesB_cons] at hl;rcases List.mem_cons.1 hl with rfl|hl
    · rcases cut_cases (a:=a) (s:=r) (c:=10) with ⟨x,b,e,hn,hc⟩|⟨hn,hc⟩
      · rw [hc];simpa [yG] using hn
      · rw [hc];simpa [yG] using hn
    · exact linesB_no f _ l hl
structure Rel (I : List Itm) (c : Int) (p q : PSt) : Prop where
  lns : p.lns = q.lns
  full : q.full = true → p.full = true
  its : p.its = I ++ q.its
  blk : p.blk = q.blk
  flds : p.flds = q.flds
  recs : p.recs = q.recs + c
  c0 : 0 ≤ c
  r4 : p.recs ≤ 400
  rf : p.flds ≠ [] → p.recs < 400
  rl : p.lns ≠ [] → p.full = false → p.recs < 400
section
variable {I : List Itm} {c : Int} {p q p1 : PSt}
theorem flush_lns (hf : yY p = .inr p1) : p1.lns = []:=by
  unfold yY at hf;split at hf
  · rename_i h;cases hf;exact h
  · split at hf
    · cases hf
    · split at hf
      · cases hf
      · cases hf;rfl
theorem flush_rel (h : Rel I c p q) (hf : yY p = .inr p1) : ∃ q1,yY q = .inr q1 ∧ Rel I c p1 q1:=by
  unfold yY at hf ⊢
  by_cases h0 : p.lns = []
  · rw [if_pos h0] at hf;cases hf;rw [if_pos (by rw [← h.lns];exact h0)];exact ⟨_,rfl,h⟩
  · rw [if_neg h0] at hf;rw [if_neg (by rw [← h.lns];exact h0),← h.lns];split at hf
    · cases hf
    · rename_i h1;rw [if_neg h1];split at hf
      · cases hf
      · rename_i h2;cases hf;have h3 : p.full = false:=by simpa using h2
        have h4 : ¬ q.full = true:=fun e=>h2 (h.full e)
        rw [if_neg h4];exact ⟨_,rfl,rfl,h.full,h.its,h.blk,by simp only [h.flds],h.recs,h.c0,h.r4,fun _=>h.rl h0 h3,fun e=>absurd rfl e⟩
theorem close_rel (h : Rel I c p q) (hl : p.lns = []) : Rel I c (xX p) (xX q):=by
  unfold xX;rw [← h.blk,← h.flds];split
  · exact ⟨h.lns,h.full,h.its,rfl,rfl,h.recs,h.c0,h.r4,fun e=>absurd rfl e,fun e=>absurd hl e⟩
  · by_cases hf : p.flds = []
    · simp only [if_pos hf];exact ⟨h.lns,h.full,by simp only [h.its,List.append_assoc],rfl,rfl,h.recs,h.c0,h.r4,fun e=>absurd rfl e,fun e=>absurd hl e⟩
    · have h1:=h.rf hf;have h2:=h.recs;simp only [if_neg hf];exact ⟨h.lns,h.full,by simp only [h.its,List.append_assoc],rfl,rfl,by simp only;omega,h.c0,by simp only;omega,fun e=>absurd rfl e,fun e=>absurd hl e⟩
theorem end_rel (h : Rel I c p q) (hf : endS p = .inr p1) : ∃ q1,endS q = .inr q1 ∧ Rel I c p1 q1:=by
  unfold endS at hf ⊢;cases e : yY p with
  | inl x=>rw [e] at hf;cases hf
  | inr r =>
    rw [e] at hf;cases hf;obtain ⟨q1,e1,h1⟩:=flush_rel h e;rw [e1];exact ⟨_,rfl,close_rel h1 (flush_lns e)⟩
theorem begin_rel {a b a' b' : Int} {t : ByteArray × Bool} (h : Rel I c p q) : Rel I c (xY p (a,b,t)) (xY q (a',b',t)):=by
  have h1:=h.recs;have h2:=h.c0;have h3:=h.r4;refine ⟨rfl,fun e=>?_,h.its,h.blk,h.flds,h.recs,h.c0,h.r4,h.rf,fun _ e=>?_⟩
  · simp only [xY,← h.flds,Bool.or_eq_true,Bool.and_eq_true,decide_eq_true_eq] at e ⊢;rcases e with e|⟨e1,e2⟩
    · exact .inl e
    · exact .inr ⟨e1,by omega⟩
  · simp only [xY,Bool.or_eq_false_iff,Bool.and_eq_false_iff,decide_eq_false_iff_not] at e ⊢
    by_cases hf : p.flds = []
    · rcases e.2 with e|e
      · rw [hf] at e;simp at e
      · omega
    · exact h.rf hf
theorem more_rel {t : ByteArray} (h : Rel I c p q) (h0 : p.lns ≠ []) : Rel I c { p with lns:=p.lns ++ [t] } { q with lns:=q.lns ++ [t] } :=
  ⟨by simp only [h.lns],h.full,h.its,h.blk,h.flds,h.recs,h.c0,h.r4,h.rf,fun _ e=>h.rl h0 e⟩
theorem ahead_rel {a b a' b' : Int} {t : ByteArray × Bool} {k : Int} (h : Rel I c p q) (hf : xA p (a,b,t) k = .inr p1) : ∃ q1,xA q (a',b',t) k = .inr q1 ∧ Rel I c p1 q1:=by
  unfold xA at hf ⊢;split at hf
  · rename_i hk;rw [if_pos hk]
    by_cases h0 : p.lns = []
    · rw [if_pos h0] at hf;cases hf
    · rw [if_neg h0] at hf;rw [if_neg (by rw [← h.lns];exact h0)];split at hf
      · rename_i he;rw [if_pos he];cases hf;exact ⟨_,rfl,more_rel h h0⟩
      · rename_i he;rw [if_neg he];exact flush_rel (more_rel h h0) hf
  · rename_i hk;rw [if_neg hk];split at hf
    · rename_i h1;rw [if_pos h1];exact end_rel h hf
    · rename_i h1;rw [if_neg h1];exact flush_rel h hf
theorem take_rel {a b a' b' : Int} {t : ByteArray × Bool} (h : Rel I c p q) (hf : xD p (a,b,t) = .inr p1) : ∃ q1,xD q (a',b',t) = .inr q1 ∧ Rel I c p1 q1:=by
  unfold xD at hf ⊢;simp only at hf ⊢;cases e : xA p (a,b,t) (yF (ls t.1)) with
  | inl x=>rw [e] at hf;cases hf
  | inr r =>
    rw [e] at hf;obtain ⟨r',e1,h1⟩:=ahead_rel (a':=a') (b':=b') h e;rw [e1];simp only at hf ⊢;unfold lineS at hf ⊢;split at hf
    · cases hf
    · rename_i g1;rw [if_neg g1];split at hf
      · rename_i g2;rw [if_pos g2];cases hf;exact ⟨_,rfl,h1.lns,h1.full,by simp only [h1.its,List.append_assoc],h1.blk,h1.flds,h1.recs,h1.c0,h1.r4,h1.rf,h1.rl⟩
      · rename_i g2;rw [if_neg g2];split at hf
        · rename_i g3;rw [if_pos g3];cases hf;have h2:=begin_rel (a:=a) (b:=b) (a':=a') (b':=b') (t:=t) h1;exact ⟨_,rfl,h2.lns,h2.full,h2.its,by simp only [h1.blk],h2.flds,h2.recs,h2.c0,h2.r4,h2.rf,h2.rl⟩
        · rename_i g3;rw [if_neg g3];cases hf;exact ⟨_,rfl,h1.lns,h1.full,h1.its,by simp only [h1.blk],h1.flds,h1.recs,h1.c0,h1.r4,h1.rf,h1.rl⟩
end
def szI (l : List Itm) : Nat:=(l.map (·.2.1.size)).sum
def szB (l : List ByteArray) : Nat:=(l.map (fun b=>b.size + 1)).sum
def rawN (p : PSt) : Nat:=szI p.its + szB p.blk
def Idle (p : PSt) : Prop:=p.lns = [] ∧ p.blk = [] ∧ p.flds = []
theorem szI_app (a b : List Itm) : szI (a ++ b) = szI a + szI b:=by simp [szI]
theorem szB_app (a b : List ByteArray) : szB (a ++ b) = szB a + szB b:=by simp [szB]
theorem join_eq (c : UInt8) : ∀ (l : List ByteArray),l ≠ [] → (Lib.join (l.map (·.data.toList)) [c]).length + 1 = szB l
  | [],h=>absurd rfl h
  | [a],_=>by
    rw [List.map_cons,List.map_nil,show Lib.join [a.data.toList] [c] = a.data.toList from by simp [Lib.join]];rw [← yD];simp [szB]
  | a :: b :: r,_=>by
    have:=join_eq c (b :: r) (by simp);rw [List.map_cons] at this;rw [List.map_cons,List.map_cons,join_two];simp only [List.length_append,List.length_cons,List.length_nil,szB,List.map_cons,List.sum_cons,← yD] at this ⊢;omega
theorem rawB_size {l : List ByteArray} (h : l ≠ []) : (rawB l).size = szB l:=by
  have:=join_eq 10 l h;unfold rawB;rw [ByteArray.size_append,yQ];exact this
theorem flush_same {p q : PSt} (h : yY p = .inr q) : q.its = p.its ∧ q.blk = p.blk:=by
  unfold yY at h;split at h
  · cases h;exact ⟨rfl,rfl⟩
  · split at h
    · cases h
    · split at h
      · cases h
      · cases h;exact ⟨rfl,rfl⟩
theorem close_took (p : PSt) : (∃ X,(xX p).its = p.its ++ X ∧ ∀ x ∈ X,x.1 ≠ 1) ∧ rawN (xX p) = rawN p ∧ (xX p).blk = [] ∧ (xX p).flds = [] ∧ (xX p).lns = p.lns:=by
  unfold xX;split
  · rename_i h;exact ⟨⟨[],by simp,by simp⟩,by simp [rawN,h],rfl,rfl,rfl⟩
  · rename_i h;refine ⟨⟨_,rfl,fun x hx=>?_⟩,?_,rfl,rfl,rfl⟩
    · rw [List.mem_singleton.1 hx];simp only;split <;> decide
    · simp only [rawN,szI_app];simp only [szI,List.map_cons,List.map_nil,List.sum_cons,List.sum_nil,rawB_size h];simp [szB]
theorem end_took {p q : PSt} (h : endS p = .inr q) : (∃ X,q.its = p.its ++ X ∧ ∀ x ∈ X,x.1 ≠ 1) ∧ rawN q = rawN p ∧ Idle q:=by
  unfold endS at h;cases e : yY p with
  | inl x=>rw [e] at h;cases h
  | inr r =>
    rw [e] at h;cases h;obtain ⟨h1,h2⟩:=flush_same e;obtain ⟨h3,h4,h5,h6,h7⟩:=close_took r;rw [h1] at h3;refine ⟨h3,?_,h7.trans (flush_lns e),h5,h6⟩;rw [h4];unfold rawN;rw [h1,h2]
theorem ahead_took {p q : PSt} {l : Lne} {k : Int} (h : xA p l k = .inr q) : (∃ X,q.its = p.its ++ X ∧ ∀ x ∈ X,x.1 ≠ 1) ∧ rawN q = rawN p ∧ (k = 1 → Idle q):=by
  unfold xA at h;split at h
  · rename_i hk;subst hk;split at h
    · cases h
    · split at h
      · cases h;exact ⟨⟨[],by simp,by simp⟩,rfl,fun e=>by cases e⟩
      · obtain ⟨h1,h2⟩:=flush_same h;exact ⟨⟨[],by simp [h1],by simp⟩,by unfold rawN;rw [h1,h2],fun e=>by cases e⟩
  · split at h
    · obtain ⟨h1,h2,h3⟩:=end_took h;exact ⟨h1,h2,fun _=>h3⟩
    · rename_i hk;obtain ⟨h1,h2⟩:=flush_same h;exact ⟨⟨[],by simp [h1],by simp⟩,by unfold rawN;rw [h1,h2],fun e=>absurd e hk⟩
theorem take_took {p q : PSt} {l : Lne} (h : xD p l = .inr q) : l.2.2.2 = true ∧ rawN q = rawN p + (l.2.2.1.size + 1) ∧ ∃ X Y,q.its = p.its ++ X ++ Y ∧ (∀ x ∈ X,x.1 ≠ 1) ∧ (Y = [] ∨ (∃ b,Y = [b]) ∧ Idle q):=by
  unfold xD at h;cases e : xA p l (yF (ls l.2.2.1)) with
  | inl x=>rw [e] at h;cases h
  | inr r =>
    rw [e] at h;obtain ⟨⟨X,h1,h2⟩,h3,h4⟩:=ahead_took e;simp only at h;unfold lineS at h;split at h
    · cases h
    · rename_i g0;have he : l.2.2.2 = true:=by
        cases e : l.2.2.2
        · exact absurd (.inr e) g0
        · rfl
      refine ⟨he,?_⟩;split at h
      · rename_i g1;cases h;obtain ⟨i1,i2,i3⟩:=h4 g1;refine ⟨?_,X,[(1,l.2.2.1 ++ ⟨#[10]⟩,[])],by simp only [h1],h2,.inr ⟨⟨_,rfl⟩,i1,i2,i3⟩⟩;rw [← h3];simp only [rawN,szI_app];simp only [szI,List.map_cons,List.map_nil,List.sum_cons,List.sum_nil,ByteArray.size_append];rw [show ByteArray.size ⟨#[10]⟩ = 1 from rfl];omega
      · split at h
        · cases h;refine ⟨?_,X,[],by simp [xY,h1],h2,.inl rfl⟩;rw [← h3];simp only [rawN,szB_app,xY];simp only [szB,List.map_cons,List.map_nil,List.sum_cons,List.sum_nil];omega
        · cases h;refine ⟨?_,X,[],by simp [h1],h2,.inl rfl⟩;rw [← h3];simp only [rawN,szB_app];simp only [szB,List.map_cons,List.map_nil,List.sum_cons,List.sum_nil];omega
def szL (L : List Lne) : Nat:=(L.map (fun l=>l.2.2.1.size + 1)).sum
theorem run_app : ∀ (L M : List Lne) (p q : PSt),runS p L = .inr q → runS p (L ++ M) = runS q M
  | [],M,p,q,h=>by cases h;rfl
  | l :: r,M,p,q,h=>by
    simp only [runS,List.cons_append] at h ⊢;cases e : xD p l with
    | inl x=>rw [e] at h;cases h
    | inr p1 =>
      rw [e] at h;exact run_app r M p1 q h
theorem rel_self {p : PSt} (I : List Itm) (h : Idle p) (hI : p.its = I) (h0 : 0 ≤ p.recs) (h4 : p.recs ≤ 400) : Rel I p.recs p pst0 :=
  ⟨h.1,(fun e=>by cases e),by rw [hI];simp [pst0],h.2.1,h.2.2,by simp [pst0],h0,h4,fun e=>absurd h.2.2 e,fun e=>absurd h.1 e⟩
theorem rel_0 : Rel [] 0 pst0 pst0:=⟨rfl,id,rfl,rfl,rfl,rfl,by decide,by decide,fun e=>absurd rfl e,fun e=>absurd rfl e⟩
theorem lines_text (s : ByteArray) : (yJ s).map (·.2.2) = linesB s.size (ls s):=texts_linesR _ _ _ _
def more (l : Lne) : Bool:=decide (yF (ls l.2.2.1) = 3)
def saidL (l : Lne) (r : List Lne) : List ByteArray:=l.2.2.1 :: (r.takeWhile more).map (·.2.2.1)
def xO (bh : Bool) (l : Lne) (r : List Lne) (fields recs : Int) : Int :=
  if yF (ls l.2.2.1) = 5 ∨ (yF (ls l.2.2.1) = 3 ∧ bh = false) ∨ l.2.2.2 = false then 2
  else if yF (ls l.2.2.1) ≠ 4 then 0
  else if (yR ((saidL l r).map ls)).2 ≠ 0 then (yR ((saidL l r).map ls)).2
  else if 40 ≤ fields ∨ (fields = 0 ∧ 400 ≤ recs) then 11
  else 0
structure RSt where
  kind : Int
  raw : ByteArray
  flds : List Fld
  out : List Itm
  recs : Int
def fldOf (L : List ByteArray) : Fld:=(bytes (yR (L.map ls)).1.1,bytes (yR (L.map ls)).1.2)
def xH (t : RSt) (l : Lne) (r : List Lne) : RSt :=
  if yF (ls l.2.2.1) = 1 then ⟨2,ByteArray.empty,[],(if t.raw = ByteArray.empty then t.out else t.out ++ [(t.kind,t.raw,t.flds)]) ++ [(1,l.2.2.1 ++ ⟨#[10]⟩,[])],t.recs⟩
  else if yF (ls l.2.2.1) = 4 then ⟨3,t.raw ++ l.2.2.1 ++ ⟨#[10]⟩,t.flds ++ [fldOf (saidL l r)],t.out,if t.kind = 2 then t.recs + 1 else t.recs⟩
  else { t with raw:=t.raw ++ l.2.2.1 ++ ⟨#[10]⟩ }
def runR (bh : Bool) (t : RSt) : List Lne → (Int × Int) ⊕ List Itm
  | []=>.inr (if t.raw = ByteArray.empty then t.out else t.out ++ [(t.kind,t.raw,t.flds)])
  | l :: r=>if xO bh l r t.flds.length t.recs ≠ 0 then .inl (l.1,xO bh l r t.flds.length t.recs)
    else runR (decide (yF (ls l.2.2.1) = 4) || decide (yF (ls l.2.2.1) = 3)) (xH t l r) r
def rst0 : RSt:=⟨2,ByteArray.empty,[],[],0⟩
def outP (p : PSt) (L : List Lne) : (Int × Int) ⊕ List Itm:=match runS p L with
  | .inl e=>.inl e
  | .inr q=>match endS q with
    | .inl e=>.inl e
    | .inr q=>.inr q.its
theorem outP_cons (p : PSt) (l : Lne) (r : List Lne) : outP p (l :: r) = match xD p l with
    | .inl e=>.inl e
    | .inr q=>outP q r:=by
  unfold outP;simp only [runS];cases xD p l <;> rfl
theorem parse_out (s : ByteArray) : xG s = outP pst0 (yJ s):=rfl
def Ends : List Lne → Prop
  | []=>True
  | l :: r=>(l.2.2.2 = false → r = []) ∧ Ends r
theorem ends_linesR : ∀ (f : Nat) (tot no : Int) (s : List UInt8),Ends (linesR f tot no s)
  | 0,_,_,_=>trivial
  | f + 1,_,_,[]=>trivial
  | f + 1,tot,no,a :: r=>by
    rw [linesR_cons];refine ⟨fun h=>?_,ends_linesR f _ _ _⟩;rcases cut_cases (a:=a) (s:=r) (c:=10) with ⟨x,b,e,_,hc⟩|⟨_,hc⟩
    · rw [hc] at h;cases h
    · rw [hc];cases f <;> rfl
theorem not_more {l : Lne} (h : yF (ls l.2.2.1) ≠ 3) (r : List Lne) : (l :: r).takeWhile more = []:=by
  rw [List.takeWhile_cons_of_neg (by unfold more;simp [h])]
theorem is_more {l : Lne} (h : yF (ls l.2.2.1) = 3) (r : List Lne) : (l :: r).takeWhile more = l :: r.takeWhile more:=by
  rw [List.takeWhile_cons_of_pos (by unfold more;simp [h])]
theorem pend_err : ∀ (r : List Lne) (p : PSt) (at_ n : Int),Ends r → p.lns ≠ [] → (∀ q : PSt,q.lns = p.lns ++ (r.takeWhile more).map (·.2.2.1) → q.full = p.full → q.frm = p.frm → yY q = .inl (at_,n)) → outP p r = .inl (at_,n)
  | [],p,at_,n,_,h0,hf=>by
    have:=hf p (by simp) rfl rfl;unfold outP;simp only [runS,endS,this]
  | l :: r,p,at_,n,hE,h0,hf=>by
    rw [outP_cons]
    by_cases hm : yF (ls l.2.2.1) = 3
    · rw [is_more hm] at hf
      by_cases he : l.2.2.2 = true
      · have ht : xD p l = .inr { p with lns:=p.lns ++ [l.2.2.1],blk:=p.blk ++ [l.2.2.1] }:=by
          unfold xD;simp only [hm];simp [xA,lineS,h0,he]
        rw [ht];exact pend_err r _ at_ n hE.2 (by simp) (fun q h1 h2 h3=>hf q (by rw [h1];simp) h2 h3)
      · obtain rfl:=hE.1 (by simpa using he);have hfp:=hf { p with lns:=p.lns ++ [l.2.2.1] } (by simp) rfl rfl;have ht : xD p l = .inl (at_,n):=by
          unfold xD xA;rw [if_pos hm,if_neg h0,if_neg he,hfp]
        rw [ht]
    · rw [not_more hm] at hf;have hfp:=hf p (by simp) rfl rfl;have ht : xD p l = .inl (at_,n):=by
        unfold xD xA;rw [if_neg hm];unfold endS;rw [hfp];simp
      rw [ht]
def rawC (b : List ByteArray) : ByteArray:=bytes (endL (b.map ls))
theorem rawC_snoc (b : List ByteArray) (x : ByteArray) : rawC (b ++ [x]) = rawC b ++ x ++ ⟨#[10]⟩:=by
  unfold rawC endL;rw [List.map_append,List.flatMap_append,xR,ByteArray.append_assoc]
  congr 1
  simp only [List.map_cons,List.map_nil,List.flatMap_cons,List.flatMap_nil,List.append_nil];rw [xR,bytes_ls];rfl
theorem join_endL (c : UInt8) : ∀ (l : List (List UInt8)),l ≠ [] → Lib.join l [c] ++ [c] = l.flatMap fun s=>s ++ [c]
  | [],h=>absurd rfl h
  | [a],_=>by rw [Lib.join_one];simp
  | a :: b :: r,_=>by
    have:=join_endL c (b :: r) (by simp);rw [join_two,List.flatMap_cons,← this];simp
theorem rawB_C {b : List ByteArray} (h : b ≠ []) : rawB b = rawC b:=by
  unfold rawB rawC endL;rw [show b.map ls = b.map (·.data.toList) from rfl,← join_endL 10 (b.map (·.data.toList)) (by simpa using h),xR];rfl
theorem rawC_nil {b : List ByteArray} : rawC b = ByteArray.empty ↔ b = []:=by
  refine ⟨fun h=>?_,fun h=>by rw [h];rfl⟩;cases b with
  | nil=>rfl
  | cons x r =>
    have:=congrArg ByteArray.size h;unfold rawC endL at this;rw [yQ] at this;simp at this
structure Alike (p : PSt) (t : RSt) (bh : Bool) (L : List Lne) : Prop where
  its : t.out = p.its
  raw : t.raw = rawC p.blk
  bh : bh = true ↔ p.lns ≠ []
  flds : t.flds = p.flds ++ (if p.lns = [] then [] else [fldOf (p.lns ++ (L.takeWhile more).map (·.2.2.1))])
  kind : t.kind = if t.flds = [] then 2 else 3
  recs : t.recs = p.recs + (if t.flds = [] then 0 else 1)
  pend : p.lns ≠ [] → p.full = false ∧ (yR ((p.lns ++ (L.takeWhile more).map (·.2.2.1)).map ls)).2 = 0
  blk0 : p.blk = [] → t.flds = []
  r4 : p.recs ≤ 400
  rf : t.flds ≠ [] → p.recs < 400
  f40 : t.flds.length ≤ 40
section
variable {p : PSt} {t : RSt} {bh : Bool} {L : List Lne}
theorem alike_flush (h : Alike p t bh L) (hL : L.takeWhile more = []) : ∃ q,yY p = .inr q ∧ q.lns = [] ∧ q.flds = t.flds ∧ q.its = p.its ∧ q.blk = p.blk ∧ q.recs = p.recs:=by
  by_cases h0 : p.lns = []
  · refine ⟨p,by unfold yY;rw [if_pos h0],h0,?_,rfl,rfl,rfl⟩;rw [h.flds,if_pos h0,List.append_nil]
  · obtain ⟨h1,h2⟩:=h.pend h0;rw [hL,List.map_nil,List.append_nil] at h2;refine ⟨{ p with flds:=p.flds ++ [(bytes (yR (p.lns.map ls)).1.1,bytes (yR (p.lns.map ls)).1.2)],lns:=[] },?_,rfl,?_,rfl,rfl,rfl⟩
    · unfold yY;rw [if_neg h0,if_neg (by rw [h2];simp),if_neg (by rw [h1];simp)]
    · rw [h.flds,if_neg h0,hL];simp [fldOf]
theorem alike_end (h : Alike p t bh L) (hL : L.takeWhile more = []) : ∃ q,endS p = .inr q ∧ q.lns = [] ∧ q.flds = [] ∧ q.blk = [] ∧ q.its = (if t.raw = ByteArray.empty then t.out else t.out ++ [(t.kind,t.raw,t.flds)]) ∧ q.recs = t.recs:=by
  obtain ⟨q,f1,f2,f3,f4,f5,f6⟩:=alike_flush h hL;refine ⟨xX q,by unfold endS;rw [f1],?_⟩;unfold xX
  by_cases hb : p.blk = []
  · have hraw : t.raw = ByteArray.empty:=by rw [h.raw];exact rawC_nil.2 hb
    rw [if_pos (f5.trans hb),if_pos hraw];refine ⟨f2,rfl,rfl,by rw [h.its];exact f4,?_⟩;rw [h.recs,if_pos (h.blk0 hb),Int.add_zero];exact f6
  · have hraw : ¬ t.raw = ByteArray.empty:=fun e=>hb (rawC_nil.1 (by rw [← h.raw];exact e))
    rw [if_neg (by rw [f5];exact hb),if_neg hraw];refine ⟨f2,rfl,rfl,?_,?_⟩
    · simp only [h.its,h.kind,h.raw,rawB_C hb,f3,f4,f5]
    · simp only [f3,f6];rw [h.recs]
      by_cases hf : t.flds = []
      · simp [hf]
      · simp [hf]
end
theorem run_eq : ∀ (L : List Lne) (p : PSt) (t : RSt) (bh : Bool),Ends L → Alike p t bh L → outP p L = runR bh t L
  | [],p,t,bh,_,h=>by
    obtain ⟨q,e,_,_,_,h1,_⟩:=alike_end h rfl;unfold outP;simp only [runS,e,h1];rfl
  | l :: r,p,t,bh,hE,h=>by
    rw [outP_cons];unfold runR
    by_cases h3 : yF (ls l.2.2.1) = 3
    · by_cases hb : p.lns = []
      · have hbh : bh = false:=by
          cases bh
          · rfl
          · exact absurd hb (h.bh.1 rfl)
        have hw : xO bh l r t.flds.length t.recs = 2:=by
          unfold xO;rw [if_pos (.inr (.inl ⟨h3,hbh⟩))]
        have ht : xD p l = .inl (l.1,2):=by
          unfold xD xA;rw [if_pos h3,if_pos hb]
        rw [hw,ht];rfl
      · have hbh : bh = true:=h.bh.2 hb;obtain ⟨h5,h6⟩:=h.pend hb;rw [is_more h3] at h6
        by_cases he : l.2.2.2 = true
        · have hw : xO bh l r t.flds.length t.recs = 0:=by
            unfold xO;rw [if_neg (by simp [h3,hbh,he]),if_pos (by rw [h3];decide)]
          have ht : xD p l = .inr { p with lns:=p.lns ++ [l.2.2.1],blk:=p.blk ++ [l.2.2.1] }:=by
            unfold xD;simp only [h3];simp [xA,lineS,hb,he]
          rw [hw,ht,if_neg (by decide)];refine run_eq r _ _ _ hE.2 ?_;have hfl:=h.flds;rw [if_neg hb,is_more h3] at hfl;have hne : t.flds ≠ []:=by rw [hfl];simp
          unfold xH;rw [if_neg (by rw [h3];decide),if_neg (by rw [h3];decide)];exact ⟨h.its,by simp only [h.raw,rawC_snoc],by simp [h3],by simp only;rw [hfl,if_neg (by simp)];simp,h.kind,h.recs,fun _=>⟨h5,by simpa using h6⟩,fun e=>by simp at e,h.r4,h.rf,h.f40⟩
        · have he' : l.2.2.2 = false:=by simpa using he
          obtain rfl:=hE.1 he';have hw : xO bh l [] t.flds.length t.recs = 2:=by
            unfold xO;rw [if_pos (.inr (.inr he'))]
          have ht : xD p l = .inl (l.1,2):=by
            have : xA p l 3 = .inr { p with flds:=p.flds ++ [(bytes (yR ((p.lns ++ [l.2.2.1]).map ls)).1.1,bytes (yR ((p.lns ++ [l.2.2.1]).map ls)).1.2)],lns:=[] }:=by
              unfold xA;rw [if_pos rfl,if_neg hb,if_neg he];unfold yY;simp only [List.takeWhile_nil,List.map_cons,List.map_nil] at h6;rw [if_neg (by simp),if_neg (by simp only [ne_eq,h6];simp),if_neg (by simp [h5])]
            unfold xD;rw [h3,this];simp [lineS,he']
          rw [hw,ht];rfl
    · have hno:=not_more h3 r
      by_cases h1 : yF (ls l.2.2.1) = 1
      · obtain ⟨q,e,e1,e2,e3,e4,e5⟩:=alike_end h hno
        by_cases he : l.2.2.2 = true
        · have hw : xO bh l r t.flds.length t.recs = 0:=by
            unfold xO;rw [if_neg (by simp [h1,he]),if_pos (by rw [h1];decide)]
          have ht : xD p l = .inr { q with its:=q.its ++ [(1,l.2.2.1 ++ ⟨#[10]⟩,[])] }:=by
            unfold xD xA;rw [if_neg h3,if_pos h1,e];simp [lineS,h1,he]
          rw [hw,ht,if_neg (by decide)];refine run_eq r _ _ _ hE.2 ?_;unfold xH;rw [if_pos h1];refine ⟨by simp only [e4],by rw [e3];rfl,by simp [h1,e1],by simp [e1,e2],rfl,by simp [e5],fun h=>absurd e1 h,fun _=>rfl,?_,fun e=>absurd rfl e,by simp⟩;simp only [e5,h.recs];split
          · have:=h.r4;omega
          · rename_i hf;have:=h.rf hf;omega
        · have he' : l.2.2.2 = false:=by simpa using he
          have hw : xO bh l r t.flds.length t.recs = 2:=by
            unfold xO;rw [if_pos (.inr (.inr he'))]
          have ht : xD p l = .inl (l.1,2):=by
            unfold xD xA;rw [if_neg h3,if_pos h1,e];simp [lineS,he']
          rw [hw,ht];rfl
      · obtain ⟨q,f1,f2,f3,f4,f5,f6⟩:=alike_flush h hno;have hah : xA p l (yF (ls l.2.2.1)) = .inr q:=by
          unfold xA;rw [if_neg h3,if_neg h1,f1]
        by_cases hbad : yF (ls l.2.2.1) = 5 ∨ l.2.2.2 = false
        · have hw : xO bh l r t.flds.length t.recs = 2:=by
            unfold xO;rw [if_pos (hbad.elim .inl (fun h=>.inr (.inr h)))]
          have ht : xD p l = .inl (l.1,2):=by
            unfold xD lineS;rw [hah];simp only;rw [if_pos hbad]
          rw [hw,ht];rfl
        · have hb5 : yF (ls l.2.2.1) ≠ 5:=fun e=>hbad (.inl e)
          have he : l.2.2.2 = true:=by
            cases e : l.2.2.2
            · exact absurd (.inr e) hbad
            · rfl
          by_cases h4 : yF (ls l.2.2.1) = 4
          · have ht : xD p l = .inr { xY q l with blk:=q.blk ++ [l.2.2.1] }:=by
              unfold xD lineS;rw [hah];simp only;rw [if_neg hbad,if_neg h1,if_pos h4]
            have hfull : ((decide ((q.flds.length : Int) = 40) || (decide ((q.flds.length : Int) = 0) && decide (q.recs = 400))) = true) ↔ (40 ≤ (t.flds.length : Int) ∨ ((t.flds.length : Int) = 0 ∧ 400 ≤ t.recs)):=by
              have g1:=h.f40;have g2:=h.r4;have g3:=h.recs;rw [f3,f6];simp only [Bool.or_eq_true,Bool.and_eq_true,decide_eq_true_eq]
              constructor
              · rintro (g|⟨g,g'⟩)
                · exact .inl (by omega)
                · refine .inr ⟨g,?_⟩;rw [if_pos (List.eq_nil_of_length_eq_zero (by omega))] at g3;omega
              · rintro (g|⟨g,g'⟩)
                · exact .inl (by omega)
                · refine .inr ⟨g,?_⟩;rw [if_pos (List.eq_nil_of_length_eq_zero (by omega))] at g3;omega
            rw [ht]
            by_cases hu : (yR ((saidL l r).map ls)).2 = 0
            · by_cases hfu : 40 ≤ (t.flds.length : Int) ∨ ((t.flds.length : Int) = 0 ∧ 400 ≤ t.recs)
              · have hw : xO bh l r t.flds.length t.recs = 11:=by
                  unfold xO;rw [if_neg (by simp [h4,he]),if_neg (by simp [h4]),if_neg (by simp [hu]),if_pos hfu]
                rw [hw,if_pos (by decide)];refine pend_err r _ l.1 11 hE.2 (by simp [xY]) (fun q' g1 g2 g3=>?_);have g1' : q'.lns = saidL l r:=g1;have g2' : q'.full = true:=g2.trans (hfull.2 hfu);have g3' : q'.frm = l.1:=g3;unfold yY;rw [g1',if_neg (by unfold saidL;simp),if_neg (by simp [hu]),if_pos g2',g3']
              · have hw : xO bh l r t.flds.length t.recs = 0:=by
                  unfold xO;rw [if_neg (by simp [h4,he]),if_neg (by simp [h4]),if_neg (by simp [hu]),if_neg hfu]
                rw [hw,if_neg (by decide)];refine run_eq r _ _ _ hE.2 ?_;have hff : (decide ((q.flds.length : Int) = 40) || (decide ((q.flds.length : Int) = 0) && decide (q.recs = 400))) = false:=by
                  cases e : (decide ((q.flds.length : Int) = 40) || (decide ((q.flds.length : Int) = 0) && decide (q.recs = 400)))
                  · rfl
                  · exact absurd (hfull.1 e) hfu
                unfold xH;rw [if_neg h1,if_pos h4];refine ⟨by simp only [xY,h.its,f4],by simp only [h.raw,rawC_snoc,f5],by simp [h4,xY],?_,by simp,?_,fun _=>⟨hff,hu⟩,fun e=>by simp at e,?_,fun _=>?_,?_⟩
                · simp only [xY,f3];rw [if_neg (by simp)];rfl
                · simp only [xY,f6];have g3:=h.recs;have g4:=h.kind
                  by_cases hf : t.flds = []
                  · rw [if_pos hf] at g3 g4;rw [if_pos g4,if_neg (by simp),g3];omega
                  · rw [if_neg hf] at g3 g4;rw [if_neg (by rw [g4];decide),if_neg (by simp),g3]
                · simp only [xY,f6];exact h.r4
                · simp only [xY,f6]
                  by_cases hf : t.flds = []
                  · have g3:=h.recs;rw [if_pos hf] at g3;have : ¬ 400 ≤ t.recs:=fun e=>hfu (.inr ⟨by rw [hf];rfl,e⟩)
                    omega
                  · exact h.rf hf
                · rw [List.length_append,List.length_singleton];have : ¬ 40 ≤ (t.flds.length : Int):=fun e=>hfu (.inl e)
                  omega
            · have hw : xO bh l r t.flds.length t.recs = (yR ((saidL l r).map ls)).2:=by
                unfold xO;rw [if_neg (by simp [h4,he]),if_neg (by simp [h4]),if_pos hu]
              rw [hw,if_pos hu];refine pend_err r _ l.1 _ hE.2 (by simp [xY]) (fun q' g1 g2 g3=>?_);have g1' : q'.lns = saidL l r:=g1;have g3' : q'.frm = l.1:=g3;unfold yY;rw [g1',if_neg (by unfold saidL;simp),if_pos hu,g3']
          · have hw : xO bh l r t.flds.length t.recs = 0:=by
              unfold xO;rw [if_neg (by simp [h3,hb5,he]),if_pos h4]
            have ht : xD p l = .inr { q with blk:=q.blk ++ [l.2.2.1] }:=by
              unfold xD lineS;rw [hah];simp only;rw [if_neg hbad,if_neg h1,if_neg h4]
            rw [hw,ht,if_neg (by decide)];refine run_eq r _ _ _ hE.2 ?_;unfold xH;rw [if_neg h1,if_neg h4];exact ⟨by simp only [h.its,f4],by simp only [h.raw,rawC_snoc,f5],by simp [h3,h4,f2],by simp [f2,f3],h.kind,by simp only [f6];exact h.recs,fun e=>absurd f2 e,fun e=>by simp at e,by simp only [f6];exact h.r4,by simp only [f6];exact h.rf,h.f40⟩
theorem parse_ref (s : ByteArray) : xG s = runR false rst0 (yJ s):=by
  rw [parse_out];exact run_eq _ _ _ _ (ends_linesR _ _ _ _) ⟨rfl,rfl,by simp [pst0],by simp [rst0,pst0],rfl,rfl,fun e=>absurd rfl e,fun _=>rfl,by decide,fun e=>absurd rfl e,by simp [rst0]⟩
def mkL (t : ByteArray) : Lne:=(0,0,t,true)
def Ready (p : PSt) (F : List Fld) : Prop:=∃ q,yY p = .inr q ∧ q.lns = [] ∧ q.flds = F ∧ q.its = p.its ∧ q.recs = p.recs ∧ q.blk = p.blk
def foldsL (a b : List Fld) (n : List UInt8) : List ByteArray:=bytes (35 :: n) :: ((a.flatMap fun f=>lineB f.1 f.2) ++ (⟨#[]⟩ :: ((b.flatMap fun f=>lineB f.1 f.2) ++ [bytes (35 :: n)])))
theorem at_fault (at_ n : Int) : qX Tryz.prog 55 [.one (errF at_ n)] (ii .i64 at_):=by
  refine qV (rs:=[2]) Tryz.func55 rfl rfl rfl teOk rfl ?_;refine qB ?_;refine qJ ?_;refine qB ?_;refine qB ?_;refine zai (fun h=>trivial) ?_;refine zai (fun h=>⟨⟨h,trivial⟩,trivial⟩) ?_;refine zai (by exact fun h=>h) ?_;refine qK rfl (fun h14=>?_) (fun h14=>?_)
  ·try simp only [Bool.and_eq_true] at h14
   try simp only [zds] at h14
   refine qB ?_;refine qM ?_;rfl
  ·try simp only [Bool.and_eq_false_iff] at h14
   try simp only [zds] at h14
   simp at h14
theorem no_step {l : List UInt8} {i : Nat} (h : (10 : UInt8) ∉ l.take i) (hi : i < l.length) (h2 : ¬ ((l.getD i 0).toNat : Int) = 10) : (10 : UInt8) ∉ l.take (i + 1):=by
  rw [List.take_succ_eq_append_getElem hi];simp only [List.mem_append,List.mem_singleton,not_or];refine ⟨h,fun e=>h2 ?_⟩;have : l.getD i 0 = 10:=by simp [List.getD,hi,← e]
  rw [this];rfl
theorem ext_drop (s : ByteArray) (n : Nat) : s.extract n s.size = bytes ((ls s).drop n):=by
  rw [← bytes_ls (s.extract n s.size)]
  congr 1
  exact drop_size s n
structure SpI (s : ByteArray) (i at_ : Nat) (out : List Lne) : Prop where
  ai : at_ ≤ i
  is : i ≤ s.size
  no : (10 : UInt8) ∉ ((ls s).drop at_).take (i - at_)
  ol : out.length ≤ at_
  eq : ∃ f,((ls s).drop at_).length ≤ f ∧ out ++ linesR f s.size out.length ((ls s).drop at_) = yJ s
theorem sp_0 (s : ByteArray) : SpI s 0 0 []:=⟨Nat.le_refl _,Nat.zero_le _,by simp,Nat.le_refl _,s.size,by rw [List.drop_zero,show (ls s).length = s.size from (yD s).symm];exact Nat.le_refl _,rfl⟩
theorem sp_no {s : ByteArray} {i a : Nat} {out : List Lne} (h : SpI s i a out) (hi : i < s.size) (hc : ¬ (((ls s).getD i 0).toNat : Int) = 10) : SpI s (i + 1) a out:=by
  have hl : i < (ls s).length:=by rw [show (ls s).length = s.size from (yD s).symm];exact hi
  have ha:=h.ai;refine ⟨by omega,hi,?_,h.ol,h.eq⟩;rw [show i + 1 - a = (i - a) + 1 from by omega];refine no_step h.no (by rw [List.length_drop];omega) ?_;have : ((ls s).drop a).getD (i - a) 0 = (ls s).getD i 0:=by
    simp only [List.getD,List.getElem?_drop];rw [show a + (i - a) = i from by omega]
  rw [this];exact hc
theorem sp_yes {s : ByteArray} {i a : Nat} {out : List Lne} (h : SpI s i a out) (hi : i < s.size) (hc : (((ls s).getD i 0).toNat : Int) = 10) : SpI s (i + 1) (i + 1) (out ++ [((out.length : Int),(a : Int),s.extract a i,true)]):=by
  have hl : i < (ls s).length:=by rw [show (ls s).length = s.size from (yD s).symm];exact hi
  have ha:=h.ai;have ho:=h.ol;obtain ⟨f,hf,e⟩:=h.eq;have hb : (ls s).getD i 0 = 10:=by
    apply UInt8.toNat_inj.1;have : ((ls s).getD i 0).toNat = 10:=by omega
    rw [this];rfl
  have hr : (ls s).drop a = ((ls s).drop a).take (i - a) ++ 10 :: (ls s).drop (i + 1):=by
    conv=>lhs;rw [← List.take_append_drop (i - a) ((ls s).drop a)]
    congr 1
    rw [List.drop_drop,show a + (i - a) = i from by omega,List.drop_eq_getElem_cons hl]
    congr 1
    rw [← hb,List.getD_eq_getElem?_getD,List.getElem?_eq_getElem hl];rfl
  have hc2:=cut_at (r:=(ls s).drop (i + 1)) h.no;rw [← hr] at hc2;obtain ⟨y,w,hy⟩ : ∃ y w,(ls s).drop a = y :: w:=by
    rw [hr];cases ((ls s).drop a).take (i - a) <;> exact ⟨_,_,rfl⟩
  obtain ⟨f',rfl⟩ : ∃ f',f = f' + 1:=⟨f - 1,by rw [hy,List.length_cons] at hf;omega⟩;have hlen : ((ls s).drop a).length = s.size - a:=by rw [List.length_drop,show (ls s).length = s.size from (yD s).symm]
  refine ⟨Nat.le_refl _,hi,by simp,by rw [List.length_append,List.length_singleton];omega,f',?_,?_⟩
  · rw [List.length_drop,show (ls s).length = s.size from (yD s).symm];omega
  · rw [← e,List.append_assoc]
    congr 1
    rw [hy] at hc2 hlen ⊢;rw [linesR_cons,hc2,hlen];simp only [List.singleton_append,List.length_append,List.length_singleton]
    congr 1
    refine Prod.ext rfl (Prod.ext (by simp only;omega) (Prod.ext ?_ rfl));show s.extract a i = bytes ((y :: w).take (i - a));rw [← hy];rw [← bytes_ls (s.extract a i)]
    congr 1
    exact extract_ls s a i
theorem sp_end {s : ByteArray} {a : Nat} {out : List Lne} (h : SpI s s.size a out) : (a < s.size → out ++ [((out.length : Int),(a : Int),s.extract a s.size,false)] = yJ s) ∧ (¬ a < s.size → out = yJ s):=by
  obtain ⟨f,hf,e⟩:=h.eq;have hlen : ((ls s).drop a).length = s.size - a:=by rw [List.length_drop,show (ls s).length = s.size from (yD s).symm]
  have hno:=h.no;rw [List.take_of_length_le (by omega)] at hno;refine ⟨fun hlt=>?_,fun hge=>?_⟩
  · rw [← e]
    congr 1
    obtain ⟨y,w,hy⟩ : ∃ y w,(ls s).drop a = y :: w:=by
      cases e2 : (ls s).drop a with
      | nil=>rw [e2] at hlen;simp at hlen;omega
      | cons y w=>exact ⟨_,_,rfl⟩
    obtain ⟨f',rfl⟩ : ∃ f',f = f' + 1:=⟨f - 1,by rw [hy,List.length_cons] at hf;omega⟩;have hx : s.extract a s.size = bytes ((ls s).drop a):=ext_drop s a;rw [hx];rw [hy] at hno hlen ⊢;rw [linesR_cons,cut_none hno,hlen];rw [show linesR f' s.size ((out.length : Int) + 1) (y :: w,([] : List UInt8),false).2.1 = [] from by cases f' <;> rfl]
    congr 1
    exact Prod.ext rfl (Prod.ext (by simp only;omega) rfl)
  · have : (ls s).drop a = []:=List.eq_nil_of_length_eq_zero (by omega);rw [← e,this];cases f <;> simp [linesR]
theorem refSplit_c (s : ByteArray) (hs : s.size ≤ 1000000) : qX Tryz.prog 112 [is s] (.one (.sl rLne (yJ s))):=by
  refine qV (rs:=[2]) Tryz.func112 rfl rfl rfl teOk rfl ?_;refine qB ?_;refine qB ?_;refine qJ ?_;refine yW 3 215 rLne rfl ?_;refine qI ?_;refine qJ ?_;refine qB ?_;refine qQ ?_;refine qW (fun (u : Nat × Nat × List Lne)=>SpI s u.1 u.2.1 u.2.2) (fun (u : Nat × Nat × List Lne)=>[(0,is s),(3,.one (.vec 0)),(4,ii .i64 u.2.1),(5,ii .i64 u.1)]) (fun (u : Nat × Nat × List Lne)=>[(0,.vec 215 rLne u.2.2)]) 1 (fun (u : Nat × Nat × List Lne)=>s.size - u.1) (0,0,[]) (sp_0 s) (qP ⟨rfl,rfl,rfl,rfl⟩ rfl rfl) ?_;intro u hI0;obtain ⟨i,a,out⟩:=u;have hI : SpI s i a out:=hI0;have h1:=hI.ai;have h2:=hI.is;have h3:=hI.ol;refine qJ ?_;refine qB ?_;refine qK rfl (fun h9=>?_) (fun h9=>?_)
  ·try simp only [decide_eq_true_eq] at h9
   try simp only [zds] at h9
   refine qL ?_;refine qJ ?_;refine qQ ?_;refine qB ?_;refine zob ?_;refine qK rfl (fun h15=>?_) (fun h15=>?_)
   ·try simp only [decide_eq_true_eq] at h15
    try simp only [Int.toNat_natCast] at h15
    refine qB ?_;intro l7_2;refine zai (by first|omega|assumption|decide|(simp only [];omega)|(simp <;> omega)) ?_;refine zai (by first|exact qO (by first|omega|(simp only [List.length_cons,List.length_nil];omega)|(simp;omega)) (by decide)|omega|assumption|decide|(simp only [zds];omega)|(simp <;> omega)) ?_;refine qI ?_;refine zob ?_;refine qI ?_;refine zob ?_;exact ⟨(i + 1,i + 1,out ++ [((out.length : Int),(a : Int),s.extract a i,true)]),sp_yes hI (by omega) h15,by first|omega|(simp <;> omega),qP ⟨rfl,rfl,rfl,rfl⟩ rfl rfl⟩
   ·try simp only [decide_eq_false_iff_not] at h15
    try simp only [Int.toNat_natCast] at h15
    refine qL ?_;refine qI ?_;refine zob ?_;exact ⟨(i + 1,a,out),sp_no hI (by omega) h15,by first|omega|(simp <;> omega),qP ⟨rfl,rfl,rfl,rfl⟩ rfl rfl⟩
  ·try simp only [decide_eq_false_iff_not,Int.not_lt] at h9
   try simp only [zds] at h9
   refine yA ?_;have hie : i = s.size:=(by omega);subst hie;have hE:=sp_end hI;refine qJ ?_;refine qB ?_;refine qK rfl (fun h32=>?_) (fun h32=>?_)
   ·try simp only [decide_eq_true_eq] at h32
    try simp only [zds] at h32
    refine qI ?_;intro l10_2;refine zai (by first|omega|assumption|decide|(simp only [];omega)|(simp <;> omega)) ?_;refine zai (by first|exact qO (by first|omega|(simp only [List.length_cons,List.length_nil];omega)|(simp;omega)) (by decide)|omega|assumption|decide|(simp only [zds];omega)|(simp <;> omega)) ?_;refine qB ?_;refine qM ?_;exact sl_eq (hE.1 (by omega))
   ·try simp only [decide_eq_false_iff_not,Int.not_lt] at h32
    try simp only [zds] at h32
    refine qL ?_;refine qB ?_;refine qM ?_;exact sl_eq (hE.2 (by omega))
def rawsL (l : List Itm) : List UInt8:=l.flatMap fun x=>ls x.2.1
theorem refKindL_c (s : ByteArray) (hs : s.size ≤ 1000000000) : qX Tryz.prog 113 [is s] (ii .i64 (yF (ls s))):=refKind_c s hs
theorem beh_eq (k : List Int) (i : Nat) : (decide (0 < (i : Int)) && (decide (k.getD ((i : Int) - 1).toNat (Rd.int IntKind.i64).dflt = 4) || decide (k.getD ((i : Int) - 1).toNat (Rd.int IntKind.i64).dflt = 3))) = (decide (0 < i) && (decide (k.getD (i - 1) 0 = 4) || decide (k.getD (i - 1) 0 = 3))):=by
  have h : ((i : Int) - 1).toNat = i - 1:=by omega
  have h0 : decide (0 < (i : Int)) = decide (0 < i):=decide_eq_decide.2 (by omega);rw [h,h0];rfl
theorem behind_c (k : List Int) (i : Nat) (hi : i < k.length) (hk : k.length ≤ 1000000) : qX Tryz.prog 154 [.one (.sl (.int .i64) k),ii .i64 i] (ib (decide (0 < i) && (decide (k.getD (i - 1) 0 = 4) || decide (k.getD (i - 1) 0 = 3)))):=by
  refine qV (rs:=[4]) Tryz.func154 rfl rfl rfl teOk rfl ?_;refine qB ?_;refine qB ?_;refine zai (fun h=>trivial) ?_;refine zai (fun h=>trivial) ?_;refine zai (fun h=>⟨⟨⟨h,trivial⟩,trivial⟩,by first|omega|decide|(simp only [zds];omega)|(have h9:=of_decide_eq_true h;omega)|(simp [gq] at h;omega)⟩) ?_;refine zai (fun h=>⟨⟨⟨h,trivial⟩,⟨h,trivial⟩,trivial⟩,by first|omega|decide|(simp only [zds];omega)|(have h9:=of_decide_eq_true h;omega)|(simp [gq] at h;omega)⟩) ?_;refine zai (fun h=>⟨⟨h,trivial⟩,trivial⟩) ?_;refine zai (fun h=>⟨⟨h,trivial⟩,trivial⟩) ?_;refine zai (fun h=>⟨⟨h,trivial⟩,trivial⟩) ?_;refine zai (fun h=>trivial) ?_;refine zai (fun h=>trivial) ?_;refine zai (fun h=>⟨⟨⟨h,trivial⟩,trivial⟩,by first|omega|decide|(simp only [zds];omega)|(have h9:=of_decide_eq_true h;omega)|(simp [gq] at h;omega)⟩) ?_;refine zai (fun h=>⟨⟨⟨h,trivial⟩,⟨h,trivial⟩,trivial⟩,by first|omega|decide|(simp only [zds];omega)|(have h9:=of_decide_eq_true h;omega)|(simp [gq] at h;omega)⟩) ?_;refine zai (fun h=>⟨⟨h,trivial⟩,trivial⟩) ?_;refine zai (fun h=>⟨⟨h,trivial⟩,trivial⟩) ?_;refine zai (fun h=>⟨⟨⟨h,trivial⟩,trivial⟩,by first|exact fun h2=>h2|(intro h2;rw [h,h2];rfl)|(intro h2;cases h2)|(intro h2;simp_all [gq])⟩) ?_;refine zai (by exact fun h=>h) ?_;refine qM ?_;exact ib_eq (beh_eq k i)
theorem getD_get {α : Type} {l : List α} {i : Nat} (h : i < l.length) (d : α) : l[i] = l.getD i d:=by
  rw [List.getD_eq_getElem?_getD,List.getElem?_eq_getElem h];rfl
theorem kind_at {L : List Lne} {k : List Int} (hk : k = L.map (fun l=>yF (ls l.2.2.1))) {n : Nat} (h : n < L.length) : k.getD n 0 = yF (ls (L.getD n ((0 : Int),(0 : Int),ByteArray.empty,false)).2.2.1):=by
  subst hk;simp [List.getD,h]
theorem tw_stop {L : List Lne} {j : Nat} (h : (L.take j).all more = true) (hs : L.length ≤ j ∨ (j < L.length ∧ more (L.getD j ((0 : Int),(0 : Int),ByteArray.empty,false)) = false)) : L.takeWhile more = L.take j:=by
  conv=>lhs;rw [← List.take_append_drop j L]
  rw [List.takeWhile_append_of_pos (by simpa [List.all_eq_true] using h)];have : (L.drop j).takeWhile more = []:=by
    rcases hs with hs|⟨hs,hm⟩
    · rw [List.drop_eq_nil_of_le hs];rfl
    · rw [List.drop_eq_getElem_cons hs,List.takeWhile_cons_of_neg];rw [show L[j] = L.getD j ((0 : Int),(0 : Int),ByteArray.empty,false) from by simp [List.getD,hs],hm]
      decide
  rw [this,List.append_nil]
theorem drop_getL {L : List Lne} {i j : Nat} : (L.drop (i + 1)).getD j ((0 : Int),(0 : Int),ByteArray.empty,false) = L.getD (i + 1 + j) ((0 : Int),(0 : Int),ByteArray.empty,false):=by
  simp only [List.getD,List.getElem?_drop]
theorem tw_more {L : List Lne} {i j : Nat} (h : ((L.drop (i + 1)).take j).all more = true) (hj : j < L.length - (i + 1)) (hm : yF (ls (L.getD (i + 1 + j) ((0 : Int),(0 : Int),ByteArray.empty,false)).2.2.1) = 3) : ((L.drop (i + 1)).take (j + 1)).all more = true:=by
  have hlt : j < (L.drop (i + 1)).length:=by rw [List.length_drop];exact hj
  rw [List.take_succ_eq_append_getElem hlt,List.all_append,h];rw [getD_get hlt ((0 : Int),(0 : Int),ByteArray.empty,false),drop_getL];simp only [List.all_cons,List.all_nil,Bool.and_true,Bool.true_and];exact decide_eq_true hm
theorem said_next {L : List Lne} {i j : Nat} (hj : j < L.length - (i + 1)) : ((L.drop (i + 1)).take (j + 1)).map (·.2.2.1) = ((L.drop (i + 1)).take j).map (·.2.2.1) ++ [(L.getD (i + 1 + j) ((0 : Int),(0 : Int),ByteArray.empty,false)).2.2.1]:=by
  have hlt : j < (L.drop (i + 1)).length:=by rw [List.length_drop];exact hj
  rw [List.take_succ_eq_append_getElem hlt,List.map_append];rw [getD_get hlt ((0 : Int),(0 : Int),ByteArray.empty,false),drop_getL];rfl
theorem said_c (L : List Lne) (k : List Int) (hk : k = L.map (fun l=>yF (ls l.2.2.1))) (i : Nat) (hi : i < L.length) (hL : L.length ≤ 1000000) : qX Tryz.prog 116 [.one (.sl rLne L),.one (.sl (.int .i64) k),ii .i64 i] (.one (.sl .str (saidL (L.getD i ((0 : Int),(0 : Int),ByteArray.empty,false)) (L.drop (i + 1))))):=by
  have hkl : k.length = L.length:=by rw [hk,List.length_map]
  refine qV (rs:=[6]) Tryz.func116 rfl rfl rfl teOk rfl ?_;refine qB ?_;refine qB ?_;refine zob ?_;refine qJ ?_;refine qB ?_;refine zob ?_;refine qQ ?_;refine qW (fun (j : Nat)=>j ≤ L.length - (i + 1) ∧ ((L.drop (i + 1)).take j).all more = true) (fun (j : Nat)=>[(0,.one (.sl rLne L)),(1,.one (.sl (.int .i64) k)),(7,.one (.vec 0)),(8,ii .i64 ((i : Int) + 1 + j))]) (fun (j : Nat)=>[(0,.vec 9 .str ((L.getD i ((0 : Int),(0 : Int),ByteArray.empty,false)).2.2.1 :: ((L.drop (i + 1)).take j).map (·.2.2.1)))]) 1 (fun (j : Nat)=>L.length - (i + 1) - j) 0 (⟨Nat.zero_le _,by simp⟩) (qP ⟨rfl,rfl,rfl,(qT (by omega))⟩ rfl rfl) ?_;intro j hI0;obtain ⟨hj,hall⟩:=hI0;have ej : ((i : Int) + 1 + j).toNat = i + 1 + j:=(by omega);refine qJ ?_;refine qB ?_;intro l3_2
  try simp only [zds] at l3_2
  refine zai (fun h=>trivial) ?_;refine zai (fun h=>trivial) ?_;refine zai (fun h=>⟨⟨⟨h,trivial⟩,⟨h,trivial⟩,trivial⟩,by first|omega|decide|(simp only [zds];omega)|(have h9:=of_decide_eq_true h;omega)|(simp [gq] at h;omega)⟩) ?_;refine zai (fun h=>⟨⟨h,trivial⟩,trivial⟩) ?_;refine zai (fun h=>⟨⟨h,trivial⟩,trivial⟩) ?_;refine zai (by exact fun h=>h) ?_;refine qK rfl (fun h27=>?_) (fun h27=>?_)
  ·try simp only [decide_eq_true_eq,Bool.and_eq_true] at h27
   try simp only [qD] at h27
   have hjl : j < L.length - (i + 1):=(by omega);rw [ej,kind_at hk (by omega)] at h27;refine qL ?_;refine qJ ?_;refine qQ ?_;refine qI ?_;refine zob ?_;refine zai (by first|exact qO (by first|omega|(simp only [List.length_cons,List.length_nil,List.length_map,List.length_take,List.length_drop];omega)|(simp;omega)) (by decide)|omega|assumption|decide|(simp only [zds];omega)|(simp <;> omega)) ?_;refine qI ?_;refine zob ?_;exact ⟨j + 1,⟨by omega,tw_more hall hjl h27.2⟩,by first|omega|(simp <;> omega),qP ⟨rfl,rfl,rfl,(qT (by omega))⟩ (qR (by rw [ej,said_next hjl];rfl)) rfl⟩
  ·try simp only [decide_eq_false_iff_not,Bool.and_eq_false_iff,Int.not_lt] at h27
   try simp only [qD] at h27
   rw [ej] at h27;refine yA ?_;refine qB ?_;refine qM ?_;have htw:=tw_stop hall (by rcases h27 with h27|h27;exact .inl (by rw [List.length_drop];omega);by_cases hjl : j < L.length - (i + 1);exact .inr ⟨by rw [List.length_drop];exact hjl,by rw [drop_getL];rw [kind_at hk (by omega)] at h27;unfold more;exact decide_eq_false h27⟩;exact .inl (by rw [List.length_drop];omega));unfold saidL;rw [htw];rfl
theorem unfold_any (l : List ByteArray) (hl : LinesOk l) : qX Tryz.prog 115 [.one (.sl .str l)] (.tup [(true,[.lit (.string (fldOf l).1),.lit (.string (fldOf l).2)]),(false,[.lit (.int .i64 (yR (l.map ls)).2)])]):=by
  cases l with
  | nil=>exact refUnfold_e
  | cons a r=>exact refUnfold_c a r hl
theorem wrong_c (L : List Lne) (k : List Int) (hk : k = L.map (fun l=>yF (ls l.2.2.1))) (i : Nat) (hi : i < L.length) (hL : L.length ≤ 1000000) (hz : LinesOk (saidL (L.getD i ((0 : Int),(0 : Int),ByteArray.empty,false)) (L.drop (i + 1)))) (fields recs : Int) (bh : Bool) (hbh : (decide (0 < i) && (decide (k.getD (i - 1) 0 = 4) || decide (k.getD (i - 1) 0 = 3))) = bh) : qX Tryz.prog 114 [.one (.sl rLne L),.one (.sl (.int .i64) k),ii .i64 i,ii .i64 fields,ii .i64 recs] (ii .i64 (xO bh (L.getD i ((0 : Int),(0 : Int),ByteArray.empty,false)) (L.drop (i + 1)) fields recs)):=by
  have hkl : k.length = L.length:=by rw [hk,List.length_map]
  have hki:=kind_at hk hi;have hbc:=behind_c k i (by omega) (by omega);rw [hbh] at hbc;refine qV (rs:=[10]) Tryz.func114 rfl rfl rfl teOk rfl ?_;refine qB ?_;refine qJ ?_;refine qB ?_;refine zob ?_;refine zai (fun h=>trivial) ?_;refine zai (fun h=>trivial) ?_;refine zai (fun h=>⟨⟨⟨h,trivial⟩,⟨h,trivial⟩,trivial⟩,by first|omega|decide|(simp only [zds];omega)|(have h9:=of_decide_eq_true h;omega)|(simp [gq] at h;omega)⟩) ?_;refine zai (fun h=>⟨⟨h,trivial⟩,trivial⟩) ?_;refine zai (fun h=>⟨⟨h,trivial⟩,trivial⟩) ?_;refine zai (fun h=>⟨⟨h,trivial⟩,trivial⟩) ?_;refine zai (fun h=>trivial) ?_;refine zai (fun h=>trivial) ?_;refine Or.inl ?_;refine zai (rfl) ?_;refine zei _ (zai (fun h=>⟨⟨⟨h,trivial⟩,⟨h,trivial⟩,trivial⟩,hbc⟩) ?_);refine zai (fun h=>⟨⟨h,trivial⟩,trivial⟩) ?_;refine zai (fun h=>⟨⟨⟨h,trivial⟩,trivial⟩,by first|exact fun h2=>h2|(intro h2;rw [h,h2];rfl)|(intro h2;cases h2)|(intro h2;simp_all [gq])⟩) ?_;refine zai (by first|(intro h;rw [h];rfl)|(intro h;cases h)) ?_;refine zai (fun h=>trivial) ?_;refine zai (fun h=>trivial) ?_;refine zai (fun h=>⟨⟨⟨h,trivial⟩,⟨h,trivial⟩,trivial⟩,by first|omega|decide|(simp only [zds];omega)|(have h9:=of_decide_eq_true h;omega)|(simp [gq] at h;omega)⟩) ?_;refine zai (fun h=>⟨⟨h,trivial⟩,trivial⟩) ?_;refine zai (fun h=>⟨⟨h,trivial⟩,trivial⟩) ?_;refine zai (fun h=>⟨⟨h,trivial⟩,trivial⟩) ?_;refine zai (by first|(intro h;rw [h];rfl)|(intro h;cases h)) ?_;refine qK rfl (fun h38=>?_) (fun h38=>?_)
  ·try simp only [decide_eq_true_eq,Bool.and_eq_true,Bool.not_eq_true',Bool.or_eq_true] at h38
   try simp only [Int.toNat_natCast,qG,qE,qD,qC] at h38
   rw [hki] at h38;refine qB ?_;refine qM ?_;refine qT (Eq.symm ?_);unfold xO;exact if_pos (h38.elim (fun h=>h.elim .inl (fun h=>.inr (.inl h))) (fun h=>.inr (.inr h)))
  ·try simp only [decide_eq_false_iff_not,Bool.not_eq_false',Bool.or_eq_false_iff,Bool.and_eq_false_iff] at h38
   try simp only [Int.toNat_natCast,qG,qE,qD,qC] at h38
   rw [hki] at h38;have hneg : ¬ (yF (ls (L.getD i ((0 : Int),(0 : Int),ByteArray.empty,false)).2.2.1) = 5 ∨ (yF (ls (L.getD i ((0 : Int),(0 : Int),ByteArray.empty,false)).2.2.1) = 3 ∧ bh = false) ∨ (L.getD i ((0 : Int),(0 : Int),ByteArray.empty,false)).2.2.2 = false):=(by rintro (h|⟨h,h'⟩|h);exact h38.1.1 h;rcases h38.1.2 with g|g;exact g h;rw [g] at h';cases h';rw [h38.2] at h;cases h);refine qL ?_;refine qJ ?_;refine qB ?_;refine zob ?_;refine qK rfl (fun h43=>?_) (fun h43=>?_)
   ·try simp only [decide_eq_false_iff_not,Bool.not_eq_true'] at h43
    try simp only [Int.toNat_natCast,qD] at h43
    rw [hki] at h43;refine qB ?_;refine qM ?_;refine qT (Eq.symm ?_);unfold xO;rw [if_neg hneg,if_pos h43]
   ·try simp only [decide_eq_true_eq,Bool.not_eq_false'] at h43
    try simp only [Int.toNat_natCast,qD] at h43
    rw [hki] at h43;refine qL ?_;refine qJ ?_;refine qB ?_;refine Or.inl ?_;refine zai (rfl) ?_;refine zei _ (zai (said_c L k hk i hi hL) ?_);refine Or.inl ?_;refine zai (rfl) ?_;refine zei _ (zai (unfold_any _ hz) ?_);refine qB ?_;refine qK rfl (fun h53=>?_) (fun h53=>?_)
    ·try simp only [decide_eq_false_iff_not,Bool.not_eq_true'] at h53
     try simp only [zds] at h53
     refine qB ?_;refine qM ?_;refine qT (Eq.symm ?_);unfold xO;rw [if_neg hneg,if_neg (by rw [h43];simp),if_pos h53]
    ·try simp only [decide_eq_true_eq,Bool.not_eq_false'] at h53
     try simp only [zds] at h53
     refine qL ?_;refine qJ ?_;refine qB ?_;refine zai (fun h=>trivial) ?_;refine zai (fun h=>⟨⟨h,trivial⟩,trivial⟩) ?_;refine zai (fun h=>⟨⟨h,trivial⟩,trivial⟩) ?_;refine zai (fun h=>trivial) ?_;refine zai (fun h=>⟨⟨h,trivial⟩,trivial⟩) ?_;refine zai (fun h=>⟨⟨⟨h,trivial⟩,trivial⟩,by first|exact fun h2=>h2|(intro h2;rw [h,h2];rfl)|(intro h2;cases h2)|(intro h2;simp_all [gq])⟩) ?_;refine zai (by first|(intro h;rw [h];rfl)|(intro h;cases h)) ?_;refine qK rfl (fun h64=>?_) (fun h64=>?_)
     ·try simp only [decide_eq_true_eq,Bool.and_eq_true,Bool.or_eq_true] at h64
      try simp only [zds] at h64
      refine qB ?_;refine qM ?_;refine qT (Eq.symm ?_);unfold xO;rw [if_neg hneg,if_neg (by rw [h43];simp),if_neg (by rw [h53];simp),if_pos h64]
     ·try simp only [decide_eq_false_iff_not,Bool.or_eq_false_iff,Bool.and_eq_false_iff,Int.not_le] at h64
      try simp only [zds] at h64
      refine qL ?_;refine qB ?_;refine qM ?_;refine qT (Eq.symm ?_);unfold xO;rw [if_neg hneg,if_neg (by rw [h43];simp),if_neg (by rw [h53];simp),if_neg (by rintro (h|⟨h,h'⟩);omega;rcases h64.2 with g|g;exact g h;omega)]
theorem linesR_no : ∀ (f : Nat) (tot no : Int) (s : List UInt8) (i : Nat),i < (linesR f tot no s).length → ((linesR f tot no s).getD i ((0 : Int),(0 : Int),ByteArray.empty,false)).1 = no + i
  | 0,_,_,_,i,h=>by simp [linesR] at h
  | f + 1,_,_,[],i,h=>by simp [linesR] at h
  | f + 1,tot,no,a :: r,i,h=>by
    rw [linesR_cons] at h ⊢;cases i with
    | zero=>simp
    | succ i =>
      have:=linesR_no f tot (no + 1) (Lib.cut (a :: r) [10]).2.1 i (by simpa using h);rw [List.getD_cons_succ,this];omega
def bhI (k : List Int) (i : Nat) : Bool:=decide (0 < i) && (decide (k.getD (i - 1) 0 = 4) || decide (k.getD (i - 1) 0 = 3))
structure RI (L : List Lne) (k : List Int) (i : Nat) (t : RSt) : Prop where
  il : i ≤ L.length
  eq : runR false rst0 L = runR (bhI k i) t (L.drop i)
  r0 : 0 ≤ t.recs
  ri : t.recs ≤ i
  oi : t.out.length ≤ 2 * i
  fi : t.flds.length ≤ i
  rw_ : t.raw.size ≤ ((L.take i).map (fun l=>l.2.2.1.size + 1)).sum
  rd : t.raw = ByteArray.empty ↔ t.raw.size = 0
theorem ri_0 (L : List Lne) (k : List Int) : RI L k 0 rst0:=⟨Nat.zero_le _,rfl,Int.le_refl _,Int.le_refl _,Nat.le_refl _,Nat.le_refl _,Nat.zero_le _,⟨fun _=>rfl,fun _=>rfl⟩⟩
theorem size0 (s : ByteArray) : s = ByteArray.empty ↔ s.size = 0:=by
  refine ⟨fun h=>by rw [h];rfl,fun h=>?_⟩;rw [yD] at h;have:=List.eq_nil_of_length_eq_zero h;rw [← bytes_ls s,show ls s = [] from this];rfl
theorem sum_succ (L : List Lne) (i : Nat) (h : i < L.length) : ((L.take (i + 1)).map (fun l=>l.2.2.1.size + 1)).sum = ((L.take i).map (fun l=>l.2.2.1.size + 1)).sum + ((L.getD i ((0 : Int),(0 : Int),ByteArray.empty,false)).2.2.1.size + 1):=by
  rw [List.take_succ_eq_append_getElem h,List.map_append,List.sum_append,← getD_get h ((0 : Int),(0 : Int),ByteArray.empty,false)];simp
theorem ri_eq {L : List Lne} {k : List Int} {i : Nat} {t : RSt} (h : RI L k i t) (hi : i < L.length) : runR false rst0 L = if xO (bhI k i) (L.getD i ((0 : Int),(0 : Int),ByteArray.empty,false)) (L.drop (i + 1)) t.flds.length t.recs ≠ 0 then .inl ((L.getD i ((0 : Int),(0 : Int),ByteArray.empty,false)).1,xO (bhI k i) (L.getD i ((0 : Int),(0 : Int),ByteArray.empty,false)) (L.drop (i + 1)) t.flds.length t.recs) else runR (decide (yF (ls (L.getD i ((0 : Int),(0 : Int),ByteArray.empty,false)).2.2.1) = 4) || decide (yF (ls (L.getD i ((0 : Int),(0 : Int),ByteArray.empty,false)).2.2.1) = 3)) (xH t (L.getD i ((0 : Int),(0 : Int),ByteArray.empty,false)) (L.drop (i + 1))) (L.drop (i + 1)):=by
  rw [h.eq,List.drop_eq_getElem_cons hi,getD_get hi ((0 : Int),(0 : Int),ByteArray.empty,false)];rfl
theorem bh_next {L : List Lne} {k : List Int} (hk : k = L.map (fun l=>yF (ls l.2.2.1))) {i : Nat} (hi : i < L.length) : bhI k (i + 1) = (decide (yF (ls (L.getD i ((0 : Int),(0 : Int),ByteArray.empty,false)).2.2.1) = 4) || decide (yF (ls (L.getD i ((0 : Int),(0 : Int),ByteArray.empty,false)).2.2.1) = 3)):=by
  unfold bhI;rw [Nat.add_sub_cancel,kind_at hk hi];simp
theorem ri_next {L : List Lne} {k : List Int} (hk : k = L.map (fun l=>yF (ls l.2.2.1))) {i : Nat} {t : RSt} (h : RI L k i t) (hi : i < L.length) (hw : xO (bhI k i) (L.getD i ((0 : Int),(0 : Int),ByteArray.empty,false)) (L.drop (i + 1)) t.flds.length t.recs = 0) : RI L k (i + 1) (xH t (L.getD i ((0 : Int),(0 : Int),ByteArray.empty,false)) (L.drop (i + 1))):=by
  have e:=ri_eq h hi;rw [if_neg (by rw [hw];simp),← bh_next hk hi] at e;have h1:=h.r0;have h2:=h.ri;have h3:=h.oi;have h4:=h.fi;have h5:=h.rw_;have h6:=sum_succ L i hi;refine ⟨hi,e,?_,?_,?_,?_,?_,size0 _⟩
  · unfold xH;split
    · exact h1
    · split
      · simp only;split <;> omega
      · exact h1
  · unfold xH;split
    · simp only;omega
    · split
      · simp only;split <;> omega
      · simp only;omega
  · unfold xH;split
    · simp only;split <;> simp <;> omega
    · split
      · simp only;omega
      · simp only;omega
  · unfold xH;split
    · simp
    · split
      · simp;omega
      · simp only;omega
  · rw [h6];have h10 : ByteArray.size ⟨#[10]⟩ = 1:=rfl;unfold xH;split
    · simp
    · split
      · simp only [ByteArray.size_append];omega
      · simp only [ByteArray.size_append];omega
theorem said_ok {s : ByteArray} (hs : s.size ≤ 60000) {i : Nat} (hi : i < (yJ s).length) : LinesOk (saidL ((yJ s).getD i ((0 : Int),(0 : Int),ByteArray.empty,false)) ((yJ s).drop (i + 1))):=by
  obtain ⟨h1,h2⟩:=linesT_len s;have h3 : ((((yJ s).drop (i + 1)).takeWhile more).map (·.2.2.1.size)).sum ≤ ((yJ s).map (·.2.2.1.size)).sum:=by
    have e1 : (yJ s) = (yJ s).take (i + 1) ++ ((yJ s).drop (i + 1)):=(List.take_append_drop _ _).symm;have e2 : (yJ s).drop (i + 1) = ((yJ s).drop (i + 1)).takeWhile more ++ ((yJ s).drop (i + 1)).dropWhile more:=List.takeWhile_append_dropWhile.symm
    conv=>rhs;rw [e1,e2]
    simp only [List.map_append,List.sum_append];omega
  have h4 : (((yJ s).drop (i + 1)).takeWhile more).length ≤ (yJ s).length:=by
    have:=(List.takeWhile_sublist more (l:=(yJ s).drop (i + 1))).length_le;rw [List.length_drop] at this;omega
  have h5:=linesT_sz hi;rw [getD_get hi ((0 : Int),(0 : Int),ByteArray.empty,false)] at h5;unfold saidL;refine ⟨by simp only [List.length_cons,List.length_map];omega,?_⟩;simp only [List.map_cons,List.sum_cons,List.map_map];have : ((((yJ s).drop (i + 1)).takeWhile more).map ((fun x : ByteArray=>x.size) ∘ fun x : Lne=>x.2.2.1)).sum = ((((yJ s).drop (i + 1)).takeWhile more).map (·.2.2.1.size)).sum:=rfl;omega
def resR : (Int × Int) ⊕ List Itm → A
  | .inl e=>.tup [(false,[.sl rItm []]),(false,[.lit (.int .i64 e.1)]),(false,[.lit (.int .i64 e.2)])]
  | .inr l=>.tup [(false,[.sl rItm l]),(false,[.lit (.int .i64 (-9))]),(false,[.lit (.int .i64 0)])]
theorem sum_total (s : ByteArray) (i : Nat) : (((yJ s).take i).map (fun l=>l.2.2.1.size + 1)).sum ≤ 2 * s.size:=by
  obtain ⟨h1,h2⟩:=linesT_len s;have e : ∀ L : List Lne,(L.map (fun l=>l.2.2.1.size + 1)).sum = (L.map (·.2.2.1.size)).sum + L.length:=by
    intro L
    induction L with
    | nil=>rfl
    | cons a r ih=>simp only [List.map_cons,List.sum_cons,List.length_cons,ih];omega
  have h3 : (((yJ s).take i).map (fun l=>l.2.2.1.size + 1)).sum ≤ ((yJ s).map (fun l=>l.2.2.1.size + 1)).sum:=by
    conv=>rhs;rw [← List.take_append_drop i (yJ s)]
    rw [List.map_append,List.sum_append];omega
  rw [e (yJ s)] at h3;omega
set_option maxHeartbeats 4000000 in
theorem refParse_a (s : ByteArray) (hs : s.size ≤ 60000) : qX Tryz.prog 77 [is s] (resR (xG s)):=by
  obtain ⟨hl1,hl2⟩:=linesT_len s;have hsz : ∀ i,i < (yJ s).length → ((yJ s).getD i ((0 : Int),(0 : Int),ByteArray.empty,false)).2.2.1.size ≤ 60000:=fun i hi=>by
    have:=linesT_sz hi;rw [getD_get hi ((0 : Int),(0 : Int),ByteArray.empty,false)] at this;omega
  have hss:=fun i hi=>said_ok hs (i:=i) hi
  have hno : ∀ i,i < (yJ s).length → ((yJ s).getD i ((0 : Int),(0 : Int),ByteArray.empty,false)).1 = i:=fun i hi=>by
    have:=linesR_no s.size s.size 0 (ls s) i hi;rw [Int.zero_add] at this;exact this
  have hst:=sum_total s;rw [parse_ref];have hspl:=refSplit_c s (by omega)
  generalize yJ s = L at *
  obtain ⟨k,hk⟩ : ∃ k,k = L.map (fun l=>yF (ls l.2.2.1)):=⟨_,rfl⟩;have hkl : k.length = L.length:=by rw [hk,List.length_map]
  refine qV (rs:=[2,3,4]) Tryz.func77 rfl rfl rfl teOk rfl ?_;refine qB ?_;refine qJ ?_;refine qB ?_;refine qK rfl (fun h17=>?_) (fun h17=>?_)
  ·try simp only [decide_eq_true_eq] at h17
   try simp only [zds] at h17
   omega
  ·try simp only [decide_eq_false_iff_not,Int.not_lt] at h17
   try simp only [zds] at h17
   refine qL ?_;refine qB ?_;refine Or.inl ?_;refine zai (rfl) ?_;refine zei _ (zai (hspl) ?_);refine qB ?_;refine qJ ?_;refine qJ ?_;refine yW 6 3 (.int .i64) rfl ?_;refine qI ?_;refine qQ ?_;refine qW (fun (i : Nat)=>i ≤ L.length) (fun (i : Nat)=>[(5,.one (.sl rLne L)),(6,.one (.vec 0)),(7,ii .i64 i)]) (fun (i : Nat)=>[(0,.vec 3 (.int .i64) (k.take i))]) 1 (fun (i : Nat)=>L.length - i) 0 (Nat.zero_le _) (qP ⟨rfl,rfl,rfl⟩ rfl rfl) ?_;intro i hI0;refine qJ ?_;refine qB ?_;intro l6_2
   try simp only [zds] at l6_2
   refine qK rfl (fun h23=>?_) (fun h23=>?_)
   ·try simp only [decide_eq_true_eq] at h23
    try simp only [zds] at h23
    have hil : i < L.length:=(by omega);have hi2:=hsz i hil;refine qL ?_;refine qJ ?_;refine qQ ?_;refine qI ?_;refine zob ?_;refine Or.inl ?_;refine zai (rfl) ?_;refine zei _ (zai (refKindL_c (L.getD i ((0 : Int),(0 : Int),ByteArray.empty,false)).2.2.1 (by omega)) ?_);refine zai (by first|exact qO (by first|omega|(simp only [List.length_cons,List.length_nil,List.length_take];omega)|(simp;omega)) (by decide)|omega|assumption|decide|(simp only [zds];omega)|(simp <;> omega)) ?_;refine qI ?_;refine zob ?_;exact ⟨i + 1,by omega,by first|omega|(simp <;> omega),qP ⟨rfl,rfl,(qT (by omega))⟩ (qR (by rw [← yL 0 (by omega : i < k.length),kind_at hk hil];rfl)) rfl⟩
   ·try simp only [decide_eq_false_iff_not,Int.not_lt] at h23
    try simp only [zds] at h23
    refine yA ?_;refine qJ ?_;rw [List.take_of_length_le (by omega)];refine yH [0] ?_;refine qI ?_;refine qB ?_;refine qJ ?_;refine yW 8 136 rItm rfl ?_;refine yI 1 2 107 rFld rfl rfl rfl ?_;refine yH [3] ?_;refine qI ?_;refine qJ ?_;refine qB ?_;refine qQ ?_;refine qW (fun (u : Nat × RSt)=>RI L k u.1 u.2) (fun (u : Nat × RSt)=>[(5,.one (.sl rLne L)),(6,.one (.sl (.int .i64) k)),(8,.one (.vec 2)),(9,.one (.own 1 0)),(10,ii .i64 u.2.recs),(11,ii .i64 u.1)]) (fun (u : Nat × RSt)=>[(1,.box 136 [.lit (.int .i64 u.2.kind),.lit (.string u.2.raw),.sl rFld u.2.flds]),(2,.vec 136 rItm u.2.out)]) 4 (fun (u : Nat × RSt)=>L.length - u.1) (0,rst0) (ri_0 L k) (qP ⟨rfl,rfl,rfl,rfl,rfl,rfl⟩ ⟨rfl,rfl⟩ rfl) ?_;intro u hI2;obtain ⟨i,t⟩:=u;have hI : RI L k i t:=hI2;have g1:=hI.il;have g2:=hI.r0;have g3:=hI.ri;have g4:=hI.oi;have g5:=hI.fi;have g6:=Nat.le_trans hI.rw_ (hst i);refine qJ ?_;refine qB ?_;intro l13_2
    try simp only [zds] at l13_2
    refine qK rfl (fun h39=>?_) (fun h39=>?_)
    ·try simp only [decide_eq_true_eq] at h39
     try simp only [zds] at h39
     have hil : i < L.length:=(by omega);have hi2:=hsz i hil;refine qL ?_;refine qJ ?_;refine qQ ?_;refine qJ ?_;refine qB ?_;intro l15_5;refine Or.inl ?_;refine zai (rfl) ?_;refine zei _ (zai (wrong_c L k hk i hil (by omega) (hss i hil) t.flds.length t.recs (bhI k i) rfl) ?_);refine qB ?_;refine qK rfl (fun h51=>?_) (fun h51=>?_)
     ·try simp only [decide_eq_false_iff_not,Bool.not_eq_true'] at h51
      try simp only [zds] at h51
      refine qB ?_;refine yW 2 136 rItm rfl ?_;refine qM ?_;rw [ri_eq hI hil,if_pos h51,hno i hil];rfl
     ·try simp only [decide_eq_true_eq,Bool.not_eq_false'] at h51
      try simp only [zds] at h51
      have hN:=ri_next hk hI hil h51;refine qL ?_;refine qJ ?_;refine qB ?_;refine zob ?_;refine qK rfl (fun h58=>?_) (fun h58=>?_)
      ·try simp only [decide_eq_true_eq] at h58
       try simp only [Int.toNat_natCast,qD] at h58
       rw [kind_at hk hil] at h58;refine qJ ?_;refine qB ?_;refine qK rfl (fun h61=>?_) (fun h61=>?_)
       ·try simp only [decide_eq_false_iff_not,Bool.not_eq_true'] at h61
        try simp only [zds] at h61
        have hS : xH t (L.getD i ((0 : Int),(0 : Int),ByteArray.empty,false)) (L.drop (i + 1)) = ⟨2,ByteArray.empty,[],t.out ++ [(t.kind,t.raw,t.flds)] ++ [(1,(L.getD i ((0 : Int),(0 : Int),ByteArray.empty,false)).2.2.1 ++ ⟨#[10]⟩,[])],t.recs⟩:=(by unfold xH;rw [if_pos h58,if_neg (show ¬ t.raw = ByteArray.empty from h61)]);refine qI ?_;refine zai (by first|exact qO (by first|omega|(simp only [List.length_cons,List.length_nil];omega)|(simp;omega)) (by decide)|omega|assumption|decide|(simp only [zds];omega)|(simp <;> omega)) ?_;refine qB ?_;refine zob ?_;refine zai (by show (L.getD i ((0 : Int),(0 : Int),ByteArray.empty,false)).2.2.1.size + 1 ≤ maxLen;unfold maxLen;omega) ?_;refine zai (by exact qO (by rw [List.length_append];show t.out.length + 1 + 1 ≤ 1000000000;omega) (by decide)) ?_;refine qB ?_;refine yI 1 2 107 rFld rfl rfl rfl ?_;refine yH [6] ?_;refine yA ?_;refine qI ?_;refine zob ?_;exact ⟨(i + 1,xH t (L.getD i ((0 : Int),(0 : Int),ByteArray.empty,false)) (L.drop (i + 1))),hN,by first|omega|(simp <;> omega),qP ⟨rfl,rfl,rfl,rfl,((by rw [hS];try rfl)),(qT (by simp only;omega))⟩ ⟨((by rw [hS];try rfl)),((by rw [hS];try rfl))⟩ rfl⟩
       ·try simp only [decide_eq_true_eq,Bool.not_eq_false'] at h61
        try simp only [zds] at h61
        have hS : xH t (L.getD i ((0 : Int),(0 : Int),ByteArray.empty,false)) (L.drop (i + 1)) = ⟨2,ByteArray.empty,[],t.out ++ [(1,(L.getD i ((0 : Int),(0 : Int),ByteArray.empty,false)).2.2.1 ++ ⟨#[10]⟩,[])],t.recs⟩:=(by unfold xH;rw [if_pos h58,if_pos (show t.raw = ByteArray.empty from h61)]);refine qL ?_;refine qB ?_;refine zob ?_;refine zai (by show (L.getD i ((0 : Int),(0 : Int),ByteArray.empty,false)).2.2.1.size + 1 ≤ maxLen;unfold maxLen;omega) ?_;refine zai (by first|exact qO (by first|omega|(simp only [List.length_cons,List.length_nil];omega)|(simp;omega)) (by decide)|omega|assumption|decide|(simp only [zds];omega)|(simp <;> omega)) ?_;refine qB ?_;refine yI 1 2 107 rFld rfl rfl rfl ?_;refine yH [5] ?_;refine yA ?_;refine qI ?_;refine zob ?_;exact ⟨(i + 1,xH t (L.getD i ((0 : Int),(0 : Int),ByteArray.empty,false)) (L.drop (i + 1))),hN,by first|omega|(simp <;> omega),qP ⟨rfl,rfl,rfl,rfl,((by rw [hS];try rfl)),(qT (by simp only;omega))⟩ ⟨((by rw [hS];try rfl)),((by rw [hS];try rfl))⟩ rfl⟩
      ·try simp only [decide_eq_false_iff_not] at h58
       try simp only [Int.toNat_natCast,qD] at h58
       rw [kind_at hk hil] at h58;refine qL ?_;refine acode_cut (fun (u : Unit)=>True) (fun (u : Unit)=>[(5,.one (.sl rLne L)),(6,.one (.sl (.int .i64) k)),(8,.one (.vec 2)),(9,.one (.own 1 0)),(10,ii .i64 t.recs),(11,ii .i64 i)]) (fun (u : Unit)=>[(1,.box 136 [.lit (.int .i64 t.kind),.lit (.string (t.raw ++ (L.getD i ((0 : Int),(0 : Int),ByteArray.empty,false)).2.2.1 ++ ⟨#[10]⟩)),.sl rFld t.flds]),(2,.vec 136 rItm t.out)]) 4 ?_ ?_
       ·refine yK rfl ?_;refine qN 0 rfl ?_;refine qN 2 rfl ?_;refine qN 3 rfl ?_;refine qN 4 rfl ?_;refine zob ?_;refine qF [1,5] ?_;refine zai ?_ ?_
        ·refine qF [5] ?_;refine qF [6] ?_;refine qN 7 rfl ?_;refine zai (by show t.raw.size + (L.getD i ((0 : Int),(0 : Int),ByteArray.empty,false)).2.2.1.size ≤ maxLen;unfold maxLen;omega) ?_;refine qN 8 rfl ?_;refine zai (by rw [ByteArray.size_append];show t.raw.size + (L.getD i ((0 : Int),(0 : Int),ByteArray.empty,false)).2.2.1.size + 1 ≤ maxLen;unfold maxLen;omega) ?_;refine qN 9 rfl ?_;refine qF [10] ?_;refine qS ?_;exact ⟨(),trivial,qP ⟨rfl,rfl,rfl,rfl,rfl,rfl⟩ ⟨rfl,rfl⟩ rfl⟩
        ·refine qF [1,6] ?_;refine zai ?_ ?_
         ·refine qF [6] ?_;refine qN 7 rfl ?_;refine zai (by show t.raw.size + (L.getD i ((0 : Int),(0 : Int),ByteArray.empty,false)).2.2.1.size ≤ maxLen;unfold maxLen;omega) ?_;refine qN 8 rfl ?_;refine zai (by rw [ByteArray.size_append];show t.raw.size + (L.getD i ((0 : Int),(0 : Int),ByteArray.empty,false)).2.2.1.size + 1 ≤ maxLen;unfold maxLen;omega) ?_;refine qN 9 rfl ?_;refine qF [10] ?_;refine qS ?_;exact ⟨(),trivial,qP ⟨rfl,rfl,rfl,rfl,rfl,rfl⟩ ⟨rfl,rfl⟩ rfl⟩
         ·refine qF [1] ?_;refine qN 7 rfl ?_;refine zai (by show t.raw.size + (L.getD i ((0 : Int),(0 : Int),ByteArray.empty,false)).2.2.1.size ≤ maxLen;unfold maxLen;omega) ?_;refine qN 8 rfl ?_;refine zai (by rw [ByteArray.size_append];show t.raw.size + (L.getD i ((0 : Int),(0 : Int),ByteArray.empty,false)).2.2.1.size + 1 ≤ maxLen;unfold maxLen;omega) ?_;refine qN 9 rfl ?_;refine qF [10] ?_;refine qS ?_;exact ⟨(),trivial,qP ⟨rfl,rfl,rfl,rfl,rfl,rfl⟩ ⟨rfl,rfl⟩ rfl⟩
       ·intro u hcut24;refine qB ?_;refine zob ?_;refine qK rfl (fun h91=>?_) (fun h91=>?_)
        ·try simp only [decide_eq_true_eq] at h91
         try simp only [Int.toNat_natCast,qD] at h91
         rw [kind_at hk hil] at h91;refine acode_cut (fun (rc : Int)=>rc = (if t.kind = 2 then t.recs + 1 else t.recs)) (fun (rc : Int)=>[(5,.one (.sl rLne L)),(6,.one (.sl (.int .i64) k)),(8,.one (.vec 2)),(9,.one (.own 1 0)),(10,ii .i64 rc),(11,ii .i64 i)]) (fun (rc : Int)=>[(1,.box 136 [.lit (.int .i64 t.kind),.lit (.string (t.raw ++ (L.getD i ((0 : Int),(0 : Int),ByteArray.empty,false)).2.2.1 ++ ⟨#[10]⟩)),.sl rFld t.flds]),(2,.vec 136 rItm t.out)]) 4 ?_ ?_
         ·refine qB ?_;refine qK rfl (fun h94=>?_) (fun h94=>?_)
          ·try simp only [decide_eq_true_eq] at h94
           try simp only [zds] at h94
           refine qI ?_;refine zob ?_;exact ⟨t.recs + 1,(by rw [if_pos h94]),qP ⟨rfl,rfl,rfl,rfl,rfl,rfl⟩ ⟨rfl,rfl⟩ rfl⟩
          ·try simp only [decide_eq_false_iff_not] at h94
           try simp only [zds] at h94
           refine qL ?_;exact ⟨t.recs,(by rw [if_neg h94]),qP ⟨rfl,rfl,rfl,rfl,rfl,rfl⟩ ⟨rfl,rfl⟩ rfl⟩
         ·intro rc hcut27;have hS : xH t (L.getD i ((0 : Int),(0 : Int),ByteArray.empty,false)) (L.drop (i + 1)) = ⟨3,t.raw ++ (L.getD i ((0 : Int),(0 : Int),ByteArray.empty,false)).2.2.1 ++ ⟨#[10]⟩,t.flds ++ [fldOf (saidL (L.getD i ((0 : Int),(0 : Int),ByteArray.empty,false)) (L.drop (i + 1)))],t.out,rc⟩:=(by unfold xH;rw [if_neg h58,if_pos h91,hcut27]);refine qB ?_;refine qB ?_;refine Or.inl ?_;refine zai (rfl) ?_;refine zei _ (zai (said_c L k hk i hil (by omega)) ?_);refine Or.inl ?_;refine zai (rfl) ?_;refine zei _ (zai (unfold_any _ (hss i hil)) ?_);refine yK rfl ?_;refine qN 1 rfl ?_;refine qF [0,2,4] ?_;refine zai ?_ ?_
          ·refine qF [2,4] ?_;refine zai ?_ ?_
           ·refine qF [3,4] ?_;refine zai ?_ ?_
            ·refine zai (by first|exact qO (by first|omega|(simp only [List.length_nil];omega)|(simp;omega)) (by decide)|omega|assumption|decide|(simp only [zds];omega)|(simp <;> omega)) ?_;refine qF [4] ?_;refine qF [5] ?_;refine qF [6] ?_;refine zai (by exact qO (show t.flds.length + 1 ≤ 1000000000 by omega) (by decide)) ?_;refine qN 7 rfl ?_;refine qF [8] ?_;refine qS ?_;refine yH [5,6] ?_;refine qI ?_;refine zob ?_;exact ⟨(i + 1,xH t (L.getD i ((0 : Int),(0 : Int),ByteArray.empty,false)) (L.drop (i + 1))),hN,by first|omega|(simp <;> omega),qP ⟨rfl,rfl,rfl,rfl,((by rw [hS];try rfl)),(qT (by simp only;omega))⟩ ⟨((by rw [hS];try rfl)),((by rw [hS];try rfl))⟩ rfl⟩
            ·refine qF [3,5] ?_;refine zai ?_ ?_
             ·refine zai (by first|exact qO (by first|omega|(simp only [List.length_nil];omega)|(simp;omega)) (by decide)|omega|assumption|decide|(simp only [zds];omega)|(simp <;> omega)) ?_;refine qF [5] ?_;refine qF [6] ?_;refine zai (by exact qO (show t.flds.length + 1 ≤ 1000000000 by omega) (by decide)) ?_;refine qN 7 rfl ?_;refine qF [8] ?_;refine qS ?_;refine yH [5,6] ?_;refine qI ?_;refine zob ?_;exact ⟨(i + 1,xH t (L.getD i ((0 : Int),(0 : Int),ByteArray.empty,false)) (L.drop (i + 1))),hN,by first|omega|(simp <;> omega),qP ⟨rfl,rfl,rfl,rfl,((by rw [hS];try rfl)),(qT (by simp only;omega))⟩ ⟨((by rw [hS];try rfl)),((by rw [hS];try rfl))⟩ rfl⟩
             ·refine qF [3] ?_;refine zai (by first|exact qO (by first|omega|(simp only [List.length_nil];omega)|(simp;omega)) (by decide)|omega|assumption|decide|(simp only [zds];omega)|(simp <;> omega)) ?_;refine qF [6] ?_;refine zai (by exact qO (show t.flds.length + 1 ≤ 1000000000 by omega) (by decide)) ?_;refine qN 7 rfl ?_;refine qF [8] ?_;refine qS ?_;refine yH [5,6] ?_;refine qI ?_;refine zob ?_;exact ⟨(i + 1,xH t (L.getD i ((0 : Int),(0 : Int),ByteArray.empty,false)) (L.drop (i + 1))),hN,by first|omega|(simp <;> omega),qP ⟨rfl,rfl,rfl,rfl,((by rw [hS];try rfl)),(qT (by simp only;omega))⟩ ⟨((by rw [hS];try rfl)),((by rw [hS];try rfl))⟩ rfl⟩
           ·refine qF [2,5] ?_;refine zai ?_ ?_
            ·refine qF [3,5] ?_;refine zai ?_ ?_
             ·refine zai (by first|exact qO (by first|omega|(simp only [List.length_nil];omega)|(simp;omega)) (by decide)|omega|assumption|decide|(simp only [zds];omega)|(simp <;> omega)) ?_;refine qF [5] ?_;refine qF [6] ?_;refine zai (by exact qO (show t.flds.length + 1 ≤ 1000000000 by omega) (by decide)) ?_;refine qN 7 rfl ?_;refine qF [8] ?_;refine qS ?_;refine yH [5,6] ?_;refine qI ?_;refine zob ?_;exact ⟨(i + 1,xH t (L.getD i ((0 : Int),(0 : Int),ByteArray.empty,false)) (L.drop (i + 1))),hN,by first|omega|(simp <;> omega),qP ⟨rfl,rfl,rfl,rfl,((by rw [hS];try rfl)),(qT (by simp only;omega))⟩ ⟨((by rw [hS];try rfl)),((by rw [hS];try rfl))⟩ rfl⟩
             ·refine qF [3] ?_;refine zai (by first|exact qO (by first|omega|(simp only [List.length_nil];omega)|(simp;omega)) (by decide)|omega|assumption|decide|(simp only [zds];omega)|(simp <;> omega)) ?_;refine qF [6] ?_;refine zai (by exact qO (show t.flds.length + 1 ≤ 1000000000 by omega) (by decide)) ?_;refine qN 7 rfl ?_;refine qF [8] ?_;refine qS ?_;refine yH [5,6] ?_;refine qI ?_;refine zob ?_;exact ⟨(i + 1,xH t (L.getD i ((0 : Int),(0 : Int),ByteArray.empty,false)) (L.drop (i + 1))),hN,by first|omega|(simp <;> omega),qP ⟨rfl,rfl,rfl,rfl,((by rw [hS];try rfl)),(qT (by simp only;omega))⟩ ⟨((by rw [hS];try rfl)),((by rw [hS];try rfl))⟩ rfl⟩
            ·refine qF [2] ?_;refine qF [3] ?_;refine zai (by first|exact qO (by first|omega|(simp only [List.length_nil];omega)|(simp;omega)) (by decide)|omega|assumption|decide|(simp only [zds];omega)|(simp <;> omega)) ?_;refine qF [6] ?_;refine zai (by exact qO (show t.flds.length + 1 ≤ 1000000000 by omega) (by decide)) ?_;refine qN 7 rfl ?_;refine qF [8] ?_;refine qS ?_;refine yH [5,6] ?_;refine qI ?_;refine zob ?_;exact ⟨(i + 1,xH t (L.getD i ((0 : Int),(0 : Int),ByteArray.empty,false)) (L.drop (i + 1))),hN,by first|omega|(simp <;> omega),qP ⟨rfl,rfl,rfl,rfl,((by rw [hS];try rfl)),(qT (by simp only;omega))⟩ ⟨((by rw [hS];try rfl)),((by rw [hS];try rfl))⟩ rfl⟩
          refine zai ?_ ?_
          ·refine qF [0,4] ?_;refine zai ?_ ?_
           ·refine qF [3,4] ?_;refine zai ?_ ?_
            ·refine zai (by first|exact qO (by first|omega|(simp only [List.length_nil];omega)|(simp;omega)) (by decide)|omega|assumption|decide|(simp only [zds];omega)|(simp <;> omega)) ?_;refine qF [4] ?_;refine qF [5] ?_;refine qF [6] ?_;refine zai (by exact qO (show t.flds.length + 1 ≤ 1000000000 by omega) (by decide)) ?_;refine qN 7 rfl ?_;refine qF [8] ?_;refine qS ?_;refine yH [5,6] ?_;refine qI ?_;refine zob ?_;exact ⟨(i + 1,xH t (L.getD i ((0 : Int),(0 : Int),ByteArray.empty,false)) (L.drop (i + 1))),hN,by first|omega|(simp <;> omega),qP ⟨rfl,rfl,rfl,rfl,((by rw [hS];try rfl)),(qT (by simp only;omega))⟩ ⟨((by rw [hS];try rfl)),((by rw [hS];try rfl))⟩ rfl⟩
            ·refine qF [3,5] ?_;refine zai ?_ ?_
             ·refine zai (by first|exact qO (by first|omega|(simp only [List.length_nil];omega)|(simp;omega)) (by decide)|omega|assumption|decide|(simp only [zds];omega)|(simp <;> omega)) ?_;refine qF [5] ?_;refine qF [6] ?_;refine zai (by exact qO (show t.flds.length + 1 ≤ 1000000000 by omega) (by decide)) ?_;refine qN 7 rfl ?_;refine qF [8] ?_;refine qS ?_;refine yH [5,6] ?_;refine qI ?_;refine zob ?_;exact ⟨(i + 1,xH t (L.getD i ((0 : Int),(0 : Int),ByteArray.empty,false)) (L.drop (i + 1))),hN,by first|omega|(simp <;> omega),qP ⟨rfl,rfl,rfl,rfl,((by rw [hS];try rfl)),(qT (by simp only;omega))⟩ ⟨((by rw [hS];try rfl)),((by rw [hS];try rfl))⟩ rfl⟩
             ·refine qF [3] ?_;refine zai (by first|exact qO (by first|omega|(simp only [List.length_nil];omega)|(simp;omega)) (by decide)|omega|assumption|decide|(simp only [zds];omega)|(simp <;> omega)) ?_;refine qF [6] ?_;refine zai (by exact qO (show t.flds.length + 1 ≤ 1000000000 by omega) (by decide)) ?_;refine qN 7 rfl ?_;refine qF [8] ?_;refine qS ?_;refine yH [5,6] ?_;refine qI ?_;refine zob ?_;exact ⟨(i + 1,xH t (L.getD i ((0 : Int),(0 : Int),ByteArray.empty,false)) (L.drop (i + 1))),hN,by first|omega|(simp <;> omega),qP ⟨rfl,rfl,rfl,rfl,((by rw [hS];try rfl)),(qT (by simp only;omega))⟩ ⟨((by rw [hS];try rfl)),((by rw [hS];try rfl))⟩ rfl⟩
           ·refine qF [0,5] ?_;refine zai ?_ ?_
            ·refine qF [3,5] ?_;refine zai ?_ ?_
             ·refine zai (by first|exact qO (by first|omega|(simp only [List.length_nil];omega)|(simp;omega)) (by decide)|omega|assumption|decide|(simp only [zds];omega)|(simp <;> omega)) ?_;refine qF [5] ?_;refine qF [6] ?_;refine zai (by exact qO (show t.flds.length + 1 ≤ 1000000000 by omega) (by decide)) ?_;refine qN 7 rfl ?_;refine qF [8] ?_;refine qS ?_;refine yH [5,6] ?_;refine qI ?_;refine zob ?_;exact ⟨(i + 1,xH t (L.getD i ((0 : Int),(0 : Int),ByteArray.empty,false)) (L.drop (i + 1))),hN,by first|omega|(simp <;> omega),qP ⟨rfl,rfl,rfl,rfl,((by rw [hS];try rfl)),(qT (by simp only;omega))⟩ ⟨((by rw [hS];try rfl)),((by rw [hS];try rfl))⟩ rfl⟩
             ·refine qF [3] ?_;refine zai (by first|exact qO (by first|omega|(simp only [List.length_nil];omega)|(simp;omega)) (by decide)|omega|assumption|decide|(simp only [zds];omega)|(simp <;> omega)) ?_;refine qF [6] ?_;refine zai (by exact qO (show t.flds.length + 1 ≤ 1000000000 by omega) (by decide)) ?_;refine qN 7 rfl ?_;refine qF [8] ?_;refine qS ?_;refine yH [5,6] ?_;refine qI ?_;refine zob ?_;exact ⟨(i + 1,xH t (L.getD i ((0 : Int),(0 : Int),ByteArray.empty,false)) (L.drop (i + 1))),hN,by first|omega|(simp <;> omega),qP ⟨rfl,rfl,rfl,rfl,((by rw [hS];try rfl)),(qT (by simp only;omega))⟩ ⟨((by rw [hS];try rfl)),((by rw [hS];try rfl))⟩ rfl⟩
            ·refine qF [0] ?_;refine qF [3] ?_;refine zai (by first|exact qO (by first|omega|(simp only [List.length_nil];omega)|(simp;omega)) (by decide)|omega|assumption|decide|(simp only [zds];omega)|(simp <;> omega)) ?_;refine qF [6] ?_;refine zai (by exact qO (show t.flds.length + 1 ≤ 1000000000 by omega) (by decide)) ?_;refine qN 7 rfl ?_;refine qF [8] ?_;refine qS ?_;refine yH [5,6] ?_;refine qI ?_;refine zob ?_;exact ⟨(i + 1,xH t (L.getD i ((0 : Int),(0 : Int),ByteArray.empty,false)) (L.drop (i + 1))),hN,by first|omega|(simp <;> omega),qP ⟨rfl,rfl,rfl,rfl,((by rw [hS];try rfl)),(qT (by simp only;omega))⟩ ⟨((by rw [hS];try rfl)),((by rw [hS];try rfl))⟩ rfl⟩
          ·refine qF [0,2,5] ?_;refine zai ?_ ?_
           ·refine qF [2,5] ?_;refine zai ?_ ?_
            ·refine qF [3,5] ?_;refine zai ?_ ?_
             ·refine zai (by first|exact qO (by first|omega|(simp only [List.length_nil];omega)|(simp;omega)) (by decide)|omega|assumption|decide|(simp only [zds];omega)|(simp <;> omega)) ?_;refine qF [5] ?_;refine qF [6] ?_;refine zai (by exact qO (show t.flds.length + 1 ≤ 1000000000 by omega) (by decide)) ?_;refine qN 7 rfl ?_;refine qF [8] ?_;refine qS ?_;refine yH [5,6] ?_;refine qI ?_;refine zob ?_;exact ⟨(i + 1,xH t (L.getD i ((0 : Int),(0 : Int),ByteArray.empty,false)) (L.drop (i + 1))),hN,by first|omega|(simp <;> omega),qP ⟨rfl,rfl,rfl,rfl,((by rw [hS];try rfl)),(qT (by simp only;omega))⟩ ⟨((by rw [hS];try rfl)),((by rw [hS];try rfl))⟩ rfl⟩
             ·refine qF [3] ?_;refine zai (by first|exact qO (by first|omega|(simp only [List.length_nil];omega)|(simp;omega)) (by decide)|omega|assumption|decide|(simp only [zds];omega)|(simp <;> omega)) ?_;refine qF [6] ?_;refine zai (by exact qO (show t.flds.length + 1 ≤ 1000000000 by omega) (by decide)) ?_;refine qN 7 rfl ?_;refine qF [8] ?_;refine qS ?_;refine yH [5,6] ?_;refine qI ?_;refine zob ?_;exact ⟨(i + 1,xH t (L.getD i ((0 : Int),(0 : Int),ByteArray.empty,false)) (L.drop (i + 1))),hN,by first|omega|(simp <;> omega),qP ⟨rfl,rfl,rfl,rfl,((by rw [hS];try rfl)),(qT (by simp only;omega))⟩ ⟨((by rw [hS];try rfl)),((by rw [hS];try rfl))⟩ rfl⟩
            ·refine qF [2] ?_;refine qF [3] ?_;refine zai (by first|exact qO (by first|omega|(simp only [List.length_nil];omega)|(simp;omega)) (by decide)|omega|assumption|decide|(simp only [zds];omega)|(simp <;> omega)) ?_;refine qF [6] ?_;refine zai (by exact qO (show t.flds.length + 1 ≤ 1000000000 by omega) (by decide)) ?_;refine qN 7 rfl ?_;refine qF [8] ?_;refine qS ?_;refine yH [5,6] ?_;refine qI ?_;refine zob ?_;exact ⟨(i + 1,xH t (L.getD i ((0 : Int),(0 : Int),ByteArray.empty,false)) (L.drop (i + 1))),hN,by first|omega|(simp <;> omega),qP ⟨rfl,rfl,rfl,rfl,((by rw [hS];try rfl)),(qT (by simp only;omega))⟩ ⟨((by rw [hS];try rfl)),((by rw [hS];try rfl))⟩ rfl⟩
           refine zai ?_ ?_
           ·refine qF [0,5] ?_;refine zai ?_ ?_
            ·refine qF [3,5] ?_;refine zai ?_ ?_
             ·refine zai (by first|exact qO (by first|omega|(simp only [List.length_nil];omega)|(simp;omega)) (by decide)|omega|assumption|decide|(simp only [zds];omega)|(simp <;> omega)) ?_;refine qF [5] ?_;refine qF [6] ?_;refine zai (by exact qO (show t.flds.length + 1 ≤ 1000000000 by omega) (by decide)) ?_;refine qN 7 rfl ?_;refine qF [8] ?_;refine qS ?_;refine yH [5,6] ?_;refine qI ?_;refine zob ?_;exact ⟨(i + 1,xH t (L.getD i ((0 : Int),(0 : Int),ByteArray.empty,false)) (L.drop (i + 1))),hN,by first|omega|(simp <;> omega),qP ⟨rfl,rfl,rfl,rfl,((by rw [hS];try rfl)),(qT (by simp only;omega))⟩ ⟨((by rw [hS];try rfl)),((by rw [hS];try rfl))⟩ rfl⟩
             ·refine qF [3] ?_;refine zai (by first|exact qO (by first|omega|(simp only [List.length_nil];omega)|(simp;omega)) (by decide)|omega|assumption|decide|(simp only [zds];omega)|(simp <;> omega)) ?_;refine qF [6] ?_;refine zai (by exact qO (show t.flds.length + 1 ≤ 1000000000 by omega) (by decide)) ?_;refine qN 7 rfl ?_;refine qF [8] ?_;refine qS ?_;refine yH [5,6] ?_;refine qI ?_;refine zob ?_;exact ⟨(i + 1,xH t (L.getD i ((0 : Int),(0 : Int),ByteArray.empty,false)) (L.drop (i + 1))),hN,by first|omega|(simp <;> omega),qP ⟨rfl,rfl,rfl,rfl,((by rw [hS];try rfl)),(qT (by simp only;omega))⟩ ⟨((by rw [hS];try rfl)),((by rw [hS];try rfl))⟩ rfl⟩
            ·refine qF [0] ?_;refine qF [3] ?_;refine zai (by first|exact qO (by first|omega|(simp only [List.length_nil];omega)|(simp;omega)) (by decide)|omega|assumption|decide|(simp only [zds];omega)|(simp <;> omega)) ?_;refine qF [6] ?_;refine zai (by exact qO (show t.flds.length + 1 ≤ 1000000000 by omega) (by decide)) ?_;refine qN 7 rfl ?_;refine qF [8] ?_;refine qS ?_;refine yH [5,6] ?_;refine qI ?_;refine zob ?_;exact ⟨(i + 1,xH t (L.getD i ((0 : Int),(0 : Int),ByteArray.empty,false)) (L.drop (i + 1))),hN,by first|omega|(simp <;> omega),qP ⟨rfl,rfl,rfl,rfl,((by rw [hS];try rfl)),(qT (by simp only;omega))⟩ ⟨((by rw [hS];try rfl)),((by rw [hS];try rfl))⟩ rfl⟩
           ·refine qF [0,2] ?_;refine zai ?_ ?_
            ·refine qF [2] ?_;refine qF [3] ?_;refine zai (by first|exact qO (by first|omega|(simp only [List.length_nil];omega)|(simp;omega)) (by decide)|omega|assumption|decide|(simp only [zds];omega)|(simp <;> omega)) ?_;refine qF [6] ?_;refine zai (by exact qO (show t.flds.length + 1 ≤ 1000000000 by omega) (by decide)) ?_;refine qN 7 rfl ?_;refine qF [8] ?_;refine qS ?_;refine yH [5,6] ?_;refine qI ?_;refine zob ?_;exact ⟨(i + 1,xH t (L.getD i ((0 : Int),(0 : Int),ByteArray.empty,false)) (L.drop (i + 1))),hN,by first|omega|(simp <;> omega),qP ⟨rfl,rfl,rfl,rfl,((by rw [hS];try rfl)),(qT (by simp only;omega))⟩ ⟨((by rw [hS];try rfl)),((by rw [hS];try rfl))⟩ rfl⟩
            ·refine qF [0] ?_;refine qF [3] ?_;refine zai (by first|exact qO (by first|omega|(simp only [List.length_nil];omega)|(simp;omega)) (by decide)|omega|assumption|decide|(simp only [zds];omega)|(simp <;> omega)) ?_;refine qF [6] ?_;refine zai (by exact qO (show t.flds.length + 1 ≤ 1000000000 by omega) (by decide)) ?_;refine qN 7 rfl ?_;refine qF [8] ?_;refine qS ?_;refine yH [5,6] ?_;refine qI ?_;refine zob ?_;exact ⟨(i + 1,xH t (L.getD i ((0 : Int),(0 : Int),ByteArray.empty,false)) (L.drop (i + 1))),hN,by first|omega|(simp <;> omega),qP ⟨rfl,rfl,rfl,rfl,((by rw [hS];try rfl)),(qT (by simp only;omega))⟩ ⟨((by rw [hS];try rfl)),((by rw [hS];try rfl))⟩ rfl⟩
        ·try simp only [decide_eq_false_iff_not] at h91
         try simp only [Int.toNat_natCast,qD] at h91
         rw [kind_at hk hil] at h91;have hS : xH t (L.getD i ((0 : Int),(0 : Int),ByteArray.empty,false)) (L.drop (i + 1)) = { t with raw:=t.raw ++ (L.getD i ((0 : Int),(0 : Int),ByteArray.empty,false)).2.2.1 ++ ⟨#[10]⟩ }:=(by unfold xH;rw [if_neg h58,if_neg h91]);refine qL ?_;refine qI ?_;refine zob ?_;exact ⟨(i + 1,xH t (L.getD i ((0 : Int),(0 : Int),ByteArray.empty,false)) (L.drop (i + 1))),hN,by first|omega|(simp <;> omega),qP ⟨rfl,rfl,rfl,rfl,((by rw [hS];try rfl)),(qT (by simp only;omega))⟩ ⟨((by rw [hS];try rfl)),((by rw [hS];try rfl))⟩ rfl⟩
    ·try simp only [decide_eq_false_iff_not,Int.not_lt] at h39
     try simp only [zds] at h39
     refine yA ?_;have hd : L.drop i = []:=List.drop_eq_nil_of_le (by omega);have hE:=hI.eq;rw [hd] at hE;refine qJ ?_;refine qB ?_;refine qK rfl (fun h116=>?_) (fun h116=>?_)
     ·try simp only [decide_eq_false_iff_not,Bool.not_eq_true'] at h116
      try simp only [zds] at h116
      refine qI ?_;refine zai (by first|exact qO (by first|omega|(simp only [List.length_cons,List.length_nil];omega)|(simp;omega)) (by decide)|omega|assumption|decide|(simp only [zds];omega)|(simp <;> omega)) ?_;refine qB ?_;refine qM ?_;rw [hE];unfold runR;rw [if_neg (show ¬ t.raw = ByteArray.empty from h116)];rfl
     ·try simp only [decide_eq_true_eq,Bool.not_eq_false'] at h116
      try simp only [zds] at h116
      refine qL ?_;refine qB ?_;refine qM ?_;rw [hE];unfold runR;rw [if_pos (show t.raw = ByteArray.empty from h116)];rfl
abbrev rRow : Rd (List Fld):=.sl rFld
def recsL (l : List Itm) : List (List Fld):=(l.filter fun x=>decide (x.1 = 3)).map (·.2.2)
def contP (p : PSt) : List UInt8:=rawsL p.its ++ endL (p.blk.map ls)
theorem raws_app (a b : List Itm) : rawsL (a ++ b) = rawsL a ++ rawsL b:=by simp [rawsL]
theorem endL_app (a b : List (List UInt8)) : endL (a ++ b) = endL a ++ endL b:=by simp [endL]
theorem close_cont (p : PSt) : contP (xX p) = contP p:=by
  unfold xX;split
  · rename_i h;unfold contP;simp [h]
  · rename_i h;unfold contP;simp only [raws_app];rw [rawB_C h];have : rawsL [((if p.flds = [] then 2 else 3 : Int),rawC p.blk,p.flds)] = endL (p.blk.map ls):=by
      unfold rawsL rawC;simp only [List.flatMap_cons,List.flatMap_nil,List.append_nil];exact yG _
    rw [this];simp [endL]
theorem flush_cont {p q : PSt} (h : yY p = .inr q) : contP q = contP p:=by
  obtain ⟨h1,h2⟩:=flush_same h;unfold contP;rw [h1,h2]
theorem end_cont {p q : PSt} (h : endS p = .inr q) : contP q = contP p:=by
  unfold endS at h;cases e : yY p with
  | inl x=>rw [e] at h;cases h
  | inr r =>
    rw [e] at h;cases h;rw [close_cont,flush_cont e]
theorem ahead_cont {p q : PSt} {l : Lne} {k : Int} (h : xA p l k = .inr q) : contP q = contP p:=by
  unfold xA at h;split at h
  · split at h
    · cases h
    · split at h
      · cases h;rfl
      · rw [flush_cont h];rfl
  · split at h
    · exact end_cont h
    · exact flush_cont h
theorem take_cont {p q : PSt} {l : Lne} (h : xD p l = .inr q) : contP q = contP p ++ (ls l.2.2.1 ++ [10]):=by
  have hi:=fun hk=>(ahead_took (p:=p) (l:=l) (k:=yF (ls l.2.2.1)) (q:=q) hk)
  unfold xD at h;cases e : xA p l (yF (ls l.2.2.1)) with
  | inl x=>rw [e] at h;cases h
  | inr r =>
    rw [e] at h;have hc:=ahead_cont e;obtain ⟨_,_,h4⟩:=ahead_took e;simp only at h;unfold lineS at h;split at h
    · cases h
    · split at h
      · rename_i g1;cases h;rw [← hc];unfold contP;simp only [raws_app,(h4 g1).2.1];simp [rawsL,endL,ls]
      · split at h
        · cases h;rw [← hc];unfold contP xY;simp only [List.map_append,endL_app];simp [endL,ls]
        · cases h;rw [← hc];unfold contP;simp only [List.map_append,endL_app];simp [endL,ls]
theorem run_cont : ∀ (L : List Lne) (p q : PSt),runS p L = .inr q → contP q = contP p ++ glue (L.map (·.2.2))
  | [],p,q,h=>by cases h;simp [glue]
  | l :: r,p,q,h=>by
    simp only [runS] at h;cases e : xD p l with
    | inl x=>rw [e] at h;cases h
    | inr p1 =>
      rw [e] at h;obtain ⟨he,_⟩:=take_took e;rw [run_cont r p1 q h,take_cont e,List.map_cons];simp only [glue,he,if_true,List.append_assoc]
theorem raws_text {s : ByteArray} {l : List Itm} (hp : xG s = .inr l) : bytes (rawsL l) = s:=by
  unfold xG at hp;cases e : runS pst0 (yJ s) with
  | inl x=>rw [e] at hp;cases hp
  | inr p =>
    rw [e] at hp;simp only at hp;cases e2 : endS p with
    | inl x=>rw [e2] at hp;cases hp
    | inr q =>
      rw [e2] at hp;cases hp;obtain ⟨_,_,hidle⟩:=end_took e2;have h1 : contP q = rawsL q.its:=by unfold contP;rw [hidle.2.1];simp [endL]
      rw [← h1,end_cont e2,run_cont _ _ _ e,lines_text,glue_lines _ _ (by rw [show (ls s).length = s.size from (yD s).symm];exact Nat.le_refl _)];exact bytes_ls s
theorem runR_ne : ∀ (L : List Lne) (t : RSt) (bh : Bool) (e : Int × Int),runR bh t L = .inl e → e.2 ≠ 0
  | [],t,bh,e,h=>by unfold runR at h;cases h
  | l :: r,t,bh,e,h=>by
    unfold runR at h;split at h
    · rename_i hw;cases h;exact hw
    · exact runR_ne r _ _ e h
theorem items_flds {s : ByteArray} {l : List Itm} (hs : s.size ≤ 60000) (hp : xG s = .inr l) : l.length ≤ 1000000 ∧ ∀ x ∈ l,x.2.2.length ≤ 1000000:=by
  have h0:=parse_ref s;rw [hp] at h0;obtain ⟨h1,_⟩:=linesT_len s;have key : ∀ (L : List Lne) (t : RSt) (bh : Bool) (l : List Itm),runR bh t L = .inr l → l.length ≤ t.out.length + 1 + 2 * L.length ∧ ∀ (B : Nat),t.flds.length + L.length ≤ B → (∀ x ∈ t.out,x.2.2.length ≤ B) → ∀ x ∈ l,x.2.2.length ≤ B:=by
    intro L
    induction L with
    | nil =>
      intro t bh l h;unfold runR at h;cases h;refine ⟨by split <;> simp,fun B hB ho x hx=>?_⟩;split at hx
      · exact ho x hx
      · rcases List.mem_append.1 hx with hx|hx
        · exact ho x hx
        · rw [List.mem_singleton.1 hx];simpa using hB
    | cons a r ih =>
      intro t bh l h;unfold runR at h;split at h
      · cases h
      · obtain ⟨i1,i2⟩:=ih _ _ _ h;have so : (xH t a r).out.length ≤ t.out.length + 2:=by
          unfold xH;split
          · simp only;split <;> simp
          · split <;> simp
        have sf : (xH t a r).flds.length ≤ t.flds.length + 1:=by
          unfold xH;split
          · simp
          · split <;> simp
        refine ⟨by rw [List.length_cons];omega,fun B hB ho=>i2 B (by rw [List.length_cons] at hB;omega) (fun x hx=>?_)⟩;have hB2 : t.flds.length ≤ B:=by omega
        unfold xH at hx;split at hx
        · simp only at hx;rcases List.mem_append.1 hx with hx|hx
          · split at hx
            · exact ho x hx
            · rcases List.mem_append.1 hx with hx|hx
              · exact ho x hx
              · rw [List.mem_singleton.1 hx];exact hB2
          · rw [List.mem_singleton.1 hx];exact Nat.zero_le _
        · split at hx
          · exact ho x hx
          · exact ho x hx
  obtain ⟨k1,k2⟩:=key _ _ _ _ h0.symm;refine ⟨by simp only [rst0,List.length_nil] at k1;omega,k2 1000000 (by simp only [rst0,List.length_nil];omega) (fun x hx=>by cases hx)⟩
theorem at_errno (n : Int) : qX Tryz.prog 55 [.one (errN n)] (ii .i64 (-9)):=by
  refine qV (rs:=[2]) Tryz.func55 rfl rfl rfl teOk rfl ?_;refine qB ?_;refine qJ ?_;refine qB ?_;refine qB ?_;refine zai (fun h=>trivial) ?_;refine zai (fun h=>⟨⟨h,trivial⟩,trivial⟩) ?_;refine zai (by exact fun h=>h) ?_;refine qK rfl (fun h14=>?_) (fun h14=>?_)
  ·try simp only [Bool.and_eq_true,Bool.not_eq_true'] at h14
   try simp only [zds] at h14
   simp at h14
  ·try simp only [Bool.not_eq_false',Bool.and_eq_false_iff] at h14
   try simp only [zds] at h14
   refine qL ?_;refine qB ?_;refine qM ?_;rfl
def apartK (k : Int) : List Itm → List Itm
  | []=>[]
  | x :: r=>if k ≠ 1 ∧ x.1 ≠ 1 then (1,⟨#[10]⟩,[]) :: x :: apartK x.1 r else x :: apartK x.1 r
def apartL (l : List Itm) : List Itm:=apartK 1 l
def altK (k : Int) : List Itm → Prop
  | []=>True
  | x :: r=>(k = 1 ∨ x.1 = 1) ∧ altK x.1 r
def lastK (k : Int) : List Itm → Int
  | []=>k
  | x :: r=>lastK x.1 r
def AltP (p : PSt) : Prop:=altK 1 p.its ∧ lastK 1 p.its = 1
theorem flush_recs {p q : PSt} (h : yY p = .inr q) : q.recs = p.recs:=by
  unfold yY at h;split at h
  · cases h;rfl
  · split at h
    · cases h
    · split at h
      · cases h
      · cases h;rfl
theorem close_recs (p : PSt) : p.recs ≤ (xX p).recs ∧ (xX p).recs ≤ p.recs + 1:=by
  unfold xX;split
  · exact ⟨Int.le_refl _,by simp only;omega⟩
  · simp only;split <;> omega
theorem end_recs {p q : PSt} (h : endS p = .inr q) : p.recs ≤ q.recs ∧ q.recs ≤ p.recs + 1:=by
  unfold endS at h;cases e : yY p with
  | inl x=>rw [e] at h;cases h
  | inr r =>
    rw [e] at h;cases h;rw [← flush_recs e];exact close_recs r
theorem ahead_recs {p q : PSt} {l : Lne} {k : Int} (h : xA p l k = .inr q) : p.recs ≤ q.recs ∧ (k ≠ 1 → q.recs = p.recs):=by
  unfold xA at h;split at h
  · split at h
    · cases h
    · split at h
      · cases h;exact ⟨Int.le_refl _,fun _=>rfl⟩
      · have:=flush_recs h;simp only at this;exact ⟨by omega,fun _=>this⟩
  · split at h
    · rename_i h1;exact ⟨(end_recs h).1,fun e=>absurd h1 e⟩
    · have:=flush_recs h;exact ⟨by omega,fun _=>this⟩
theorem line_recs {p q : PSt} {l : Lne} {k : Int} (h : lineS p l k = .inr q) : q.recs = p.recs:=by
  unfold lineS at h;split at h
  · cases h
  · split at h
    · cases h;rfl
    · split at h <;> (cases h;rfl)
theorem take_recs {p q : PSt} {l : Lne} (h : xD p l = .inr q) : p.recs ≤ q.recs ∧ (yF (ls l.2.2.1) ≠ 1 → q.recs = p.recs):=by
  unfold xD at h;cases e : xA p l (yF (ls l.2.2.1)) with
  | inl x=>rw [e] at h;cases h
  | inr r =>
    rw [e] at h;rw [line_recs h];exact ahead_recs e
theorem take_its {p q : PSt} {l : Lne} (h : xD p l = .inr q) (hk : yF (ls l.2.2.1) ≠ 1) : q.its = p.its:=by
  unfold xD at h;cases e : xA p l (yF (ls l.2.2.1)) with
  | inl x=>rw [e] at h;cases h
  | inr r =>
    rw [e] at h;have h1 : r.its = p.its:=by
      unfold xA at e;split at e
      · split at e
        · cases e
        · split at e
          · cases e;rfl
          · exact (flush_same e).1
      · exact (flush_same e).1
    rw [← h1];simp only at h;unfold lineS at h;split at h
    · cases h
    · split at h <;> (cases h;rfl)
structure Fwd (I : List Itm) (c : Int) (p q : PSt) : Prop where
  lns : p.lns = q.lns
  full : q.lns ≠ [] → q.full = false → p.full = false
  its : p.its = I ++ q.its
  blk : p.blk = q.blk
  flds : p.flds = q.flds
  recs : p.recs = q.recs + c
  c0 : 0 ≤ c
section
variable {I : List Itm} {c : Int} {p q q1 : PSt}
end
def Blk (x : Itm) : Prop:=∃ (L : List Lne) (q qe : PSt),(∀ l ∈ L,l.2.2.2 = true ∧ (10 : UInt8) ∉ ls l.2.2.1) ∧ runS pst0 L = .inr q ∧ q.its = [] ∧ q.recs = 0 ∧ endS q = .inr qe ∧ qe.its = [x] ∧ glue (L.map (·.2.2)) = ls x.2.1
theorem end_one {q qe : PSt} (h : endS q = .inr qe) (h0 : q.its = []) : qe.its = [] ∨ ∃ x,qe.its = [x]:=by
  unfold endS at h;cases e : yY q with
  | inl x=>rw [e] at h;cases h
  | inr r =>
    rw [e] at h;cases h;have h1:=(flush_same e).1;unfold xX;split
    · left;simp only;rw [h1,h0]
    · right;simp only;rw [h1,h0];exact ⟨_,rfl⟩
def Par (p : PSt) : Prop:=∃ (I : List Itm) (c : Int) (L : List Lne) (q : PSt),Rel I c p q ∧ runS pst0 L = .inr q ∧ q.its = [] ∧ q.recs = 0 ∧ (∀ l ∈ L,l.2.2.2 = true ∧ (10 : UInt8) ∉ ls l.2.2.1) ∧ ∀ x ∈ I,x.1 ≠ 1 → Blk x
theorem end_par {p pe : PSt} (hp : Par p) (h : endS p = .inr pe) : (∀ x ∈ pe.its,x.1 ≠ 1 → Blk x) ∧ Idle pe ∧ 0 ≤ pe.recs ∧ pe.recs ≤ 400:=by
  obtain ⟨I,c,L,q,hrel,hrun,hits,hrec,hL,hI⟩:=hp;obtain ⟨qe,h1,h2⟩:=end_rel hrel h;obtain ⟨_,_,hid⟩:=end_took h;have hqr:=end_recs h1;refine ⟨fun x hx hx1=>?_,hid,by have:=h2.recs;have:=h2.c0;omega,h2.r4⟩;rw [h2.its] at hx;rcases List.mem_append.1 hx with hx|hx
  · exact hI x hx hx1
  · rcases end_one h1 hits with e|⟨y,e⟩
    · rw [e] at hx;cases hx
    · rw [e] at hx;obtain rfl:=List.mem_singleton.1 hx;refine ⟨L,q,qe,hL,hrun,hits,hrec,h1,e,?_⟩;obtain ⟨_,_,hidq⟩:=end_took h1;have c1:=end_cont h1;have c2:=run_cont _ _ _ hrun;have c3 : contP qe = rawsL qe.its:=by unfold contP;rw [hidq.2.1];simp [endL]
      have c4 : contP pst0 = []:=rfl;rw [c4,List.nil_append] at c2;rw [← c2,← c1,c3,e];simp [rawsL]
theorem take_par {p p1 : PSt} {l : Lne} (hp : Par p) (h : xD p l = .inr p1) (hn : (10 : UInt8) ∉ ls l.2.2.1) : Par p1:=by
  by_cases hk : yF (ls l.2.2.1) = 1
  · unfold xD at h;rw [hk] at h;cases e : xA p l 1 with
    | inl x=>rw [e] at h;cases h
    | inr pe =>
      rw [e] at h;have e' : endS p = .inr pe:=e;obtain ⟨hb,hid,h0,h4⟩:=end_par hp e';simp only at h;unfold lineS at h;split at h
      · cases h
      · rw [if_pos rfl] at h;cases h;refine ⟨_,_,[],pst0,rel_self (pe.its ++ [(1,l.2.2.1 ++ ⟨#[10]⟩,[])]) ⟨hid.1,hid.2.1,hid.2.2⟩ rfl h0 h4,rfl,rfl,rfl,(fun _ h=>by cases h),fun x hx hx1=>?_⟩;rcases List.mem_append.1 hx with hx|hx
        · exact hb x hx hx1
        · rw [List.mem_singleton.1 hx] at hx1;exact absurd rfl hx1
  · obtain ⟨I,c,L,q,hrel,hrun,hits,hrec,hL,hI⟩:=hp;obtain ⟨a,b,t⟩:=l;obtain ⟨q1,h1,h2⟩:=take_rel (a':=a) (b':=b) hrel h;refine ⟨I,c,L ++ [(a,b,t)],q1,h2,?_,(take_its h1 hk).trans hits,((take_recs h1).2 hk).trans hrec,fun x hx=>?_,hI⟩
    · rw [run_app _ _ _ _ hrun];simp only [runS,h1]
    · rcases List.mem_append.1 hx with hx|hx
      · exact hL x hx
      · rw [List.mem_singleton.1 hx];exact ⟨(take_took h).1,hn⟩
theorem run_par : ∀ (L : List Lne) (p q : PSt),Par p → runS p L = .inr q → (∀ l ∈ L,(10 : UInt8) ∉ ls l.2.2.1) → Par q
  | [],p,q,hp,h,_=>by cases h;exact hp
  | l :: r,p,q,hp,h,hn=>by
    simp only [runS] at h;cases e : xD p l with
    | inl x=>rw [e] at h;cases h
    | inr p1 =>
      rw [e] at h;exact run_par r p1 q (take_par hp e (hn l List.mem_cons_self)) h (fun x hx=>hn x (List.mem_cons_of_mem _ hx))
theorem parse_blks {s : ByteArray} {l : List Itm} (hp : xG s = .inr l) : ∀ x ∈ l,x.1 ≠ 1 → Blk x:=by
  unfold xG at hp;cases e : runS pst0 (yJ s) with
  | inl x=>rw [e] at hp;cases hp
  | inr p =>
    rw [e] at hp;simp only at hp;cases e2 : endS p with
    | inl x=>rw [e2] at hp;cases hp
    | inr q =>
      rw [e2] at hp;cases hp;refine (end_par (run_par _ _ _ ⟨[],0,[],pst0,rel_0,rfl,rfl,rfl,(fun _ h=>by cases h),(fun _ h=>by cases h)⟩ e fun l hl=>?_) e2).1;have h1 : l.2.2 ∈ (yJ s).map (·.2.2):=List.mem_map_of_mem hl;rw [lines_text] at h1;exact linesB_no _ _ _ h1
theorem raws_sz (l : List Itm) : (rawsL l).length = szI l:=by
  induction l with
  | nil=>rfl
  | cons x r ih =>
    unfold rawsL szI at *;simp only [List.flatMap_cons,List.length_append,List.map_cons,List.sum_cons,ih];rw [yD]
theorem filter_at {α : Type} (p : α → Bool) (d : α) : ∀ (l : List α) (j : Nat),j < l.length → p (l.getD j d) = true → ((l.take j).filter p).length < (l.filter p).length ∧ (l.filter p).getD ((l.take j).filter p).length d = l.getD j d
  | [],j,h,_=>by simp at h
  | x :: r,0,h,hp=>by
    have hp : p x = true:=by simpa using hp
    simp [hp]
  | x :: r,j + 1,h,hp=>by
    obtain ⟨h1,h2⟩:=filter_at p d r j (by simpa using h) (by simpa using hp);rw [List.take_succ_cons,List.filter_cons,List.filter_cons]
    by_cases hx : p x = true
    · simp only [hx,if_true,List.length_cons,List.getD_cons_succ];exact ⟨by omega,h2⟩
    · simp only [hx,List.getD_cons_succ];exact ⟨h1,h2⟩
def mix1 (l : List Itm) (k : Nat) : List Itm:=if k < l.length ∧ (l.getD k ((0 : Int),ByteArray.empty,([] : List Fld))).1 ≠ 1 then [l.getD k ((0 : Int),ByteArray.empty,([] : List Fld))] else []
def mixL (turn : Bool) (l m : List Itm) (i : Nat) : List Itm:=(List.range i).flatMap fun k=>mix1 l k ++ if turn then mix1 m k else []
abbrev Ent:=Itm × Int
abbrev rEnt : Rd Ent:=.st rItm (.int .i64)
abbrev Lst:=List Ent × Int × Int
abbrev rLst (k : Nat) : Rd Lst:=.st (.slk k rEnt) (.st (.int .i64) (.int .i64))
abbrev Stz:=Int × List Fld
abbrev rStz : Rd Stz:=.st (.int .i64) (.sl rFld)
def isRec (x : Itm) : Bool:=decide (x.1 = 3)
def cntR (l : List Itm) : Nat:=(l.filter isRec).length
def numI (n : Int) : List Itm → List Ent
  | []=>[]
  | x :: r=>match isRec x with
    | true=>(x,n) :: numI (n + 1) r
    | false=>(x,0) :: numI n r
theorem cntR_app (a b : List Itm) : cntR (a ++ b) = cntR a + cntR b:=by simp [cntR]
theorem numI_snoc : ∀ (l : List Itm) (n : Int) (x : Itm),numI n (l ++ [x]) = numI n l ++ [(x,if isRec x then n + cntR l else 0)]
  | [],n,x=>by
    cases h : isRec x <;> simp [numI,h,cntR]
  | y :: r,n,x=>by
    have ih:=fun m=>numI_snoc r m x
    cases h : isRec y with
    | true =>
      have e : n + 1 + (cntR r : Int) = n + (cntR (y :: r) : Int):=by simp [cntR,h];omega
      simp only [List.cons_append,numI,h,ih,e]
    | false =>
      have e : (cntR r : Int) = (cntR (y :: r) : Int):=by simp [cntR,h]
      simp only [List.cons_append,numI,h,ih,e]
theorem numI_len : ∀ (l : List Itm) (n : Int),(numI n l).length = l.length
  | [],_=>rfl
  | x :: r,n=>by
    unfold numI;split <;> simp [numI_len r]
theorem numI_items : ∀ (l : List Itm) (n : Int),(numI n l).map (·.1) = l
  | [],_=>rfl
  | x :: r,n=>by
    unfold numI;split <;> simp [numI_items r]
def ofT (l : List Itm) : Lst:=(numI 1 l,1 + (cntR l : Int),(cntR l : Int))
def hasId (id : Int) (e : Ent) : Bool:=decide (e.2 = id)
def atE (es : List Ent) (id : Int) : Int:=if id < 1 then -1 else ixOf (hasId id) es
theorem at_cases (es : List Ent) (id : Int) : (atE es id = -1 ∧ ∀ e ∈ es,0 < id → e.2 ≠ id) ∨ ∃ i : Nat,i < es.length ∧ atE es id = i ∧ 0 < id ∧ (es.getD i (((0 : Int),ByteArray.empty,([] : List Fld)),(0 : Int))).2 = id ∧ ∀ e ∈ es.take i,e.2 ≠ id:=by
  unfold atE
  by_cases h : id < 1
  · exact .inl ⟨if_pos h,fun e _ h0=>by omega⟩
  · rw [if_neg h];rcases ixOf_cases (hasId id) es (((0 : Int),ByteArray.empty,([] : List Fld)),(0 : Int)) with ⟨h1,h2⟩|⟨i,h1,h2,h3,h4⟩
    · refine .inl ⟨h1,fun e he _=>?_⟩;have:=List.any_eq_false.1 h2 e he
      simpa [hasId] using this
    · refine .inr ⟨i,h1,h2,by omega,by simpa [hasId] using h4,fun e he=>?_⟩;have:=List.any_eq_false.1 h3 e he
      simpa [hasId] using this
def replE (es : List Ent) (i : Nat) (x : Itm) : List Ent:=es.set i (x,(es.getD i (((0 : Int),ByteArray.empty,([] : List Fld)),(0 : Int))).2)
def delE (es : List Ent) (i : Nat) : List Ent:=es.take i ++ es.drop (i + 1)
def insE (es : List Ent) (i : Nat) (e : Ent) : List Ent:=es.take i ++ e :: es.drop i
def live (e : Ent) : Bool:=decide (0 < e.2)
def stzOf (e : Ent) : Stz:=(e.2,e.1.2.2)
def stzL (es : List Ent) : List Stz:=(es.filter live).map stzOf
def itmL (es : List Ent) : List Itm:=es.map (·.1)
def plcL (es : List Ent) (id : Int) : Int:=ixOf (hasId id) (es.filter live)
def rowsL (es : List Ent) : List (List Fld):=(stzL es).map (·.2)
def getL (es : List Ent) (id : Int) : List Fld:=(es.getD (atE es id).toNat (((0 : Int),ByteArray.empty,([] : List Fld)),(0 : Int))).1.2.2
def rawL (es : List Ent) (id : Int) : ByteArray:=(es.getD (atE es id).toNat (((0 : Int),ByteArray.empty,([] : List Fld)),(0 : Int))).1.2.1
def txtL (es : List Ent) : List UInt8:=rawsL (apartL (itmL es))
theorem cntR_at {l : List Itm} {i : Nat} (h : i < l.length) : cntR (l.take (i + 1)) = cntR (l.take i) + if isRec (l.getD i ((0 : Int),ByteArray.empty,([] : List Fld))) then 1 else 0:=by
  rw [← yL ((0 : Int),ByteArray.empty,([] : List Fld)) h,cntR_app]
  generalize l.getD i ((0 : Int),ByteArray.empty,([] : List Fld)) = x
  cases hk : isRec x
  · simp [cntR,hk]
  · simp [cntR,hk]
theorem numI_at {l : List Itm} {i : Nat} (h : i < l.length) : numI 1 (l.take (i + 1)) = numI 1 (l.take i) ++ [(l.getD i ((0 : Int),ByteArray.empty,([] : List Fld)),if isRec (l.getD i ((0 : Int),ByteArray.empty,([] : List Fld))) then 1 + (cntR (l.take i) : Int) else 0)]:=by
  rw [← yL ((0 : Int),ByteArray.empty,([] : List Fld)) h];exact numI_snoc (l.take i) 1 _
theorem cntR_le (l : List Itm) : cntR l ≤ l.length:=List.length_filter_le _ _
def lsO (l : Lst) : Obs:=[(0,.box 134 [.vec 1,.lit (.int .i64 l.2.1),.lit (.int .i64 l.2.2)]),(1,.vec 138 rEnt l.1)]
theorem lbox_eq {a b c d : Int} (h1 : a = c) (h2 : b = d) : some (Ob.box 134 [.vec 1,.lit (.int .i64 a),.lit (.int .i64 b)]) = some (Ob.box 134 [.vec 1,.lit (.int .i64 c),.lit (.int .i64 d)]):=by rw [h1,h2]
theorem of_ok (s : ByteArray) (hs : s.size ≤ 60000) {l : List Itm} (hp : xG s = .inr l) : yE Tryz.prog 29 [is s] [] 0 (.tup [(false,[.own 0 0]),(false,[.lit .nilIface])]) (lsO (ofT l)) 2:=by
  have hpa:=parse_a s hs;rw [hp] at hpa;obtain ⟨hl1,hl2⟩:=items_flds hs hp;refine yC (rs:=[2,3]) Tryz.func29 rfl rfl rfl teOk (by decide) rfl ?_;refine qB ?_;refine qB ?_;refine Or.inl ?_;refine zai (rfl) ?_;refine zei _ (zai (hpa) ?_);refine qJ ?_;refine qB ?_;refine qK rfl (fun h16=>?_) (fun h16=>?_)
  ·try simp only [Bool.not_eq_true'] at h16
   try simp only [zds] at h16
   cases h16
  ·try simp only [Bool.not_eq_false'] at h16
   try simp only [zds] at h16
   refine qL ?_;refine qB ?_;refine qJ ?_;refine qJ ?_;refine yI 0 0 138 rEnt rfl rfl rfl ?_;refine qI ?_;intro l5_1
   try simp only [zds] at l5_1
   refine qQ ?_;refine qW (fun (i : Nat)=>i ≤ l.length) (fun (i : Nat)=>[(0,is s),(6,.one (.own 0 0)),(20,.one (.sl rItm l)),(21,ii .i64 l.length),(22,ii .i64 i)]) (fun (i : Nat)=>[(0,.box 134 [.vec 1,.lit (.int .i64 (1 + (cntR (l.take i) : Int))),.lit (.int .i64 (cntR (l.take i)))]),(1,.vec 138 rEnt (numI 1 (l.take i)))]) 2 (fun (i : Nat)=>l.length - i) 0 (Nat.zero_le _) (qP ⟨rfl,rfl,rfl,rfl,rfl⟩ ⟨rfl,rfl⟩ rfl) ?_;intro i hI0;refine qB ?_;refine qJ ?_;refine qK rfl (fun h23=>?_) (fun h23=>?_)
   ·try simp only [decide_eq_true_eq] at h23
    try simp only [zds] at h23
    have hil : i < l.length:=(by omega);have hsn:=numI_at hil;have hcn:=cntR_at hil;have hcl:=cntR_le (l.take i);rw [List.length_take] at hcl;refine qL ?_;refine qJ ?_;refine qQ ?_;refine qB ?_;refine zob ?_;refine qB ?_;refine qJ ?_;refine qB ?_;refine qK rfl (fun h30=>?_) (fun h30=>?_)
    ·try simp only [decide_eq_true_eq] at h30
     try simp only [Int.toNat_natCast,qH,qG,qE,qD] at h30
     have hk : isRec (l.getD i ((0 : Int),ByteArray.empty,([] : List Fld))) = true:=decide_eq_true h30;rw [hk,if_pos rfl] at hsn hcn;refine qB ?_;refine qB ?_;refine zob ?_;refine qI ?_;refine zob ?_;refine yK rfl ?_;refine qN 0 rfl ?_;refine qN 1 rfl ?_;refine qN 2 rfl ?_;refine qN 3 rfl ?_;refine qF [4,5] ?_;refine zai ?_ ?_
     ·refine qF [5] ?_;refine qF [6] ?_;refine qF [7] ?_;refine zai (by exact qO (show (numI 1 (l.take i)).length + 1 ≤ 1000000000 by rw [numI_len,List.length_take];omega) (by decide)) ?_;refine qN 8 rfl ?_;refine qN 9 rfl ?_;refine qF [10] ?_;refine qS ?_;refine qI ?_;refine zob ?_;exact ⟨i + 1,by omega,by first|omega|(simp <;> omega),qP ⟨rfl,rfl,rfl,rfl,rfl⟩ ⟨(lbox_eq (by omega) (by omega)),(qR (by rw [hsn];exact rfl))⟩ rfl⟩
     ·refine qF [4,6] ?_;refine zai ?_ ?_
      ·refine qF [6] ?_;refine qF [7] ?_;refine zai (by exact qO (show (numI 1 (l.take i)).length + 1 ≤ 1000000000 by rw [numI_len,List.length_take];omega) (by decide)) ?_;refine qN 8 rfl ?_;refine qN 9 rfl ?_;refine qF [10] ?_;refine qS ?_;refine qI ?_;refine zob ?_;exact ⟨i + 1,by omega,by first|omega|(simp <;> omega),qP ⟨rfl,rfl,rfl,rfl,rfl⟩ ⟨(lbox_eq (by omega) (by omega)),(qR (by rw [hsn];exact rfl))⟩ rfl⟩
      ·refine qF [4] ?_;refine qF [7] ?_;refine zai (by exact qO (show (numI 1 (l.take i)).length + 1 ≤ 1000000000 by rw [numI_len,List.length_take];omega) (by decide)) ?_;refine qN 8 rfl ?_;refine qN 9 rfl ?_;refine qF [10] ?_;refine qS ?_;refine qI ?_;refine zob ?_;exact ⟨i + 1,by omega,by first|omega|(simp <;> omega),qP ⟨rfl,rfl,rfl,rfl,rfl⟩ ⟨(lbox_eq (by omega) (by omega)),(qR (by rw [hsn];exact rfl))⟩ rfl⟩
    ·try simp only [decide_eq_false_iff_not] at h30
     try simp only [Int.toNat_natCast,qH,qG,qE,qD] at h30
     have hk : isRec (l.getD i ((0 : Int),ByteArray.empty,([] : List Fld))) = false:=decide_eq_false h30;rw [hk,if_neg Bool.false_ne_true] at hsn hcn;refine qL ?_;refine yK rfl ?_;refine qN 0 rfl ?_;refine qN 1 rfl ?_;refine qN 2 rfl ?_;refine qN 3 rfl ?_;refine qF [4,5] ?_;refine zai ?_ ?_
     ·refine qF [5] ?_;refine qF [6] ?_;refine qF [7] ?_;refine zai (by exact qO (show (numI 1 (l.take i)).length + 1 ≤ 1000000000 by rw [numI_len,List.length_take];omega) (by decide)) ?_;refine qN 8 rfl ?_;refine qN 9 rfl ?_;refine qF [10] ?_;refine qS ?_;refine qI ?_;refine zob ?_;exact ⟨i + 1,by omega,by first|omega|(simp <;> omega),qP ⟨rfl,rfl,rfl,rfl,rfl⟩ ⟨(lbox_eq (by omega) (by omega)),(qR (by rw [hsn];exact rfl))⟩ rfl⟩
     ·refine qF [4,6] ?_;refine zai ?_ ?_
      ·refine qF [6] ?_;refine qF [7] ?_;refine zai (by exact qO (show (numI 1 (l.take i)).length + 1 ≤ 1000000000 by rw [numI_len,List.length_take];omega) (by decide)) ?_;refine qN 8 rfl ?_;refine qN 9 rfl ?_;refine qF [10] ?_;refine qS ?_;refine qI ?_;refine zob ?_;exact ⟨i + 1,by omega,by first|omega|(simp <;> omega),qP ⟨rfl,rfl,rfl,rfl,rfl⟩ ⟨(lbox_eq (by omega) (by omega)),(qR (by rw [hsn];exact rfl))⟩ rfl⟩
      ·refine qF [4] ?_;refine qF [7] ?_;refine zai (by exact qO (show (numI 1 (l.take i)).length + 1 ≤ 1000000000 by rw [numI_len,List.length_take];omega) (by decide)) ?_;refine qN 8 rfl ?_;refine qN 9 rfl ?_;refine qF [10] ?_;refine qS ?_;refine qI ?_;refine zob ?_;exact ⟨i + 1,by omega,by first|omega|(simp <;> omega),qP ⟨rfl,rfl,rfl,rfl,rfl⟩ ⟨(lbox_eq (by omega) (by omega)),(qR (by rw [hsn];exact rfl))⟩ rfl⟩
   ·try simp only [decide_eq_false_iff_not,Int.not_lt] at h23
    try simp only [zds] at h23
    refine yA ?_;refine qB ?_;refine qM ?_;rw [List.take_of_length_le (by omega)];exact ⟨rfl,⟨rfl,rfl⟩,rfl⟩
theorem of_err (s : ByteArray) (hs : s.size ≤ 60000) {at_ n : Int} (hp : xG s = .inl (at_,n)) : qX Tryz.prog 29 [is s] (.tup [(false,[.lit (.pointer none)]),(false,[errF at_ n])]):=by
  have hpa:=parse_a s hs;rw [hp] at hpa;refine qV (rs:=[2,3]) Tryz.func29 rfl rfl rfl teOk rfl ?_;refine qB ?_;refine qB ?_;refine Or.inl ?_;refine zai (rfl) ?_;refine zei _ (zai (hpa) ?_);refine qJ ?_;refine qB ?_;refine qK rfl (fun h16=>?_) (fun h16=>?_)
  ·skip
   refine qB ?_;refine qM ?_;rfl
  ·try simp only [zbq] at h16
   try simp only [zds] at h16
   cases h16
end Q
end Ab
end Go.Proofs.YtojipboabgebfaaGreatDoor
namespace Go.Proofs.YtojipboabgebfaaGreatDoor
open Go.RowKit
namespace Ab
set_option maxRecDepth 100000
set_option maxHeartbeats 2000000
namespace Q
abbrev z4 : List Value:=[.int .i64 0,.string ⟨#[]⟩,.slice none 0 0,.int .i64 0]
theorem step_append_runI {P : Program} {ops : Array Oper} {o : Oper} {a : Act} {w : World} {K : Act → World → Prop} {Q : Exit → Act → World → Prop} {E : Prop}
    (hg : o.guard = none) (d x : Operand) (dT sT : TypeId) (hop : o.op = Op.call { callee:=Callee.builtin Builtin.append,args:=#[d,x],argTypes:=#[dT,sT] })
    (v u : Value) (hd : a.eval d = v) (hx : a.eval x = u) {v' : Value} {w' : World} (hr : (Builtin.append_ #[dT,sT] o.type #[v,u]).run P w = .ok v' w') (hK : K (a.put o.dst v') w') :
    if Region.wanted o (yielded ops a.tmps) = true then Oper.wp P o a w K Q else E:=by
  have hw : Region.wanted o (yielded ops a.tmps) = true:=by simp [Region.wanted,hg]
  rw [if_pos hw];unfold Oper.wp;simp [execOp,hop,resolve,invoke,builtin,hd,hx,hr,Result.andThen];exact hK
theorem wpList_clear_runI {P : Program} (w : World) {ops : Array Oper} {rest : List Oper} {o : Oper} {a : Act} {Q : Exit → Act → World → Prop} (hgd : o.guard = none) (d : Operand) (t : TypeId)
    (ho : o.op = .call { callee:=.builtin .clear,args:=#[d],argTypes:=#[t] }) (v : Value) (hd : a.eval d = v) {v' : Value} {w' : World}
    (hr : (Builtin.clear_ #[t] o.type #[v]).run P w = .ok v' w') (h : wpList P ops Q rest (a.put o.dst v') w') : wpList P ops Q (o :: rest) a w :=
  wpList_plain hgd fun K hK=>by
    unfold Oper.wp execOp;simp only [ho,resolve,invoke,builtin,Sem.run_bind,Sem.run_pure,Result.andThen_ok,List.map_toArray,List.map_cons,List.map_nil,hd,hr];exact hK _ _ h
theorem zs_len {P : Program} {t : TypeId} {i : TyI} (h : TyOk P t i) (n : Nat) : (Builtin.zeroCells i.zeroV.cells n).toList.length = n * i.size:=by
  rw [Array.length_toList,size_zeroCells,h.zeroCells,List.size_toArray,h.zlen]
theorem zs_one {P : Program} {t : TypeId} {i : TyI} (h : TyOk P t i) (n : Nat) : ∀ v ∈ (Builtin.zeroCells i.zeroV.cells n).toList,v.oneCell' = true:=by
  intro v hv;unfold Builtin.zeroCells at hv;rw [h.zeroCells] at hv;simp only [Array.toList_map,Array.toList_range,List.mem_map,List.mem_range,List.size_toArray] at hv;obtain ⟨k,hk,rfl⟩:=hv;have hlt : k % i.zero.length < i.zero.length:=Nat.mod_lt _ (by
    rcases Nat.eq_zero_or_pos i.zero.length with h0|h0
    · rw [h0,Nat.mul_zero] at hk;omega
    · exact h0)
  have e : (i.zero.toArray)[k % i.zero.length]! = i.zero[k % i.zero.length]:=by simp [hlt]
  rw [e];exact plain_one (h.zplain _ (List.getElem_mem hlt))
theorem run_clear_row {P : Program} {t e ty : TypeId} {ei : TyI} (ht : P.underlying t = some (.slice e)) (he : TyOk P e ei) (w : World) (b o n c : Nat) {cur : Array Value} {T : TypeId} (hb : w.heap[b]? = some (.cells cur T (0,0))) (hn : 0 < n) (hfit : o + n * ei.size ≤ cur.size) :
    (Builtin.clear_ #[t] ty #[.slice (some ⟨b,o,none⟩) n c]).run P w = .ok (.tuple #[]) (w.setRow b (cur.toList.take o ++ (Builtin.zeroCells ei.zeroV.cells n).toList ++ cur.toList.drop (o + n * ei.size)).toArray):=by
  have hst:=run_storeCells_at P b o T (Builtin.zeroCells ei.zeroV.cells n).toList 0 cur w hb (by rw [zs_len he];omega) (zs_one he n);simp only [Nat.add_zero,zs_len he] at hst;obtain ⟨m,rfl⟩ : ∃ m,n = m + 1:=⟨n - 1,by omega⟩;simp [Builtin.clear_,run_underlying ht,he.zeroValue,hst]
theorem tyEnt : TyOk Tryz.prog 138 ty138:=tyOk138
theorem del_w (b cap n i j : Nat) (cur : Array Value) (w : World) (hb : w.heap[b]? = some (.cells cur 138 (0,0))) (hcs : cur.size = cap * 4) (hnc : n ≤ cap) (_hcm : cap ≤ maxLen) (hij : i < j) (hj : j ≤ n) (h1 : ∀ v ∈ cur.toList.take (n * 4),v.oneCell' = true) :
    Calls Tryz.prog 90 #[.slice (some ⟨b,0,none⟩) n cap,.int .i64 i,.int .i64 j] w fun e w'=>e = .returned (.slice (some ⟨b,0,none⟩) (n - (j - i)) cap) ∧ ∃ cur',Grew w w' (some b) ∧ w'.heap[b]? = some (.cells cur' 138 (0,0)) ∧ cur'.size = cap * 4 ∧ cur'.toList.take ((n - (j - i)) * 4) = cur.toList.take (i * 4) ++ (cur.toList.drop (j * 4)).take ((n - j) * 4):=by
  have mixed : Tryz.prog.follows .mixedOrders = true:=by kernel_rfl
  have hic : i ≤ cap:=by omega
  have hjc : j ≤ cap:=by omega
  obtain ⟨news,hnews⟩ : ∃ news,(cur.toList.drop (j * 4)).take ((n - j) * 4) = news:=⟨_,rfl⟩;have hlen : news.length = (n - j) * 4:=by
    rw [← hnews,List.length_take,List.length_drop,Array.length_toList,hcs];have : (n - j) * 4 ≤ cap * 4 - j * 4:=by omega
    omega
  obtain ⟨i0,hi0,hz0,hz1,hz2⟩:=tyEnt.info;obtain ⟨A,hA,hsrc⟩ : ∃ A : Addr,(if cap = j then (some ⟨b,0,none⟩ : Option Addr) else some ⟨b,j * 4,none⟩) = some A ∧ (∀ t u,news[t]? = some u → w.drew.cell? (A.add t) = some u):=by
    by_cases h : cap = j
    · refine ⟨_,if_pos h,fun t u hu=>?_⟩;have h0 : news.length = 0:=by rw [hlen];omega
      rw [List.length_eq_zero_iff.1 h0] at hu;simp at hu
    · refine ⟨_,if_neg h,fun t u hu=>?_⟩;have ht:=(List.getElem?_eq_some_iff.1 hu).1;rw [← hnews,List.getElem?_take_of_lt (by omega),List.getElem?_drop] at hu;rw [Go.WideShapes.add_plain];show w.cell? _ = _;simp only [World.cell?,hb,Option.isSome_none,Bool.false_eq_true,if_false];rw [← hu];simp
  have hone : ∀ u ∈ news,u.oneCell' = true:=by
    intro u hu;rw [← hnews,show (n - j) * 4 = n * 4 - j * 4 by omega,← List.drop_take] at hu;exact h1 u (List.mem_of_mem_drop hu)
  obtain ⟨cur1,hcur1⟩ : ∃ c : Array Value,(cur.toList.take (i * 4) ++ news ++ cur.toList.drop (i * 4 + news.length)).toArray = c:=⟨_,rfl⟩;have hsz1 : cur1.size = cap * 4:=by
    rw [← hcur1];simp only [List.size_toArray,List.length_append,List.length_take,List.length_drop,Array.length_toList,hcs,hlen];omega
  obtain ⟨W1,hW1⟩ : ∃ W1,w.drew.setRow b cur1 = W1:=⟨_,rfl⟩;have hap : ∀ ty,(Builtin.append_ #[132,132] ty #[.slice (some ⟨b,0,none⟩) i cap,.slice (some A) (n - j) (cap - j)]).run Tryz.prog w.drew = .ok (.slice (some ⟨b,0,none⟩) (i + (n - j)) cap) W1:=by
    intro ty;have:=run_append_room (P:=Tryz.prog) w.drew 132 ty 138 i0 Tryz.underlying132 hi0 b i cap cur hb A (n - j) (cap - j) news (by rw [hlen,hz0];rfl) hsrc hone (by omega) (by rw [hz0,hlen,hcs];show i * 4 + _ ≤ _;omega);rw [show i0.size = 4 from hz0,hcur1,hW1] at this;exact this
  have hb1 : W1.heap[b]? = some (.cells cur1 138 (0,0)):=by rw [← hW1];exact setRow_heap w.drew b cur cur1 _ _ hb
  have hk : i + (n - j) < n:=by omega
  have hkc : ¬ cap = i + (n - j):=by omega
  obtain ⟨W2,cur2,hW2,hcl⟩ : ∃ W2 cur2,W2 = W1.setRow b cur2 ∧ cur2.size = cap * 4 ∧ cur2.toList.take ((i + (n - j)) * 4) = cur1.toList.take ((i + (n - j)) * 4) ∧ ∀ ty,(Builtin.clear_ #[132] ty #[.slice (some ⟨b,(i + (n - j)) * 4,none⟩) (n - (i + (n - j))) (cap - (i + (n - j)))]).run Tryz.prog W1 = .ok (.tuple #[]) W2:=by
    have hz:=zs_len tyEnt (n - (i + (n - j)));have hz4 : ty138.size = 4:=rfl;rw [hz4] at hz;refine ⟨_,_,rfl,?_,?_,fun ty=>run_clear_row Tryz.underlying132 tyEnt W1 b _ _ _ hb1 (by omega) (by rw [hsz1,hz4];omega)⟩
    · simp only [List.size_toArray,List.length_append,List.length_take,List.length_drop,Array.length_toList,hsz1,hz,hz4];omega
    · rw [List.append_assoc,List.take_append_of_le_length (by rw [List.length_take,Array.length_toList,hsz1];omega),List.take_take,Nat.min_self]
  obtain ⟨hsz2,htk,hcl⟩:=hcl;have fin : W2.heap[b]? = some (.cells cur2 138 (0,0)) ∧ Grew w W2 (some b):=by
    rw [hW2];exact ⟨setRow_heap W1 b cur1 cur2 _ _ hb1,by rw [← hW1,setRow_setRow];exact ⟨rfl,rfl,rfl,by simp,fun k hk hne=>setRow_other w.drew b k _ (fun e=>hne (by rw [e]))⟩⟩
  have hres : cur2.toList.take ((i + (n - j)) * 4) = cur.toList.take (i * 4) ++ news:=by
    rw [htk,← hcur1,List.take_append_of_le_length (by simp only [List.length_append,List.length_take,Array.length_toList,hcs,hlen];omega),List.take_of_length_le (by simp only [List.length_append,List.length_take,Array.length_toList,hcs,hlen];omega)]
  have hnn : n - (j - i) = i + (n - j):=by omega
  rw [hnn];rw [← hnews] at hres;clear hW2 hW1 htk hcur1 hb hb1 hsrc hone hlen hnews h1
  go_enter Tryz.func90,Tryz.ntmps90
  go_wp2
  go_region_law_o (refine step_append_runI rfl (.tmp 22) (.tmp 25) 132 132 rfl (.slice (some ⟨b,0,none⟩) i cap) (.slice (some A) (n - j) (cap - j)) (by simp [Act.eval,Act.put]) (by simp [Act.eval,Act.put]) (hap _) ?_)
  go_wp2_with (at_builtin;refine wpList_clear_runI _ rfl _ _ rfl _ rfl (hcl _) ?_)
  go_ret
  exact ⟨rfl,cur2,fin.2,fin.1,hsz2,hres⟩
end Q
end Ab
end Go.Proofs.YtojipboabgebfaaGreatDoor
namespace Go.Proofs.YtojipboabgebfaaGreatDoor
open Go.RowKit
namespace Ab
set_option maxRecDepth 100000
set_option maxHeartbeats 4000000
namespace Q
theorem run_copy_k {P : Program} (w : World) (dT sT ty elem : TypeId) {ei : TyI} (hu : P.underlying dT = some (.slice elem)) (he : TyOk P elem ei) (g o dLen dCap : Nat) (a : Addr) (sLen sCap n : Nat) (cur : Array Value) (t : TypeId) (cs : List Value)
    (hg : w.heap[g]? = some (.cells cur t (0,0))) (hm : Nat.min sLen dLen = n) (hn : cs.length = n * ei.size) (hsrc : ∀ j v,cs[j]? = some v → w.cell? (a.add j) = some v) (hfit : o + cs.length ≤ cur.size) (h1 : ∀ v ∈ cs,v.oneCell' = true) :
    (Builtin.copy_ #[dT,sT] ty #[.slice (some ⟨g,o,none⟩) dLen dCap,.slice (some a) sLen sCap]).run P w = .ok (goInt n) (w.setRow g (cur.toList.take o ++ cs ++ cur.toList.drop (o + cs.length)).toArray):=by
  have hl:=run_loadCells_list (P:=P) w a cs hsrc;have hst:=run_storeCells_at P g o t cs 0 cur w hg (by simpa using hfit) h1;simp only [Nat.add_zero] at hst;simp [Builtin.copy_,run_underlying hu,Builtin.lenOf,Builtin.firstCells,he.sizeOf,hm,← hn,hl,hst]
def RowTo (w w' : World) (v u : Value) (n : Nat) (cs : List Value) : Prop :=
  w'.ownsRow 0 138 4 u n cs ∧ Grew w w' (blk (some v)) ∧ (∀ b,blk (some u) = some b → blk (some v) = some b ∨ (w.heap.size ≤ b ∧ b < w'.heap.size)) ∧ ∃ a n c,u = .slice a n c
theorem rowCells {w : World} {b n cap : Nat} {cs : List Value} (h : w.ownsRow 0 138 4 (.slice (some ⟨b,0,none⟩) n cap) n cs) : ∃ cur,w.heap[b]? = some (.cells cur 138 (0,0)) ∧ n ≤ cap ∧ cap ≤ maxLen ∧ cur.size = cap * 4 ∧ cur.toList.take (n * 4) = cs ∧ cs.length = n * 4:=by
  rcases h.2 with ⟨h0,_⟩|⟨g,c,cur,hsl,_,hg,hnc,hcm,hcs,htake⟩
  · cases h0
  · injection hsl with e1 e2 e3
    injection e1 with e1
    injection e1 with e1 _ _
    subst e1 e3;exact ⟨cur,hg,hnc,hcm,hcs,htake,h.1⟩
theorem ins_end (n : Nat) (v : Value) (cs ns : List Value) (vb vc : Nat) (w : World) (hown : w.ownsRow 0 138 4 v n cs) (hown2 : w.ownsRow 0 138 4 (.slice (some ⟨vb,0,none⟩) 1 vc) 1 ns) (h1 : ∀ u ∈ ns,u.oneCell' = true) (hn : n ≤ 1000000) :
    Calls Tryz.prog 91 #[v,.int .i64 n,.slice (some ⟨vb,0,none⟩) 1 vc] w fun e w'=>∃ u,e = .returned u ∧ RowTo w w' v u (n + 1) (cs ++ ns):=by
  obtain ⟨v',w',hr,h2,h3,h4,h5⟩:=Ab.run_app (P:=Tryz.prog) (w:=w) (ty:=132) Tryz.underlying132 tyEnt (by decide) hown (ad:=⟨vb,0,none⟩) (m:=1) (c:=vc) (news:=ns) hown2.1 (fun j u hj=>hown2.cells (g:=vb) rfl j u hj) h1 Nat.one_pos (by unfold maxLen;omega) (qO (show n + 1 ≤ 1000000000 by omega) (show ty138.bytes ≤ 1000 by decide));have mixed : Tryz.prog.follows .mixedOrders = true:=by kernel_rfl
  have fin : RowTo w w' v v' (n + 1) (cs ++ ns):=⟨h2,h3,h4,h5⟩;obtain ⟨va,vn,vcap,hv,hvn⟩ : ∃ a m c,v = .slice a m c ∧ m = n:=by
    rcases hown.2 with ⟨h0,hz⟩|⟨g,c,cur,hsl,_⟩
    · exact ⟨_,_,_,h0,hz.symm⟩
    · exact ⟨_,_,_,hsl,rfl⟩
  subst hvn;subst hv;have hcap : vn ≤ vcap:=by
    rcases hown.2 with ⟨h0,hz⟩|⟨g,c,cur,hsl,_,_,hnc,_⟩
    · omega
    · injection hsl with _ _ e3;omega
  clear hown hown2 h1 h2 h3 h4 h5
  by_cases hq : vcap = vn
  · subst hq
    go_enter Tryz.func91,Tryz.ntmps91
    go_wp2_with (at_builtin;refine Lib.wpList_append_run _ rfl _ _ _ _ rfl _ _ rfl rfl _ _ hr ?_)
    go_ret
    exact ⟨_,rfl,fin⟩
  · go_enter Tryz.func91,Tryz.ntmps91
    go_wp2_with (at_builtin;refine Lib.wpList_append_run _ rfl _ _ _ _ rfl _ _ rfl rfl _ _ hr ?_)
    go_ret
    exact ⟨_,rfl,fin⟩
theorem take4 {α : Type} (l : List α) (a b : Nat) (h : a ≤ b) : (l.take b).take a = l.take a:=by rw [List.take_take,Nat.min_eq_left h]
theorem ins_shift (n i : Nat) (b cap : Nat) (cs ns : List Value) (vb vc : Nat) (w : World) (hi : i < n) (hroom : n + 1 ≤ cap) (hown : w.ownsRow 0 138 4 (.slice (some ⟨b,0,none⟩) n cap) n cs) (hown2 : w.ownsRow 0 138 4 (.slice (some ⟨vb,0,none⟩) 1 vc) 1 ns) (hne : vb ≠ b) (h1 : ∀ u ∈ ns,u.oneCell' = true) (h1c : ∀ u ∈ cs,u.oneCell' = true) :
    Calls Tryz.prog 91 #[.slice (some ⟨b,0,none⟩) n cap,.int .i64 i,.slice (some ⟨vb,0,none⟩) 1 vc] w fun e w'=>∃ u,e = .returned u ∧ RowTo w w' (.slice (some ⟨b,0,none⟩) n cap) u (n + 1) (cs.take (i * 4) ++ ns ++ cs.drop (i * 4)):=by
  obtain ⟨cur,hb,hnc,hcm,hcz,htk,hcl⟩:=rowCells hown;obtain ⟨cur2,hvb,hvc,_,hcz2,htk2,hnl⟩:=rowCells hown2;have hz4 : ty138.size = 4:=rfl;have hdl : (cs.drop (i * 4)).length = (n - i) * 4:=by rw [List.length_drop,hcl];omega
  have hov : ∀ lb cb,(callFunc 133 #[.slice (some ⟨vb,0,none⟩) 1 vc,.slice (some ⟨b,(i + 1) * 4,none⟩) lb cb]).run Tryz.prog w = .ok (.value (.bool false)) w:=fun lb cb=>by
    rw [run_callFunc_extern Tryz.func133 (by kernel_rfl) (by kernel_rfl) (by kernel_rfl) (e:=Extern.SlicesOverlaps.overlaps #[132,132] #[4]) (by kernel_rfl),
      Lib.run_overlaps_apart w 132 4 138 Tryz.underlying132 4 (fun w=>tyEnt.sizeOf w) ⟨vb,0,none⟩ ⟨b,(i + 1) * 4,none⟩ 1 vc lb cb hne 138 138 cur2.size cur.size (by simp [World.shape?,hvb]) (by simp [World.shape?,hb]) (by omega) (by simp [World.frozen?,hvb]) (by simp [World.frozen?,hvb])]
    rfl
  obtain ⟨cur1,hcur1⟩ : ∃ c : Array Value,(cur.toList.take ((i + 1) * 4) ++ cs.drop (i * 4) ++ cur.toList.drop ((i + 1) * 4 + (cs.drop (i * 4)).length)).toArray = c:=⟨_,rfl⟩;have hsz1 : cur1.size = cap * 4:=by
    rw [← hcur1];simp only [List.size_toArray,List.length_append,List.length_take,hdl,List.length_drop (l:=cur.toList),Array.length_toList,hcz];omega
  have hcsrc : ∀ j v,(cs.drop (i * 4))[j]? = some v → w.cell? ⟨b,i * 4 + j,none⟩ = some v:=by
    intro j v hj;have hlt:=(List.getElem?_eq_some_iff.1 hj).1;rw [List.getElem?_drop,← htk,List.getElem?_take_of_lt (by omega)] at hj;simp only [World.cell?,hb,Option.isSome_none,Bool.false_eq_true,if_false];rw [← hj];simp
  have hcp1 : ∀ ty dc sc,(Builtin.copy_ #[132,132] ty #[.slice (some ⟨b,(i + 1) * 4,none⟩) (n - i) dc,.slice (some ⟨b,i * 4,none⟩) (n + 1 - i) sc]).run Tryz.prog w.drew = .ok (goInt ((n - i : Nat) : Int)) (w.drew.setRow b cur1):=fun ty dc sc=>by
    rw [← hcur1];exact run_copy_k w.drew _ _ ty 138 Tryz.underlying132 tyEnt b ((i + 1) * 4) (n - i) dc ⟨b,i * 4,none⟩ (n + 1 - i) sc (n - i) cur _ (cs.drop (i * 4)) hb (by simp only [Nat.min_def];split <;> omega) (by rw [hdl,hz4]) (fun j v hj=>by rw [Go.WideShapes.add_plain];exact hcsrc j v hj) (by rw [hdl,hcz];omega) (fun v hv=>h1c v (List.mem_of_mem_drop hv))
  obtain ⟨W1,hW1⟩ : ∃ W1,w.drew.setRow b cur1 = W1:=⟨_,rfl⟩;rw [hW1] at hcp1;have hb1 : W1.heap[b]? = some (.cells cur1 138 (0,0)):=by rw [← hW1];exact setRow_heap w.drew b cur cur1 _ _ hb
  have hvb1 : W1.heap[vb]? = w.heap[vb]?:=by rw [← hW1];exact setRow_other w.drew b vb _ hne
  obtain ⟨curn,hcurn⟩ : ∃ c : Array Value,(cur1.toList.take (i * 4) ++ ns ++ cur1.toList.drop (i * 4 + ns.length)).toArray = c:=⟨_,rfl⟩;have hszn : curn.size = cap * 4:=by
    rw [← hcurn];simp only [List.size_toArray,List.length_append,List.length_take,hnl,List.length_drop,Array.length_toList,hsz1];omega
  have hcp2 : ∀ (W : World),(∀ k : Nat,W.heap[k]? = W1.heap[k]?) → ∀ ty dc,(Builtin.copy_ #[132,132] ty #[.slice (some ⟨b,i * 4,none⟩) (n + 1 - i) dc,.slice (some ⟨vb,0,none⟩) 1 vc]).run Tryz.prog W = .ok (goInt 1) (W.setRow b curn):=fun W hW ty dc=>by
    rw [← hcurn];exact run_copy_k W _ _ ty 138 Tryz.underlying132 tyEnt b (i * 4) (n + 1 - i) dc ⟨vb,0,none⟩ 1 vc 1 cur1 _ ns (by rw [hW];exact hb1) (by simp only [Nat.min_def];split <;> omega) (by rw [hnl,hz4]) (fun j v hj=>by
      rw [Go.WideShapes.add_plain];have h0:=hown2.cells (g:=vb) rfl j v hj;rw [Go.WideShapes.add_plain] at h0;rw [← h0];simp only [World.cell?,hW,hvb1]) (by rw [hnl,hsz1];omega) h1
  have hrow : curn.toList.take ((n + 1) * 4) = cs.take (i * 4) ++ ns ++ cs.drop (i * 4):=by
    rw [← hcurn];have e1 : cur1.toList.take (i * 4) = cs.take (i * 4):=by
      rw [← hcur1,List.append_assoc,List.take_append_of_le_length (by simp only [List.length_take,Array.length_toList,hcz];omega),take4 _ _ _ (by omega),← htk,take4 _ _ _ (by omega)]
    have e2 : cur1.toList.drop (i * 4 + ns.length) = cs.drop (i * 4) ++ cur.toList.drop ((i + 1) * 4 + (cs.drop (i * 4)).length):=by
      rw [← hcur1,hnl,List.append_assoc,show i * 4 + 1 * 4 = (cur.toList.take ((i + 1) * 4)).length by simp only [List.length_take,Array.length_toList,hcz];omega,List.drop_left]
    rw [e1,e2,← List.append_assoc,List.take_append_of_le_length (by simp only [List.length_append,List.length_take,hcl,hnl,hdl];omega),List.take_of_length_le (by simp only [List.length_append,List.length_take,hcl,hnl,hdl];omega)]
  have fin : ∀ W : World,(∀ k : Nat,W.heap[k]? = W1.heap[k]?) → W.heap.size = W1.heap.size → W.os = W1.os → W.tape = W1.tape → W.output = W1.output → RowTo w (W.setRow b curn) (.slice (some ⟨b,0,none⟩) n cap) (.slice (some ⟨b,0,none⟩) (n + 1) cap) (n + 1) (cs.take (i * 4) ++ ns ++ cs.drop (i * 4)):=by
    intro W hW hs ho ht hu;refine ⟨⟨by simp only [List.length_append,List.length_take,hcl,hnl,hdl];omega,.inr ⟨b,cap,curn,rfl,Nat.zero_le _,setRow_heap W b cur1 curn _ _ (by rw [hW];exact hb1),hroom,hcm,hszn,hrow⟩⟩,⟨?_,?_,?_,?_,?_⟩,fun _ h=>.inl h,_,_,_,rfl⟩
    · show W.os = _;rw [ho,← hW1];rfl
    · show W.tape = _;rw [ht,← hW1];rfl
    · show W.output = _;rw [hu,← hW1];rfl
    · rw [show (W.setRow b curn).heap.size = W.heap.size by simp,hs,← hW1];simp
    · intro k hk hkb;have hkb' : k ≠ b:=fun e=>hkb (by rw [e];rfl)
      rw [setRow_other W b k _ hkb',hW,← hW1];exact setRow_other w.drew b k _ hkb'
  have mixed : Tryz.prog.follows .mixedOrders = true:=by kernel_rfl
  have hz2 : ¬ ((i : Int) = (n : Int)):=by omega
  have hc63 : cap ≤ 9223372036854775807:=by unfold maxLen at hcm;omega
  have hw1 : IntKind.i64.wrap ((i : Int) + 1) = (i : Int) + 1:=by rw [IntKind.wrap_i64];omega
  have hw2 : IntKind.i64.wrap ((n : Int) + 1) = (n : Int) + 1:=by rw [IntKind.wrap_i64];omega
  have hin : i ≤ n:=by omega
  have hb1' : (0 : Int) ≤ (i : Int) + 1:=by omega
  have htn : ((i : Int) + 1).toNat = i + 1:=by omega
  have hb2 : ¬ (cap = i + 1):=by omega
  have hb4 : ¬ (cap = i):=by omega
  have hb3 : (i : Int) ≤ (n : Int) + 1:=by omega
  clear hcur1 hcurn hW1 hown hown2 h1 h1c hcsrc hrow hdl hcl hnl htk htk2
  go_enter Tryz.func91,Tryz.ntmps91
  go_wp2_with (simp only [hov])
  go_region_law_o (refine step_copy_runI rfl _ _ 132 132 rfl _ _ (by simp [Act.eval,Act.put]) (by simp [Act.eval,Act.put]) (hcp1 _ _ _) ?_)
  go_wp2_with (at_builtin;refine wpList_copy_runI _ rfl _ _ 132 132 rfl _ _ rfl rfl (hcp2 _ (fun _=>rfl) _ _) ?_)
  go_ret
  exact ⟨_,rfl,fin _ (fun _=>rfl) rfl rfl rfl rfl⟩
theorem ins_grow (n i : Nat) (b cap : Nat) (cs ns : List Value) (vb vc : Nat) (w : World) (hi : i < n) (hroom : cap < n + 1) (hn1 : n ≤ 1000000) (hown : w.ownsRow 0 138 4 (.slice (some ⟨b,0,none⟩) n cap) n cs) (hown2 : w.ownsRow 0 138 4 (.slice (some ⟨vb,0,none⟩) 1 vc) 1 ns) (h1 : ∀ u ∈ ns,u.oneCell' = true) (h1c : ∀ u ∈ cs,u.oneCell' = true) :
    Calls Tryz.prog 91 #[.slice (some ⟨b,0,none⟩) n cap,.int .i64 i,.slice (some ⟨vb,0,none⟩) 1 vc] w fun e w'=>∃ u,e = .returned u ∧ RowTo w w' (.slice (some ⟨b,0,none⟩) n cap) u (n + 1) (cs.take (i * 4) ++ ns ++ cs.drop (i * 4)):=by
  obtain ⟨cur,hb,hnc,hcm,hcz,htk,hcl⟩:=rowCells hown;obtain ⟨cur2,hvb,hvc,_,hcz2,htk2,hnl⟩:=rowCells hown2;have hbw : b < w.heap.size:=(Array.getElem?_eq_some_iff.1 hb).1;have hvw : vb < w.heap.size:=(Array.getElem?_eq_some_iff.1 hvb).1;have hz4 : ty138.size = 4:=rfl;have hdl : (cs.drop (i * 4)).length = (n - i) * 4:=by rw [List.length_drop,hcl];omega
  obtain ⟨i0,hi0,hz0,hzb,hzz⟩:=tyEnt.info;have hkk : (n : Int) + 1 - (i : Int) = ((n + 1 - i : Nat) : Int):=by omega
  have hik : i + (n + 1 - i) = n + 1:=by omega
  have hold : (Builtin.firstCells i0.size i (.slice (some ⟨b,0,none⟩) i cap)).run Tryz.prog w.drew = .ok (cs.take (i * 4)).toArray w.drew:=by
    rw [hz0,hz4];exact run_firstCells_some w.drew 4 i ⟨b,0,none⟩ i cap (cs.take (i * 4)) (by rw [List.length_take];omega) (fun j v hj=>by
      have hlt:=(List.getElem?_eq_some_iff.1 hj).1;rw [List.length_take] at hlt;rw [List.getElem?_take_of_lt (by omega)] at hj;exact hown.cells (g:=b) rfl j v hj)
  obtain ⟨G,hG⟩ : ∃ G,grownCap w (n + 1) cap 138 = G:=⟨_,rfl⟩;obtain ⟨ROW,hROW⟩ : ∃ ROW : Array Value,(cs.take (i * 4)).toArray ++ Builtin.zeroCells ty138.zeroV.cells (n + 1 - i) ++ Builtin.zeroCells ty138.zeroV.cells (G - (n + 1)) = ROW:=⟨_,rfl⟩;have hGn : n + 1 ≤ G:=by rw [← hG];exact grownCap_ge w _ _ _
  have hGm : G ≤ maxLen:=by rw [← hG];exact grownCap_le_maxLen w (n + 1) cap _ (by unfold maxLen;omega)
  have hRs : ROW.size = G * 4:=by
    have e1:=zs_len tyEnt (n + 1 - i);have e2:=zs_len tyEnt (G - (n + 1));rw [Array.length_toList,hz4] at e1 e2;rw [← hROW];simp only [Array.size_append,List.size_toArray,List.length_take,e1,e2];omega
  have hRt : ROW.toList.take (i * 4) = cs.take (i * 4):=by
    rw [← hROW];simp only [Array.toList_append,List.append_assoc];rw [List.take_append_of_le_length (by simp only [List.length_take];omega),take4 _ _ _ (by omega)]
  have hrz : ∀ ty,(Builtin.append_ #[132,3] ty #[.slice (some ⟨b,0,none⟩) i cap,.int .i64 ((n : Int) + 1 - (i : Int))]).run Tryz.prog w = .ok (.slice (some ⟨w.heap.size,0,none⟩) (n + 1) G) (w.drew.alloc (.cells ROW 138)):=fun ty=>by
    have h:=Lib.run_append_grow_zeros w 132 3 ty 138 i0 _ .i64 .i64 Tryz.underlying132 Tryz.underlying3 hi0 hzz (some ⟨b,0,none⟩) i cap (cs.take (i * 4)) hold (n + 1 - i) (by omega) (by rw [hz0,hz4];decide) (by omega) (by omega) (by rw [hzb,show ty138.bytes = 56 from rfl];omega) (by rw [hzb,hik];exact growslice_fits hroom (qO (show n + 1 ≤ 1000000000 by omega) (show ty138.bytes ≤ 1000 by decide)));rw [hik,hG,hROW] at h;rw [hkk];exact h
  obtain ⟨W1,hW1⟩ : ∃ W1,w.drew.alloc (.cells ROW 138) = W1:=⟨_,rfl⟩;have hN1 : W1.heap[w.heap.size]? = some (.cells ROW 138 (0,0)):=by rw [← hW1];exact heap_new w.drew _
  have hO1 : ∀ k,k < w.heap.size → W1.heap[k]? = w.heap[k]?:=fun k hk=>by rw [← hW1];exact Lib.alloc_old w.drew _ k hk
  obtain ⟨curA,hcurA⟩ : ∃ c : Array Value,(ROW.toList.take (i * 4) ++ ns ++ ROW.toList.drop (i * 4 + ns.length)).toArray = c:=⟨_,rfl⟩;have hszA : curA.size = G * 4:=by
    rw [← hcurA];simp only [List.size_toArray,List.length_append,List.length_take,hnl,List.length_drop,Array.length_toList,hRs];omega
  have hcpA : ∀ (W : World),(∀ k : Nat,W.heap[k]? = W1.heap[k]?) → ∀ ty dc,(Builtin.copy_ #[132,132] ty #[.slice (some ⟨w.heap.size,i * 4,none⟩) (n + 1 - i) dc,.slice (some ⟨vb,0,none⟩) 1 vc]).run Tryz.prog W = .ok (goInt 1) (W.setRow w.heap.size curA):=fun W hW ty dc=>by
    rw [← hcurA];exact run_copy_k W _ _ ty 138 Tryz.underlying132 tyEnt w.heap.size (i * 4) (n + 1 - i) dc ⟨vb,0,none⟩ 1 vc 1 ROW _ ns (by rw [hW];exact hN1) (by simp only [Nat.min_def];split <;> omega) (by rw [hnl,hz4]) (fun j v hj=>by
      rw [Go.WideShapes.add_plain];have h0:=hown2.cells (g:=vb) rfl j v hj;rw [Go.WideShapes.add_plain] at h0;rw [← h0];simp only [World.cell?,hW,hO1 vb hvw]) (by rw [hnl,hRs];omega) h1
  obtain ⟨W2,hW2⟩ : ∃ W2,W1.setRow w.heap.size curA = W2:=⟨_,rfl⟩;have hN2 : W2.heap[w.heap.size]? = some (.cells curA 138 (0,0)):=by rw [← hW2];exact setRow_heap W1 _ ROW curA _ _ hN1
  have hO2 : ∀ k,k < w.heap.size → W2.heap[k]? = w.heap[k]?:=fun k hk=>by rw [← hW2,setRow_other W1 _ k _ (by omega)];exact hO1 k hk
  obtain ⟨curn,hcurn⟩ : ∃ c : Array Value,(curA.toList.take ((i + 1) * 4) ++ cs.drop (i * 4) ++ curA.toList.drop ((i + 1) * 4 + (cs.drop (i * 4)).length)).toArray = c:=⟨_,rfl⟩;have hszn : curn.size = G * 4:=by
    rw [← hcurn];simp only [List.size_toArray,List.length_append,List.length_take,hdl,List.length_drop (l:=curA.toList),Array.length_toList,hszA];omega
  have hcpB : ∀ (W : World),(∀ k : Nat,W.heap[k]? = W2.heap[k]?) → ∀ ty dc sc,(Builtin.copy_ #[132,132] ty #[.slice (some ⟨w.heap.size,(i + 1) * 4,none⟩) (n - i) dc,.slice (some ⟨b,i * 4,none⟩) (n - i) sc]).run Tryz.prog W = .ok (goInt ((n - i : Nat) : Int)) (W.setRow w.heap.size curn):=fun W hW ty dc sc=>by
    rw [← hcurn];exact run_copy_k W _ _ ty 138 Tryz.underlying132 tyEnt w.heap.size ((i + 1) * 4) (n - i) dc ⟨b,i * 4,none⟩ (n - i) sc (n - i) curA _ (cs.drop (i * 4)) (by rw [hW];exact hN2) (by simp only [Nat.min_def];split <;> omega) (by rw [hdl,hz4]) (fun j v hj=>by
      rw [Go.WideShapes.add_plain];rw [List.getElem?_drop] at hj;have h0:=hown.cells (g:=b) rfl _ v hj;rw [Go.WideShapes.add_plain,Nat.zero_add] at h0;rw [← h0];simp only [World.cell?,hW,hO2 b hbw]) (by rw [hdl,hszA];omega) (fun v hv=>h1c v (List.mem_of_mem_drop hv))
  have hrow : curn.toList.take ((n + 1) * 4) = cs.take (i * 4) ++ ns ++ cs.drop (i * 4):=by
    have e1 : curA.toList.take ((i + 1) * 4) = cs.take (i * 4) ++ ns:=by
      have hlen : (ROW.toList.take (i * 4) ++ ns).length = (i + 1) * 4:=by
        rw [List.length_append,List.length_take,Array.length_toList,hRs,hnl];omega
      rw [← hcurA,← hlen,List.take_left,hRt]
    rw [← hcurn,e1,List.take_append_of_le_length (by simp only [List.length_append,List.length_take,hcl,hnl,hdl];omega),List.take_of_length_le (by simp only [List.length_append,List.length_take,hcl,hnl,hdl];omega)]
  have fin : ∀ W : World,(∀ k : Nat,W.heap[k]? = W2.heap[k]?) → W.heap.size = W2.heap.size → W.os = W2.os → W.tape = W2.tape → W.output = W2.output → RowTo w (W.setRow w.heap.size curn) (.slice (some ⟨b,0,none⟩) n cap) (.slice (some ⟨w.heap.size,0,none⟩) (n + 1) G) (n + 1) (cs.take (i * 4) ++ ns ++ cs.drop (i * 4)):=by
    intro W hW hs ho ht hu;have hsz : (W.setRow w.heap.size curn).heap.size = w.heap.size + 1:=by rw [show (W.setRow w.heap.size curn).heap.size = W.heap.size by simp,hs,← hW2,← hW1];simp
    refine ⟨⟨by simp only [List.length_append,List.length_take,hcl,hnl,hdl];omega,.inr ⟨w.heap.size,G,curn,rfl,Nat.zero_le _,setRow_heap W _ curA curn _ _ (by rw [hW];exact hN2),hGn,hGm,hszn,hrow⟩⟩,⟨?_,?_,?_,by omega,?_⟩,fun b' h=>.inr ?_,_,_,_,rfl⟩
    · show W.os = _;rw [ho,← hW2,← hW1];rfl
    · show W.tape = _;rw [ht,← hW2,← hW1];rfl
    · show W.output = _;rw [hu,← hW2,← hW1];rfl
    · intro k hk _;rw [setRow_other W _ k _ (by omega),hW];exact hO2 k hk
    · cases h;exact ⟨Nat.le_refl _,by rw [hsz];exact Nat.lt_succ_self _⟩
  have mixed : Tryz.prog.follows .mixedOrders = true:=by kernel_rfl
  have hz2 : ¬ ((i : Int) = (n : Int)):=by omega
  have hz3 : (cap : Int) < (n : Int) + 1:=by omega
  have hw1 : IntKind.i64.wrap ((i : Int) + 1) = (i : Int) + 1:=by rw [IntKind.wrap_i64];omega
  have hw2 : IntKind.i64.wrap ((n : Int) + 1) = (n : Int) + 1:=by rw [IntKind.wrap_i64];omega
  have hin : i ≤ n:=by omega
  have hb1' : (0 : Int) ≤ (i : Int) + 1:=by omega
  have htn : ((i : Int) + 1).toNat = i + 1:=by omega
  have hGi : ¬ (G = i):=by omega
  have hGim : ¬ (G = i + 1):=by omega
  have hci : ¬ (cap = i):=by omega
  have hb3 : (i : Int) ≤ (n : Int):=by omega
  have hG63 : G ≤ 9223372036854775807:=by unfold maxLen at hGm;omega
  rw [← hW1] at hW2;have hA : ∀ k : Nat,((w.alloc (.cells ROW 138)).drew).heap[k]? = W1.heap[k]?:=fun k=>by rw [← hW1];rfl
  have hB : ∀ k : Nat,(((w.alloc (.cells ROW 138)).drew.setRow w.heap.size curA).drew).heap[k]? = W2.heap[k]?:=fun k=>by rw [← hW2];rfl
  have hfin:=fin _ hB (by rw [← hW2];rfl) (by rw [← hW2];rfl) (by rw [← hW2];rfl) (by rw [← hW2];rfl);have hcA:=hcpA _ hA;have hcB:=hcpB _ hB;rw [hW1] at hrz;rw [← hW1] at hrz;clear hcpA hcpB fin hA hB hkk hik hold hG hROW hRs hRt hcurA hcurn hW1 hW2 hN1 hN2 hO1 hO2 hown hown2 h1 h1c hrow hdl hcl hnl htk htk2 hroom
  go_enter Tryz.func91,Tryz.ntmps91
  go_wp2_with (first
    | (at_builtin;refine Lib.wpList_append_run _ rfl _ _ _ _ rfl _ _ rfl rfl _ _ (hrz _) ?_)
    | (at_builtin;refine wpList_copy_runI _ rfl _ _ 132 132 rfl _ _ rfl rfl (hcA _ _) ?_))
  go_region_law_o (refine step_copy_runI rfl _ _ 132 132 rfl (.slice (some ⟨w.heap.size,(i + 1) * 4,none⟩) (n - i) (G - (i + 1))) (.slice (some ⟨b,i * 4,none⟩) (n - i) (cap - i)) (by simp [Act.eval,Act.put]) (by simp [Act.eval,Act.put]) (hcB _ _ _) ?_)
  go_wp2
  go_ret
  exact ⟨_,rfl,hfin⟩
end Q
end Ab
end Go.Proofs.YtojipboabgebfaaGreatDoor
namespace Go.Proofs.YtojipboabgebfaaGreatDoor
open Go.RowKit
namespace Ab
set_option maxRecDepth 100000
namespace Q
theorem flat_take {n : Nat} : ∀ (css : List (List Value)) (k : Nat),(∀ c ∈ css,c.length = n) → (css.take k).flatten = css.flatten.take (k * n)
  | [],_,_=>by simp
  | c :: r,0,_=>by simp
  | c :: r,k + 1,h=>by
    have h0 : c.length = n:=h c (by simp);have ih:=flat_take r k fun d hd=>h d (by simp [hd])
    rw [List.take_succ_cons,List.flatten_cons,List.flatten_cons,ih,Nat.add_mul,Nat.one_mul,Nat.add_comm (k * n) n]
    conv=>rhs;rw [← h0]
    rw [List.take_length_add_append,h0]
theorem flat_drop {n : Nat} : ∀ (css : List (List Value)) (k : Nat),(∀ c ∈ css,c.length = n) → (css.drop k).flatten = css.flatten.drop (k * n)
  | [],_,_=>by simp
  | c :: r,0,_=>by simp
  | c :: r,k + 1,h=>by
    have h0 : c.length = n:=h c (by simp);have ih:=flat_drop r k fun d hd=>h d (by simp [hd])
    rw [List.drop_succ_cons,List.flatten_cons,ih,Nat.add_mul,Nat.one_mul,Nat.add_comm (k * n) n,← List.drop_drop,← h0,List.drop_left,h0]
section
variable {cx : Cx} {ob : Obs} {nx : Nat} {ρ : Nat → Option Value} {w w' : World}
theorem ent_lens {ok : Oks} {xs : List Ent} {css : List (List Value)} (h1 : css.length = xs.length) (h2 : ∀ i (h : i < xs.length),rEnt.is ok w (css.getD i []) xs[i]) : ∀ c ∈ css,c.length = 4:=css_lens h1 h2
theorem ent_ones {ok : Oks} {xs : List Ent} {css : List (List Value)} (h1 : css.length = xs.length) (h2 : ∀ i (h : i < xs.length),rEnt.is ok w (css.getD i []) xs[i]) : ∀ v ∈ css.flatten,v.oneCell' = true:=css_ones h1 h2
theorem row_st (hs : StOk cx [] ob nx ρ ⟨#[],[]⟩ w) {xs xs' : List Ent} (hg : getO ob 0 = some (.vec 138 rEnt xs)) {v u : Value} (hv : ρ 0 = some v) {css' : List (List Value)} (hl : css'.length = xs'.length)
    (hR : ∀ i (h : i < xs'.length),rEnt.is (okOf cx ρ ob) w (css'.getD i []) xs'[i]) (hrow : RowTo w w' v u xs'.length css'.flatten) :
    ∃ ρ',StOk cx [] (setO 0 (.vec 138 rEnt xs') (subOb 0 .any ob)) nx ρ' ⟨#[],[]⟩ w' ∧ (C.vec 0).rep (okOf cx ρ' (setO 0 (.vec 138 rEnt xs') (subOb 0 .any ob))) ρ' w' u:=by
  obtain ⟨h1,h2,h3,h4⟩:=hrow;rw [← hv] at h2;have h3' : ∀ b,blk (some u) = some b → blk (ρ 0) = some b ∨ (w.heap.size ≤ b ∧ b < w'.heap.size):=by rw [hv];exact h3
  have hkp:=okOf_swap (o':=.vec 138 rEnt xs') hs hg h2 (fun b hb=>(h3' b hb).imp (fun h=>h) (·.1));refine ⟨upd ρ 0 u,hs.swap hg h2 h3' ⟨u,xJ,css',hl,fun i hi=>Rd.kept _ hkp (hR i hi),h1⟩,xJ,h4⟩
end
theorem getD_app {α : Type} (a b : List α) (i : Nat) (d : α) : (a ++ b).getD i d = if i < a.length then a.getD i d else b.getD (i - a.length) d:=by
  simp only [List.getD_eq_getElem?_getD];split
  · rename_i h;rw [List.getElem?_append_left h]
  · rename_i h;rw [List.getElem?_append_right (by omega)]
theorem delete_x (xs : List Ent) (i j : Nat) (hij : i < j) (hj : j ≤ xs.length) : ACallX Tryz.prog 90 [.one (.vec 0),ii .i64 i,ii .i64 j] [(0,.vec 138 rEnt xs)] 1 (.one (.vec 0)) [(0,.vec 138 rEnt (xs.take i ++ xs.drop j))] 1 []:=by
  refine ⟨⟨_,Tryz.func90,rfl,rfl⟩,fun cx ρ w vs _ _ _ hs hvs=>?_⟩;obtain ⟨v,r1,rfl,⟨hv,_⟩,vi,r2,rfl,hvi,vj,r3,rfl,hvj,hr3⟩:=hvs;rw [show r3 = [] from hr3,show vi = _ from hvi,show vj = _ from hvj];obtain ⟨v',hv',css,h1,h2,hown⟩ : ∃ v,ρ 0 = some v ∧ VecOk (okOf cx ρ [(0,.vec 138 rEnt xs)]) w v 138 rEnt xs:=hs.obs (0,.vec 138 rEnt xs) (by simp);rw [hv] at hv';obtain rfl:=Option.some.inj hv';have hfl:=ent_lens h1 h2;have hon:=ent_ones h1 h2;rcases id hown.2 with ⟨_,h0⟩|⟨b,cap,cur,rfl,_⟩
  · omega
  obtain ⟨cur,hb,hnc,hcm,hcz,htk,hcl⟩:=rowCells hown;refine (del_w b cap xs.length i j cur w hb hcz hnc hcm hij hj (by rw [htk];exact hon)).mono ?_
  rintro e w' ⟨rfl,cur',hgr,hb',hcz',hrow⟩
  have hnl : xs.length - (j - i) = (xs.take i ++ xs.drop j).length:=by rw [List.length_append,List.length_take,List.length_drop];omega
  have hf : (css.take i ++ css.drop j).flatten = cur.toList.take (i * 4) ++ (cur.toList.drop (j * 4)).take ((xs.length - j) * 4):=by
    rw [List.flatten_append,flat_take css i hfl,flat_drop css j hfl,← htk,take4 _ _ _ (by omega),List.drop_take]
    congr 2
    omega
  have hown' : w'.ownsRow 0 138 4 (.slice (some ⟨b,0,none⟩) (xs.length - (j - i)) cap) (xs.length - (j - i)) (css.take i ++ css.drop j).flatten:=by
    rw [hf,← hrow];have hcl' : cur'.toList.length = cap * 4:=by simpa using hcz'
    exact ⟨by rw [List.length_take,hcl'];omega,.inr ⟨b,cap,cur',rfl,Nat.zero_le _,hb',by omega,hcm,hcz',rfl⟩⟩
  rw [hnl] at hown' ⊢;obtain ⟨ρ',h3,h4⟩:=row_st (xs':=xs.take i ++ xs.drop j) (css':=css.take i ++ css.drop j) (u:=.slice (some ⟨b,0,none⟩) (xs.take i ++ xs.drop j).length cap) hs rfl hv (by simp [h1]) (fun k hk=>by
    rw [List.length_append,List.length_take,List.length_drop] at hk;rw [getD_app,List.getElem_append];simp only [List.length_take,h1];split
    · rename_i hlt;have:=h2 k (by omega);rw [List.getElem_take];rw [List.getD_eq_getElem?_getD] at this ⊢;rw [List.getElem?_take_of_lt (by omega)];exact this
    · rename_i hlt;have:=h2 (j + (k - min i xs.length)) (by omega);rw [List.getElem_drop];rw [List.getD_eq_getElem?_getD] at this ⊢;rw [List.getElem?_drop];exact this) ⟨hown',hgr,fun _ h=>.inl h,_,_,_,rfl⟩
  exact ⟨_,ρ',rfl,h3,h4,fun k hk=>by cases hk⟩
theorem insert_x (xs : List Ent) (e : Ent) (i : Nat) (hi : i ≤ xs.length) (hn : xs.length ≤ 1000000) : ACallX Tryz.prog 91 [.one (.vec 0),ii .i64 i,.one (.vec 1)] [(0,.vec 138 rEnt xs),(1,.vec 138 rEnt [e])] 2 (.one (.vec 0)) [(0,.vec 138 rEnt (insE xs i e)),(1,.vec 138 rEnt [e])] 2 []:=by
  refine ⟨⟨_,Tryz.func91,rfl,rfl⟩,fun cx ρ w vs _ _ _ hs hvs=>?_⟩;obtain ⟨v,r1,rfl,⟨hv,_⟩,vi,r2,rfl,hvi,v2,r3,rfl,⟨hv2,_⟩,hr3⟩:=hvs;rw [show r3 = [] from hr3,show vi = _ from hvi];obtain ⟨v',hv',css,h1,h2,hown⟩ : ∃ v,ρ 0 = some v ∧ VecOk (okOf cx ρ [(0,.vec 138 rEnt xs),(1,.vec 138 rEnt [e])]) w v 138 rEnt xs:=hs.obs (0,.vec 138 rEnt xs) (by simp);rw [hv] at hv';obtain rfl:=Option.some.inj hv';obtain ⟨v2',hv2',ess,g1,g2,hown2⟩ : ∃ v,ρ 1 = some v ∧ VecOk (okOf cx ρ [(0,.vec 138 rEnt xs),(1,.vec 138 rEnt [e])]) w v 138 rEnt [e]:=hs.obs (1,.vec 138 rEnt [e]) (by simp);rw [hv2] at hv2';obtain rfl:=Option.some.inj hv2';obtain ⟨es,rfl⟩ : ∃ es,ess = [es]:=List.length_eq_one_iff.1 g1;have hge:=g2 0 Nat.one_pos;have hel : es.length = 4:=Rd.len rEnt hge;have hfl:=ent_lens h1 h2;have hon:=ent_ones h1 h2;have hon2:=ent_ones g1 g2;rcases id hown2.2 with ⟨_,h0⟩|⟨vb,vc,cur2,hv2e,_⟩
  · simp at h0
  have hv2e : v2 = .slice (some ⟨vb,0,none⟩) 1 vc:=hv2e;subst hv2e;rw [show ([es] : List (List Value)).flatten = es by simp] at hown2 hon2;have hrow : Calls Tryz.prog 91 #[v,.int .i64 i,.slice (some ⟨vb,0,none⟩) 1 vc] w fun e' w'=>∃ u,e' = .returned u ∧ RowTo w w' v u (xs.length + 1) (css.flatten.take (i * 4) ++ es ++ css.flatten.drop (i * 4)):=by
    have hcl : css.flatten.length = xs.length * 4:=hown.1;rcases Nat.lt_or_ge i xs.length with hlt|hge'
    · rcases id hown.2 with ⟨_,h0⟩|⟨b,cap,cur,rfl,_⟩
      · omega
      have hne : vb ≠ b:=fun e'=>hs.sep (0,.vec 138 rEnt xs) (by simp) (1,.vec 138 rEnt [e]) (by simp) Nat.zero_ne_one b (by rw [hv];rfl) (by rw [hv2,e'];rfl)
      by_cases hroom : xs.length + 1 ≤ cap
      · exact ins_shift xs.length i b cap css.flatten es vb vc w hlt hroom hown hown2 hne hon2 hon
      · exact ins_grow xs.length i b cap css.flatten es vb vc w hlt (by omega) hn hown hown2 hon2 hon
    · obtain rfl : i = xs.length:=by omega
      have:=ins_end xs.length v css.flatten es vb vc w hown hown2 hon2 hn;rw [List.take_of_length_le (by omega),List.drop_of_length_le (by omega),List.append_nil];exact this
  refine hrow.mono ?_
  rintro e' w' ⟨u,rfl,hrt⟩
  have hf : (css.take i ++ es :: css.drop i).flatten = css.flatten.take (i * 4) ++ es ++ css.flatten.drop (i * 4):=by
    rw [List.flatten_append,List.flatten_cons,flat_take css i hfl,flat_drop css i hfl,List.append_assoc]
  have hnl : xs.length + 1 = (insE xs i e).length:=by unfold insE;rw [List.length_append,List.length_cons,List.length_take,List.length_drop];omega
  rw [← hf,hnl] at hrt;obtain ⟨ρ',h3,h4⟩:=row_st (xs':=insE xs i e) hs rfl hv (by rw [← hnl];simp [h1];omega) (fun k hk=>by
    rw [← hnl] at hk;simp only [insE,getD_app,List.getElem_append,List.length_take,h1];split
    · rename_i hlt;have:=h2 k (by omega);rw [List.getElem_take];rw [List.getD_eq_getElem?_getD] at this ⊢;rw [List.getElem?_take_of_lt (by omega)];exact this
    · rename_i hlt;obtain ⟨q,hq⟩ : ∃ q,k - min i xs.length = q:=⟨_,rfl⟩;simp only [hq];cases q with
      | zero=>exact hge
      | succ q =>
        have:=h2 (i + q) (by omega);simp only [List.getElem_cons_succ,List.getD_cons_succ,List.getElem_drop];rw [List.getD_eq_getElem?_getD] at this ⊢;rw [List.getElem?_drop];exact this) hrt
  exact ⟨_,ρ',rfl,h3,h4,fun k hk=>by cases hk⟩
theorem cloneE_o {k : Nat} (es : List Ent) (hl : es.length ≤ 1000000) : yE Tryz.prog 108 [.one (.slk k rEnt es)] [] 0 (.one (.vec 0)) [(0,.vec 138 rEnt es)] 1:=by
  refine yC (rs:=[2]) Tryz.func108 rfl rfl rfl teOk (by decide) rfl ?_;refine qB ?_;refine qJ ?_;refine qJ ?_;refine acode_isnil (q:=k) [_] _ (R:=rEnt) (xs:=es) rfl rfl rfl rfl (e:=138) rfl rfl ?_;refine ⟨rfl,fun b hb=>?_⟩;refine qK rfl (fun h4=>?_) (fun h4=>?_)
  ·have hl0:=hb h4;subst hl0;refine qB ?_;refine yW 2 138 rEnt rfl ?_;refine qM ?_;exact ⟨rfl,rfl,rfl⟩
  ·refine qL ?_;refine qB ?_;refine zai (by first|exact qO (show es.length ≤ 1000000000 by omega) (by decide)|exact qO (show 0 + es.length ≤ 1000000000 by omega) (by decide)) ?_;refine qM ?_;exact ⟨rfl,rfl,rfl⟩
def recsT (l : List Itm) : List (List Fld):=(l.filter fun x=>decide (x.1 = 3)).map (·.2.2)
def fldL (a : List Fld) : List ByteArray:=a.flatMap fun f=>lineB f.1 f.2
def textT : List (List Fld) → List ByteArray
  | []=>[]
  | [a]=>fldL a
  | a :: b :: r=>fldL a ++ (⟨#[]⟩ :: textT (b :: r))
def GoodS (a : List Fld) : Prop:=a ≠ [] ∧ a.length ≤ 40 ∧ ∀ f ∈ a,yZ f = 0
def badAt : Int → List Fld → Int × Int
  | _,[]=>(-9,0)
  | i,f :: r=>if yZ f ≠ 0 then (i,yZ f) else badAt (i + 1) r
def chkR (l : List Fld) : Int × Int:=if l = [] then (-9,2) else if 40 < l.length then (-9,11) else badAt 0 l
def chkA (l : List Fld) : C:=if (chkR l).2 = 0 then .lit .nilIface else if (chkR l).1 = -9 then errN (chkR l).2 else errF (chkR l).1 (chkR l).2
theorem badAt_hit : ∀ (l : List Fld) (i : Nat) (k : Int),i < l.length → (∀ f ∈ l.take i,yZ f = 0) → yZ (l.getD i (ByteArray.empty,ByteArray.empty)) ≠ 0 → badAt k l = (k + i,yZ (l.getD i (ByteArray.empty,ByteArray.empty)))
  | [],i,k,h,_,_=>by simp at h
  | f :: r,0,k,_,_,hb=>by
    unfold badAt;rw [if_pos (by simpa using hb)];simp
  | f :: r,i + 1,k,h,ht,hb=>by
    unfold badAt;rw [if_neg (by simpa using ht f (by simp))];rw [badAt_hit r i (k + 1) (by simpa using h) (fun g hg=>ht g (by simp [hg])) (by simpa using hb)];simp only [List.getD_cons_succ]
    congr 1
    omega
theorem badAt_no : ∀ (l : List Fld) (k : Int),(∀ f ∈ l,yZ f = 0) → badAt k l = (-9,0)
  | [],_,_=>rfl
  | f :: r,k,h=>by
    unfold badAt;rw [if_neg (by simpa using h f (by simp))];exact badAt_no r (k + 1) (fun g hg=>h g (by simp [hg]))
theorem chkA_nil {l : List Fld} (h : chkR l = (-9,0)) : chkA l = .lit .nilIface:=by unfold chkA;rw [h];rfl
theorem chkA_no {l : List Fld} {n : Int} (h : chkR l = (-9,n)) (hn : n ≠ 0) : chkA l = errN n:=by unfold chkA;rw [h,if_neg hn,if_pos rfl]
theorem chkA_at {l : List Fld} {i n : Int} (h : chkR l = (i,n)) (hn : n ≠ 0) (hi : 0 ≤ i) : chkA l = errF i n:=by unfold chkA;rw [h,if_neg hn,if_neg (by show ¬ i = -9;omega)]
theorem pcheck_c {κ : Nat} (l : List Fld) (hl : yO l) : qX Tryz.prog 163 [.one (.slk κ rFld l)] (.one (chkA l)):=by
  have hln:=hl.1;refine qV (rs:=[2]) Tryz.func163 rfl rfl rfl teOk rfl ?_;refine qB ?_;refine qJ ?_;refine qQ ?_;refine qB ?_;intro l1_1
  try simp only [zds] at l1_1
  refine qK rfl (fun h6=>?_) (fun h6=>?_)
  ·try simp only [decide_eq_true_eq] at h6
   try simp only [zds] at h6
   refine qB ?_;refine qM ?_;rw [chkA_no (l:=l) (n:=2) (by unfold chkR;rw [if_pos (List.eq_nil_of_length_eq_zero (by omega))]) (by decide)];rfl
  ·try simp only [decide_eq_false_iff_not] at h6
   try simp only [zds] at h6
   refine qB ?_;intro l3_1
   try simp only [zds] at l3_1
   refine qK rfl (fun h11=>?_) (fun h11=>?_)
   ·try simp only [decide_eq_true_eq] at h11
    try simp only [zds] at h11
    refine qB ?_;refine qM ?_;rw [chkA_no (l:=l) (n:=11) (by unfold chkR;rw [if_neg (fun e=>h6 (by rw [e];rfl)),if_pos (by omega)]) (by decide)];rfl
   ·try simp only [decide_eq_false_iff_not,Int.not_lt] at h11
    try simp only [zds] at h11
    refine qL ?_;refine qJ ?_;refine qB ?_;intro l5_1
    try simp only [zds] at l5_1
    refine qQ ?_;refine qW (fun (i : Nat)=>i ≤ l.length ∧ ∀ f ∈ l.take i,yZ f = 0) (fun (i : Nat)=>[(16,.one (.slk κ rFld l)),(17,ii .i64 l.length),(18,ii .i64 i)]) (fun (i : Nat)=>[]) 0 (fun (i : Nat)=>l.length - i) 0 (⟨Nat.zero_le _,by simp⟩) (qP ⟨rfl,rfl,rfl⟩ trivial rfl) ?_;intro i hI1;obtain ⟨hi,hall⟩:=hI1;refine qB ?_;refine qJ ?_;refine qK rfl (fun h19=>?_) (fun h19=>?_)
    ·try simp only [decide_eq_true_eq] at h19
     try simp only [zds] at h19
     have hlt : i < l.length:=(by omega);have hm:=hl.2 _ (yT hlt (ByteArray.empty,ByteArray.empty));have hne : l ≠ []:=(fun e=>by rw [e] at hlt;simp at hlt);refine qL ?_;refine qJ ?_;refine qQ ?_;refine qB ?_;refine zob ?_;refine qJ ?_;rcases check_cases (l.getD i (ByteArray.empty,ByteArray.empty)) with hc|hc|hc
     ·refine qI ?_;refine Or.inl ?_;refine zai (rfl) ?_;refine zei _ (zai (check_v (l.getD i (ByteArray.empty,ByteArray.empty)) _ (by omega) hc) ?_);refine qB ?_;refine qK rfl (fun h26=>?_) (fun h26=>?_)
      ·skip
       refine qB ?_;refine qM ?_;rw [chkA_at (l:=l) (i:=i) (n:=5) (by unfold chkR;rw [if_neg hne,if_neg (by omega),badAt_hit l i 0 hlt hall (by rw [hc];decide),hc];simp) (by decide) (by omega)];rfl
      ·try simp only [zbq] at h26
       try simp only [zds] at h26
       cases h26
     ·refine qI ?_;refine Or.inl ?_;refine zai (rfl) ?_;refine zei _ (zai (check_v (l.getD i (ByteArray.empty,ByteArray.empty)) _ (by omega) hc) ?_);refine qB ?_;refine qK rfl (fun h26=>?_) (fun h26=>?_)
      ·skip
       refine qB ?_;refine qM ?_;rw [chkA_at (l:=l) (i:=i) (n:=6) (by unfold chkR;rw [if_neg hne,if_neg (by omega),badAt_hit l i 0 hlt hall (by rw [hc];decide),hc];simp) (by decide) (by omega)];rfl
      ·try simp only [zbq] at h26
       try simp only [zds] at h26
       cases h26
     ·refine qI ?_;refine Or.inl ?_;refine zai (rfl) ?_;refine zei _ (zai (check_v (l.getD i (ByteArray.empty,ByteArray.empty)) _ (by omega) hc) ?_);refine qB ?_;refine qK rfl (fun h26=>?_) (fun h26=>?_)
      ·try simp only [Bool.not_eq_true'] at h26
       try simp only [zds] at h26
       cases h26
      ·try simp only [Bool.not_eq_false'] at h26
       try simp only [zds] at h26
       refine qL ?_;refine qI ?_;refine zob ?_;exact ⟨i + 1,⟨by omega,by rw [← yL (ByteArray.empty,ByteArray.empty) hlt];intro f hf;rcases List.mem_append.1 hf with h|h;exact hall f h;rw [List.mem_singleton.1 h];exact hc⟩,by first|omega|(simp <;> omega),qP ⟨rfl,rfl,(qT (by omega))⟩ trivial rfl⟩
    ·try simp only [decide_eq_false_iff_not,Int.not_lt] at h19
     try simp only [zds] at h19
     refine yA ?_;refine qB ?_;refine qM ?_;rw [List.take_of_length_le (by omega)] at hall;rw [chkA_nil (by unfold chkR;rw [if_neg (fun e=>h6 (by rw [e];rfl)),if_neg (by omega)];exact badAt_no l 0 hall)];rfl
theorem badAt_zero : ∀ (l : List Fld) (k : Int),(badAt k l).2 = 0 → (∀ f ∈ l,yZ f = 0)
  | [],_,_,f,hf=>by cases hf
  | g :: r,k,h,f,hf=>by
    unfold badAt at h;split at h
    · rename_i hg;exact absurd h hg
    · rename_i hg;rcases List.mem_cons.1 hf with rfl|hf
      · exact Classical.not_not.1 hg
      · exact badAt_zero r (k + 1) h f hf
theorem chk_good {l : List Fld} (h : (chkR l).2 = 0) : GoodS l ∧ badF l = 0 ∧ chkA l = .lit .nilIface:=by
  have hA : chkA l = .lit .nilIface:=by unfold chkA;rw [if_pos h]
  unfold chkR at h;split at h
  · cases h
  · rename_i h0;split at h
    · cases h
    · rename_i h4;have:=badAt_zero l 0 h;exact ⟨⟨h0,by omega,this⟩,badF_ok this,hA⟩
theorem chk_bad {l : List Fld} (h : (chkR l).2 ≠ 0) : ∃ e,chkA l = e ∧ ((∃ n,n ≠ 0 ∧ e = errN n ∧ chkR l = (-9,n)) ∨ ∃ i n,n ≠ 0 ∧ e = errF i n ∧ chkR l = (i,n)):=by
  refine ⟨_,rfl,?_⟩;unfold chkA;rw [if_neg h]
  by_cases h9 : (chkR l).1 = -9
  · rw [if_pos h9];exact .inl ⟨_,h,rfl,Prod.ext h9 rfl⟩
  · rw [if_neg h9];exact .inr ⟨_,_,h,rfl,rfl⟩
theorem pstanza_ok {κ : Nat} {l : List Fld} (hl : yO l) (h : (chkR l).2 = 0) : qX Tryz.prog 132 [.one (.slk κ rFld l)] (.tup [(false,[.lit (.string (bytes (foldL l)))]),(false,[.lit .nilIface])]):=by
  obtain ⟨h1,h2,h3⟩:=chk_good h;have hc:=pcheck_c (κ:=κ) l hl;rw [h3] at hc;refine qV (rs:=[2,3]) Tryz.func132 rfl rfl rfl teOk rfl ?_;refine qB ?_;refine qJ ?_;refine qB ?_;refine Or.inl ?_;refine zai (rfl) ?_;refine zei _ (zai (hc) ?_);refine qB ?_;refine qK rfl (fun h8=>?_) (fun h8=>?_)
  ·try simp only [Bool.not_eq_true'] at h8
   try simp only [zds] at h8
   cases h8
  ·try simp only [Bool.not_eq_false'] at h8
   try simp only [zds] at h8
   refine qL ?_;refine qB ?_;refine Or.inl ?_;refine zai (rfl) ?_;refine zei _ (zai (fold_yes hl h2) ?_);refine qM ?_;rfl
theorem pstanza_err {κ : Nat} {l : List Fld} (hl : yO l) (h : (chkR l).2 ≠ 0) : qX Tryz.prog 132 [.one (.slk κ rFld l)] (.tup [(false,[.lit (.string ⟨#[]⟩)]),(false,[chkA l])]):=by
  have hc:=pcheck_c (κ:=κ) l hl;obtain ⟨e,he,hs⟩:=chk_bad h;rw [he] at hc ⊢;rcases hs with ⟨n,hn,rfl,_⟩|⟨i,n,hn,rfl,_⟩
  ·
    refine qV (rs:=[2,3]) Tryz.func132 rfl rfl rfl teOk rfl ?_;refine qB ?_;refine qJ ?_;refine qB ?_;refine Or.inl ?_;refine zai (rfl) ?_;refine zei _ (zai (hc) ?_);refine qB ?_;refine qK rfl (fun h8=>?_) (fun h8=>?_)
    ·skip
     refine qB ?_;refine qM ?_;rfl
    ·try simp only [zbq] at h8
     try simp only [zds] at h8
     cases h8
  ·
    refine qV (rs:=[2,3]) Tryz.func132 rfl rfl rfl teOk rfl ?_;refine qB ?_;refine qJ ?_;refine qB ?_;refine Or.inl ?_;refine zai (rfl) ?_;refine zei _ (zai (hc) ?_);refine qB ?_;refine qK rfl (fun h8=>?_) (fun h8=>?_)
    ·skip
     refine qB ?_;refine qM ?_;rfl
    ·try simp only [zbq] at h8
     try simp only [zds] at h8
     cases h8
theorem clone_c {k : Nat} (l : List Fld) (hl : l.length ≤ 1000000) : qX Tryz.prog 69 [.one (.slk k rFld l)] (.one (.sl rFld l)):=by
  refine qV (rs:=[2]) Tryz.func69 rfl rfl rfl teOk rfl ?_;refine qB ?_;refine qJ ?_;refine qJ ?_;refine acode_isnil (q:=k) [_] _ (R:=rFld) (xs:=l) rfl rfl rfl rfl (e:=107) rfl rfl ?_;refine ⟨rfl,fun b hb=>?_⟩;refine qK rfl (fun h4=>?_) (fun h4=>?_)
  ·have hl0:=hb h4;subst hl0;refine qB ?_;refine yW 2 107 rFld rfl ?_;refine qM ?_;rfl
  ·refine qL ?_;refine qB ?_;refine zai (by first|exact qO (show l.length ≤ 1000000000 by omega) (by decide)|exact qO (show 0 + l.length ≤ 1000000000 by omega) (by decide)) ?_;refine qM ?_;rfl
def al6 : List (List Fld):=[[(⟨#[65]⟩,⟨#[49]⟩)],[(⟨#[66]⟩,⟨#[50]⟩)]]
def itEs (es : List Ent) : List (List A):=(es.filter live).map fun e=>[A.agg (toL rEnt e)]
def cntL (es : List Ent) : Nat:=(es.filter live).length
theorem cntL_snoc {es : List Ent} {i : Nat} (h : i < es.length) : cntL (es.take (i + 1)) = cntL (es.take i) + if live (es.getD i (((0 : Int),ByteArray.empty,([] : List Fld)),(0 : Int))) then 1 else 0:=by
  unfold cntL;rw [← yL (((0 : Int),ByteArray.empty,([] : List Fld)),(0 : Int)) h,List.filter_append,List.length_append]
  generalize es.getD i (((0 : Int),ByteArray.empty,([] : List Fld)),(0 : Int)) = x
  cases hk : live x <;> simp [hk]
theorem itEs_at {es : List Ent} {i : Nat} (h : i < es.length) (hl : live (es.getD i (((0 : Int),ByteArray.empty,([] : List Fld)),(0 : Int))) = true) : ∃ hk : cntL (es.take i) < (itEs es).length,(itEs es)[cntL (es.take i)] = [A.agg (toL rEnt (es.getD i (((0 : Int),ByteArray.empty,([] : List Fld)),(0 : Int))))]:=by
  obtain ⟨h1,h2⟩:=filter_at live (((0 : Int),ByteArray.empty,([] : List Fld)),(0 : Int)) es i h hl;have h1' : cntL (es.take i) < (es.filter live).length:=h1;refine ⟨by unfold itEs;rw [List.length_map];exact h1',?_⟩;have h3 : (es.filter live)[cntL (es.take i)]'h1' = es.getD i (((0 : Int),ByteArray.empty,([] : List Fld)),(0 : Int)):=(getD_get h1' (((0 : Int),ByteArray.empty,([] : List Fld)),(0 : Int))).trans h2;exact (List.getElem_map (fun e=>[A.agg (toL rEnt e)])).trans (congrArg (fun e=>[A.agg (toL rEnt e)]) h3)
theorem all_iter {k : Nat} (es : List Ent) (n m : Int) : AIter Tryz.prog 141 [.one (.ref (.adk k (rLst k) (es,n,m)))] (itEs es):=by
  refine aiter_of Tryz.func141 rfl rfl rfl teOk rfl ?_;intro l ι Pr J U n0 hU hab hy;refine xC ?_;refine xC ?_;refine xP hab hU rfl ?_;refine qI ?_;refine ⟨_,_,_,le_refl,?_⟩;refine acodeY_cond rfl (fun h6=>?_) (fun h6=>?_)
  ·simp at h6
  refine acodeY_skip ?_;refine xC ?_;refine xP hab hU rfl ?_;refine qI ?_;intro hln;have hln : es.length ≤ 9223372036854775807:=hln;refine ⟨_,_,_,le_refl,?_⟩;refine acodeY_block ?_;refine acodeY_loop (κ:=Nat) (fun i=>i ≤ es.length) (fun i=>cntL (es.take i)) (fun i=>[(0,.one (.lit (.func (.yield l) #[] #[]))),(10,.one (.slk k rEnt es)),(11,ii .i64 es.length),(12,ii .i64 i)]) (fun _=>[]) 0 (fun i=>es.length - i) 0 (Nat.zero_le _) hab hU (qP ⟨rfl,rfl,rfl,rfl⟩ trivial rfl) rfl ?_;intro i hi;have hi : i ≤ es.length:=hi;refine acodeY_lowQ hab hU ?_;refine xC ?_;refine xP hab hU rfl ?_;refine qI ?_;refine ⟨_,_,_,le_refl,?_⟩;refine xC ?_;refine acodeY_cond rfl (fun h13=>?_) (fun h13=>?_)
  ·simp only [decide_eq_true_eq] at h13;have hlt : i < es.length:=by omega
   have hsn:=cntL_snoc hlt;refine acodeY_skip ?_;refine xC ?_;refine acodeY_block ?_;refine xC ?_;refine xP hab hU rfl ?_;refine qI ?_;refine zai (by omega) ?_;refine ⟨_,_,_,le_refl,?_⟩;refine xC ?_;refine acodeY_yieldG (pre:=[_,_,_,_,_,_]) (post:=[_,_]) _ (live (es.getD i (((0 : Int),ByteArray.empty,([] : List Fld)),(0 : Int)))) rfl rfl rfl rfl rfl hab hU hy ?_;refine zai (fun _=>trivial) ?_;refine zai (fun _=>trivial) ?_;refine ⟨_,_,_,le_refl,⟨_,rfl,rfl⟩,fun hq=>?_,fun hq=>?_⟩
   ·obtain ⟨hk,hx⟩:=itEs_at hlt hq;refine ⟨hk,⟨⟨hq,trivial⟩,⟨hq,trivial⟩,trivial⟩,rfl,hx.symm,by rw [hx];rfl,fun st=>?_⟩;refine zai (fun _=>⟨⟨rfl,trivial⟩,trivial⟩) ?_;refine zai (fun h=>h) ?_;refine ⟨_,_,_,le_refl,?_⟩;refine acodeY_cond rfl (fun h24=>?_) (fun h24=>?_)
    ·have h24 : (live (es.getD i (((0 : Int),ByteArray.empty,([] : List Fld)),(0 : Int))) && !!st) = true:=h24;rw [hq,Bool.true_and,Bool.not_not] at h24;subst h24;refine acodeY_ret ?_;exact ⟨_,.inl rfl,.inl rfl,fun e=>by cases e⟩
    ·have h24 : (live (es.getD i (((0 : Int),ByteArray.empty,([] : List Fld)),(0 : Int))) && !!st) = false:=h24;rw [hq,Bool.true_and,Bool.not_not] at h24;subst h24;refine acodeY_skip ?_;refine xP hab hU rfl ?_;refine qI ?_;refine zai (by omega) ?_;refine ⟨_,_,_,qP (tm':=[(0,.one (.lit (.func (.yield l) #[] #[]))),(10,.one (.slk k rEnt es)),(11,ii .i64 es.length),(12,ii .i64 (i + 1 : Nat))]) (ob':=[]) (nx':=1) ⟨rfl,rfl,rfl,qT (by omega)⟩ trivial rfl,0,.inr rfl,⟨i + 1,hlt,by omega,rfl,?_,rfl,rfl,rfl⟩⟩;rw [hsn,if_pos hq]
   ·refine zai (fun h=>absurd (h.symm.trans hq) (by decide)) ?_;refine zai (fun h=>h) ?_;refine ⟨_,_,_,le_refl,?_⟩;refine acodeY_cond rfl (fun h24=>?_) (fun h24=>?_)
    ·have h24 : (live (es.getD i (((0 : Int),ByteArray.empty,([] : List Fld)),(0 : Int))) && _) = true:=h24;rw [hq] at h24;cases h24
    ·refine acodeY_skip ?_;refine xP hab hU rfl ?_;refine qI ?_;refine zai (by omega) ?_;refine ⟨_,_,_,qP (tm':=[(0,.one (.lit (.func (.yield l) #[] #[]))),(10,.one (.slk k rEnt es)),(11,ii .i64 es.length),(12,ii .i64 (i + 1 : Nat))]) (ob':=[]) (nx':=1) ⟨rfl,rfl,rfl,qT (by omega)⟩ trivial rfl,0,.inr rfl,⟨i + 1,hlt,by omega,rfl,?_,rfl,rfl,rfl⟩⟩;rw [hsn,if_neg (by rw [hq];decide)];rfl
  ·simp only [decide_eq_false_iff_not] at h13;refine acodeY_exit ?_;refine ⟨_,.inl rfl,.inr rfl,fun _=>?_⟩;rw [List.take_of_length_le (by omega)];simp only [itEs,List.length_map,cntL]
theorem all_c {k : Nat} (L : Lst) : qX Tryz.prog 103 [.one (.adk k (rLst k) L)] (.one (.clo 141 (.ref (.adk k (rLst k) L)))):=by
  refine qV (rs:=[2]) Tryz.func103 rfl rfl rfl teOk rfl ?_;refine qB ?_;refine qB ?_;refine yH [0] ?_;refine qM ?_;rfl
theorem index_E (f : FuncId) {k : Nat} {β : Type} (S : Rd β) (y : β) (l : List Ent) (p : Ent → Bool) (hp : ∀ x ∈ l,qX Tryz.prog f [.agg (toL rEnt x),.one (.addr S y)] (ib (p x))) : qX Tryz.prog 130 [.one (.slk k rEnt l),.one (.clo f (.addr S y))] (ii .i64 (ixOf p l)):=by
  refine qV (rs:=[4]) Tryz.func130 rfl rfl rfl teOk rfl ?_;refine qB ?_;refine qJ ?_;refine qB ?_;intro l1_1
  try simp only [zds] at l1_1
  refine qQ ?_;refine qW (fun (i : Nat)=>i ≤ l.length ∧ (l.take i).any p = false) (fun (i : Nat)=>[(0,.one (.slk k rEnt l)),(1,.one (.clo f (.addr S y))),(7,ii .i64 l.length),(8,ii .i64 i)]) (fun (i : Nat)=>[]) 0 (fun (i : Nat)=>l.length - i) 0 (⟨Nat.zero_le _,rfl⟩) (qP ⟨rfl,rfl,rfl,rfl⟩ trivial rfl) ?_;intro i hI0;obtain ⟨hi,hn⟩:=hI0;refine qB ?_;refine qJ ?_;refine qK rfl (fun h9=>?_) (fun h9=>?_)
  ·try simp only [decide_eq_true_eq] at h9
   try simp only [zds] at h9
   refine qL ?_;refine qJ ?_;refine qQ ?_;refine qB ?_;refine qB ?_;refine zob ?_;refine Or.inl ?_;refine zai (rfl) ?_;refine zei _ (zai (hp _ (yT (show i < l.length by omega) _)) ?_);refine qK rfl (fun h16=>?_) (fun h16=>?_)
   ·try simp only [zbq] at h16
    try simp only [Int.toNat_natCast,qH,qG,qE,qD] at h16
    refine qB ?_;refine qM ?_;exact qT (ixOf_at (((0 : Int),ByteArray.empty,([] : List Fld)),(0 : Int)) (by omega) hn h16).symm
   ·try simp only [zbq] at h16
    try simp only [Int.toNat_natCast,qH,qG,qE,qD] at h16
    refine qL ?_;refine qI ?_;refine zob ?_;exact ⟨i + 1,⟨by omega,by rw [take_any l p (((0 : Int),ByteArray.empty,([] : List Fld)),(0 : Int)) i (by omega),hn];exact h16⟩,by first|omega|(simp <;> omega),qP ⟨rfl,rfl,rfl,rfl⟩ trivial rfl⟩
  ·try simp only [decide_eq_false_iff_not,Int.not_lt] at h9
   try simp only [zds] at h9
   refine yA ?_;refine qB ?_;refine qM ?_;have e : i = l.length:=by omega
   subst e;rw [List.take_length] at hn;exact qT (ixOf_none hn).symm
theorem at1_c (id : Int) (e : Ent) : qX Tryz.prog 131 [.agg (toL rEnt e),.one (.addr (.int .i64) id)] (ib (hasId id e)):=by
  refine qV (rs:=[3]) Tryz.func131 rfl rfl rfl teOk rfl ?_;refine qB ?_;refine qB ?_;refine qM ?_;rfl
theorem at_c {k : Nat} (es : List Ent) (n m id : Int) : qX Tryz.prog 88 [.one (.adk k (rLst k) (es,n,m)),ii .i64 id] (ii .i64 (atE es id)):=by
  refine qV (rs:=[4]) Tryz.func88 rfl rfl rfl teOk rfl ?_;refine qB ?_;refine qJ ?_;refine qB ?_;refine zai (fun h=>trivial) ?_;refine zai (fun h=>⟨⟨h,trivial⟩,trivial⟩) ?_;refine zai (by first|(intro h;rw [h];rfl)|(intro h;cases h)) ?_;refine qK rfl (fun h10=>?_) (fun h10=>?_)
  ·try simp only [decide_eq_true_eq,Bool.or_eq_true] at h10
   try simp only [zds] at h10
   have h10 : id < 1:=h10.elim (fun h=>by cases h) (fun h=>h);refine qB ?_;refine qM ?_;exact qT (by unfold atE;rw [if_pos h10])
  ·try simp only [decide_eq_false_iff_not,Bool.or_eq_false_iff,Int.not_lt] at h10
   try simp only [zds] at h10
   have h10 : ¬ id < 1:=(by simp at h10;omega);refine qL ?_;refine qB ?_;refine Or.inl ?_;refine zai (rfl) ?_;refine zei _ (zai (index_E _ (.int .i64) id es (hasId id) (fun x _=>at1_c id x)) ?_);refine qM ?_;exact qT (by unfold atE;rw [if_neg h10])
theorem next_c {k : Nat} (es : List Ent) (n m : Int) : qX Tryz.prog 61 [.one (.adk k (rLst k) (es,n,m))] (ii .i64 n):=by
  refine qV (rs:=[2]) Tryz.func61 rfl rfl rfl teOk rfl ?_;refine qB ?_;refine qJ ?_;refine qB ?_;refine qK rfl (fun h4=>?_) (fun h4=>?_)
  ·try simp only [zbq] at h4
   try simp only [zds] at h4
   simp at h4
  ·skip
   refine qL ?_;refine qB ?_;refine qM ?_;rfl
theorem len_c {k : Nat} (es : List Ent) (n m : Int) : qX Tryz.prog 62 [.one (.adk k (rLst k) (es,n,m))] (ii .i64 m):=by
  refine qV (rs:=[2]) Tryz.func62 rfl rfl rfl teOk rfl ?_;refine qB ?_;refine qJ ?_;refine qB ?_;refine qK rfl (fun h4=>?_) (fun h4=>?_)
  ·try simp only [zbq] at h4
   try simp only [zds] at h4
   simp at h4
  ·skip
   refine qL ?_;refine qB ?_;refine qM ?_;rfl
theorem at_lt {es : List Ent} {id : Int} (h : ¬ atE es id < 0) : ∃ i : Nat,i < es.length ∧ atE es id = i ∧ 0 < id ∧ (es.getD i (((0 : Int),ByteArray.empty,([] : List Fld)),(0 : Int))).2 = id:=by
  rcases at_cases es id with ⟨h1,_⟩|⟨i,h1,h2,h3,h4,_⟩
  · omega
  · exact ⟨i,h1,h2,h3,h4⟩
theorem get_c {k : Nat} (es : List Ent) (n m id : Int) (hf : ∀ e ∈ es,e.1.2.2.length ≤ 1000000) : qX Tryz.prog 137 [.one (.adk k (rLst k) (es,n,m)),ii .i64 id] (.tup [(false,[.sl rFld (if atE es id < 0 then [] else getL es id)]),(false,[.lit (.bool (decide (0 ≤ atE es id)))])]):=by
  refine qV (rs:=[4,5]) Tryz.func137 rfl rfl rfl teOk rfl ?_;refine qB ?_;refine qB ?_;refine Or.inl ?_;refine zai (rfl) ?_;refine zei _ (zai (at_c es n m id) ?_);refine qJ ?_;refine qB ?_;refine qK rfl (fun h11=>?_) (fun h11=>?_)
  ·try simp only [decide_eq_true_eq] at h11
   try simp only [zds] at h11
   rw [if_pos h11,decide_eq_false (show ¬ 0 ≤ atE es id by omega)];refine qB ?_;refine yW 4 107 rFld rfl ?_;refine qM ?_;rfl
  ·try simp only [decide_eq_false_iff_not,Int.not_lt] at h11
   try simp only [zds] at h11
   have h11' : ¬ atE es id < 0:=(by omega);obtain ⟨i,hi,he,_,_⟩:=at_lt h11';rw [if_neg h11',decide_eq_true (show 0 ≤ atE es id by omega)];have hfi:=hf _ (yT hi (((0 : Int),ByteArray.empty,([] : List Fld)),(0 : Int)));unfold getL;rw [he];rw [Int.toNat_natCast];refine qL ?_;refine qB ?_;refine zai (by first|omega|assumption|decide|(simp only [];omega)|(simp <;> omega)) ?_;refine Or.inl ?_;refine zai (rfl) ?_;refine zei _ (zai (clone_c _ hfi) ?_);refine qM ?_;rfl
theorem lDel_no (es : List Ent) (n m id : Int) (h : atE es id < 0) : yE Tryz.prog 43 [.one (.own 0 0),ii .i64 id] (lsO (es,n,m)) 2 (.one (errN 7)) (lsO (es,n,m)) 2:=by
  refine yC (rs:=[4]) Tryz.func43 rfl rfl rfl teOk (by decide) rfl ?_;refine qB ?_;refine qB ?_;refine Or.inr (Or.inr (Or.inl ?_));refine zai rfl ?_;refine zei _ (zai (at_c es n m id) ?_);refine qJ ?_;refine qB ?_;refine qK rfl (fun h10=>?_) (fun h10=>?_)
  ·try simp only [decide_eq_true_eq] at h10
   try simp only [zds] at h10
   refine qB ?_;refine qM ?_;exact ⟨rfl,⟨rfl,rfl⟩,rfl⟩
  ·try simp only [decide_eq_false_iff_not,Int.not_lt] at h10
   try simp only [zds] at h10
   omega
theorem lDel_ok (es : List Ent) (n m id : Int) (i : Nat) (hi : i < es.length) (h : atE es id = i) (hm : 0 ≤ m ∧ m ≤ 1000000) (hl : es.length ≤ 1000000) : yE Tryz.prog 43 [.one (.own 0 0),ii .i64 id] (lsO (es,n,m)) 2 (.one (.lit .nilIface)) (lsO (delE es i,n,m - 1)) 2:=by
  refine yC (rs:=[4]) Tryz.func43 rfl rfl rfl teOk (by decide) rfl ?_;refine qB ?_;refine qB ?_;refine Or.inr (Or.inr (Or.inl ?_));refine zai rfl ?_;refine zei _ (zai ((by have:=at_c (k:=1) es n m id;rw [h] at this;exact this)) ?_);refine qJ ?_;refine qB ?_;refine qK rfl (fun h10=>?_) (fun h10=>?_)
  ·try simp only [decide_eq_true_eq] at h10
   try simp only [zds] at h10
   omega
  ·try simp only [decide_eq_false_iff_not,Int.not_lt] at h10
   try simp only [zds] at h10
   refine qL ?_;refine qB ?_;refine zob ?_;refine Or.inr (Or.inr (Or.inr (zei [1] (zei [] (zei _ (zei _ (zei _ (zei _ (zei _ (zai (delete_x es i (i + 1) (Nat.lt_succ_self _) hi) (zai rfl (zai (zai (zai rfl rfl) True.intro) (zai rfl ?_)))))))))))));refine qB ?_;refine zai (by first|omega|assumption|decide|(simp only [];omega)|(simp <;> omega)) ?_;refine qB ?_;refine qM ?_;exact ⟨rfl,⟨rfl,rfl⟩,rfl⟩
theorem pitem_ok {κ : Nat} {l : List Fld} (hl : yO l) (h : (chkR l).2 = 0) : qX Tryz.prog 89 [.one (.slk κ rFld l)] (.tup [(true,toL rItm (3,bytes (foldL l),l)),(false,[.lit .nilIface])]):=by
  refine yV (rs:=[.cell 2 136,.tmp 3]) Tryz.func89 rfl rfl rfl teOk rfl ?_;refine qB ?_;refine qB ?_;refine Or.inl ?_;refine zai (rfl) ?_;refine zei _ (zai (pstanza_ok hl h) ?_);refine qJ ?_;refine qB ?_;refine qK rfl (fun h12=>?_) (fun h12=>?_)
  ·try simp only [Bool.not_eq_true'] at h12
   try simp only [zds] at h12
   cases h12
  ·try simp only [Bool.not_eq_false'] at h12
   try simp only [zds] at h12
   refine qL ?_;refine qB ?_;refine Or.inl ?_;refine zai (rfl) ?_;refine zei _ (zai (clone_c l (Nat.le_trans hl.1 (by decide))) ?_);refine qM ?_;rfl
theorem pitem_err {κ : Nat} {l : List Fld} (hl : yO l) (h : (chkR l).2 ≠ 0) : qX Tryz.prog 89 [.one (.slk κ rFld l)] (.tup [(true,[.lit (.int .i64 0),.lit (.string ⟨#[]⟩),.lit (.slice none 0 0)]),(false,[chkA l])]):=by
  have hc:=pstanza_err (κ:=κ) hl h;obtain ⟨e,he,hs⟩:=chk_bad h;rw [he] at hc ⊢;rcases hs with ⟨n,hn,rfl,_⟩|⟨i,n,hn,rfl,_⟩
  ·
    refine yV (rs:=[.cell 2 136,.tmp 3]) Tryz.func89 rfl rfl rfl teOk rfl ?_;refine qB ?_;refine qB ?_;refine Or.inl ?_;refine zai (rfl) ?_;refine zei _ (zai (hc) ?_);refine qJ ?_;refine qB ?_;refine qK rfl (fun h12=>?_) (fun h12=>?_)
    ·skip
     refine qB ?_;refine qM ?_;rfl
    ·try simp only [zbq] at h12
     try simp only [zds] at h12
     cases h12
  ·
    refine yV (rs:=[.cell 2 136,.tmp 3]) Tryz.func89 rfl rfl rfl teOk rfl ?_;refine qB ?_;refine qB ?_;refine Or.inl ?_;refine zai (rfl) ?_;refine zei _ (zai (hc) ?_);refine qJ ?_;refine qB ?_;refine qK rfl (fun h12=>?_) (fun h12=>?_)
    ·skip
     refine qB ?_;refine qM ?_;rfl
    ·try simp only [zbq] at h12
     try simp only [zds] at h12
     cases h12
def xS (f : List Fld) : Itm:=(3,bytes (foldL f),f)
theorem lRep_no {κ : Nat} (es : List Ent) (n m id : Int) (f : List Fld) (h : atE es id < 0) : yE Tryz.prog 42 [.one (.own 0 0),ii .i64 id,.one (.slk κ rFld f)] (lsO (es,n,m)) 2 (.one (errN 7)) (lsO (es,n,m)) 2:=by
  refine yC (rs:=[6]) Tryz.func42 rfl rfl rfl teOk (by decide) rfl ?_;refine qB ?_;refine qB ?_;refine Or.inr (Or.inr (Or.inl ?_));refine zai rfl ?_;refine zei _ (zai (at_c es n m id) ?_);refine qJ ?_;refine qB ?_;refine qK rfl (fun h14=>?_) (fun h14=>?_)
  ·try simp only [decide_eq_true_eq] at h14
   try simp only [zds] at h14
   refine qB ?_;refine qM ?_;exact ⟨rfl,⟨rfl,rfl⟩,rfl⟩
  ·try simp only [decide_eq_false_iff_not,Int.not_lt] at h14
   try simp only [zds] at h14
   omega
theorem lRep_bad {κ : Nat} (es : List Ent) (n m id : Int) (f : List Fld) (h : 0 ≤ atE es id) (hf : yO f) (hc : (chkR f).2 ≠ 0) : yE Tryz.prog 42 [.one (.own 0 0),ii .i64 id,.one (.slk κ rFld f)] (lsO (es,n,m)) 2 (.one (chkA f)) (lsO (es,n,m)) 2:=by
  have hpi:=pitem_err (κ:=κ) hf hc;obtain ⟨e,he,hs⟩:=chk_bad hc;rw [he] at hpi ⊢;rcases hs with ⟨x,hx,rfl,_⟩|⟨j,x,hx,rfl,_⟩
  ·
    refine yC (rs:=[6]) Tryz.func42 rfl rfl rfl teOk (by decide) rfl ?_;refine qB ?_;refine qB ?_;refine Or.inr (Or.inr (Or.inl ?_));refine zai rfl ?_;refine zei _ (zai (at_c es n m id) ?_);refine qJ ?_;refine qB ?_;refine qK rfl (fun h14=>?_) (fun h14=>?_)
    ·try simp only [decide_eq_true_eq] at h14
     try simp only [zds] at h14
     omega
    ·try simp only [decide_eq_false_iff_not,Int.not_lt] at h14
     try simp only [zds] at h14
     refine qL ?_;refine qB ?_;refine Or.inl ?_;refine zai (rfl) ?_;refine zei _ (zai (hpi) ?_);refine qJ ?_;refine qB ?_;refine qK rfl (fun h22=>?_) (fun h22=>?_)
     ·skip
      refine qB ?_;refine qM ?_;exact ⟨rfl,⟨rfl,rfl⟩,rfl⟩
     ·try simp only [zbq] at h22
      try simp only [zds] at h22
      cases h22
  ·
    refine yC (rs:=[6]) Tryz.func42 rfl rfl rfl teOk (by decide) rfl ?_;refine qB ?_;refine qB ?_;refine Or.inr (Or.inr (Or.inl ?_));refine zai rfl ?_;refine zei _ (zai (at_c es n m id) ?_);refine qJ ?_;refine qB ?_;refine qK rfl (fun h14=>?_) (fun h14=>?_)
    ·try simp only [decide_eq_true_eq] at h14
     try simp only [zds] at h14
     omega
    ·try simp only [decide_eq_false_iff_not,Int.not_lt] at h14
     try simp only [zds] at h14
     refine qL ?_;refine qB ?_;refine Or.inl ?_;refine zai (rfl) ?_;refine zei _ (zai (hpi) ?_);refine qJ ?_;refine qB ?_;refine qK rfl (fun h22=>?_) (fun h22=>?_)
     ·skip
      refine qB ?_;refine qM ?_;exact ⟨rfl,⟨rfl,rfl⟩,rfl⟩
     ·try simp only [zbq] at h22
      try simp only [zds] at h22
      cases h22
theorem lRep_ok {κ : Nat} (es : List Ent) (n m id : Int) (f : List Fld) (i : Nat) (hi : i < es.length) (h : atE es id = i) (hf : yO f) (hc : (chkR f).2 = 0) : yE Tryz.prog 42 [.one (.own 0 0),ii .i64 id,.one (.slk κ rFld f)] (lsO (es,n,m)) 2 (.one (.lit .nilIface)) (lsO (replE es i (xS f),n,m)) 2:=by
  refine yC (rs:=[6]) Tryz.func42 rfl rfl rfl teOk (by decide) rfl ?_;refine qB ?_;refine qB ?_;refine Or.inr (Or.inr (Or.inl ?_));refine zai rfl ?_;refine zei _ (zai ((by have:=at_c (k:=1) es n m id;rw [h] at this;exact this)) ?_);refine qJ ?_;refine qB ?_;refine qK rfl (fun h14=>?_) (fun h14=>?_)
  ·try simp only [decide_eq_true_eq] at h14
   try simp only [zds] at h14
   omega
  ·try simp only [decide_eq_false_iff_not,Int.not_lt] at h14
   try simp only [zds] at h14
   refine qL ?_;refine qB ?_;refine Or.inl ?_;refine zai (rfl) ?_;refine zei _ (zai (pitem_ok hf hc) ?_);refine qJ ?_;refine qB ?_;refine qK rfl (fun h22=>?_) (fun h22=>?_)
   ·try simp only [Bool.not_eq_true'] at h22
    try simp only [zds] at h22
    cases h22
   ·try simp only [Bool.not_eq_false'] at h22
    try simp only [zds] at h22
    refine qL ?_;refine qJ ?_;refine yK rfl ?_;refine qN 0 rfl ?_;refine qN 1 rfl ?_;refine qN 2 rfl ?_;refine qN 4 rfl ?_;refine qF [3,5] ?_;refine zai ?_ ?_
    ·refine qF [5] ?_;refine qN 6 rfl ?_;refine zai (by first|omega|assumption|decide|(simp only [];omega)|(simp <;> omega)) ?_;refine qF [7] ?_;refine qF [8] ?_;refine zai (by (rw [Int.toNat_natCast];exact hi)) ?_;refine qS ?_;refine qB ?_;refine qM ?_;exact ⟨rfl,⟨rfl,rfl⟩,rfl⟩
    ·refine qF [3] ?_;refine qN 6 rfl ?_;refine zai (by first|omega|assumption|decide|(simp only [];omega)|(simp <;> omega)) ?_;refine qF [7] ?_;refine qF [8] ?_;refine zai (by (rw [Int.toNat_natCast];exact hi)) ?_;refine qS ?_;refine qB ?_;refine qM ?_;exact ⟨rfl,⟨rfl,rfl⟩,rfl⟩
theorem lIns_no {κ : Nat} (es : List Ent) (n m id : Int) (f : List Fld) (h : atE es id < 0) (h0 : id ≠ 0) : yE Tryz.prog 44 [.one (.own 0 0),ii .i64 id,.one (.slk κ rFld f)] (lsO (es,n,m)) 2 (.tup [(false,[.lit (.int .i64 0)]),(false,[errN 7])]) (lsO (es,n,m)) 2:=by
  refine yC (rs:=[6,7]) Tryz.func44 rfl rfl rfl teOk (by decide) rfl ?_;refine qB ?_;refine qB ?_;refine Or.inr (Or.inr (Or.inl ?_));refine zai rfl ?_;refine zei _ (zai (at_c es n m id) ?_);refine qJ ?_;refine qB ?_;refine zai (fun h=>trivial) ?_;refine zai (fun h=>⟨⟨h,trivial⟩,trivial⟩) ?_;refine zai (fun h=>⟨⟨h,trivial⟩,trivial⟩) ?_;refine zai (fun h=>trivial) ?_;refine zai (fun h=>⟨⟨h,trivial⟩,trivial⟩) ?_;refine zai (fun h=>⟨⟨⟨h,trivial⟩,trivial⟩,by first|exact fun h2=>h2|(intro h2;rw [h,h2];rfl)|(intro h2;cases h2)|(intro h2;simp_all [gq])⟩) ?_;refine zai (by first|(intro h;rw [h];rfl)|(intro h;cases h)) ?_;refine qK rfl (fun h24=>?_) (fun h24=>?_)
  ·try simp only [decide_eq_true_eq,decide_eq_false_iff_not,Bool.and_eq_true,Bool.not_eq_true',Bool.or_eq_true] at h24
   try simp only [zds] at h24
   refine qB ?_;refine qM ?_;exact ⟨rfl,⟨rfl,rfl⟩,rfl⟩
  ·try simp only [decide_eq_true_eq,decide_eq_false_iff_not,Bool.not_eq_false',Bool.or_eq_false_iff,Bool.and_eq_false_iff,Int.not_lt] at h24
   try simp only [zds] at h24
   simp at h24;omega
theorem lIns_bad {κ : Nat} (es : List Ent) (n m id : Int) (f : List Fld) (h : ¬ (atE es id < 0 ∧ id ≠ 0)) (hf : yO f) (hc : (chkR f).2 ≠ 0) : yE Tryz.prog 44 [.one (.own 0 0),ii .i64 id,.one (.slk κ rFld f)] (lsO (es,n,m)) 2 (.tup [(false,[.lit (.int .i64 0)]),(false,[chkA f])]) (lsO (es,n,m)) 2:=by
  have hpi:=pitem_err (κ:=κ) hf hc;obtain ⟨e,he,hs⟩:=chk_bad hc;rw [he] at hpi ⊢;rcases hs with ⟨x,hx,rfl,_⟩|⟨j,x,hx,rfl,_⟩
  ·
    refine yC (rs:=[6,7]) Tryz.func44 rfl rfl rfl teOk (by decide) rfl ?_;refine qB ?_;refine qB ?_;refine Or.inr (Or.inr (Or.inl ?_));refine zai rfl ?_;refine zei _ (zai (at_c es n m id) ?_);refine qJ ?_;refine qB ?_;refine zai (fun h=>trivial) ?_;refine zai (fun h=>⟨⟨h,trivial⟩,trivial⟩) ?_;refine zai (fun h=>⟨⟨h,trivial⟩,trivial⟩) ?_;refine zai (fun h=>trivial) ?_;refine zai (fun h=>⟨⟨h,trivial⟩,trivial⟩) ?_;refine zai (fun h=>⟨⟨⟨h,trivial⟩,trivial⟩,by first|exact fun h2=>h2|(intro h2;rw [h,h2];rfl)|(intro h2;cases h2)|(intro h2;simp_all [gq])⟩) ?_;refine zai (by first|(intro h;rw [h];rfl)|(intro h;cases h)) ?_;refine qK rfl (fun h24=>?_) (fun h24=>?_)
    ·try simp only [decide_eq_true_eq,decide_eq_false_iff_not,Bool.and_eq_true,Bool.not_eq_true',Bool.or_eq_true] at h24
     try simp only [zds] at h24
     exact absurd (by simpa using h24) h
    ·try simp only [decide_eq_true_eq,decide_eq_false_iff_not,Bool.not_eq_false',Bool.or_eq_false_iff,Bool.and_eq_false_iff,Int.not_lt] at h24
     try simp only [zds] at h24
     refine qL ?_;refine qB ?_;refine Or.inl ?_;refine zai (rfl) ?_;refine zei _ (zai (hpi) ?_);refine qJ ?_;refine qQ ?_;refine qB ?_;refine qK rfl (fun h31=>?_) (fun h31=>?_)
     ·skip
      refine qB ?_;refine qM ?_;exact ⟨rfl,⟨rfl,rfl⟩,rfl⟩
     ·try simp only [zbq] at h31
      try simp only [zds] at h31
      cases h31
  ·
    refine yC (rs:=[6,7]) Tryz.func44 rfl rfl rfl teOk (by decide) rfl ?_;refine qB ?_;refine qB ?_;refine Or.inr (Or.inr (Or.inl ?_));refine zai rfl ?_;refine zei _ (zai (at_c es n m id) ?_);refine qJ ?_;refine qB ?_;refine zai (fun h=>trivial) ?_;refine zai (fun h=>⟨⟨h,trivial⟩,trivial⟩) ?_;refine zai (fun h=>⟨⟨h,trivial⟩,trivial⟩) ?_;refine zai (fun h=>trivial) ?_;refine zai (fun h=>⟨⟨h,trivial⟩,trivial⟩) ?_;refine zai (fun h=>⟨⟨⟨h,trivial⟩,trivial⟩,by first|exact fun h2=>h2|(intro h2;rw [h,h2];rfl)|(intro h2;cases h2)|(intro h2;simp_all [gq])⟩) ?_;refine zai (by first|(intro h;rw [h];rfl)|(intro h;cases h)) ?_;refine qK rfl (fun h24=>?_) (fun h24=>?_)
    ·try simp only [decide_eq_true_eq,decide_eq_false_iff_not,Bool.and_eq_true,Bool.not_eq_true',Bool.or_eq_true] at h24
     try simp only [zds] at h24
     exact absurd (by simpa using h24) h
    ·try simp only [decide_eq_true_eq,decide_eq_false_iff_not,Bool.not_eq_false',Bool.or_eq_false_iff,Bool.and_eq_false_iff,Int.not_lt] at h24
     try simp only [zds] at h24
     refine qL ?_;refine qB ?_;refine Or.inl ?_;refine zai (rfl) ?_;refine zei _ (zai (hpi) ?_);refine qJ ?_;refine qQ ?_;refine qB ?_;refine qK rfl (fun h31=>?_) (fun h31=>?_)
     ·skip
      refine qB ?_;refine qM ?_;exact ⟨rfl,⟨rfl,rfl⟩,rfl⟩
     ·try simp only [zbq] at h31
      try simp only [zds] at h31
      cases h31
theorem lIns_full {κ : Nat} (es : List Ent) (n m id : Int) (f : List Fld) (h : ¬ (atE es id < 0 ∧ id ≠ 0)) (hf : yO f) (hc : (chkR f).2 = 0) (hm : 400 ≤ m) : yE Tryz.prog 44 [.one (.own 0 0),ii .i64 id,.one (.slk κ rFld f)] (lsO (es,n,m)) 2 (.tup [(false,[.lit (.int .i64 0)]),(false,[errN 11])]) (lsO (es,n,m)) 2:=by
  refine yC (rs:=[6,7]) Tryz.func44 rfl rfl rfl teOk (by decide) rfl ?_;refine qB ?_;refine qB ?_;refine Or.inr (Or.inr (Or.inl ?_));refine zai rfl ?_;refine zei _ (zai (at_c es n m id) ?_);refine qJ ?_;refine qB ?_;refine zai (fun h=>trivial) ?_;refine zai (fun h=>⟨⟨h,trivial⟩,trivial⟩) ?_;refine zai (fun h=>⟨⟨h,trivial⟩,trivial⟩) ?_;refine zai (fun h=>trivial) ?_;refine zai (fun h=>⟨⟨h,trivial⟩,trivial⟩) ?_;refine zai (fun h=>⟨⟨⟨h,trivial⟩,trivial⟩,by first|exact fun h2=>h2|(intro h2;rw [h,h2];rfl)|(intro h2;cases h2)|(intro h2;simp_all [gq])⟩) ?_;refine zai (by first|(intro h;rw [h];rfl)|(intro h;cases h)) ?_;refine qK rfl (fun h24=>?_) (fun h24=>?_)
  ·try simp only [decide_eq_true_eq,decide_eq_false_iff_not,Bool.and_eq_true,Bool.not_eq_true',Bool.or_eq_true] at h24
   try simp only [zds] at h24
   exact absurd (by simpa using h24) h
  ·try simp only [decide_eq_true_eq,decide_eq_false_iff_not,Bool.not_eq_false',Bool.or_eq_false_iff,Bool.and_eq_false_iff,Int.not_lt] at h24
   try simp only [zds] at h24
   refine qL ?_;refine qB ?_;refine Or.inl ?_;refine zai (rfl) ?_;refine zei _ (zai (pitem_ok hf hc) ?_);refine qJ ?_;refine qQ ?_;refine qB ?_;refine qK rfl (fun h31=>?_) (fun h31=>?_)
   ·try simp only [Bool.not_eq_true'] at h31
    try simp only [zds] at h31
    cases h31
   ·try simp only [Bool.not_eq_false'] at h31
    try simp only [zds] at h31
    refine qB ?_;refine qK rfl (fun h35=>?_) (fun h35=>?_)
    ·try simp only [decide_eq_true_eq] at h35
     try simp only [zds] at h35
     refine qB ?_;refine qM ?_;exact ⟨rfl,⟨rfl,rfl⟩,rfl⟩
    ·try simp only [decide_eq_false_iff_not,Int.not_le] at h35
     try simp only [zds] at h35
     omega
theorem lIns_ok {κ : Nat} (es : List Ent) (n m id : Int) (f : List Fld) (j : Nat) (hj : j ≤ es.length) (h : ¬ (atE es id < 0 ∧ id ≠ 0)) (ha : atE es id + 1 = (j : Int)) (hf : yO f) (hc : (chkR f).2 = 0) (hm : 0 ≤ m ∧ m < 400) (hn : 0 ≤ n ∧ n ≤ 1000000000) (hl : es.length ≤ 1000000) : yE Tryz.prog 44 [.one (.own 0 0),ii .i64 id,.one (.slk κ rFld f)] (lsO (es,n,m)) 2 (.tup [(false,[.lit (.int .i64 n)]),(false,[.lit .nilIface])]) (lsO (insE es j (xS f,n),n + 1,m + 1)) 2:=by
  have hins:=insert_x es (xS f,n) j hj hl;rw [← ha] at hins;refine yC (rs:=[6,7]) Tryz.func44 rfl rfl rfl teOk (by decide) rfl ?_;refine qB ?_;refine qB ?_;refine Or.inr (Or.inr (Or.inl ?_));refine zai rfl ?_;refine zei _ (zai (at_c es n m id) ?_);refine qJ ?_;refine qB ?_;refine zai (fun h=>trivial) ?_;refine zai (fun h=>⟨⟨h,trivial⟩,trivial⟩) ?_;refine zai (fun h=>⟨⟨h,trivial⟩,trivial⟩) ?_;refine zai (fun h=>trivial) ?_;refine zai (fun h=>⟨⟨h,trivial⟩,trivial⟩) ?_;refine zai (fun h=>⟨⟨⟨h,trivial⟩,trivial⟩,by first|exact fun h2=>h2|(intro h2;rw [h,h2];rfl)|(intro h2;cases h2)|(intro h2;simp_all [gq])⟩) ?_;refine zai (by first|(intro h;rw [h];rfl)|(intro h;cases h)) ?_;refine qK rfl (fun h24=>?_) (fun h24=>?_)
  ·try simp only [decide_eq_true_eq,decide_eq_false_iff_not,Bool.and_eq_true,Bool.not_eq_true',Bool.or_eq_true] at h24
   try simp only [zds] at h24
   exact absurd (by simpa using h24) h
  ·try simp only [decide_eq_true_eq,decide_eq_false_iff_not,Bool.not_eq_false',Bool.or_eq_false_iff,Bool.and_eq_false_iff,Int.not_lt] at h24
   try simp only [zds] at h24
   refine qL ?_;refine qB ?_;refine Or.inl ?_;refine zai (rfl) ?_;refine zei _ (zai (pitem_ok hf hc) ?_);refine qJ ?_;refine qQ ?_;refine qB ?_;refine qK rfl (fun h31=>?_) (fun h31=>?_)
   ·try simp only [Bool.not_eq_true'] at h31
    try simp only [zds] at h31
    cases h31
   ·try simp only [Bool.not_eq_false'] at h31
    try simp only [zds] at h31
    refine qB ?_;refine qK rfl (fun h35=>?_) (fun h35=>?_)
    ·try simp only [decide_eq_true_eq] at h35
     try simp only [zds] at h35
     omega
    ·try simp only [decide_eq_false_iff_not,Int.not_le] at h35
     try simp only [zds] at h35
     refine qL ?_;refine qB ?_;refine qJ ?_;refine yK rfl ?_;refine qN 0 rfl ?_;refine qN 1 rfl ?_;refine qN 2 rfl ?_;refine qN 3 rfl ?_;refine qN 5 rfl ?_;refine qN 6 rfl ?_;refine zob ?_;refine qN 8 rfl ?_;refine qF [4,7] ?_;refine zai ?_ ?_
     ·refine qF [7] ?_;refine qF [9] ?_;refine qF [10] ?_;refine qF [11] ?_;refine Or.inr (Or.inr (Or.inr (zei [1,3] (zei [] (zei _ (zei _ (zei _ (zei _ (zei _ (zai (hins) (zai rfl (zai (zai (zai rfl rfl) (zai (zai rfl rfl) True.intro)) (zai rfl ?_)))))))))))));refine qN 12 rfl ?_;refine qN 13 rfl ?_;refine qF [14] ?_;refine qS ?_;refine qB ?_;refine zai (by first|omega|assumption|decide|(simp only [];omega)|(simp <;> omega)) ?_;refine qB ?_;refine zai (by first|omega|assumption|decide|(simp only [];omega)|(simp <;> omega)) ?_;refine qB ?_;refine qM ?_;exact ⟨rfl,⟨rfl,rfl⟩,rfl⟩
     ·refine qF [4,9] ?_;refine zai ?_ ?_
      ·refine qF [9] ?_;refine qF [10] ?_;refine qF [11] ?_;refine Or.inr (Or.inr (Or.inr (zei [1,3] (zei [] (zei _ (zei _ (zei _ (zei _ (zei _ (zai (hins) (zai rfl (zai (zai (zai rfl rfl) (zai (zai rfl rfl) True.intro)) (zai rfl ?_)))))))))))));refine qN 12 rfl ?_;refine qN 13 rfl ?_;refine qF [14] ?_;refine qS ?_;refine qB ?_;refine zai (by first|omega|assumption|decide|(simp only [];omega)|(simp <;> omega)) ?_;refine qB ?_;refine zai (by first|omega|assumption|decide|(simp only [];omega)|(simp <;> omega)) ?_;refine qB ?_;refine qM ?_;exact ⟨rfl,⟨rfl,rfl⟩,rfl⟩
      ·refine qF [4,10] ?_;refine zai ?_ ?_
       ·refine qF [10] ?_;refine qF [11] ?_;refine Or.inr (Or.inr (Or.inr (zei [1,3] (zei [] (zei _ (zei _ (zei _ (zei _ (zei _ (zai (hins) (zai rfl (zai (zai (zai rfl rfl) (zai (zai rfl rfl) True.intro)) (zai rfl ?_)))))))))))));refine qN 12 rfl ?_;refine qN 13 rfl ?_;refine qF [14] ?_;refine qS ?_;refine qB ?_;refine zai (by first|omega|assumption|decide|(simp only [];omega)|(simp <;> omega)) ?_;refine qB ?_;refine zai (by first|omega|assumption|decide|(simp only [];omega)|(simp <;> omega)) ?_;refine qB ?_;refine qM ?_;exact ⟨rfl,⟨rfl,rfl⟩,rfl⟩
       ·refine qF [4] ?_;refine qF [11] ?_;refine Or.inr (Or.inr (Or.inr (zei [1,3] (zei [] (zei _ (zei _ (zei _ (zei _ (zei _ (zai (hins) (zai rfl (zai (zai (zai rfl rfl) (zai (zai rfl rfl) True.intro)) (zai rfl ?_)))))))))))));refine qN 12 rfl ?_;refine qN 13 rfl ?_;refine qF [14] ?_;refine qS ?_;refine qB ?_;refine zai (by first|omega|assumption|decide|(simp only [];omega)|(simp <;> omega)) ?_;refine qB ?_;refine zai (by first|omega|assumption|decide|(simp only [];omega)|(simp <;> omega)) ?_;refine qB ?_;refine qM ?_;exact ⟨rfl,⟨rfl,rfl⟩,rfl⟩
end Q
end Ab
end Go.Proofs.YtojipboabgebfaaGreatDoor
namespace Go.Proofs.YtojipboabgebfaaGreatDoor
open Go.RowKit
namespace Ab
set_option maxRecDepth 100000
abbrev Edt:=Int × Int × List Fld
abbrev rEdt : Rd Edt:=.st (.int .i64) (.st (.int .i64) (.sl rFld))
namespace Q
def heavyB (l : List Edt) : Bool:=decide (51 < l.length) || l.any fun e=>muchB e.2.2
theorem heavy_c (l : List Edt) : qX Tryz.prog 9 [.one (.sl rEdt l)] (ib (heavyB l)):=by
  refine qV (rs:=[2]) Tryz.func9 rfl rfl rfl teOk rfl ?_;refine qB ?_;refine qJ ?_;refine qB ?_;intro l1_1
  try simp only [zds] at l1_1
  refine qQ ?_;refine qW (fun (i : Nat)=>i ≤ l.length ∧ i ≤ 51 ∧ (l.take i).any (fun e=>muchB e.2.2) = false) (fun (i : Nat)=>[(5,.one (.sl rEdt l)),(6,ii .i64 l.length),(7,ii .i64 i)]) (fun (i : Nat)=>[]) 0 (fun (i : Nat)=>l.length - i) 0 (⟨Nat.zero_le _,Nat.zero_le _,rfl⟩) (qP ⟨rfl,rfl,rfl⟩ trivial rfl) ?_;intro i hI0;obtain ⟨hi,hi2,hn⟩:=hI0;refine qB ?_;refine qJ ?_;refine qK rfl (fun h8=>?_) (fun h8=>?_)
  ·try simp only [decide_eq_true_eq] at h8
   try simp only [zds] at h8
   have hil : i < l.length:=(by omega);have hsn:=take_any l (fun e : Edt=>muchB e.2.2) ((0 : Int),(0 : Int),([] : List Fld)) i hil;rw [hn,Bool.false_or] at hsn;refine qL ?_;refine qJ ?_;refine qQ ?_;refine qB ?_;refine zob ?_;refine qB ?_;refine zai (fun h=>trivial) ?_;refine zai (fun h=>⟨⟨h,trivial⟩,trivial⟩) ?_;refine Or.inl ?_;refine zai (rfl) ?_;refine zei _ (zai (fun h=>⟨⟨⟨h,trivial⟩,trivial⟩,much_c _⟩) ?_);refine zai (by first|(intro h;rw [h];rfl)|(intro h;cases h)) ?_;refine qK rfl (fun h18=>?_) (fun h18=>?_)
   ·try simp only [decide_eq_true_eq,Bool.or_eq_true] at h18
    try simp only [Int.toNat_natCast,qH,qG,qD] at h18
    refine qB ?_;refine qM ?_;refine ib_eq (Eq.symm ?_);unfold heavyB;rcases h18 with h|h
    rw [decide_eq_true (show 51 < l.length by omega)];rfl;rw [show l.any (fun e : Edt=>muchB e.2.2) = true from List.any_eq_true.2 ⟨_,yT hil ((0 : Int),(0 : Int),([] : List Fld)),h⟩,Bool.or_true]
   ·try simp only [decide_eq_false_iff_not,Bool.or_eq_false_iff,Int.not_lt] at h18
    try simp only [Int.toNat_natCast,qH,qG,qD] at h18
    refine qL ?_;refine qI ?_;refine zob ?_;exact ⟨i + 1,⟨by omega,by omega,by rw [hsn];exact h18.2⟩,by first|omega|(simp <;> omega),qP ⟨rfl,rfl,(qT (by omega))⟩ trivial rfl⟩
  ·try simp only [decide_eq_false_iff_not,Int.not_lt] at h8
   try simp only [zds] at h8
   refine yA ?_;refine qB ?_;refine qM ?_;rw [List.take_of_length_le (by omega)] at hn;refine ib_eq (Eq.symm ?_);unfold heavyB;rw [hn,decide_eq_false (by omega)];rfl
def spF : Fld:=(⟨#[115,112,111,105,108,116]⟩,⟨#[115,112,111,105,108,116]⟩)
theorem fieldsk_c {κ : Nat} (a b : List Fld) : qX Tryz.prog 59 [.one (.slk κ rFld a),.one (.sl rFld b)] (ib (decide (a = b))):=by
  refine qV (rs:=[4]) Tryz.func59 rfl rfl rfl teOk rfl ?_;refine qB ?_;refine qJ ?_;refine qB ?_;intro l1_1
  try simp only [zds] at l1_1
  intro l1_3
  try simp only [zds] at l1_3
  refine qK rfl (fun h10=>?_) (fun h10=>?_)
  ·try simp only [decide_eq_false_iff_not,Bool.not_eq_true'] at h10
   try simp only [zds] at h10
   refine qB ?_;refine qM ?_;exact ib_eq (decide_eq_false (fun e=>by rw [e] at h10;omega)).symm
  ·try simp only [decide_eq_true_eq,Bool.not_eq_false'] at h10
   try simp only [zds] at h10
   refine qL ?_;refine qJ ?_;refine qB ?_;intro l3_1
   try simp only [zds] at l3_1
   refine qQ ?_;refine qW (fun (i : Nat)=>i ≤ a.length ∧ a.take i = b.take i) (fun (i : Nat)=>[(0,.one (.slk κ rFld a)),(1,.one (.sl rFld b)),(12,ii .i64 a.length),(13,ii .i64 i)]) (fun (i : Nat)=>[]) 0 (fun (i : Nat)=>a.length - i) 0 (⟨Nat.zero_le _,by simp⟩) (qP ⟨rfl,rfl,rfl,rfl⟩ trivial rfl) ?_;intro i hI0;obtain ⟨hi,ht⟩:=hI0;refine qB ?_;refine qJ ?_;refine qK rfl (fun h14=>?_) (fun h14=>?_)
   ·try simp only [decide_eq_true_eq] at h14
    try simp only [zds] at h14
    have hla : i < a.length:=by omega
    have hlb : i < b.length:=by omega
    refine qL ?_;refine qJ ?_;refine qQ ?_;refine qB ?_;refine qJ ?_;refine acode_draw rfl (by kernel_rfl) ?_;refine zob ?_;refine zob ?_;refine zai (by rfl) ?_;refine qK rfl (fun h24=>?_) (fun h24=>?_)
    ·try simp only [decide_eq_false_iff_not,Bool.not_eq_true',Bool.and_eq_false_iff] at h24
     try simp only [Int.toNat_natCast,qG,qE] at h24
     refine qB ?_;refine qM ?_;exact ib_eq (decide_eq_false (ne_at (i:=i) (ByteArray.empty,ByteArray.empty) (fun e=>h24.elim (fun h=>h (congrArg Prod.fst e)) (fun h=>h (congrArg Prod.snd e))))).symm
    ·try simp only [decide_eq_true_eq,Bool.and_eq_true,Bool.not_eq_false'] at h24
     try simp only [Int.toNat_natCast,qG,qE] at h24
     refine qL ?_;refine qI ?_;refine zob ?_;exact ⟨i + 1,⟨by omega,list_ext_take (ByteArray.empty,ByteArray.empty) hla hlb ht (Prod.ext h24.1 h24.2)⟩,by first|omega|(simp <;> omega),qP ⟨rfl,rfl,rfl,(qT (by omega))⟩ trivial rfl⟩
   ·try simp only [decide_eq_false_iff_not,Int.not_lt] at h14
    try simp only [zds] at h14
    refine yA ?_;refine qB ?_;refine qM ?_;exact ib_eq (decide_eq_true (by rw [List.take_of_length_le (by omega),List.take_of_length_le (by omega)] at ht;exact ht)).symm
end Q
end Ab
end Go.Proofs.YtojipboabgebfaaGreatDoor
namespace Go.Proofs.YtojipboabgebfaaGreatDoor
open Go.RowKit
namespace Ab
set_option maxRecDepth 100000
namespace Q
theorem itEs_len (es : List Ent) : (itEs es).length = (es.filter live).length:=List.length_map _
theorem itEs_get (es : List Ent) {i : Nat} (h : i < (itEs es).length) : ∃ e ∈ es,(es.filter live).getD i (((0 : Int),ByteArray.empty,([] : List Fld)),(0 : Int)) = e ∧ i < (es.filter live).length ∧ (itEs es)[i] = [A.agg (toL rEnt e)]:=by
  have h1 : i < (es.filter live).length:=by rw [← itEs_len];exact h
  refine ⟨_,(List.mem_filter.1 (yT h1 (((0 : Int),ByteArray.empty,([] : List Fld)),(0 : Int)))).1,rfl,h1,?_⟩;exact (List.getElem_map (fun e=>[A.agg (toL rEnt e)])).trans (congrArg (fun e=>[A.agg (toL rEnt e)]) (getD_get h1 (((0 : Int),ByteArray.empty,([] : List Fld)),(0 : Int))))
def stT (es : List Ent) (i : Nat) : List Stz:=((es.filter live).take i).map stzOf
theorem stT_snoc {es : List Ent} {i : Nat} (h : i < (es.filter live).length) : stT es (i + 1) = stT es i ++ [stzOf ((es.filter live).getD i (((0 : Int),ByteArray.empty,([] : List Fld)),(0 : Int)))]:=by
  unfold stT;rw [← yL (((0 : Int),ByteArray.empty,([] : List Fld)),(0 : Int)) h,List.map_append];rfl
theorem stT_len {es : List Ent} {i : Nat} : (stT es i).length ≤ i:=by
  unfold stT;rw [List.length_map,List.length_take];omega
theorem live_len (es : List Ent) : (es.filter live).length ≤ es.length:=List.length_filter_le _ _
theorem stanzasL_c {k : Nat} (es : List Ent) (n m : Int) (hl : es.length ≤ 1000000) (hf : ∀ e ∈ es,e.1.2.2.length ≤ 1000000) : qX Tryz.prog 58 [.one (.adk k (rLst k) (es,n,m))] (.one (.sl rStz (stzL es))):=by
  have hll:=live_len es;refine qV (rs:=[2]) Tryz.func58 rfl rfl rfl teOk rfl ?_;refine qB ?_;refine qB ?_;refine qJ ?_;refine qB ?_;refine Or.inl ?_;refine zai (rfl) ?_;refine zei _ (zai (all_c (es,n,m)) ?_);refine qQ ?_;refine yI 0 0 78 rStz rfl rfl rfl ?_;refine acode_range (caps:=[.one (.ref (.adk k (rLst k) (es,n,m)))]) (xs:=itEs es) [(3,.one (.own 0 0)),(6,.one (.clo 141 (.ref (.adk k (rLst k) (es,n,m)))))] 2 (fun st j (i : Nat)=>st = false ∧ i = j) (fun i=>[(0,.box 68 [.vec 1]),(1,.vec 78 rStz (stT es i))]) (fun _=>.ret) 0 rfl rfl (all_iter es n m) (qP ⟨rfl,rfl⟩ ⟨rfl,rfl⟩ rfl) ⟨rfl,rfl⟩ (fun j hj=>by simp [itEs]) rfl rfl rfl (fun _ _ _=>rfl) rfl ?_ ?_ ?_
  ·intro j i hk hp;obtain ⟨_,rfl⟩:=hp;obtain ⟨e,he,hg,hi,hx⟩:=itEs_get es hk;rw [hx];have hsn:=stT_snoc hi;rw [hg] at hsn;have hsl:=@stT_len es i;refine qI ?_;refine qQ ?_;refine yK rfl ?_;refine qN 1 rfl ?_;refine qN 3 rfl ?_;refine qN 4 rfl ?_;refine qF [0,2,5] ?_;refine zai ?_ ?_
   ·refine qF [2,5] ?_;refine zai ?_ ?_
    ·refine qF [5] ?_;refine qF [6] ?_;refine Or.inl ?_;refine zai (rfl) ?_;refine zei _ (zai (clone_c e.1.2.2 (hf e he)) ?_);refine qF [7] ?_;refine qF [8] ?_;refine qF [9] ?_;refine zai (by exact qO (show (stT es i).length + 1 ≤ 1000000000 by omega) (by decide)) ?_;refine qF [10] ?_;refine qS ?_;exact ⟨i + 1,⟨rfl,rfl⟩,qP trivial ⟨rfl,qR (by rw [hsn];exact rfl)⟩ rfl⟩
    ·refine qF [2,6] ?_;refine zai ?_ ?_
     ·refine qF [6] ?_;refine Or.inl ?_;refine zai (rfl) ?_;refine zei _ (zai (clone_c e.1.2.2 (hf e he)) ?_);refine qF [7] ?_;refine qF [8] ?_;refine qF [9] ?_;refine zai (by exact qO (show (stT es i).length + 1 ≤ 1000000000 by omega) (by decide)) ?_;refine qF [10] ?_;refine qS ?_;exact ⟨i + 1,⟨rfl,rfl⟩,qP trivial ⟨rfl,qR (by rw [hsn];exact rfl)⟩ rfl⟩
     ·refine Or.inl ?_;refine zai (rfl) ?_;refine zei _ (zai (clone_c e.1.2.2 (hf e he)) ?_);refine qF [2] ?_;refine qF [7] ?_;refine qF [8] ?_;refine qF [9] ?_;refine zai (by exact qO (show (stT es i).length + 1 ≤ 1000000000 by omega) (by decide)) ?_;refine qF [10] ?_;refine qS ?_;exact ⟨i + 1,⟨rfl,rfl⟩,qP trivial ⟨rfl,qR (by rw [hsn];exact rfl)⟩ rfl⟩
   refine zai ?_ ?_
   ·refine qF [0,5] ?_;refine zai ?_ ?_
    ·refine qF [5] ?_;refine qF [6] ?_;refine Or.inl ?_;refine zai (rfl) ?_;refine zei _ (zai (clone_c e.1.2.2 (hf e he)) ?_);refine qF [7] ?_;refine qF [8] ?_;refine qF [9] ?_;refine zai (by exact qO (show (stT es i).length + 1 ≤ 1000000000 by omega) (by decide)) ?_;refine qF [10] ?_;refine qS ?_;exact ⟨i + 1,⟨rfl,rfl⟩,qP trivial ⟨rfl,qR (by rw [hsn];exact rfl)⟩ rfl⟩
    ·refine qF [0,6] ?_;refine zai ?_ ?_
     ·refine qF [6] ?_;refine Or.inl ?_;refine zai (rfl) ?_;refine zei _ (zai (clone_c e.1.2.2 (hf e he)) ?_);refine qF [7] ?_;refine qF [8] ?_;refine qF [9] ?_;refine zai (by exact qO (show (stT es i).length + 1 ≤ 1000000000 by omega) (by decide)) ?_;refine qF [10] ?_;refine qS ?_;exact ⟨i + 1,⟨rfl,rfl⟩,qP trivial ⟨rfl,qR (by rw [hsn];exact rfl)⟩ rfl⟩
     ·refine Or.inl ?_;refine zai (rfl) ?_;refine zei _ (zai (clone_c e.1.2.2 (hf e he)) ?_);refine qF [0,7] ?_;refine zai ?_ ?_
      ·refine qF [7] ?_;refine qF [8] ?_;refine qF [9] ?_;refine zai (by exact qO (show (stT es i).length + 1 ≤ 1000000000 by omega) (by decide)) ?_;refine qF [10] ?_;refine qS ?_;exact ⟨i + 1,⟨rfl,rfl⟩,qP trivial ⟨rfl,qR (by rw [hsn];exact rfl)⟩ rfl⟩
      ·refine qF [0,8] ?_;refine zai ?_ ?_
       ·refine qF [8] ?_;refine qF [9] ?_;refine zai (by exact qO (show (stT es i).length + 1 ≤ 1000000000 by omega) (by decide)) ?_;refine qF [10] ?_;refine qS ?_;exact ⟨i + 1,⟨rfl,rfl⟩,qP trivial ⟨rfl,qR (by rw [hsn];exact rfl)⟩ rfl⟩
       ·refine qF [0] ?_;refine qF [9] ?_;refine zai (by exact qO (show (stT es i).length + 1 ≤ 1000000000 by omega) (by decide)) ?_;refine qF [10] ?_;refine qS ?_;exact ⟨i + 1,⟨rfl,rfl⟩,qP trivial ⟨rfl,qR (by rw [hsn];exact rfl)⟩ rfl⟩
   ·refine qF [0,2,6] ?_;refine zai ?_ ?_
    ·refine qF [2,6] ?_;refine zai ?_ ?_
     ·refine qF [6] ?_;refine Or.inl ?_;refine zai (rfl) ?_;refine zei _ (zai (clone_c e.1.2.2 (hf e he)) ?_);refine qF [7] ?_;refine qF [8] ?_;refine qF [9] ?_;refine zai (by exact qO (show (stT es i).length + 1 ≤ 1000000000 by omega) (by decide)) ?_;refine qF [10] ?_;refine qS ?_;exact ⟨i + 1,⟨rfl,rfl⟩,qP trivial ⟨rfl,qR (by rw [hsn];exact rfl)⟩ rfl⟩
     ·refine Or.inl ?_;refine zai (rfl) ?_;refine zei _ (zai (clone_c e.1.2.2 (hf e he)) ?_);refine qF [2] ?_;refine qF [7] ?_;refine qF [8] ?_;refine qF [9] ?_;refine zai (by exact qO (show (stT es i).length + 1 ≤ 1000000000 by omega) (by decide)) ?_;refine qF [10] ?_;refine qS ?_;exact ⟨i + 1,⟨rfl,rfl⟩,qP trivial ⟨rfl,qR (by rw [hsn];exact rfl)⟩ rfl⟩
    refine zai ?_ ?_
    ·refine qF [0,6] ?_;refine zai ?_ ?_
     ·refine qF [6] ?_;refine Or.inl ?_;refine zai (rfl) ?_;refine zei _ (zai (clone_c e.1.2.2 (hf e he)) ?_);refine qF [7] ?_;refine qF [8] ?_;refine qF [9] ?_;refine zai (by exact qO (show (stT es i).length + 1 ≤ 1000000000 by omega) (by decide)) ?_;refine qF [10] ?_;refine qS ?_;exact ⟨i + 1,⟨rfl,rfl⟩,qP trivial ⟨rfl,qR (by rw [hsn];exact rfl)⟩ rfl⟩
     ·refine Or.inl ?_;refine zai (rfl) ?_;refine zei _ (zai (clone_c e.1.2.2 (hf e he)) ?_);refine qF [0,7] ?_;refine zai ?_ ?_
      ·refine qF [7] ?_;refine qF [8] ?_;refine qF [9] ?_;refine zai (by exact qO (show (stT es i).length + 1 ≤ 1000000000 by omega) (by decide)) ?_;refine qF [10] ?_;refine qS ?_;exact ⟨i + 1,⟨rfl,rfl⟩,qP trivial ⟨rfl,qR (by rw [hsn];exact rfl)⟩ rfl⟩
      ·refine qF [0,8] ?_;refine zai ?_ ?_
       ·refine qF [8] ?_;refine qF [9] ?_;refine zai (by exact qO (show (stT es i).length + 1 ≤ 1000000000 by omega) (by decide)) ?_;refine qF [10] ?_;refine qS ?_;exact ⟨i + 1,⟨rfl,rfl⟩,qP trivial ⟨rfl,qR (by rw [hsn];exact rfl)⟩ rfl⟩
       ·refine qF [0] ?_;refine qF [9] ?_;refine zai (by exact qO (show (stT es i).length + 1 ≤ 1000000000 by omega) (by decide)) ?_;refine qF [10] ?_;refine qS ?_;exact ⟨i + 1,⟨rfl,rfl⟩,qP trivial ⟨rfl,qR (by rw [hsn];exact rfl)⟩ rfl⟩
    ·refine Or.inl ?_;refine zai (rfl) ?_;refine zei _ (zai (clone_c e.1.2.2 (hf e he)) ?_);refine qF [0,2] ?_;refine zai ?_ ?_
     ·refine qF [2] ?_;refine qF [7] ?_;refine qF [8] ?_;refine qF [9] ?_;refine zai (by exact qO (show (stT es i).length + 1 ≤ 1000000000 by omega) (by decide)) ?_;refine qF [10] ?_;refine qS ?_;exact ⟨i + 1,⟨rfl,rfl⟩,qP trivial ⟨rfl,qR (by rw [hsn];exact rfl)⟩ rfl⟩
     ·refine qF [0,7] ?_;refine zai ?_ ?_
      ·refine qF [7] ?_;refine qF [8] ?_;refine qF [9] ?_;refine zai (by exact qO (show (stT es i).length + 1 ≤ 1000000000 by omega) (by decide)) ?_;refine qF [10] ?_;refine qS ?_;exact ⟨i + 1,⟨rfl,rfl⟩,qP trivial ⟨rfl,qR (by rw [hsn];exact rfl)⟩ rfl⟩
      ·refine qF [0,8] ?_;refine zai ?_ ?_
       ·refine qF [8] ?_;refine qF [9] ?_;refine zai (by exact qO (show (stT es i).length + 1 ≤ 1000000000 by omega) (by decide)) ?_;refine qF [10] ?_;refine qS ?_;exact ⟨i + 1,⟨rfl,rfl⟩,qP trivial ⟨rfl,qR (by rw [hsn];exact rfl)⟩ rfl⟩
       ·refine qF [0] ?_;refine qF [9] ?_;refine zai (by exact qO (show (stT es i).length + 1 ≤ 1000000000 by omega) (by decide)) ?_;refine qF [10] ?_;refine qS ?_;exact ⟨i + 1,⟨rfl,rfl⟩,qP trivial ⟨rfl,qR (by rw [hsn];exact rfl)⟩ rfl⟩
  ·intro i hp;obtain ⟨_,rfl⟩:=hp;refine qB ?_;refine qM ?_;rw [show stT es (itEs es).length = stzL es from by unfold stT stzL;rw [itEs_len,List.take_length]];exact rfl
  ·intro j i hp;exact absurd hp.1 (by decide)
def SmallF (l : List Fld) : Prop:=∀ f ∈ l,f.1.size ≤ 1000 ∧ f.2.size ≤ 1000
structure GP (p : PSt) : Prop where
  flds : SmallF p.flds
  room : p.lns ≠ [] → p.full = false → p.flds.length < 40
  len : p.flds.length ≤ 40
  its : ∀ x ∈ p.its,SmallF x.2.2 ∧ x.2.2.length ≤ 40
theorem smallF_nil : SmallF []:=fun f hf=>by cases hf
theorem flush_gp {p q : PSt} (h : GP p) (hf : yY p = .inr q) : GP q:=by
  unfold yY at hf;split at hf
  · cases hf;exact h
  · rename_i h0;split at hf
    · cases hf
    · split at hf
      · cases hf
      · rename_i h1 h2;cases hf;have hr:=h.room h0 (by simpa using h2);refine ⟨fun f hf=>?_,fun h=>absurd rfl h,by simp only [List.length_append,List.length_cons,List.length_nil];omega,h.its⟩;rcases List.mem_append.1 hf with hf|hf
        · exact h.flds f hf
        · rw [List.mem_singleton.1 hf];rcases unf_cases (p.lns.map ls) with ⟨n,hn,e⟩|⟨k,v,e,hk,hv⟩
          · rw [e];exact ⟨by show (bytes []).size ≤ 1000;decide,by show (bytes []).size ≤ 1000;decide⟩
          · rw [e];simp only [yQ];refine ⟨?_,hv⟩;unfold keyOk at hk;simp only [Bool.and_eq_true,decide_eq_true_eq] at hk;omega
theorem close_gp {q : PSt} (h : GP q) : GP (xX q):=by
  unfold xX;split
  · exact ⟨smallF_nil,fun _ _=>(by show 0 < 40;decide),(by show 0 ≤ 40;decide),h.its⟩
  · refine ⟨smallF_nil,fun _ _=>(by show 0 < 40;decide),(by show 0 ≤ 40;decide),fun x hx=>?_⟩;rcases List.mem_append.1 hx with hx|hx
    · exact h.its x hx
    · rw [List.mem_singleton.1 hx];exact ⟨h.flds,h.len⟩
theorem end_gp {p q : PSt} (h : GP p) (hf : endS p = .inr q) : GP q:=by
  unfold endS at hf;split at hf
  · cases hf
  · rename_i r e;cases hf;exact close_gp (flush_gp h e)
theorem begin_gp {p : PSt} (l : Lne) (h : GP p) : GP (xY p l):=by
  refine ⟨h.flds,fun _ hf=>?_,h.len,h.its⟩;have:=h.len;unfold xY at hf;simp only [Bool.or_eq_false_iff,decide_eq_false_iff_not] at hf;show p.flds.length < 40;omega
theorem ahead_gp {p q : PSt} {l : Lne} {k : Int} (h : GP p) (hf : xA p l k = .inr q) : GP q:=by
  unfold xA at hf;split at hf
  · split at hf
    · cases hf
    · rename_i h0;have h2 : GP { p with lns:=p.lns ++ [l.2.2.1] }:=⟨h.flds,fun _=>h.room h0,h.len,h.its⟩;split at hf
      · cases hf;exact h2
      · exact flush_gp h2 hf
  · split at hf
    · exact end_gp h hf
    · exact flush_gp h hf
theorem line_gp {p q : PSt} {l : Lne} {k : Int} (h : GP p) (hf : lineS p l k = .inr q) : GP q:=by
  unfold lineS at hf;split at hf
  · cases hf
  · split at hf
    · cases hf;refine ⟨h.flds,h.room,h.len,fun x hx=>?_⟩;rcases List.mem_append.1 hx with hx|hx
      · exact h.its x hx
      · rw [List.mem_singleton.1 hx];exact ⟨smallF_nil,by show 0 ≤ 40;decide⟩
    · split at hf
      · cases hf;have:=begin_gp l h;exact ⟨this.flds,this.room,this.len,this.its⟩
      · cases hf;exact ⟨h.flds,h.room,h.len,h.its⟩
theorem take_gp {p q : PSt} {l : Lne} (h : GP p) (hf : xD p l = .inr q) : GP q:=by
  unfold xD at hf;split at hf
  · cases hf
  · rename_i r e;exact line_gp (ahead_gp h e) hf
theorem run_gp : ∀ (L : List Lne) {p q : PSt},GP p → runS p L = .inr q → GP q
  | [],p,q,h,hf=>by
    cases hf;exact h
  | l :: r,p,q,h,hf=>by
    unfold runS at hf;split at hf
    · cases hf
    · rename_i t e;exact run_gp r (take_gp h e) hf
theorem items_small {s : ByteArray} {l : List Itm} (hp : xG s = .inr l) : ∀ x ∈ l,SmallF x.2.2 ∧ x.2.2.length ≤ 40:=by
  unfold xG at hp;split at hp
  · cases hp
  · rename_i p e;split at hp
    · cases hp
    · rename_i q e2;cases hp;exact (end_gp (run_gp _ ⟨smallF_nil,fun h=>absurd rfl h,by decide,fun x hx=>by cases hx⟩ e) e2).its
theorem fldsOk_of {l : List Fld} (h : SmallF l) (hl : l.length ≤ 40) : yO l:=⟨by omega,fun f hf=>by have:=h f hf;omega⟩
abbrev RLs:=List Ent × Int
abbrev rRL : Rd RLs:=.st (.sl rEnt) (.int .i64)
theorem parse_ne {s : ByteArray} {at_ n : Int} (h : xG s = .inl (at_,n)) : n ≠ 0:=by
  rw [parse_ref] at h;exact runR_ne _ _ _ _ h
theorem rlbox_eq {T : TypeId} {i : Nat} {a b : Int} (h : a = b) : some (Ob.box T [.vec i,.lit (.int .i64 a)]) = some (Ob.box T [.vec i,.lit (.int .i64 b)]):=by rw [h]
theorem refOf_ok (s : ByteArray) (hs : s.size ≤ 60000) {l : List Itm} (hp : xG s = .inr l) : qX Tryz.prog 30 [is s] (.tup [(true,toL rRL (numI 1 l,1 + (cntR l : Int))),(false,[.lit (.int .i64 (-9))]),(false,[.lit (.int .i64 0)])]):=by
  have hpa:=refParse_a s hs;rw [hp] at hpa;obtain ⟨hl1,hl2⟩:=items_flds hs hp;refine yV (rs:=[.cell 2 60,.tmp 3,.tmp 4]) Tryz.func30 rfl rfl rfl teOk rfl ?_;refine qB ?_;refine qB ?_;refine Or.inl ?_;refine zai (rfl) ?_;refine zei _ (zai (hpa) ?_);refine qJ ?_;refine qB ?_;refine qK rfl (fun h18=>?_) (fun h18=>?_)
  ·try simp only [decide_eq_false_iff_not,Bool.not_eq_true'] at h18
   try simp only [zds] at h18
   simp at h18
  ·try simp only [decide_eq_true_eq,Bool.not_eq_false'] at h18
   try simp only [zds] at h18
   refine qL ?_;refine qB ?_;refine qJ ?_;refine qJ ?_;refine yI 1 0 142 rEnt rfl rfl rfl ?_;refine qI ?_;refine qQ ?_;refine qW (fun (i : Nat)=>i ≤ l.length) (fun (i : Nat)=>[(2,.one (.own 0 0)),(5,.one (.sl rItm l)),(6,ii .i64 (-9)),(8,.one (.own 1 0)),(9,ii .i64 i)]) (fun (i : Nat)=>[(0,.box 60 [.lit (.slice none 0 0),.lit (.int .i64 0)]),(1,.box 60 [.vec 2,.lit (.int .i64 (1 + (cntR (l.take i) : Int)))]),(2,.vec 142 rEnt (numI 1 (l.take i)))]) 3 (fun (i : Nat)=>l.length - i) 0 (Nat.zero_le _) (qP ⟨rfl,rfl,rfl,rfl,rfl⟩ ⟨rfl,rfl,rfl⟩ rfl) ?_;intro i hI0;refine qJ ?_;refine qB ?_;intro l6_2
   try simp only [zds] at l6_2
   refine qK rfl (fun h26=>?_) (fun h26=>?_)
   ·try simp only [decide_eq_true_eq] at h26
    try simp only [zds] at h26
    have hil : i < l.length:=(by omega);have hsn:=numI_at hil;have hcn:=cntR_at hil;have hcl:=cntR_le (l.take i);rw [List.length_take] at hcl;refine qL ?_;refine qJ ?_;refine qQ ?_;refine qB ?_;refine zob ?_;refine qJ ?_;refine qB ?_;refine zob ?_;refine qK rfl (fun h39=>?_) (fun h39=>?_)
    ·try simp only [decide_eq_true_eq] at h39
     try simp only [Int.toNat_natCast,qH,qG,qE,qD] at h39
     have hk : isRec (l.getD i ((0 : Int),ByteArray.empty,([] : List Fld))) = true:=decide_eq_true h39;rw [hk,if_pos rfl] at hsn hcn;refine qB ?_;refine qI ?_;refine zob ?_;refine qI ?_;refine zai (by exact qO (show (numI 1 (l.take i)).length + 1 ≤ 1000000000 by rw [numI_len,List.length_take];omega) (by decide)) ?_;refine qI ?_;refine zob ?_;exact ⟨i + 1,by omega,by first|omega|(simp <;> omega),qP ⟨rfl,rfl,rfl,rfl,(qT (by omega))⟩ ⟨rfl,(rlbox_eq (by omega)),(qR (by rw [hsn];exact rfl))⟩ rfl⟩
    ·try simp only [decide_eq_false_iff_not] at h39
     try simp only [Int.toNat_natCast,qH,qG,qE,qD] at h39
     have hk : isRec (l.getD i ((0 : Int),ByteArray.empty,([] : List Fld))) = false:=decide_eq_false h39;rw [hk,if_neg Bool.false_ne_true] at hsn hcn;refine qL ?_;refine qI ?_;refine zai (by exact qO (show (numI 1 (l.take i)).length + 1 ≤ 1000000000 by rw [numI_len,List.length_take];omega) (by decide)) ?_;refine qI ?_;refine zob ?_;exact ⟨i + 1,by omega,by first|omega|(simp <;> omega),qP ⟨rfl,rfl,rfl,rfl,(qT (by omega))⟩ ⟨rfl,(rlbox_eq (by omega)),(qR (by rw [hsn];exact rfl))⟩ rfl⟩
   ·try simp only [decide_eq_false_iff_not,Int.not_lt] at h26
    try simp only [zds] at h26
    refine yA ?_;refine qB ?_;refine yH [2] ?_;refine qM ?_;rw [List.take_of_length_le (by omega)];exact rfl
theorem refOf_err (s : ByteArray) (hs : s.size ≤ 60000) {at_ n : Int} (hp : xG s = .inl (at_,n)) : qX Tryz.prog 30 [is s] (.tup [(true,[.lit (.slice none 0 0),.lit (.int .i64 0)]),(false,[.lit (.int .i64 at_)]),(false,[.lit (.int .i64 n)])]):=by
  have hpa:=refParse_a s hs;rw [hp] at hpa;have hne:=parse_ne hp;refine yV (rs:=[.cell 2 60,.tmp 3,.tmp 4]) Tryz.func30 rfl rfl rfl teOk rfl ?_;refine qB ?_;refine qB ?_;refine Or.inl ?_;refine zai (rfl) ?_;refine zei _ (zai (hpa) ?_);refine qJ ?_;refine qB ?_;refine qK rfl (fun h18=>?_) (fun h18=>?_)
  ·try simp only [decide_eq_false_iff_not,Bool.not_eq_true'] at h18
   try simp only [zds] at h18
   refine qB ?_;refine qM ?_;rfl
  ·try simp only [decide_eq_true_eq,Bool.not_eq_false'] at h18
   try simp only [zds] at h18
   exact absurd h18 hne
theorem stzL_snoc {es : List Ent} {i : Nat} (h : i < es.length) : stzL (es.take (i + 1)) = stzL (es.take i) ++ if live (es.getD i (((0 : Int),ByteArray.empty,([] : List Fld)),(0 : Int))) then [stzOf (es.getD i (((0 : Int),ByteArray.empty,([] : List Fld)),(0 : Int)))] else []:=by
  unfold stzL;rw [← yL (((0 : Int),ByteArray.empty,([] : List Fld)),(0 : Int)) h,List.filter_append,List.map_append]
  generalize es.getD i (((0 : Int),ByteArray.empty,([] : List Fld)),(0 : Int)) = x
  cases hk : live x
  · simp [hk]
  · simp [hk]
theorem stzL_le (es : List Ent) : (stzL es).length ≤ es.length:=by
  unfold stzL;rw [List.length_map];exact live_len es
theorem refStz_c (es : List Ent) (n : Int) (hl : es.length ≤ 1000000) : qX Tryz.prog 99 [.agg (toL rRL (es,n))] (.one (.sl rStz (stzL es))):=by
  refine qV (rs:=[2]) Tryz.func99 rfl rfl rfl teOk rfl ?_;refine qB ?_;refine qB ?_;refine qJ ?_;refine qJ ?_;refine yW 3 78 rStz rfl ?_;refine qI ?_;refine qQ ?_;refine qW (fun (i : Nat)=>i ≤ es.length) (fun (i : Nat)=>[(1,.one (.own 0 0)),(3,.one (.vec 1)),(4,ii .i64 i)]) (fun (i : Nat)=>[(0,.box 60 (toL rRL (es,n))),(1,.vec 78 rStz (stzL (es.take i)))]) 2 (fun (i : Nat)=>es.length - i) 0 (Nat.zero_le _) (qP ⟨rfl,rfl,rfl⟩ ⟨rfl,rfl⟩ rfl) ?_;intro i hI0;refine qJ ?_;refine qB ?_;intro l3_3;refine qK rfl (fun h9=>?_) (fun h9=>?_)
  ·try simp only [decide_eq_true_eq] at h9
   try simp only [zds] at h9
   have hil : i < es.length:=(by omega);have hsn:=stzL_snoc hil;have hsl:=stzL_le (es.take i);rw [List.length_take] at hsl;refine qL ?_;refine qJ ?_;refine qQ ?_;refine qB ?_;refine zai (by first|omega|assumption|decide|(simp only [];omega)|(simp <;> omega)) ?_;refine qK rfl (fun h18=>?_) (fun h18=>?_)
   ·try simp only [decide_eq_true_eq] at h18
    try simp only [Int.toNat_natCast,qH,qG,qE,qD] at h18
    have hk : live (es.getD i (((0 : Int),ByteArray.empty,([] : List Fld)),(0 : Int))) = true:=decide_eq_true h18;rw [hk,if_pos rfl] at hsn;refine yK rfl ?_;refine qN 0 rfl ?_;refine qN 1 rfl ?_;refine qN 3 rfl ?_;refine qN 7 rfl ?_;refine qN 9 rfl ?_;refine qF [2,8] ?_;refine zai ?_ ?_
    ·refine qN 4 rfl ?_;refine zai (by first|omega|assumption|decide|(simp only [];omega)|(simp <;> omega)) ?_;refine qF [5,8] ?_;refine zai ?_ ?_
     ·refine qF [6,8] ?_;refine zai ?_ ?_
      ·refine qF [8] ?_;refine qN 10 rfl ?_;refine zai (by first|omega|assumption|decide|(simp only [];omega)|(simp <;> omega)) ?_;refine qF [11] ?_;refine qF [12] ?_;refine qF [13] ?_;refine qF [14] ?_;refine qF [15] ?_;refine qF [16] ?_;refine zai (by exact qO (show (stzL (es.take i)).length + 1 ≤ 1000000000 by omega) (by decide)) ?_;refine qN 17 rfl ?_;refine qS ?_;refine qI ?_;refine zob ?_;exact ⟨i + 1,by omega,by first|omega|(simp <;> omega),qP ⟨rfl,rfl,(qT (by omega))⟩ ⟨rfl,(qR (by rw [hsn];try exact rfl))⟩ rfl⟩
      ·refine qN 10 rfl ?_;refine zai (by first|omega|assumption|decide|(simp only [];omega)|(simp <;> omega)) ?_;refine qF [6,11] ?_;refine zai ?_ ?_
       ·refine qF [11] ?_;refine qF [12] ?_;refine qF [13] ?_;refine qF [14] ?_;refine qF [15] ?_;refine qF [16] ?_;refine zai (by exact qO (show (stzL (es.take i)).length + 1 ≤ 1000000000 by omega) (by decide)) ?_;refine qN 17 rfl ?_;refine qS ?_;refine qI ?_;refine zob ?_;exact ⟨i + 1,by omega,by first|omega|(simp <;> omega),qP ⟨rfl,rfl,(qT (by omega))⟩ ⟨rfl,(qR (by rw [hsn];try exact rfl))⟩ rfl⟩
       ·refine qF [6,12] ?_;refine zai ?_ ?_
        ·refine qF [12] ?_;refine qF [13] ?_;refine qF [14] ?_;refine qF [15] ?_;refine qF [16] ?_;refine zai (by exact qO (show (stzL (es.take i)).length + 1 ≤ 1000000000 by omega) (by decide)) ?_;refine qN 17 rfl ?_;refine qS ?_;refine qI ?_;refine zob ?_;exact ⟨i + 1,by omega,by first|omega|(simp <;> omega),qP ⟨rfl,rfl,(qT (by omega))⟩ ⟨rfl,(qR (by rw [hsn];try exact rfl))⟩ rfl⟩
        ·refine qF [6,13] ?_;refine zai ?_ ?_
         ·refine qF [13] ?_;refine qF [14] ?_;refine qF [15] ?_;refine qF [16] ?_;refine zai (by exact qO (show (stzL (es.take i)).length + 1 ≤ 1000000000 by omega) (by decide)) ?_;refine qN 17 rfl ?_;refine qS ?_;refine qI ?_;refine zob ?_;exact ⟨i + 1,by omega,by first|omega|(simp <;> omega),qP ⟨rfl,rfl,(qT (by omega))⟩ ⟨rfl,(qR (by rw [hsn];try exact rfl))⟩ rfl⟩
         ·refine qF [6] ?_;refine qF [14] ?_;refine qF [15] ?_;refine qF [16] ?_;refine zai (by exact qO (show (stzL (es.take i)).length + 1 ≤ 1000000000 by omega) (by decide)) ?_;refine qN 17 rfl ?_;refine qS ?_;refine qI ?_;refine zob ?_;exact ⟨i + 1,by omega,by first|omega|(simp <;> omega),qP ⟨rfl,rfl,(qT (by omega))⟩ ⟨rfl,(qR (by rw [hsn];try exact rfl))⟩ rfl⟩
     ·refine qN 10 rfl ?_;refine zai (by first|omega|assumption|decide|(simp only [];omega)|(simp <;> omega)) ?_;refine qF [5,11] ?_;refine zai ?_ ?_
      ·refine qF [6,11] ?_;refine zai ?_ ?_
       ·refine qF [11] ?_;refine qF [12] ?_;refine qF [13] ?_;refine qF [14] ?_;refine qF [15] ?_;refine qF [16] ?_;refine zai (by exact qO (show (stzL (es.take i)).length + 1 ≤ 1000000000 by omega) (by decide)) ?_;refine qN 17 rfl ?_;refine qS ?_;refine qI ?_;refine zob ?_;exact ⟨i + 1,by omega,by first|omega|(simp <;> omega),qP ⟨rfl,rfl,(qT (by omega))⟩ ⟨rfl,(qR (by rw [hsn];try exact rfl))⟩ rfl⟩
       ·refine qF [6,12] ?_;refine zai ?_ ?_
        ·refine qF [12] ?_;refine qF [13] ?_;refine qF [14] ?_;refine qF [15] ?_;refine qF [16] ?_;refine zai (by exact qO (show (stzL (es.take i)).length + 1 ≤ 1000000000 by omega) (by decide)) ?_;refine qN 17 rfl ?_;refine qS ?_;refine qI ?_;refine zob ?_;exact ⟨i + 1,by omega,by first|omega|(simp <;> omega),qP ⟨rfl,rfl,(qT (by omega))⟩ ⟨rfl,(qR (by rw [hsn];try exact rfl))⟩ rfl⟩
        ·refine qF [6,13] ?_;refine zai ?_ ?_
         ·refine qF [13] ?_;refine qF [14] ?_;refine qF [15] ?_;refine qF [16] ?_;refine zai (by exact qO (show (stzL (es.take i)).length + 1 ≤ 1000000000 by omega) (by decide)) ?_;refine qN 17 rfl ?_;refine qS ?_;refine qI ?_;refine zob ?_;exact ⟨i + 1,by omega,by first|omega|(simp <;> omega),qP ⟨rfl,rfl,(qT (by omega))⟩ ⟨rfl,(qR (by rw [hsn];try exact rfl))⟩ rfl⟩
         ·refine qF [6] ?_;refine qF [14] ?_;refine qF [15] ?_;refine qF [16] ?_;refine zai (by exact qO (show (stzL (es.take i)).length + 1 ≤ 1000000000 by omega) (by decide)) ?_;refine qN 17 rfl ?_;refine qS ?_;refine qI ?_;refine zob ?_;exact ⟨i + 1,by omega,by first|omega|(simp <;> omega),qP ⟨rfl,rfl,(qT (by omega))⟩ ⟨rfl,(qR (by rw [hsn];try exact rfl))⟩ rfl⟩
      ·refine qF [5,12] ?_;refine zai ?_ ?_
       ·refine qF [6,12] ?_;refine zai ?_ ?_
        ·refine qF [12] ?_;refine qF [13] ?_;refine qF [14] ?_;refine qF [15] ?_;refine qF [16] ?_;refine zai (by exact qO (show (stzL (es.take i)).length + 1 ≤ 1000000000 by omega) (by decide)) ?_;refine qN 17 rfl ?_;refine qS ?_;refine qI ?_;refine zob ?_;exact ⟨i + 1,by omega,by first|omega|(simp <;> omega),qP ⟨rfl,rfl,(qT (by omega))⟩ ⟨rfl,(qR (by rw [hsn];try exact rfl))⟩ rfl⟩
        ·refine qF [6,13] ?_;refine zai ?_ ?_
         ·refine qF [13] ?_;refine qF [14] ?_;refine qF [15] ?_;refine qF [16] ?_;refine zai (by exact qO (show (stzL (es.take i)).length + 1 ≤ 1000000000 by omega) (by decide)) ?_;refine qN 17 rfl ?_;refine qS ?_;refine qI ?_;refine zob ?_;exact ⟨i + 1,by omega,by first|omega|(simp <;> omega),qP ⟨rfl,rfl,(qT (by omega))⟩ ⟨rfl,(qR (by rw [hsn];try exact rfl))⟩ rfl⟩
         ·refine qF [6] ?_;refine qF [14] ?_;refine qF [15] ?_;refine qF [16] ?_;refine zai (by exact qO (show (stzL (es.take i)).length + 1 ≤ 1000000000 by omega) (by decide)) ?_;refine qN 17 rfl ?_;refine qS ?_;refine qI ?_;refine zob ?_;exact ⟨i + 1,by omega,by first|omega|(simp <;> omega),qP ⟨rfl,rfl,(qT (by omega))⟩ ⟨rfl,(qR (by rw [hsn];try exact rfl))⟩ rfl⟩
       ·refine qF [5,13] ?_;refine zai ?_ ?_
        ·refine qF [6,13] ?_;refine zai ?_ ?_
         ·refine qF [13] ?_;refine qF [14] ?_;refine qF [15] ?_;refine qF [16] ?_;refine zai (by exact qO (show (stzL (es.take i)).length + 1 ≤ 1000000000 by omega) (by decide)) ?_;refine qN 17 rfl ?_;refine qS ?_;refine qI ?_;refine zob ?_;exact ⟨i + 1,by omega,by first|omega|(simp <;> omega),qP ⟨rfl,rfl,(qT (by omega))⟩ ⟨rfl,(qR (by rw [hsn];try exact rfl))⟩ rfl⟩
         ·refine qF [6] ?_;refine qF [14] ?_;refine qF [15] ?_;refine qF [16] ?_;refine zai (by exact qO (show (stzL (es.take i)).length + 1 ≤ 1000000000 by omega) (by decide)) ?_;refine qN 17 rfl ?_;refine qS ?_;refine qI ?_;refine zob ?_;exact ⟨i + 1,by omega,by first|omega|(simp <;> omega),qP ⟨rfl,rfl,(qT (by omega))⟩ ⟨rfl,(qR (by rw [hsn];try exact rfl))⟩ rfl⟩
        ·refine qF [5] ?_;refine qF [6] ?_;refine qF [14] ?_;refine qF [15] ?_;refine qF [16] ?_;refine zai (by exact qO (show (stzL (es.take i)).length + 1 ≤ 1000000000 by omega) (by decide)) ?_;refine qN 17 rfl ?_;refine qS ?_;refine qI ?_;refine zob ?_;exact ⟨i + 1,by omega,by first|omega|(simp <;> omega),qP ⟨rfl,rfl,(qT (by omega))⟩ ⟨rfl,(qR (by rw [hsn];try exact rfl))⟩ rfl⟩
    ·refine qN 10 rfl ?_;refine zai (by first|omega|assumption|decide|(simp only [];omega)|(simp <;> omega)) ?_;refine qF [2,11] ?_;refine zai ?_ ?_
     ·refine qN 4 rfl ?_;refine zai (by first|omega|assumption|decide|(simp only [];omega)|(simp <;> omega)) ?_;refine qF [5,11] ?_;refine zai ?_ ?_
      ·refine qF [6,11] ?_;refine zai ?_ ?_
       ·refine qF [11] ?_;refine qF [12] ?_;refine qF [13] ?_;refine qF [14] ?_;refine qF [15] ?_;refine qF [16] ?_;refine zai (by exact qO (show (stzL (es.take i)).length + 1 ≤ 1000000000 by omega) (by decide)) ?_;refine qN 17 rfl ?_;refine qS ?_;refine qI ?_;refine zob ?_;exact ⟨i + 1,by omega,by first|omega|(simp <;> omega),qP ⟨rfl,rfl,(qT (by omega))⟩ ⟨rfl,(qR (by rw [hsn];try exact rfl))⟩ rfl⟩
       ·refine qF [6,12] ?_;refine zai ?_ ?_
        ·refine qF [12] ?_;refine qF [13] ?_;refine qF [14] ?_;refine qF [15] ?_;refine qF [16] ?_;refine zai (by exact qO (show (stzL (es.take i)).length + 1 ≤ 1000000000 by omega) (by decide)) ?_;refine qN 17 rfl ?_;refine qS ?_;refine qI ?_;refine zob ?_;exact ⟨i + 1,by omega,by first|omega|(simp <;> omega),qP ⟨rfl,rfl,(qT (by omega))⟩ ⟨rfl,(qR (by rw [hsn];try exact rfl))⟩ rfl⟩
        ·refine qF [6,13] ?_;refine zai ?_ ?_
         ·refine qF [13] ?_;refine qF [14] ?_;refine qF [15] ?_;refine qF [16] ?_;refine zai (by exact qO (show (stzL (es.take i)).length + 1 ≤ 1000000000 by omega) (by decide)) ?_;refine qN 17 rfl ?_;refine qS ?_;refine qI ?_;refine zob ?_;exact ⟨i + 1,by omega,by first|omega|(simp <;> omega),qP ⟨rfl,rfl,(qT (by omega))⟩ ⟨rfl,(qR (by rw [hsn];try exact rfl))⟩ rfl⟩
         ·refine qF [6] ?_;refine qF [14] ?_;refine qF [15] ?_;refine qF [16] ?_;refine zai (by exact qO (show (stzL (es.take i)).length + 1 ≤ 1000000000 by omega) (by decide)) ?_;refine qN 17 rfl ?_;refine qS ?_;refine qI ?_;refine zob ?_;exact ⟨i + 1,by omega,by first|omega|(simp <;> omega),qP ⟨rfl,rfl,(qT (by omega))⟩ ⟨rfl,(qR (by rw [hsn];try exact rfl))⟩ rfl⟩
      ·refine qF [5,12] ?_;refine zai ?_ ?_
       ·refine qF [6,12] ?_;refine zai ?_ ?_
        ·refine qF [12] ?_;refine qF [13] ?_;refine qF [14] ?_;refine qF [15] ?_;refine qF [16] ?_;refine zai (by exact qO (show (stzL (es.take i)).length + 1 ≤ 1000000000 by omega) (by decide)) ?_;refine qN 17 rfl ?_;refine qS ?_;refine qI ?_;refine zob ?_;exact ⟨i + 1,by omega,by first|omega|(simp <;> omega),qP ⟨rfl,rfl,(qT (by omega))⟩ ⟨rfl,(qR (by rw [hsn];try exact rfl))⟩ rfl⟩
        ·refine qF [6,13] ?_;refine zai ?_ ?_
         ·refine qF [13] ?_;refine qF [14] ?_;refine qF [15] ?_;refine qF [16] ?_;refine zai (by exact qO (show (stzL (es.take i)).length + 1 ≤ 1000000000 by omega) (by decide)) ?_;refine qN 17 rfl ?_;refine qS ?_;refine qI ?_;refine zob ?_;exact ⟨i + 1,by omega,by first|omega|(simp <;> omega),qP ⟨rfl,rfl,(qT (by omega))⟩ ⟨rfl,(qR (by rw [hsn];try exact rfl))⟩ rfl⟩
         ·refine qF [6] ?_;refine qF [14] ?_;refine qF [15] ?_;refine qF [16] ?_;refine zai (by exact qO (show (stzL (es.take i)).length + 1 ≤ 1000000000 by omega) (by decide)) ?_;refine qN 17 rfl ?_;refine qS ?_;refine qI ?_;refine zob ?_;exact ⟨i + 1,by omega,by first|omega|(simp <;> omega),qP ⟨rfl,rfl,(qT (by omega))⟩ ⟨rfl,(qR (by rw [hsn];try exact rfl))⟩ rfl⟩
       ·refine qF [5,13] ?_;refine zai ?_ ?_
        ·refine qF [6,13] ?_;refine zai ?_ ?_
         ·refine qF [13] ?_;refine qF [14] ?_;refine qF [15] ?_;refine qF [16] ?_;refine zai (by exact qO (show (stzL (es.take i)).length + 1 ≤ 1000000000 by omega) (by decide)) ?_;refine qN 17 rfl ?_;refine qS ?_;refine qI ?_;refine zob ?_;exact ⟨i + 1,by omega,by first|omega|(simp <;> omega),qP ⟨rfl,rfl,(qT (by omega))⟩ ⟨rfl,(qR (by rw [hsn];try exact rfl))⟩ rfl⟩
         ·refine qF [6] ?_;refine qF [14] ?_;refine qF [15] ?_;refine qF [16] ?_;refine zai (by exact qO (show (stzL (es.take i)).length + 1 ≤ 1000000000 by omega) (by decide)) ?_;refine qN 17 rfl ?_;refine qS ?_;refine qI ?_;refine zob ?_;exact ⟨i + 1,by omega,by first|omega|(simp <;> omega),qP ⟨rfl,rfl,(qT (by omega))⟩ ⟨rfl,(qR (by rw [hsn];try exact rfl))⟩ rfl⟩
        ·refine qF [5] ?_;refine qF [6] ?_;refine qF [14] ?_;refine qF [15] ?_;refine qF [16] ?_;refine zai (by exact qO (show (stzL (es.take i)).length + 1 ≤ 1000000000 by omega) (by decide)) ?_;refine qN 17 rfl ?_;refine qS ?_;refine qI ?_;refine zob ?_;exact ⟨i + 1,by omega,by first|omega|(simp <;> omega),qP ⟨rfl,rfl,(qT (by omega))⟩ ⟨rfl,(qR (by rw [hsn];try exact rfl))⟩ rfl⟩
     ·refine qF [2,12] ?_;refine zai ?_ ?_
      ·refine qN 4 rfl ?_;refine zai (by first|omega|assumption|decide|(simp only [];omega)|(simp <;> omega)) ?_;refine qF [5,12] ?_;refine zai ?_ ?_
       ·refine qF [6,12] ?_;refine zai ?_ ?_
        ·refine qF [12] ?_;refine qF [13] ?_;refine qF [14] ?_;refine qF [15] ?_;refine qF [16] ?_;refine zai (by exact qO (show (stzL (es.take i)).length + 1 ≤ 1000000000 by omega) (by decide)) ?_;refine qN 17 rfl ?_;refine qS ?_;refine qI ?_;refine zob ?_;exact ⟨i + 1,by omega,by first|omega|(simp <;> omega),qP ⟨rfl,rfl,(qT (by omega))⟩ ⟨rfl,(qR (by rw [hsn];try exact rfl))⟩ rfl⟩
        ·refine qF [6,13] ?_;refine zai ?_ ?_
         ·refine qF [13] ?_;refine qF [14] ?_;refine qF [15] ?_;refine qF [16] ?_;refine zai (by exact qO (show (stzL (es.take i)).length + 1 ≤ 1000000000 by omega) (by decide)) ?_;refine qN 17 rfl ?_;refine qS ?_;refine qI ?_;refine zob ?_;exact ⟨i + 1,by omega,by first|omega|(simp <;> omega),qP ⟨rfl,rfl,(qT (by omega))⟩ ⟨rfl,(qR (by rw [hsn];try exact rfl))⟩ rfl⟩
         ·refine qF [6] ?_;refine qF [14] ?_;refine qF [15] ?_;refine qF [16] ?_;refine zai (by exact qO (show (stzL (es.take i)).length + 1 ≤ 1000000000 by omega) (by decide)) ?_;refine qN 17 rfl ?_;refine qS ?_;refine qI ?_;refine zob ?_;exact ⟨i + 1,by omega,by first|omega|(simp <;> omega),qP ⟨rfl,rfl,(qT (by omega))⟩ ⟨rfl,(qR (by rw [hsn];try exact rfl))⟩ rfl⟩
       ·refine qF [5,13] ?_;refine zai ?_ ?_
        ·refine qF [6,13] ?_;refine zai ?_ ?_
         ·refine qF [13] ?_;refine qF [14] ?_;refine qF [15] ?_;refine qF [16] ?_;refine zai (by exact qO (show (stzL (es.take i)).length + 1 ≤ 1000000000 by omega) (by decide)) ?_;refine qN 17 rfl ?_;refine qS ?_;refine qI ?_;refine zob ?_;exact ⟨i + 1,by omega,by first|omega|(simp <;> omega),qP ⟨rfl,rfl,(qT (by omega))⟩ ⟨rfl,(qR (by rw [hsn];try exact rfl))⟩ rfl⟩
         ·refine qF [6] ?_;refine qF [14] ?_;refine qF [15] ?_;refine qF [16] ?_;refine zai (by exact qO (show (stzL (es.take i)).length + 1 ≤ 1000000000 by omega) (by decide)) ?_;refine qN 17 rfl ?_;refine qS ?_;refine qI ?_;refine zob ?_;exact ⟨i + 1,by omega,by first|omega|(simp <;> omega),qP ⟨rfl,rfl,(qT (by omega))⟩ ⟨rfl,(qR (by rw [hsn];try exact rfl))⟩ rfl⟩
        ·refine qF [5] ?_;refine qF [6] ?_;refine qF [14] ?_;refine qF [15] ?_;refine qF [16] ?_;refine zai (by exact qO (show (stzL (es.take i)).length + 1 ≤ 1000000000 by omega) (by decide)) ?_;refine qN 17 rfl ?_;refine qS ?_;refine qI ?_;refine zob ?_;exact ⟨i + 1,by omega,by first|omega|(simp <;> omega),qP ⟨rfl,rfl,(qT (by omega))⟩ ⟨rfl,(qR (by rw [hsn];try exact rfl))⟩ rfl⟩
      ·refine qF [2,13] ?_;refine zai ?_ ?_
       ·refine qN 4 rfl ?_;refine zai (by first|omega|assumption|decide|(simp only [];omega)|(simp <;> omega)) ?_;refine qF [5,13] ?_;refine zai ?_ ?_
        ·refine qF [6,13] ?_;refine zai ?_ ?_
         ·refine qF [13] ?_;refine qF [14] ?_;refine qF [15] ?_;refine qF [16] ?_;refine zai (by exact qO (show (stzL (es.take i)).length + 1 ≤ 1000000000 by omega) (by decide)) ?_;refine qN 17 rfl ?_;refine qS ?_;refine qI ?_;refine zob ?_;exact ⟨i + 1,by omega,by first|omega|(simp <;> omega),qP ⟨rfl,rfl,(qT (by omega))⟩ ⟨rfl,(qR (by rw [hsn];try exact rfl))⟩ rfl⟩
         ·refine qF [6] ?_;refine qF [14] ?_;refine qF [15] ?_;refine qF [16] ?_;refine zai (by exact qO (show (stzL (es.take i)).length + 1 ≤ 1000000000 by omega) (by decide)) ?_;refine qN 17 rfl ?_;refine qS ?_;refine qI ?_;refine zob ?_;exact ⟨i + 1,by omega,by first|omega|(simp <;> omega),qP ⟨rfl,rfl,(qT (by omega))⟩ ⟨rfl,(qR (by rw [hsn];try exact rfl))⟩ rfl⟩
        ·refine qF [5] ?_;refine qF [6] ?_;refine qF [14] ?_;refine qF [15] ?_;refine qF [16] ?_;refine zai (by exact qO (show (stzL (es.take i)).length + 1 ≤ 1000000000 by omega) (by decide)) ?_;refine qN 17 rfl ?_;refine qS ?_;refine qI ?_;refine zob ?_;exact ⟨i + 1,by omega,by first|omega|(simp <;> omega),qP ⟨rfl,rfl,(qT (by omega))⟩ ⟨rfl,(qR (by rw [hsn];try exact rfl))⟩ rfl⟩
       ·refine qF [2] ?_;refine qN 4 rfl ?_;refine zai (by first|omega|assumption|decide|(simp only [];omega)|(simp <;> omega)) ?_;refine qF [5] ?_;refine qF [6] ?_;refine qF [14] ?_;refine qF [15] ?_;refine qF [16] ?_;refine zai (by exact qO (show (stzL (es.take i)).length + 1 ≤ 1000000000 by omega) (by decide)) ?_;refine qN 17 rfl ?_;refine qS ?_;refine qI ?_;refine zob ?_;exact ⟨i + 1,by omega,by first|omega|(simp <;> omega),qP ⟨rfl,rfl,(qT (by omega))⟩ ⟨rfl,(qR (by rw [hsn];try exact rfl))⟩ rfl⟩
   ·try simp only [decide_eq_false_iff_not,Int.not_lt] at h18
    try simp only [Int.toNat_natCast,qH,qG,qE,qD] at h18
    have hk : live (es.getD i (((0 : Int),ByteArray.empty,([] : List Fld)),(0 : Int))) = false:=decide_eq_false (by omega);rw [hk,if_neg Bool.false_ne_true,List.append_nil] at hsn;refine qL ?_;refine qI ?_;refine zob ?_;exact ⟨i + 1,by omega,by first|omega|(simp <;> omega),qP ⟨rfl,rfl,(qT (by omega))⟩ ⟨rfl,(qR (by rw [hsn];try exact rfl))⟩ rfl⟩
  ·try simp only [decide_eq_false_iff_not,Int.not_lt] at h9
   try simp only [zds] at h9
   refine yA ?_;refine qB ?_;refine qM ?_;rw [List.take_of_length_le (by omega)];exact rfl
def doL (L : Lst) (e : Edt) : Lst :=
  if e.1 = 1 then
    if atE L.1 e.2.1 < 0 then L else if (chkR e.2.2).2 ≠ 0 then L else (replE L.1 (atE L.1 e.2.1).toNat (xS e.2.2),L.2)
  else if e.1 = 2 then
    if atE L.1 e.2.1 < 0 then L else (delE L.1 (atE L.1 e.2.1).toNat,L.2.1,L.2.2 - 1)
  else if atE L.1 e.2.1 < 0 ∧ e.2.1 ≠ 0 then L else if (chkR e.2.2).2 ≠ 0 then L else if 400 ≤ L.2.2 then L else
    (insE L.1 (atE L.1 e.2.1 + 1).toNat (xS e.2.2,L.2.1),L.2.1 + 1,L.2.2 + 1)
def refRep (M : RLs) (id : Int) (f : List Fld) : RLs × Int × Int :=
  if atE M.1 id < 0 then (M,-9,7) else if (chkR f).2 ≠ 0 then (M,(chkR f).1,(chkR f).2) else ((replE M.1 (atE M.1 id).toNat (xS f),M.2),-9,0)
def refDel (M : RLs) (id : Int) : RLs × Int :=
  if atE M.1 id < 0 then (M,7) else ((delE M.1 (atE M.1 id).toNat,M.2),0)
def refIns (M : RLs) (id : Int) (f : List Fld) : RLs × Int × Int × Int :=
  if atE M.1 id < 0 ∧ id ≠ 0 then (M,0,-9,7) else if (chkR f).2 ≠ 0 then (M,0,(chkR f).1,(chkR f).2) else if 400 ≤ ((M.1.filter live).length : Int) then (M,0,-9,11) else
    ((insE M.1 (atE M.1 id + 1).toNat (xS f,M.2),M.2 + 1),M.2,-9,0)
def posI (n : Int) : Bool:=decide (0 < n)
def nmsL (es : List Ent) : List Int:=(es.map (·.2)).filter posI
theorem ids_eq (es : List Ent) : (es.filter live).map (·.2) = nmsL es:=by
  unfold nmsL;rw [List.filter_map];rfl
theorem ids_len (es : List Ent) : (nmsL es).length = (es.filter live).length:=by rw [← ids_eq,List.length_map]
structure LOk (c : Nat) (L : Lst) : Prop where
  flds : ∀ e ∈ L.1,yO e.1.2.2
  ids : ∀ e ∈ L.1,0 ≤ e.2 ∧ e.2 < L.2.1
  nd : (nmsL L.1).Nodup
  many : L.2.2 = ((nmsL L.1).length : Int)
  next : 1 ≤ L.2.1 ∧ L.2.1 ≤ c
  len : L.1.length ≤ c
theorem ids_repl (es : List Ent) (i : Nat) (x : Itm) (h : i < es.length) : (replE es i x).map (·.2) = es.map (·.2):=by
  apply List.ext_getElem
  · simp [replE]
  · intro j h1 h2;simp only [replE,List.getElem_map,List.getElem_set];split
    · rename_i e;subst e;simp only;rw [List.getD_eq_getElem?_getD,List.getElem?_eq_getElem h];rfl
    · rfl
theorem mem_repl {es : List Ent} {i : Nat} {x : Itm} {e : Ent} (h : e ∈ replE es i x) : e ∈ es ∨ e = (x,(es.getD i (((0 : Int),ByteArray.empty,([] : List Fld)),(0 : Int))).2):=List.mem_or_eq_of_mem_set h
theorem del_split {es : List Ent} {i : Nat} (h : i < es.length) : es = es.take i ++ (es.getD i (((0 : Int),ByteArray.empty,([] : List Fld)),(0 : Int))) :: es.drop (i + 1):=by
  conv=>lhs;rw [← List.take_append_drop i es,List.drop_eq_getElem_cons h]
  rw [List.getD_eq_getElem?_getD,List.getElem?_eq_getElem h];rfl
theorem mem_del {es : List Ent} {i : Nat} {e : Ent} (h : e ∈ delE es i) : e ∈ es:=by
  rcases List.mem_append.1 h with h|h
  · exact List.mem_of_mem_take h
  · exact List.mem_of_mem_drop h
theorem ids_app (a b : List Ent) : nmsL (a ++ b) = nmsL a ++ nmsL b:=by unfold nmsL;rw [List.map_append,List.filter_append]
theorem ids_cons (e : Ent) (b : List Ent) : nmsL (e :: b) = if 0 < e.2 then e.2 :: nmsL b else nmsL b:=by
  unfold nmsL;rw [List.map_cons,List.filter_cons];unfold posI
  by_cases h : 0 < e.2
  · rw [if_pos h,if_pos (decide_eq_true h)]
  · rw [if_neg h,if_neg (by simpa using h)]
theorem ids_del {es : List Ent} {i : Nat} (h : i < es.length) (hp : 0 < (es.getD i (((0 : Int),ByteArray.empty,([] : List Fld)),(0 : Int))).2) : (nmsL es).length = (nmsL (delE es i)).length + 1 ∧ ((nmsL es).Nodup → (nmsL (delE es i)).Nodup):=by
  have e1 : nmsL es = nmsL (es.take i) ++ (es.getD i (((0 : Int),ByteArray.empty,([] : List Fld)),(0 : Int))).2 :: nmsL (es.drop (i + 1)):=by
    conv=>lhs;rw [del_split h,ids_app,ids_cons,if_pos hp]
  have e2 : nmsL (delE es i) = nmsL (es.take i) ++ nmsL (es.drop (i + 1)):=ids_app _ _;rw [e1,e2];refine ⟨by simp only [List.length_append,List.length_cons];omega,fun hn=>?_⟩;exact hn.sublist (List.Sublist.append_left (List.sublist_cons_self _ _) _)
theorem mem_ins {es : List Ent} {i : Nat} {x e : Ent} (h : e ∈ insE es i x) : e ∈ es ∨ e = x:=by
  rcases List.mem_append.1 h with h|h
  · exact .inl (List.mem_of_mem_take h)
  · rcases List.mem_cons.1 h with h|h
    · exact .inr h
    · exact .inl (List.mem_of_mem_drop h)
theorem ids_ins {es : List Ent} {i : Nat} {x : Ent} (hp : 0 < x.2) (hlt : ∀ e ∈ es,e.2 < x.2) : (nmsL (insE es i x)).length = (nmsL es).length + 1 ∧ ((nmsL es).Nodup → (nmsL (insE es i x)).Nodup):=by
  have e1 : nmsL es = nmsL (es.take i) ++ nmsL (es.drop i):=by
    conv=>lhs;rw [← List.take_append_drop i es,ids_app]
  have e2 : nmsL (insE es i x) = nmsL (es.take i) ++ x.2 :: nmsL (es.drop i):=by unfold insE;rw [ids_app,ids_cons,if_pos hp]
  have hno : x.2 ∉ nmsL es:=fun h=>by
    unfold nmsL at h;obtain ⟨e,he,hx⟩:=List.mem_map.1 (List.mem_filter.1 h).1;have:=hlt e he;omega
  rw [e1] at hno ⊢;rw [e2];refine ⟨by simp only [List.length_append,List.length_cons];omega,fun hn=>?_⟩;rw [List.perm_middle.nodup_iff];exact List.nodup_cons.2 ⟨hno,hn⟩
theorem doL_ok {c : Nat} {L : Lst} {e : Edt} (h : LOk c L) (hf : yO e.2.2) : LOk (c + 1) (doL L e):=by
  have h0 : LOk (c + 1) L:=⟨h.flds,h.ids,h.nd,h.many,⟨h.next.1,by have:=h.next.2;omega⟩,by have:=h.len;omega⟩;have hat : ∀ id,¬ atE L.1 id < 0 → ∃ i : Nat,i < L.1.length ∧ atE L.1 id = i ∧ 0 < id ∧ (L.1.getD i (((0 : Int),ByteArray.empty,([] : List Fld)),(0 : Int))).2 = id:=fun id hn=>by
    rcases at_cases L.1 id with ⟨h1,_⟩|⟨i,h1,h2,h3,h4,_⟩
    · omega
    · exact ⟨i,h1,h2,h3,h4⟩
  unfold doL;split
  · split
    · exact h0
    · rename_i hn;obtain ⟨i,hi,he,hp,hid⟩:=hat _ hn;rw [he,Int.toNat_natCast];split
      · exact h0
      · have hids : nmsL (replE L.1 i (xS e.2.2)) = nmsL L.1:=by unfold nmsL;rw [ids_repl _ _ _ hi]
        refine ⟨fun x hx=>?_,fun x hx=>?_,by show (nmsL (replE L.1 i _)).Nodup;rw [hids];exact h.nd,by show L.2.2 = ((nmsL (replE L.1 i _)).length : Int);rw [hids];exact h.many,h0.next,?_⟩
        · rcases mem_repl hx with hx|rfl
          · exact h.flds x hx
          · exact hf
        · rcases mem_repl hx with hx|rfl
          · exact h.ids x hx
          · show 0 ≤ (L.1.getD i (((0 : Int),ByteArray.empty,([] : List Fld)),(0 : Int))).2 ∧ (L.1.getD i (((0 : Int),ByteArray.empty,([] : List Fld)),(0 : Int))).2 < L.2.1;exact h.ids _ (yT hi (((0 : Int),ByteArray.empty,([] : List Fld)),(0 : Int)))
        · show (replE L.1 i _).length ≤ c + 1;unfold replE;rw [List.length_set];exact h0.len
  · split
    · split
      · exact h0
      · rename_i hn;obtain ⟨i,hi,he,hp,hid⟩:=hat _ hn;rw [he,Int.toNat_natCast];obtain ⟨h1,h2⟩:=ids_del hi (by omega);refine ⟨fun x hx=>h.flds x (mem_del hx),fun x hx=>h.ids x (mem_del hx),h2 h.nd,?_,h0.next,?_⟩
        · show L.2.2 - 1 = ((nmsL (delE L.1 i)).length : Int);rw [h.many];omega
        · show (delE L.1 i).length ≤ c + 1;have:=h.len;unfold delE;rw [List.length_append,List.length_take,List.length_drop];omega
    · split
      · exact h0
      · rename_i hn;split
        · exact h0
        · split
          · exact h0
          · have hnx:=h.next;obtain ⟨h1,h2⟩:=ids_ins (es:=L.1) (i:=(atE L.1 e.2.1 + 1).toNat) (x:=(xS e.2.2,L.2.1)) (by show 0 < L.2.1;omega) (fun x hx=>(h.ids x hx).2);refine ⟨fun x hx=>?_,fun x hx=>?_,h2 h.nd,?_,⟨by show 1 ≤ L.2.1 + 1;omega,by show L.2.1 + 1 ≤ ((c + 1 : Nat) : Int);omega⟩,?_⟩
            · rcases mem_ins hx with hx|rfl
              · exact h.flds x hx
              · exact hf
            · show 0 ≤ x.2 ∧ x.2 < L.2.1 + 1;rcases mem_ins hx with hx|rfl
              · have:=h.ids x hx;omega
              · show 0 ≤ L.2.1 ∧ L.2.1 < L.2.1 + 1;omega
            · show L.2.2 + 1 = _;rw [h1,h.many];omega
            · have:=h.len;show (insE L.1 _ _).length ≤ c + 1;unfold insE;rw [List.length_append,List.length_cons,List.length_take,List.length_drop];omega
theorem ids_num : ∀ (l : List Itm) (n : Int),1 ≤ n → nmsL (numI n l) = (List.range (cntR l)).map (fun k : Nat=>n + (k : Int)) ∧ ∀ e ∈ numI n l,0 ≤ e.2 ∧ e.2 < n + (cntR l : Int)
  | [],n,_=>⟨rfl,fun e he=>by cases he⟩
  | x :: r,n,hn=>by
    unfold numI;split
    · rename_i h;obtain ⟨h1,h2⟩:=ids_num r (n + 1) (by omega);have hc : cntR (x :: r) = cntR r + 1:=by simp [cntR,h]
      rw [hc];refine ⟨?_,fun e he=>?_⟩
      · rw [ids_cons,if_pos (show 0 < n by omega),h1,List.range_succ_eq_map,List.map_cons,List.map_map]
        congr 1
        · simp
        · apply List.map_congr_left;intro k _;simp only [Function.comp];omega
      · rcases List.mem_cons.1 he with rfl|he
        · show 0 ≤ n ∧ n < _;omega
        · have:=h2 e he;omega
    · rename_i h;obtain ⟨h1,h2⟩:=ids_num r n hn;have hc : cntR (x :: r) = cntR r:=by simp [cntR,h]
      rw [hc];refine ⟨?_,fun e he=>?_⟩
      · rw [ids_cons,if_neg (show ¬ (0 : Int) < 0 by omega),h1]
      · rcases List.mem_cons.1 he with rfl|he
        · show 0 ≤ (0 : Int) ∧ (0 : Int) < _;omega
        · exact h2 e he
theorem ofT_ok {l : List Itm} {c : Nat} (hl : l.length < c) (hf : ∀ x ∈ l,yO x.2.2) : LOk c (ofT l):=by
  obtain ⟨h1,h2⟩:=ids_num l 1 (Int.le_refl _);have h3:=List.length_filter_le isRec l;have h4 : cntR l ≤ l.length:=h3;refine ⟨fun e he=>?_,h2,?_,?_,⟨?_,?_⟩,?_⟩
  · have : e.1 ∈ (numI 1 l).map (·.1):=List.mem_map.2 ⟨e,he,rfl⟩;rw [numI_items] at this;exact hf _ this
  · show (nmsL (numI 1 l)).Nodup;rw [h1];refine List.Pairwise.map _ ?_ List.nodup_range;intro a b hab e;apply hab;omega
  · show (cntR l : Int) = _;rw [show nmsL (ofT l).1 = _ from h1,List.length_map,List.length_range]
  · show 1 ≤ 1 + (cntR l : Int);omega
  · show 1 + (cntR l : Int) ≤ c;omega
  · show (numI 1 l).length ≤ c;rw [numI_len];omega
def refDo (M : RLs) (e : Edt) : RLs:=if e.1 = 1 then (refRep M e.2.1 e.2.2).1 else if e.1 = 2 then (refDel M e.2.1).1 else (refIns M e.2.1 e.2.2).1
def prPl (es : List Ent) (id : Int) : Bool → Nat → Nat × Int → Prop
  | false,j,x=>x.1 = j ∧ x.2 = 0 ∧ ((es.filter live).take x.1).any (hasId id) = false
  | true,_,x=>x.2 = plcL es id
theorem placeL_c {k : Nat} (es : List Ent) (n m id : Int) (hl : es.length ≤ 1000000) : qX Tryz.prog 166 [.one (.adk k (rLst k) (es,n,m)),ii .i64 id] (ii .i64 (plcL es id)):=by
  have hll:=live_len es;refine yV (rs:=[.cell 4 3]) Tryz.func166 rfl rfl rfl teOk rfl ?_;refine qB ?_;refine qB ?_;refine qJ ?_;refine qB ?_;refine Or.inl ?_;refine zai (rfl) ?_;refine zei _ (zai (all_c (es,n,m)) ?_);refine qQ ?_;refine acode_range (caps:=[.one (.ref (.adk k (rLst k) (es,n,m)))]) (xs:=itEs es) [(3,.one (.own 0 0)),(4,.one (.own 1 0)),(5,.one (.own 2 0)),(8,.one (.clo 141 (.ref (.adk k (rLst k) (es,n,m)))))] 3 (prPl es id) (fun x=>[(0,.box 3 [.lit (.int .i64 id)]),(1,.box 3 [.lit (.int .i64 x.2)]),(2,.box 3 [.lit (.int .i64 x.1)])]) (fun _=>.ret) ((0,0) : Nat × Int) rfl rfl (all_iter es n m) (qP ⟨rfl,rfl,rfl,rfl⟩ ⟨rfl,rfl,rfl⟩ rfl) ⟨rfl,rfl,rfl⟩ (fun j hj=>by simp [itEs]) rfl rfl rfl (fun _ _ _=>rfl) rfl ?_ ?_ ?_
  ·intro j x hk hp;obtain ⟨i,v⟩:=x;obtain ⟨h1,h2,hn⟩:=hp;simp only at h1 h2 hn;subst h1 h2;obtain ⟨e,he,hg,hi,hx⟩:=itEs_get es hk;rw [hx];refine qI ?_;refine qQ ?_;refine qJ ?_;refine qB ?_;refine qK rfl (fun h13=>?_) (fun h13=>?_)
   ·try simp only [decide_eq_true_eq] at h13
    try simp only [zds] at h13
    have hh : hasId id ((es.filter live).getD i (((0 : Int),ByteArray.empty,([] : List Fld)),(0 : Int))) = true:=(by rw [hg];exact decide_eq_true h13);refine qB ?_;refine qM ?_;exact ⟨(i,(i : Int)),(ixOf_at (((0 : Int),ByteArray.empty,([] : List Fld)),(0 : Int)) hi hn hh).symm,rfl,qP trivial ⟨rfl,rfl,rfl⟩ rfl⟩
   ·try simp only [decide_eq_false_iff_not] at h13
    try simp only [zds] at h13
    have hh : hasId id ((es.filter live).getD i (((0 : Int),ByteArray.empty,([] : List Fld)),(0 : Int))) = false:=(by rw [hg];exact decide_eq_false h13);refine qL ?_;refine qI ?_;refine zob ?_;exact ⟨(i + 1,0),⟨rfl,rfl,by rw [take_any _ (hasId id) (((0 : Int),ByteArray.empty,([] : List Fld)),(0 : Int)) i hi,hn,hh];rfl⟩,qP trivial ⟨rfl,rfl,rfl⟩ rfl⟩
  ·intro x hp;obtain ⟨i,v⟩:=x;obtain ⟨h1,h2,hn⟩:=hp;simp only at h1 h2 hn;subst h1 h2;refine qB ?_;refine qM ?_;rw [itEs_len,List.take_length] at hn;rw [show plcL es id = -1 from ixOf_none hn];exact rfl
  ·intro j x hp;obtain ⟨i,v⟩:=x;have hp : v = plcL es id:=hp;subst hp;refine qM ?_;exact rfl
theorem copyL_o {k : Nat} (es : List Ent) (n m : Int) (hl : es.length ≤ 1000000) : yE Tryz.prog 68 [.one (.adk k (rLst k) (es,n,m))] [] 0 (.one (.own 1 0)) [(1,.box 134 [.vec 0,.lit (.int .i64 n),.lit (.int .i64 m)]),(0,.vec 138 rEnt es)] 2:=by
  have hcl:=cloneE_o (k:=k) es hl;refine yC (rs:=[2]) Tryz.func68 rfl rfl rfl teOk (by decide) rfl ?_;refine qB ?_;refine qJ ?_;refine qB ?_;refine qK rfl (fun h4=>?_) (fun h4=>?_)
  ·try simp only [zbq] at h4
   try simp only [zds] at h4
   simp at h4
  ·try simp only [zbq] at h4
   try simp only [zds] at h4
   refine qL ?_;refine qJ ?_;refine yK rfl ?_;refine qN 0 rfl ?_;refine qN 1 rfl ?_;refine qN 2 rfl ?_;refine qN 5 rfl ?_;refine qN 6 rfl ?_;refine qN 7 rfl ?_;refine qN 9 rfl ?_;refine qN 10 rfl ?_;refine qN 11 rfl ?_;refine qF [3,8,12] ?_;refine zai ?_ ?_
   ·refine qF [4,8,12] ?_;refine zai ?_ ?_
    ·refine Or.inr (Or.inl (zei [] (zei [] (zei _ (zei _ (zei _ (zei _ (zei _ (zai (hcl) (zai rfl (zai True.intro (zai rfl ?_))))))))))));refine qF [8,12] ?_;refine zai ?_ ?_
     ·refine qF [12] ?_;refine qF [13] ?_;refine qF [14] ?_;refine qN 15 rfl ?_;refine qS ?_;refine qM ?_;exact ⟨rfl,⟨rfl,rfl⟩,rfl⟩
     ·refine qF [8] ?_;refine qF [13] ?_;refine qF [14] ?_;refine qN 15 rfl ?_;refine qS ?_;refine qM ?_;exact ⟨rfl,⟨rfl,rfl⟩,rfl⟩
    refine zai ?_ ?_
    ·refine qF [4,12] ?_;refine zai ?_ ?_
     ·refine Or.inr (Or.inl (zei [] (zei [] (zei _ (zei _ (zei _ (zei _ (zei _ (zai (hcl) (zai rfl (zai True.intro (zai rfl ?_))))))))))));refine qF [12] ?_;refine qF [13] ?_;refine qF [14] ?_;refine qN 15 rfl ?_;refine qS ?_;refine qM ?_;exact ⟨rfl,⟨rfl,rfl⟩,rfl⟩
     ·refine qF [4] ?_;refine Or.inr (Or.inl (zei [] (zei [] (zei _ (zei _ (zei _ (zei _ (zei _ (zai (hcl) (zai rfl (zai True.intro (zai rfl ?_))))))))))));refine qF [13] ?_;refine qF [14] ?_;refine qN 15 rfl ?_;refine qS ?_;refine qM ?_;exact ⟨rfl,⟨rfl,rfl⟩,rfl⟩
    ·refine qF [4,8] ?_;refine zai ?_ ?_
     ·refine Or.inr (Or.inl (zei [] (zei [] (zei _ (zei _ (zei _ (zei _ (zei _ (zai (hcl) (zai rfl (zai True.intro (zai rfl ?_))))))))))));refine qF [8] ?_;refine qF [13] ?_;refine qF [14] ?_;refine qN 15 rfl ?_;refine qS ?_;refine qM ?_;exact ⟨rfl,⟨rfl,rfl⟩,rfl⟩
     ·refine qF [4] ?_;refine Or.inr (Or.inl (zei [] (zei [] (zei _ (zei _ (zei _ (zei _ (zei _ (zai (hcl) (zai rfl (zai True.intro (zai rfl ?_))))))))))));refine qF [13] ?_;refine qF [14] ?_;refine qN 15 rfl ?_;refine qS ?_;refine qM ?_;exact ⟨rfl,⟨rfl,rfl⟩,rfl⟩
   refine zai ?_ ?_
   ·refine qF [3,12] ?_;refine zai ?_ ?_
    ·refine qF [4,12] ?_;refine zai ?_ ?_
     ·refine Or.inr (Or.inl (zei [] (zei [] (zei _ (zei _ (zei _ (zei _ (zei _ (zai (hcl) (zai rfl (zai True.intro (zai rfl ?_))))))))))));refine qF [12] ?_;refine qF [13] ?_;refine qF [14] ?_;refine qN 15 rfl ?_;refine qS ?_;refine qM ?_;exact ⟨rfl,⟨rfl,rfl⟩,rfl⟩
     ·refine qF [4] ?_;refine Or.inr (Or.inl (zei [] (zei [] (zei _ (zei _ (zei _ (zei _ (zei _ (zai (hcl) (zai rfl (zai True.intro (zai rfl ?_))))))))))));refine qF [13] ?_;refine qF [14] ?_;refine qN 15 rfl ?_;refine qS ?_;refine qM ?_;exact ⟨rfl,⟨rfl,rfl⟩,rfl⟩
    ·refine qF [3] ?_;refine qF [4] ?_;refine Or.inr (Or.inl (zei [] (zei [] (zei _ (zei _ (zei _ (zei _ (zei _ (zai (hcl) (zai rfl (zai True.intro (zai rfl ?_))))))))))));refine qF [13] ?_;refine qF [14] ?_;refine qN 15 rfl ?_;refine qS ?_;refine qM ?_;exact ⟨rfl,⟨rfl,rfl⟩,rfl⟩
   ·refine qF [3,8] ?_;refine zai ?_ ?_
    ·refine qF [4,8] ?_;refine zai ?_ ?_
     ·refine Or.inr (Or.inl (zei [] (zei [] (zei _ (zei _ (zei _ (zei _ (zei _ (zai (hcl) (zai rfl (zai True.intro (zai rfl ?_))))))))))));refine qF [8] ?_;refine qF [13] ?_;refine qF [14] ?_;refine qN 15 rfl ?_;refine qS ?_;refine qM ?_;exact ⟨rfl,⟨rfl,rfl⟩,rfl⟩
     ·refine qF [4] ?_;refine Or.inr (Or.inl (zei [] (zei [] (zei _ (zei _ (zei _ (zei _ (zei _ (zai (hcl) (zai rfl (zai True.intro (zai rfl ?_))))))))))));refine qF [13] ?_;refine qF [14] ?_;refine qN 15 rfl ?_;refine qS ?_;refine qM ?_;exact ⟨rfl,⟨rfl,rfl⟩,rfl⟩
    ·refine qF [3] ?_;refine qF [4] ?_;refine Or.inr (Or.inl (zei [] (zei [] (zei _ (zei _ (zei _ (zei _ (zei _ (zai (hcl) (zai rfl (zai True.intro (zai rfl ?_))))))))))));refine qF [13] ?_;refine qF [14] ?_;refine qN 15 rfl ?_;refine qS ?_;refine qM ?_;exact ⟨rfl,⟨rfl,rfl⟩,rfl⟩
theorem refFindAt_c (es : List Ent) (n id : Int) : qX Tryz.prog 126 [.agg (toL rRL (es,n)),ii .i64 id] (ii .i64 (atE es id)):=by
  refine qV (rs:=[4]) Tryz.func126 rfl rfl rfl teOk rfl ?_;refine qB ?_;refine qJ ?_;refine qB ?_;refine qQ ?_;refine qW (fun (i : Nat)=>i ≤ es.length ∧ (es.take i).any (hasId id) = false) (fun (i : Nat)=>[(1,ii .i64 id),(2,.one (.own 0 0)),(5,ii .i64 i)]) (fun (i : Nat)=>[(0,.box 60 (toL rRL (es,n)))]) 1 (fun (i : Nat)=>es.length - i) 0 (⟨Nat.zero_le _,rfl⟩) (qP ⟨rfl,rfl,rfl⟩ rfl rfl) ?_;intro i hI0;obtain ⟨hi,hn⟩:=hI0;refine qJ ?_;refine qB ?_;intro l2_3
  try simp only [zds] at l2_3
  refine zai (fun h=>trivial) ?_;refine zai (fun h=>⟨⟨h,trivial⟩,trivial⟩) ?_;refine zai (by exact fun h=>h) ?_;refine qK rfl (fun h14=>?_) (fun h14=>?_)
  ·try simp only [zbq] at h14
   try simp only [zds] at h14
   have hil : i < es.length:=(by omega);have hid : ¬ id < 1:=(by omega);refine qL ?_;refine qJ ?_;refine qQ ?_;refine qB ?_;refine zob ?_;refine qK rfl (fun h24=>?_) (fun h24=>?_)
   ·try simp only [zbq] at h24
    try simp only [zds] at h24
    refine qB ?_;refine qM ?_;exact qT (by unfold atE;rw [if_neg hid];exact (ixOf_at (((0 : Int),ByteArray.empty,([] : List Fld)),(0 : Int)) hil hn (decide_eq_true h24)).symm)
   ·try simp only [zbq] at h24
    try simp only [zds] at h24
    refine qL ?_;refine qI ?_;refine zob ?_;exact ⟨i + 1,⟨by omega,by rw [take_any es (hasId id) (((0 : Int),ByteArray.empty,([] : List Fld)),(0 : Int)) i hil,hn];exact decide_eq_false h24⟩,by first|omega|(simp <;> omega),qP ⟨rfl,rfl,rfl⟩ rfl rfl⟩
  ·try simp only [zbq] at h14
   try simp only [zds] at h14
   refine yA ?_;refine qB ?_;refine qM ?_
   by_cases hid : id < 1
   exact qT (by unfold atE;rw [if_pos hid]);have e : i = es.length:=(by omega);subst e;rw [List.take_length] at hn;exact qT (by unfold atE;rw [if_neg hid];exact (ixOf_none hn).symm)
theorem refChk_c (l : List Fld) (hl : yO l) : qX Tryz.prog 127 [.one (.sl rFld l)] (.tup [(false,[.lit (.int .i64 (chkR l).1)]),(false,[.lit (.int .i64 (chkR l).2)])]):=by
  have hln:=hl.1;refine qV (rs:=[2,3]) Tryz.func127 rfl rfl rfl teOk rfl ?_;refine qB ?_;refine qJ ?_;refine qB ?_;intro l1_1
  try simp only [zds] at l1_1
  refine qK rfl (fun h8=>?_) (fun h8=>?_)
  ·try simp only [decide_eq_true_eq] at h8
   try simp only [zds] at h8
   refine qB ?_;refine qM ?_;have e : chkR l = (-9,2):=(by unfold chkR;rw [if_pos (List.eq_nil_of_length_eq_zero (by omega))]);rw [e];rfl
  ·try simp only [decide_eq_false_iff_not] at h8
   try simp only [zds] at h8
   refine qL ?_;refine qJ ?_;refine qB ?_;intro l3_1
   try simp only [zds] at l3_1
   refine qK rfl (fun h11=>?_) (fun h11=>?_)
   ·try simp only [decide_eq_true_eq] at h11
    try simp only [zds] at h11
    refine qB ?_;refine qM ?_;have e : chkR l = (-9,11):=(by unfold chkR;rw [if_neg (fun e=>h8 (by rw [e];rfl)),if_pos (by omega)]);rw [e];rfl
   ·try simp only [decide_eq_false_iff_not,Int.not_lt] at h11
    try simp only [zds] at h11
    refine qL ?_;refine qJ ?_;refine qB ?_;refine qQ ?_;refine qW (fun (i : Nat)=>i ≤ l.length ∧ ∀ f ∈ l.take i,yZ f = 0) (fun (i : Nat)=>[(0,.one (.sl rFld l)),(4,ii .i64 i)]) (fun (i : Nat)=>[]) 0 (fun (i : Nat)=>l.length - i) 0 (⟨Nat.zero_le _,by simp⟩) (qP ⟨rfl,rfl⟩ trivial rfl) ?_;intro i hI0;obtain ⟨hi,hall⟩:=hI0;refine qJ ?_;refine qB ?_;intro l6_2
    try simp only [zds] at l6_2
    refine qK rfl (fun h15=>?_) (fun h15=>?_)
    ·try simp only [decide_eq_true_eq] at h15
     try simp only [zds] at h15
     have hlt : i < l.length:=(by omega);have hm:=hl.2 _ (yT hlt (ByteArray.empty,ByteArray.empty));have hne : l ≠ []:=(fun e=>by rw [e] at hlt;simp at hlt);refine qL ?_;refine qJ ?_;refine qQ ?_;refine qB ?_;refine zob ?_;refine Or.inl ?_;refine zai (rfl) ?_;refine zei _ (zai (refCheck_c (l.getD i (ByteArray.empty,ByteArray.empty)) (by omega)) ?_);refine qB ?_;refine qK rfl (fun h24=>?_) (fun h24=>?_)
     ·try simp only [decide_eq_false_iff_not,Bool.not_eq_true'] at h24
      try simp only [zds] at h24
      refine qB ?_;refine qM ?_;have e : chkR l = ((i : Int),yZ (l.getD i (ByteArray.empty,ByteArray.empty))):=(by unfold chkR;rw [if_neg hne,if_neg (by omega),badAt_hit l i 0 hlt hall h24,Int.zero_add]);rw [e];rfl
     ·try simp only [decide_eq_true_eq,Bool.not_eq_false'] at h24
      try simp only [zds] at h24
      refine qL ?_;refine qI ?_;refine zob ?_;exact ⟨i + 1,⟨by omega,by rw [← yL (ByteArray.empty,ByteArray.empty) hlt];intro f hf;rcases List.mem_append.1 hf with h|h;exact hall f h;rw [List.mem_singleton.1 h];exact h24⟩,by first|omega|(simp <;> omega),qP ⟨rfl,(qT (by omega))⟩ trivial rfl⟩
    ·try simp only [decide_eq_false_iff_not,Int.not_lt] at h15
     try simp only [zds] at h15
     refine yA ?_;refine qB ?_;refine qM ?_;rw [List.take_of_length_le (by omega)] at hall;have e : chkR l = (-9,0):=(by unfold chkR;rw [if_neg (fun e=>h8 (by rw [e];rfl)),if_neg (by omega)];exact badAt_no l 0 hall);rw [e];rfl
abbrev zRL : List C:=[.lit (.slice none 0 0),.lit (.int .i64 0)]
theorem refItem_c (f : List Fld) (hg : ∀ x ∈ f,yZ x = 0) (hn : f.length ≤ 1000) : qX Tryz.prog 128 [.one (.sl rFld f)] (.agg (toL rItm (xS f))):=by
  refine yV (rs:=[.cell 2 136]) Tryz.func128 rfl rfl rfl teOk rfl ?_;refine qB ?_;refine qB ?_;refine Or.inl ?_;refine zai (rfl) ?_;refine zei _ (zai (refFold_c f hg hn) ?_);refine qM ?_;rfl
end Q
end Ab
end Go.Proofs.YtojipboabgebfaaGreatDoor
