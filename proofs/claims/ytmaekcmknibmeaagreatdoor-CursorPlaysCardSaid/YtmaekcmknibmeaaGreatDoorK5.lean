/-
  The texts of this proof, joined: abstract values, the library, the functions of the program and what they compute (part 5). No condition.
-/
import Derived.Lib.UnsafeStr
import Derived.Shelf.RegionOpenPlain
import Derived.Shelf.Spec.SlicesInsert
import Derived.Lib.AppendZerosOnto
import Derived.Laws.NewBlocks
import Derived.Lib.SplitLaws
import Derived.Lib.Join
import Derived.Test.YtmaekcmknibmeaaGreatDoorK1
import Derived.Test.YtmaekcmknibmeaaGreatDoorK2
import Derived.Test.YtmaekcmknibmeaaGreatDoorK3
import Derived.Test.YtmaekcmknibmeaaGreatDoorK4
namespace Go.Proofs.YtmaekcmknibmeaaGreatDoor
open Go.RowKit
namespace Ab
set_option maxRecDepth 100000
namespace Q
structure SpI (s : ByteArray) (i at_ : Nat) (out : List Lne) : Prop where
  ai : at_ ≤ i
  is : i ≤ s.size
  no : (10 : UInt8) ∉ ((ls s).drop at_).take (i - at_)
  ol : out.length ≤ at_
  eq : ∃ f,((ls s).drop at_).length ≤ f ∧ out ++ jD f s.size out.length ((ls s).drop at_) = yQ s
theorem sp_0 (s : ByteArray) : SpI s 0 0 []:=⟨Nat.le_refl _,Nat.zero_le _,by simp,Nat.le_refl _,s.size,by rw [List.drop_zero,show (ls s).length = s.size from (yC s).symm];exact Nat.le_refl _,rfl⟩
theorem sp_no {s : ByteArray} {i a : Nat} {out : List Lne} (h : SpI s i a out) (hi : i < s.size) (hc : ¬ (((ls s).getD i 0).toNat : Int) = 10) : SpI s (i + 1) a out:=by
  have hl : i < (ls s).length:=by rw [show (ls s).length = s.size from (yC s).symm];exact hi
  have ha:=h.ai;refine ⟨by omega,hi,?_,h.ol,h.eq⟩;rw [show i + 1 - a = (i - a) + 1 from by omega];refine no_step h.no (by rw [List.length_drop];omega) ?_;have : ((ls s).drop a).getD (i - a) 0 = (ls s).getD i 0:=by
    simp only [List.getD,List.getElem?_drop];rw [show a + (i - a) = i from by omega]
  rw [this];exact hc
theorem sp_yes {s : ByteArray} {i a : Nat} {out : List Lne} (h : SpI s i a out) (hi : i < s.size) (hc : (((ls s).getD i 0).toNat : Int) = 10) : SpI s (i + 1) (i + 1) (out ++ [((out.length : Int),(a : Int),s.extract a i,true)]):=by
  have hl : i < (ls s).length:=by rw [show (ls s).length = s.size from (yC s).symm];exact hi
  have ha:=h.ai;have ho:=h.ol;obtain ⟨f,hf,e⟩:=h.eq;have hb : (ls s).getD i 0 = 10:=by
    apply UInt8.toNat_inj.1;have : ((ls s).getD i 0).toNat = 10:=by omega
    rw [this];rfl
  have hr : (ls s).drop a = ((ls s).drop a).take (i - a) ++ 10 :: (ls s).drop (i + 1):=by
    conv=>lhs;rw [← List.take_append_drop (i - a) ((ls s).drop a)]
    congr 1
    rw [List.drop_drop,show a + (i - a) = i from by omega,List.drop_eq_getElem_cons hl]
    congr 1
    rw [← hb,List.getD_eq_getElem?_getD,List.getElem?_eq_getElem hl];rfl
  have hc2:=cut_at (r:=(ls s).drop (i + 1)) h.no;rw [← hr] at hc2;obtain ⟨y,w,hy⟩ : ∃ y w,(ls s).drop a = y :: w:=by
    rw [hr];cases ((ls s).drop a).take (i - a) <;> exact ⟨_,_,rfl⟩
  obtain ⟨f',rfl⟩ : ∃ f',f = f' + 1:=⟨f - 1,by rw [hy,List.length_cons] at hf;omega⟩;have hlen : ((ls s).drop a).length = s.size - a:=by rw [List.length_drop,show (ls s).length = s.size from (yC s).symm]
  refine ⟨Nat.le_refl _,hi,by simp,by rw [List.length_append,List.length_singleton];omega,f',?_,?_⟩
  · rw [List.length_drop,show (ls s).length = s.size from (yC s).symm];omega
  · rw [← e,List.append_assoc]
    congr 1
    rw [hy] at hc2 hlen ⊢;rw [gS,hc2,hlen];simp only [List.singleton_append,List.length_append,List.length_singleton]
    congr 1
    refine Prod.ext rfl (Prod.ext (by simp only;omega) (Prod.ext ?_ rfl));show s.extract a i = bytes ((y :: w).take (i - a));rw [← hy];rw [← kA (s.extract a i)]
    congr 1
    exact uW s a i
theorem sp_end {s : ByteArray} {a : Nat} {out : List Lne} (h : SpI s s.size a out) : (a < s.size → out ++ [((out.length : Int),(a : Int),s.extract a s.size,false)] = yQ s) ∧ (¬ a < s.size → out = yQ s):=by
  obtain ⟨f,hf,e⟩:=h.eq;have hlen : ((ls s).drop a).length = s.size - a:=by rw [List.length_drop,show (ls s).length = s.size from (yC s).symm]
  have hno:=h.no;rw [List.take_of_length_le (by omega)] at hno;refine ⟨fun hlt=>?_,fun hge=>?_⟩
  · rw [← e]
    congr 1
    obtain ⟨y,w,hy⟩ : ∃ y w,(ls s).drop a = y :: w:=by
      cases e2 : (ls s).drop a with
      | nil=>rw [e2] at hlen;simp at hlen;omega
      | cons y w=>exact ⟨_,_,rfl⟩
    obtain ⟨f',rfl⟩ : ∃ f',f = f' + 1:=⟨f - 1,by rw [hy,List.length_cons] at hf;omega⟩;have hx : s.extract a s.size = bytes ((ls s).drop a):=ext_drop s a;rw [hx];rw [hy] at hno hlen ⊢;rw [gS,bT hno,hlen];rw [show jD f' s.size ((out.length : Int) + 1) (y :: w,([] : List UInt8),false).2.1 = [] from by cases f' <;> rfl]
    congr 1
    exact Prod.ext rfl (Prod.ext (by simp only;omega) rfl)
  · have : (ls s).drop a = []:=List.eq_nil_of_length_eq_zero (by omega);rw [← e,this];cases f <;> simp [jD]
theorem refSplit_c (s : ByteArray) (hs : s.size ≤ 1000000) : qX Tryz.prog 50 [is s] (.one (.sl rLne (yQ s))):=by
  refine qW (rs:=[2]) Tryz.func50 rfl rfl rfl teOk rfl ?_;refine qB ?_;refine qB ?_;refine qI ?_;refine xE 3 133 rLne rfl ?_;refine qH ?_;refine qI ?_;refine qB ?_;refine qN ?_;refine qR (fun (u : Nat × Nat × List Lne)=>SpI s u.1 u.2.1 u.2.2) (fun (u : Nat × Nat × List Lne)=>[(0,is s),(3,.one (.vec 0)),(4,ii .i64 u.2.1),(5,ii .i64 u.1)]) (fun (u : Nat × Nat × List Lne)=>[(0,.vec 133 rLne u.2.2)]) 1 (fun (u : Nat × Nat × List Lne)=>s.size - u.1) (0,0,[]) (sp_0 s) (qP ⟨rfl,rfl,rfl,rfl⟩ rfl rfl) ?_;intro u hI0;obtain ⟨i,a,out⟩:=u;have hI : SpI s i a out:=hI0;have h1:=hI.ai;have h2:=hI.is;have h3:=hI.ol;refine qI ?_;refine qB ?_;refine qJ rfl (fun h9=>?_) (fun h9=>?_)
  ·try simp only [decide_eq_true_eq] at h9
   try simp only [zds] at h9
   refine qL ?_;refine qI ?_;refine qN ?_;refine qB ?_;refine zob ?_;refine qJ rfl (fun h15=>?_) (fun h15=>?_)
   ·try simp only [decide_eq_true_eq] at h15
    try simp only [Int.toNat_natCast] at h15
    refine qB ?_;intro l7_2;refine zai (by first|omega|assumption|decide|(simp only [];omega)|(simp <;> omega)) ?_;refine zai (by first|exact qQ (by first|omega|(simp only [List.length_cons,List.length_nil];omega)|(simp;omega)) (by decide)|omega|assumption|decide|(simp only [zds];omega)|(simp <;> omega)) ?_;refine qH ?_;refine zob ?_;refine qH ?_;refine zob ?_;exact ⟨(i + 1,i + 1,out ++ [((out.length : Int),(a : Int),s.extract a i,true)]),sp_yes hI (by omega) h15,by first|omega|(simp <;> omega),qP ⟨rfl,rfl,rfl,rfl⟩ rfl rfl⟩
   ·try simp only [decide_eq_false_iff_not] at h15
    try simp only [Int.toNat_natCast] at h15
    refine qL ?_;refine qH ?_;refine zob ?_;exact ⟨(i + 1,a,out),sp_no hI (by omega) h15,by first|omega|(simp <;> omega),qP ⟨rfl,rfl,rfl,rfl⟩ rfl rfl⟩
  ·try simp only [decide_eq_false_iff_not,Int.not_lt] at h9
   try simp only [zds] at h9
   refine qT ?_;have hie : i = s.size:=(by omega);subst hie;have hE:=sp_end hI;refine qI ?_;refine qB ?_;refine qJ rfl (fun h32=>?_) (fun h32=>?_)
   ·try simp only [decide_eq_true_eq] at h32
    try simp only [zds] at h32
    refine qH ?_;intro l10_2;refine zai (by first|omega|assumption|decide|(simp only [];omega)|(simp <;> omega)) ?_;refine zai (by first|exact qQ (by first|omega|(simp only [List.length_cons,List.length_nil];omega)|(simp;omega)) (by decide)|omega|assumption|decide|(simp only [zds];omega)|(simp <;> omega)) ?_;refine qB ?_;refine qM ?_;exact sl_eq (hE.1 (by omega))
   ·try simp only [decide_eq_false_iff_not,Int.not_lt] at h32
    try simp only [zds] at h32
    refine qL ?_;refine qB ?_;refine qM ?_;exact sl_eq (hE.2 (by omega))
theorem refKindL_c (s : ByteArray) (hs : s.size ≤ 1000000000) : qX Tryz.prog 51 [is s] (ii .i64 (yJ (ls s))):=cF s hs
theorem beh_eq (k : List Int) (i : Nat) : (decide (0 < (i : Int)) && (decide (k.getD ((i : Int) - 1).toNat (Rd.int IntKind.i64).dflt = 4) || decide (k.getD ((i : Int) - 1).toNat (Rd.int IntKind.i64).dflt = 3))) = (decide (0 < i) && (decide (k.getD (i - 1) 0 = 4) || decide (k.getD (i - 1) 0 = 3))):=by
  have h : ((i : Int) - 1).toNat = i - 1:=by omega
  have h0 : decide (0 < (i : Int)) = decide (0 < i):=decide_eq_decide.2 (by omega);rw [h,h0];rfl
theorem behind_c (k : List Int) (i : Nat) (hi : i < k.length) (hk : k.length ≤ 1000000) : qX Tryz.prog 86 [.one (.sl (.int .i64) k),ii .i64 i] (ib (decide (0 < i) && (decide (k.getD (i - 1) 0 = 4) || decide (k.getD (i - 1) 0 = 3)))):=by
  refine qW (rs:=[4]) Tryz.func86 rfl rfl rfl teOk rfl ?_;refine qB ?_;refine qB ?_;refine zai (fun h=>trivial) ?_;refine zai (fun h=>trivial) ?_;refine zai (fun h=>⟨⟨⟨h,trivial⟩,trivial⟩,by first|omega|decide|(simp only [zds];omega)|(have h9:=of_decide_eq_true h;omega)|(simp [gq] at h;omega)⟩) ?_;refine zai (fun h=>⟨⟨⟨h,trivial⟩,⟨h,trivial⟩,trivial⟩,by first|omega|decide|(simp only [zds];omega)|(have h9:=of_decide_eq_true h;omega)|(simp [gq] at h;omega)⟩) ?_;refine zai (fun h=>⟨⟨h,trivial⟩,trivial⟩) ?_;refine zai (fun h=>⟨⟨h,trivial⟩,trivial⟩) ?_;refine zai (fun h=>⟨⟨h,trivial⟩,trivial⟩) ?_;refine zai (fun h=>trivial) ?_;refine zai (fun h=>trivial) ?_;refine zai (fun h=>⟨⟨⟨h,trivial⟩,trivial⟩,by first|omega|decide|(simp only [zds];omega)|(have h9:=of_decide_eq_true h;omega)|(simp [gq] at h;omega)⟩) ?_;refine zai (fun h=>⟨⟨⟨h,trivial⟩,⟨h,trivial⟩,trivial⟩,by first|omega|decide|(simp only [zds];omega)|(have h9:=of_decide_eq_true h;omega)|(simp [gq] at h;omega)⟩) ?_;refine zai (fun h=>⟨⟨h,trivial⟩,trivial⟩) ?_;refine zai (fun h=>⟨⟨h,trivial⟩,trivial⟩) ?_;refine zai (fun h=>⟨⟨⟨h,trivial⟩,trivial⟩,by first|exact fun h2=>h2|(intro h2;rw [h,h2];rfl)|(intro h2;cases h2)|(intro h2;simp_all [gq])⟩) ?_;refine zai (by exact fun h=>h) ?_;refine qM ?_;exact xH (beh_eq k i)
theorem vJ {α : Type} {l : List α} {i : Nat} (h : i < l.length) (d : α) : l[i] = l.getD i d:=by
  rw [List.getD_eq_getElem?_getD,List.getElem?_eq_getElem h];rfl
theorem wN {L : List Lne} {k : List Int} (hk : k = L.map (fun l=>yJ (ls l.2.2.1))) {n : Nat} (h : n < L.length) : k.getD n 0 = yJ (ls (L.getD n ((0 : Int),(0 : Int),ByteArray.empty,false)).2.2.1):=by
  subst hk;simp [List.getD,h]
theorem tw_stop {L : List Lne} {j : Nat} (h : (L.take j).all more = true) (hs : L.length ≤ j ∨ (j < L.length ∧ more (L.getD j ((0 : Int),(0 : Int),ByteArray.empty,false)) = false)) : L.takeWhile more = L.take j:=by
  conv=>lhs;rw [← List.take_append_drop j L]
  rw [List.takeWhile_append_of_pos (by simpa [List.all_eq_true] using h)];have : (L.drop j).takeWhile more = []:=by
    rcases hs with hs|⟨hs,hm⟩
    · rw [List.drop_eq_nil_of_le hs];rfl
    · rw [List.drop_eq_getElem_cons hs,List.takeWhile_cons_of_neg];rw [show L[j] = L.getD j ((0 : Int),(0 : Int),ByteArray.empty,false) from by simp [List.getD,hs],hm]
      decide
  rw [this,List.append_nil]
theorem iB {L : List Lne} {i j : Nat} : (L.drop (i + 1)).getD j ((0 : Int),(0 : Int),ByteArray.empty,false) = L.getD (i + 1 + j) ((0 : Int),(0 : Int),ByteArray.empty,false):=by
  simp only [List.getD,List.getElem?_drop]
theorem tw_more {L : List Lne} {i j : Nat} (h : ((L.drop (i + 1)).take j).all more = true) (hj : j < L.length - (i + 1)) (hm : yJ (ls (L.getD (i + 1 + j) ((0 : Int),(0 : Int),ByteArray.empty,false)).2.2.1) = 3) : ((L.drop (i + 1)).take (j + 1)).all more = true:=by
  have hlt : j < (L.drop (i + 1)).length:=by rw [List.length_drop];exact hj
  rw [List.take_succ_eq_append_getElem hlt,List.all_append,h];rw [vJ hlt ((0 : Int),(0 : Int),ByteArray.empty,false),iB];simp only [List.all_cons,List.all_nil,Bool.and_true,Bool.true_and];exact decide_eq_true hm
theorem said_next {L : List Lne} {i j : Nat} (hj : j < L.length - (i + 1)) : ((L.drop (i + 1)).take (j + 1)).map (·.2.2.1) = ((L.drop (i + 1)).take j).map (·.2.2.1) ++ [(L.getD (i + 1 + j) ((0 : Int),(0 : Int),ByteArray.empty,false)).2.2.1]:=by
  have hlt : j < (L.drop (i + 1)).length:=by rw [List.length_drop];exact hj
  rw [List.take_succ_eq_append_getElem hlt,List.map_append];rw [vJ hlt ((0 : Int),(0 : Int),ByteArray.empty,false),iB];rfl
theorem said_c (L : List Lne) (k : List Int) (hk : k = L.map (fun l=>yJ (ls l.2.2.1))) (i : Nat) (hi : i < L.length) (hL : L.length ≤ 1000000) : qX Tryz.prog 54 [.one (.sl rLne L),.one (.sl (.int .i64) k),ii .i64 i] (.one (.sl .str (gB (L.getD i ((0 : Int),(0 : Int),ByteArray.empty,false)) (L.drop (i + 1))))):=by
  have hkl : k.length = L.length:=by rw [hk,List.length_map]
  refine qW (rs:=[6]) Tryz.func54 rfl rfl rfl teOk rfl ?_;refine qB ?_;refine qB ?_;refine zob ?_;refine qI ?_;refine qB ?_;refine zob ?_;refine qN ?_;refine qR (fun (j : Nat)=>j ≤ L.length - (i + 1) ∧ ((L.drop (i + 1)).take j).all more = true) (fun (j : Nat)=>[(0,.one (.sl rLne L)),(1,.one (.sl (.int .i64) k)),(7,.one (.vec 0)),(8,ii .i64 ((i : Int) + 1 + j))]) (fun (j : Nat)=>[(0,.vec 9 .str ((L.getD i ((0 : Int),(0 : Int),ByteArray.empty,false)).2.2.1 :: ((L.drop (i + 1)).take j).map (·.2.2.1)))]) 1 (fun (j : Nat)=>L.length - (i + 1) - j) 0 (⟨Nat.zero_le _,by simp⟩) (qP ⟨rfl,rfl,rfl,(qS (by omega))⟩ rfl rfl) ?_;intro j hI0;obtain ⟨hj,hall⟩:=hI0;have ej : ((i : Int) + 1 + j).toNat = i + 1 + j:=(by omega);refine qI ?_;refine qB ?_;intro l3_2
  try simp only [zds] at l3_2
  refine zai (fun h=>trivial) ?_;refine zai (fun h=>trivial) ?_;refine zai (fun h=>⟨⟨⟨h,trivial⟩,⟨h,trivial⟩,trivial⟩,by first|omega|decide|(simp only [zds];omega)|(have h9:=of_decide_eq_true h;omega)|(simp [gq] at h;omega)⟩) ?_;refine zai (fun h=>⟨⟨h,trivial⟩,trivial⟩) ?_;refine zai (fun h=>⟨⟨h,trivial⟩,trivial⟩) ?_;refine zai (by exact fun h=>h) ?_;refine qJ rfl (fun h27=>?_) (fun h27=>?_)
  ·try simp only [decide_eq_true_eq,Bool.and_eq_true] at h27
   try simp only [qD] at h27
   have hjl : j < L.length - (i + 1):=(by omega);rw [ej,wN hk (by omega)] at h27;refine qL ?_;refine qI ?_;refine qN ?_;refine qH ?_;refine zob ?_;refine zai (by first|exact qQ (by first|omega|(simp only [List.length_cons,List.length_nil,List.length_map,List.length_take,List.length_drop];omega)|(simp;omega)) (by decide)|omega|assumption|decide|(simp only [zds];omega)|(simp <;> omega)) ?_;refine qH ?_;refine zob ?_;exact ⟨j + 1,⟨by omega,tw_more hall hjl h27.2⟩,by first|omega|(simp <;> omega),qP ⟨rfl,rfl,rfl,(qS (by omega))⟩ (qV (by rw [ej,said_next hjl];rfl)) rfl⟩
  ·try simp only [decide_eq_false_iff_not,Bool.and_eq_false_iff,Int.not_lt] at h27
   try simp only [qD] at h27
   rw [ej] at h27;refine qT ?_;refine qB ?_;refine qM ?_;have htw:=tw_stop hall (by rcases h27 with h27|h27;exact .inl (by rw [List.length_drop];omega);by_cases hjl : j < L.length - (i + 1);exact .inr ⟨by rw [List.length_drop];exact hjl,by rw [iB];rw [wN hk (by omega)] at h27;unfold more;exact decide_eq_false h27⟩;exact .inl (by rw [List.length_drop];omega));unfold gB;rw [htw];rfl
theorem unfold_any (l : List ByteArray) (hl : wQ l) : qX Tryz.prog 53 [.one (.sl .str l)] (.tup [(true,[.lit (.string (fldOf l).1),.lit (.string (fldOf l).2)]),(false,[.lit (.int .i64 (yU (l.map ls)).2)])]):=by
  cases l with
  | nil=>exact refUnfold_e
  | cons a r=>exact refUnfold_c a r hl
theorem wrong_c (L : List Lne) (k : List Int) (hk : k = L.map (fun l=>yJ (ls l.2.2.1))) (i : Nat) (hi : i < L.length) (hL : L.length ≤ 1000000) (hz : wQ (gB (L.getD i ((0 : Int),(0 : Int),ByteArray.empty,false)) (L.drop (i + 1)))) (fields recs : Int) (bh : Bool) (hbh : (decide (0 < i) && (decide (k.getD (i - 1) 0 = 4) || decide (k.getD (i - 1) 0 = 3))) = bh) : qX Tryz.prog 52 [.one (.sl rLne L),.one (.sl (.int .i64) k),ii .i64 i,ii .i64 fields,ii .i64 recs] (ii .i64 (xQ bh (L.getD i ((0 : Int),(0 : Int),ByteArray.empty,false)) (L.drop (i + 1)) fields recs)):=by
  have hkl : k.length = L.length:=by rw [hk,List.length_map]
  have hki:=wN hk hi;have hbc:=behind_c k i (by omega) (by omega);rw [hbh] at hbc;refine qW (rs:=[10]) Tryz.func52 rfl rfl rfl teOk rfl ?_;refine qB ?_;refine qI ?_;refine qB ?_;refine zob ?_;refine zai (fun h=>trivial) ?_;refine zai (fun h=>trivial) ?_;refine zai (fun h=>⟨⟨⟨h,trivial⟩,⟨h,trivial⟩,trivial⟩,by first|omega|decide|(simp only [zds];omega)|(have h9:=of_decide_eq_true h;omega)|(simp [gq] at h;omega)⟩) ?_;refine zai (fun h=>⟨⟨h,trivial⟩,trivial⟩) ?_;refine zai (fun h=>⟨⟨h,trivial⟩,trivial⟩) ?_;refine zai (fun h=>⟨⟨h,trivial⟩,trivial⟩) ?_;refine zai (fun h=>trivial) ?_;refine zai (fun h=>trivial) ?_;refine Or.inl ?_;refine zai (rfl) ?_;refine zei _ (zai (fun h=>⟨⟨⟨h,trivial⟩,⟨h,trivial⟩,trivial⟩,hbc⟩) ?_);refine zai (fun h=>⟨⟨h,trivial⟩,trivial⟩) ?_;refine zai (fun h=>⟨⟨⟨h,trivial⟩,trivial⟩,by first|exact fun h2=>h2|(intro h2;rw [h,h2];rfl)|(intro h2;cases h2)|(intro h2;simp_all [gq])⟩) ?_;refine zai (by first|(intro h;rw [h];rfl)|(intro h;cases h)) ?_;refine zai (fun h=>trivial) ?_;refine zai (fun h=>trivial) ?_;refine zai (fun h=>⟨⟨⟨h,trivial⟩,⟨h,trivial⟩,trivial⟩,by first|omega|decide|(simp only [zds];omega)|(have h9:=of_decide_eq_true h;omega)|(simp [gq] at h;omega)⟩) ?_;refine zai (fun h=>⟨⟨h,trivial⟩,trivial⟩) ?_;refine zai (fun h=>⟨⟨h,trivial⟩,trivial⟩) ?_;refine zai (fun h=>⟨⟨h,trivial⟩,trivial⟩) ?_;refine zai (by first|(intro h;rw [h];rfl)|(intro h;cases h)) ?_;refine qJ rfl (fun h38=>?_) (fun h38=>?_)
  ·try simp only [decide_eq_true_eq,Bool.and_eq_true,Bool.not_eq_true',Bool.or_eq_true] at h38
   try simp only [Int.toNat_natCast,qF,qE,qD,qC] at h38
   rw [hki] at h38;refine qB ?_;refine qM ?_;refine qS (Eq.symm ?_);unfold xQ;exact if_pos (h38.elim (fun h=>h.elim .inl (fun h=>.inr (.inl h))) (fun h=>.inr (.inr h)))
  ·try simp only [decide_eq_false_iff_not,Bool.not_eq_false',Bool.or_eq_false_iff,Bool.and_eq_false_iff] at h38
   try simp only [Int.toNat_natCast,qF,qE,qD,qC] at h38
   rw [hki] at h38;have hneg : ¬ (yJ (ls (L.getD i ((0 : Int),(0 : Int),ByteArray.empty,false)).2.2.1) = 5 ∨ (yJ (ls (L.getD i ((0 : Int),(0 : Int),ByteArray.empty,false)).2.2.1) = 3 ∧ bh = false) ∨ (L.getD i ((0 : Int),(0 : Int),ByteArray.empty,false)).2.2.2 = false):=(by rintro (h|⟨h,h'⟩|h);exact h38.1.1 h;rcases h38.1.2 with g|g;exact g h;rw [g] at h';cases h';rw [h38.2] at h;cases h);refine qL ?_;refine qI ?_;refine qB ?_;refine zob ?_;refine qJ rfl (fun h43=>?_) (fun h43=>?_)
   ·try simp only [decide_eq_false_iff_not,Bool.not_eq_true'] at h43
    try simp only [Int.toNat_natCast,qD] at h43
    rw [hki] at h43;refine qB ?_;refine qM ?_;refine qS (Eq.symm ?_);unfold xQ;rw [if_neg hneg,if_pos h43]
   ·try simp only [decide_eq_true_eq,Bool.not_eq_false'] at h43
    try simp only [Int.toNat_natCast,qD] at h43
    rw [hki] at h43;refine qL ?_;refine qI ?_;refine qB ?_;refine Or.inl ?_;refine zai (rfl) ?_;refine zei _ (zai (said_c L k hk i hi hL) ?_);refine Or.inl ?_;refine zai (rfl) ?_;refine zei _ (zai (unfold_any _ hz) ?_);refine qB ?_;refine qJ rfl (fun h53=>?_) (fun h53=>?_)
    ·try simp only [decide_eq_false_iff_not,Bool.not_eq_true'] at h53
     try simp only [zds] at h53
     refine qB ?_;refine qM ?_;refine qS (Eq.symm ?_);unfold xQ;rw [if_neg hneg,if_neg (by rw [h43];simp),if_pos h53]
    ·try simp only [decide_eq_true_eq,Bool.not_eq_false'] at h53
     try simp only [zds] at h53
     refine qL ?_;refine qI ?_;refine qB ?_;refine zai (fun h=>trivial) ?_;refine zai (fun h=>⟨⟨h,trivial⟩,trivial⟩) ?_;refine zai (fun h=>⟨⟨h,trivial⟩,trivial⟩) ?_;refine zai (fun h=>trivial) ?_;refine zai (fun h=>⟨⟨h,trivial⟩,trivial⟩) ?_;refine zai (fun h=>⟨⟨⟨h,trivial⟩,trivial⟩,by first|exact fun h2=>h2|(intro h2;rw [h,h2];rfl)|(intro h2;cases h2)|(intro h2;simp_all [gq])⟩) ?_;refine zai (by first|(intro h;rw [h];rfl)|(intro h;cases h)) ?_;refine qJ rfl (fun h64=>?_) (fun h64=>?_)
     ·try simp only [decide_eq_true_eq,Bool.and_eq_true,Bool.or_eq_true] at h64
      try simp only [zds] at h64
      refine qB ?_;refine qM ?_;refine qS (Eq.symm ?_);unfold xQ;rw [if_neg hneg,if_neg (by rw [h43];simp),if_neg (by rw [h53];simp),if_pos h64]
     ·try simp only [decide_eq_false_iff_not,Bool.or_eq_false_iff,Bool.and_eq_false_iff,Int.not_le] at h64
      try simp only [zds] at h64
      refine qL ?_;refine qB ?_;refine qM ?_;refine qS (Eq.symm ?_);unfold xQ;rw [if_neg hneg,if_neg (by rw [h43];simp),if_neg (by rw [h53];simp),if_neg (by rintro (h|⟨h,h'⟩);omega;rcases h64.2 with g|g;exact g h;omega)]
theorem linesR_no : ∀ (f : Nat) (tot no : Int) (s : List UInt8) (i : Nat),i < (jD f tot no s).length → ((jD f tot no s).getD i ((0 : Int),(0 : Int),ByteArray.empty,false)).1 = no + i
  | 0,_,_,_,i,h=>by simp [jD] at h
  | f + 1,_,_,[],i,h=>by simp [jD] at h
  | f + 1,tot,no,a :: r,i,h=>by
    rw [gS] at h ⊢;cases i with
    | zero=>simp
    | succ i =>
      have:=linesR_no f tot (no + 1) (Lib.cut (a :: r) [10]).2.1 i (by simpa using h);rw [List.getD_cons_succ,this];omega
def bhI (k : List Int) (i : Nat) : Bool:=decide (0 < i) && (decide (k.getD (i - 1) 0 = 4) || decide (k.getD (i - 1) 0 = 3))
structure RI (L : List Lne) (k : List Int) (i : Nat) (t : RSt) : Prop where
  il : i ≤ L.length
  eq : runR false rst0 L = runR (bhI k i) t (L.drop i)
  r0 : 0 ≤ t.recs
  ri : t.recs ≤ i
  oi : t.out.length ≤ 2 * i
  fi : t.flds.length ≤ i
  rw_ : t.raw.size ≤ ((L.take i).map (fun l=>l.2.2.1.size + 1)).sum
  rd : t.raw = ByteArray.empty ↔ t.raw.size = 0
theorem ri_0 (L : List Lne) (k : List Int) : RI L k 0 rst0:=⟨Nat.zero_le _,rfl,Int.le_refl _,Int.le_refl _,Nat.le_refl _,Nat.le_refl _,Nat.zero_le _,⟨fun _=>rfl,fun _=>rfl⟩⟩
theorem size0 (s : ByteArray) : s = ByteArray.empty ↔ s.size = 0:=by
  refine ⟨fun h=>by rw [h];rfl,fun h=>?_⟩;rw [yC] at h;have:=List.eq_nil_of_length_eq_zero h;rw [← kA s,show ls s = [] from this];rfl
theorem sum_succ (L : List Lne) (i : Nat) (h : i < L.length) : ((L.take (i + 1)).map (fun l=>l.2.2.1.size + 1)).sum = ((L.take i).map (fun l=>l.2.2.1.size + 1)).sum + ((L.getD i ((0 : Int),(0 : Int),ByteArray.empty,false)).2.2.1.size + 1):=by
  rw [List.take_succ_eq_append_getElem h,List.map_append,List.sum_append,← vJ h ((0 : Int),(0 : Int),ByteArray.empty,false)];simp
theorem ri_eq {L : List Lne} {k : List Int} {i : Nat} {t : RSt} (h : RI L k i t) (hi : i < L.length) : runR false rst0 L = if xQ (bhI k i) (L.getD i ((0 : Int),(0 : Int),ByteArray.empty,false)) (L.drop (i + 1)) t.flds.length t.recs ≠ 0 then .inl ((L.getD i ((0 : Int),(0 : Int),ByteArray.empty,false)).1,xQ (bhI k i) (L.getD i ((0 : Int),(0 : Int),ByteArray.empty,false)) (L.drop (i + 1)) t.flds.length t.recs) else runR (decide (yJ (ls (L.getD i ((0 : Int),(0 : Int),ByteArray.empty,false)).2.2.1) = 4) || decide (yJ (ls (L.getD i ((0 : Int),(0 : Int),ByteArray.empty,false)).2.2.1) = 3)) (xJ t (L.getD i ((0 : Int),(0 : Int),ByteArray.empty,false)) (L.drop (i + 1))) (L.drop (i + 1)):=by
  rw [h.eq,List.drop_eq_getElem_cons hi,vJ hi ((0 : Int),(0 : Int),ByteArray.empty,false)];rfl
theorem bh_next {L : List Lne} {k : List Int} (hk : k = L.map (fun l=>yJ (ls l.2.2.1))) {i : Nat} (hi : i < L.length) : bhI k (i + 1) = (decide (yJ (ls (L.getD i ((0 : Int),(0 : Int),ByteArray.empty,false)).2.2.1) = 4) || decide (yJ (ls (L.getD i ((0 : Int),(0 : Int),ByteArray.empty,false)).2.2.1) = 3)):=by
  unfold bhI;rw [Nat.add_sub_cancel,wN hk hi];simp
theorem ri_next {L : List Lne} {k : List Int} (hk : k = L.map (fun l=>yJ (ls l.2.2.1))) {i : Nat} {t : RSt} (h : RI L k i t) (hi : i < L.length) (hw : xQ (bhI k i) (L.getD i ((0 : Int),(0 : Int),ByteArray.empty,false)) (L.drop (i + 1)) t.flds.length t.recs = 0) : RI L k (i + 1) (xJ t (L.getD i ((0 : Int),(0 : Int),ByteArray.empty,false)) (L.drop (i + 1))):=by
  have e:=ri_eq h hi;rw [if_neg (by rw [hw];simp),← bh_next hk hi] at e;have h1:=h.r0;have h2:=h.ri;have h3:=h.oi;have h4:=h.fi;have h5:=h.rw_;have h6:=sum_succ L i hi;refine ⟨hi,e,?_,?_,?_,?_,?_,size0 _⟩
  · unfold xJ;split
    · exact h1
    · split
      · simp only;split <;> omega
      · exact h1
  · unfold xJ;split
    · simp only;omega
    · split
      · simp only;split <;> omega
      · simp only;omega
  · unfold xJ;split
    · simp only;split <;> simp <;> omega
    · split
      · simp only;omega
      · simp only;omega
  · unfold xJ;split
    · simp
    · split
      · simp;omega
      · simp only;omega
  · rw [h6];have h10 : ByteArray.size ⟨#[10]⟩ = 1:=rfl;unfold xJ;split
    · simp
    · split
      · simp only [ByteArray.size_append];omega
      · simp only [ByteArray.size_append];omega
theorem said_ok {s : ByteArray} (hs : s.size ≤ 60000) {i : Nat} (hi : i < (yQ s).length) : wQ (gB ((yQ s).getD i ((0 : Int),(0 : Int),ByteArray.empty,false)) ((yQ s).drop (i + 1))):=by
  obtain ⟨h1,h2⟩:=uU s;have h3 : ((((yQ s).drop (i + 1)).takeWhile more).map (·.2.2.1.size)).sum ≤ ((yQ s).map (·.2.2.1.size)).sum:=by
    have e1 : (yQ s) = (yQ s).take (i + 1) ++ ((yQ s).drop (i + 1)):=(List.take_append_drop _ _).symm;have e2 : (yQ s).drop (i + 1) = ((yQ s).drop (i + 1)).takeWhile more ++ ((yQ s).drop (i + 1)).dropWhile more:=List.takeWhile_append_dropWhile.symm
    conv=>rhs;rw [e1,e2]
    simp only [List.map_append,List.sum_append];omega
  have h4 : (((yQ s).drop (i + 1)).takeWhile more).length ≤ (yQ s).length:=by
    have:=(List.takeWhile_sublist more (l:=(yQ s).drop (i + 1))).length_le;rw [List.length_drop] at this;omega
  have h5:=hC hi;rw [vJ hi ((0 : Int),(0 : Int),ByteArray.empty,false)] at h5;unfold gB;refine ⟨by simp only [List.length_cons,List.length_map];omega,?_⟩;simp only [List.map_cons,List.sum_cons,List.map_map];have : ((((yQ s).drop (i + 1)).takeWhile more).map ((fun x : ByteArray=>x.size) ∘ fun x : Lne=>x.2.2.1)).sum = ((((yQ s).drop (i + 1)).takeWhile more).map (·.2.2.1.size)).sum:=rfl;omega
def resR : (Int × Int) ⊕ List Itm → A
  | .inl e=>.tup [(false,[.sl rItm []]),(false,[.lit (.int .i64 e.1)]),(false,[.lit (.int .i64 e.2)])]
  | .inr l=>.tup [(false,[.sl rItm l]),(false,[.lit (.int .i64 (-9))]),(false,[.lit (.int .i64 0)])]
theorem sum_total (s : ByteArray) (i : Nat) : (((yQ s).take i).map (fun l=>l.2.2.1.size + 1)).sum ≤ 2 * s.size:=by
  obtain ⟨h1,h2⟩:=uU s;have e : ∀ L : List Lne,(L.map (fun l=>l.2.2.1.size + 1)).sum = (L.map (·.2.2.1.size)).sum + L.length:=by
    intro L
    induction L with
    | nil=>rfl
    | cons a r ih=>simp only [List.map_cons,List.sum_cons,List.length_cons,ih];omega
  have h3 : (((yQ s).take i).map (fun l=>l.2.2.1.size + 1)).sum ≤ ((yQ s).map (fun l=>l.2.2.1.size + 1)).sum:=by
    conv=>rhs;rw [← List.take_append_drop i (yQ s)]
    rw [List.map_append,List.sum_append];omega
  rw [e (yQ s)] at h3;omega
set_option maxHeartbeats 4000000 in
theorem refParse_a (s : ByteArray) (hs : s.size ≤ 60000) : qX Tryz.prog 30 [is s] (resR (kC s)):=by
  obtain ⟨hl1,hl2⟩:=uU s;have hsz : ∀ i,i < (yQ s).length → ((yQ s).getD i ((0 : Int),(0 : Int),ByteArray.empty,false)).2.2.1.size ≤ 60000:=fun i hi=>by
    have:=hC hi;rw [vJ hi ((0 : Int),(0 : Int),ByteArray.empty,false)] at this;omega
  have hss:=fun i hi=>said_ok hs (i:=i) hi
  have hno : ∀ i,i < (yQ s).length → ((yQ s).getD i ((0 : Int),(0 : Int),ByteArray.empty,false)).1 = i:=fun i hi=>by
    have:=linesR_no s.size s.size 0 (ls s) i hi;rw [Int.zero_add] at this;exact this
  have hst:=sum_total s;rw [cG];have hspl:=refSplit_c s (by omega)
  generalize yQ s = L at *
  obtain ⟨k,hk⟩ : ∃ k,k = L.map (fun l=>yJ (ls l.2.2.1)):=⟨_,rfl⟩;have hkl : k.length = L.length:=by rw [hk,List.length_map]
  refine qW (rs:=[2,3,4]) Tryz.func30 rfl rfl rfl teOk rfl ?_;refine qB ?_;refine qI ?_;refine qB ?_;refine qJ rfl (fun h17=>?_) (fun h17=>?_)
  ·try simp only [decide_eq_true_eq] at h17
   try simp only [zds] at h17
   omega
  ·try simp only [decide_eq_false_iff_not,Int.not_lt] at h17
   try simp only [zds] at h17
   refine qL ?_;refine qB ?_;refine Or.inl ?_;refine zai (rfl) ?_;refine zei _ (zai (hspl) ?_);refine qB ?_;refine qI ?_;refine qI ?_;refine xE 6 3 (.int .i64) rfl ?_;refine qH ?_;refine qN ?_;refine qR (fun (i : Nat)=>i ≤ L.length) (fun (i : Nat)=>[(5,.one (.sl rLne L)),(6,.one (.vec 0)),(7,ii .i64 i)]) (fun (i : Nat)=>[(0,.vec 3 (.int .i64) (k.take i))]) 1 (fun (i : Nat)=>L.length - i) 0 (Nat.zero_le _) (qP ⟨rfl,rfl,rfl⟩ rfl rfl) ?_;intro i hI0;refine qI ?_;refine qB ?_;intro l6_2
   try simp only [zds] at l6_2
   refine qJ rfl (fun h23=>?_) (fun h23=>?_)
   ·try simp only [decide_eq_true_eq] at h23
    try simp only [zds] at h23
    have hil : i < L.length:=(by omega);have hi2:=hsz i hil;refine qL ?_;refine qI ?_;refine qN ?_;refine qH ?_;refine zob ?_;refine Or.inl ?_;refine zai (rfl) ?_;refine zei _ (zai (refKindL_c (L.getD i ((0 : Int),(0 : Int),ByteArray.empty,false)).2.2.1 (by omega)) ?_);refine zai (by first|exact qQ (by first|omega|(simp only [List.length_cons,List.length_nil,List.length_take];omega)|(simp;omega)) (by decide)|omega|assumption|decide|(simp only [zds];omega)|(simp <;> omega)) ?_;refine qH ?_;refine zob ?_;exact ⟨i + 1,by omega,by first|omega|(simp <;> omega),qP ⟨rfl,rfl,(qS (by omega))⟩ (qV (by rw [← yE 0 (by omega : i < k.length),wN hk hil];rfl)) rfl⟩
   ·try simp only [decide_eq_false_iff_not,Int.not_lt] at h23
    try simp only [zds] at h23
    refine qT ?_;refine qI ?_;rw [List.take_of_length_le (by omega)];refine yD [0] ?_;refine qH ?_;refine qB ?_;refine qI ?_;refine xE 8 85 rItm rfl ?_;refine yM 1 2 114 rFld rfl rfl rfl ?_;refine yD [3] ?_;refine qH ?_;refine qI ?_;refine qB ?_;refine qN ?_;refine qR (fun (u : Nat × RSt)=>RI L k u.1 u.2) (fun (u : Nat × RSt)=>[(5,.one (.sl rLne L)),(6,.one (.sl (.int .i64) k)),(8,.one (.vec 2)),(9,.one (.own 1 0)),(10,ii .i64 u.2.recs),(11,ii .i64 u.1)]) (fun (u : Nat × RSt)=>[(1,.box 85 [.lit (.int .i64 u.2.kind),.lit (.string u.2.raw),.sl rFld u.2.flds]),(2,.vec 85 rItm u.2.out)]) 4 (fun (u : Nat × RSt)=>L.length - u.1) (0,rst0) (ri_0 L k) (qP ⟨rfl,rfl,rfl,rfl,rfl,rfl⟩ ⟨rfl,rfl⟩ rfl) ?_;intro u hI2;obtain ⟨i,t⟩:=u;have hI : RI L k i t:=hI2;have g1:=hI.il;have g2:=hI.r0;have g3:=hI.ri;have g4:=hI.oi;have g5:=hI.fi;have g6:=Nat.le_trans hI.rw_ (hst i);refine qI ?_;refine qB ?_;intro l13_2
    try simp only [zds] at l13_2
    refine qJ rfl (fun h39=>?_) (fun h39=>?_)
    ·try simp only [decide_eq_true_eq] at h39
     try simp only [zds] at h39
     have hil : i < L.length:=(by omega);have hi2:=hsz i hil;refine qL ?_;refine qI ?_;refine qN ?_;refine qI ?_;refine qB ?_;intro l15_5;refine Or.inl ?_;refine zai (rfl) ?_;refine zei _ (zai (wrong_c L k hk i hil (by omega) (hss i hil) t.flds.length t.recs (bhI k i) rfl) ?_);refine qB ?_;refine qJ rfl (fun h51=>?_) (fun h51=>?_)
     ·try simp only [decide_eq_false_iff_not,Bool.not_eq_true'] at h51
      try simp only [zds] at h51
      refine qB ?_;refine xE 2 85 rItm rfl ?_;refine qM ?_;rw [ri_eq hI hil,if_pos h51,hno i hil];rfl
     ·try simp only [decide_eq_true_eq,Bool.not_eq_false'] at h51
      try simp only [zds] at h51
      have hN:=ri_next hk hI hil h51;refine qL ?_;refine qI ?_;refine qB ?_;refine zob ?_;refine qJ rfl (fun h58=>?_) (fun h58=>?_)
      ·try simp only [decide_eq_true_eq] at h58
       try simp only [Int.toNat_natCast,qD] at h58
       rw [wN hk hil] at h58;refine qI ?_;refine qB ?_;refine qJ rfl (fun h61=>?_) (fun h61=>?_)
       ·try simp only [decide_eq_false_iff_not,Bool.not_eq_true'] at h61
        try simp only [zds] at h61
        have hS : xJ t (L.getD i ((0 : Int),(0 : Int),ByteArray.empty,false)) (L.drop (i + 1)) = ⟨2,ByteArray.empty,[],t.out ++ [(t.kind,t.raw,t.flds)] ++ [(1,(L.getD i ((0 : Int),(0 : Int),ByteArray.empty,false)).2.2.1 ++ ⟨#[10]⟩,[])],t.recs⟩:=(by unfold xJ;rw [if_pos h58,if_neg (show ¬ t.raw = ByteArray.empty from h61)]);refine qH ?_;refine zai (by first|exact qQ (by first|omega|(simp only [List.length_cons,List.length_nil];omega)|(simp;omega)) (by decide)|omega|assumption|decide|(simp only [zds];omega)|(simp <;> omega)) ?_;refine qB ?_;refine zob ?_;refine zai (by show (L.getD i ((0 : Int),(0 : Int),ByteArray.empty,false)).2.2.1.size + 1 ≤ maxLen;unfold maxLen;omega) ?_;refine zai (by exact qQ (by rw [List.length_append];show t.out.length + 1 + 1 ≤ 1000000000;omega) (by decide)) ?_;refine qB ?_;refine yM 1 2 114 rFld rfl rfl rfl ?_;refine yD [6] ?_;refine qT ?_;refine qH ?_;refine zob ?_;exact ⟨(i + 1,xJ t (L.getD i ((0 : Int),(0 : Int),ByteArray.empty,false)) (L.drop (i + 1))),hN,by first|omega|(simp <;> omega),qP ⟨rfl,rfl,rfl,rfl,((by rw [hS];try rfl)),(qS (by simp only;omega))⟩ ⟨((by rw [hS];try rfl)),((by rw [hS];try rfl))⟩ rfl⟩
       ·try simp only [decide_eq_true_eq,Bool.not_eq_false'] at h61
        try simp only [zds] at h61
        have hS : xJ t (L.getD i ((0 : Int),(0 : Int),ByteArray.empty,false)) (L.drop (i + 1)) = ⟨2,ByteArray.empty,[],t.out ++ [(1,(L.getD i ((0 : Int),(0 : Int),ByteArray.empty,false)).2.2.1 ++ ⟨#[10]⟩,[])],t.recs⟩:=(by unfold xJ;rw [if_pos h58,if_pos (show t.raw = ByteArray.empty from h61)]);refine qL ?_;refine qB ?_;refine zob ?_;refine zai (by show (L.getD i ((0 : Int),(0 : Int),ByteArray.empty,false)).2.2.1.size + 1 ≤ maxLen;unfold maxLen;omega) ?_;refine zai (by first|exact qQ (by first|omega|(simp only [List.length_cons,List.length_nil];omega)|(simp;omega)) (by decide)|omega|assumption|decide|(simp only [zds];omega)|(simp <;> omega)) ?_;refine qB ?_;refine yM 1 2 114 rFld rfl rfl rfl ?_;refine yD [5] ?_;refine qT ?_;refine qH ?_;refine zob ?_;exact ⟨(i + 1,xJ t (L.getD i ((0 : Int),(0 : Int),ByteArray.empty,false)) (L.drop (i + 1))),hN,by first|omega|(simp <;> omega),qP ⟨rfl,rfl,rfl,rfl,((by rw [hS];try rfl)),(qS (by simp only;omega))⟩ ⟨((by rw [hS];try rfl)),((by rw [hS];try rfl))⟩ rfl⟩
      ·try simp only [decide_eq_false_iff_not] at h58
       try simp only [Int.toNat_natCast,qD] at h58
       rw [wN hk hil] at h58;refine qL ?_;refine jJ (fun (u : Unit)=>True) (fun (u : Unit)=>[(5,.one (.sl rLne L)),(6,.one (.sl (.int .i64) k)),(8,.one (.vec 2)),(9,.one (.own 1 0)),(10,ii .i64 t.recs),(11,ii .i64 i)]) (fun (u : Unit)=>[(1,.box 85 [.lit (.int .i64 t.kind),.lit (.string (t.raw ++ (L.getD i ((0 : Int),(0 : Int),ByteArray.empty,false)).2.2.1 ++ ⟨#[10]⟩)),.sl rFld t.flds]),(2,.vec 85 rItm t.out)]) 4 ?_ ?_
       ·refine yW rfl ?_;refine qO 0 rfl ?_;refine qO 2 rfl ?_;refine qO 3 rfl ?_;refine qO 4 rfl ?_;refine zob ?_;refine qK [1,5] ?_;refine zai ?_ ?_
        ·refine qK [5] ?_;refine qK [6] ?_;refine qO 7 rfl ?_;refine zai (by show t.raw.size + (L.getD i ((0 : Int),(0 : Int),ByteArray.empty,false)).2.2.1.size ≤ maxLen;unfold maxLen;omega) ?_;refine qO 8 rfl ?_;refine zai (by rw [ByteArray.size_append];show t.raw.size + (L.getD i ((0 : Int),(0 : Int),ByteArray.empty,false)).2.2.1.size + 1 ≤ maxLen;unfold maxLen;omega) ?_;refine qO 9 rfl ?_;refine qK [10] ?_;refine qU ?_;exact ⟨(),trivial,qP ⟨rfl,rfl,rfl,rfl,rfl,rfl⟩ ⟨rfl,rfl⟩ rfl⟩
        ·refine qK [1,6] ?_;refine zai ?_ ?_
         ·refine qK [6] ?_;refine qO 7 rfl ?_;refine zai (by show t.raw.size + (L.getD i ((0 : Int),(0 : Int),ByteArray.empty,false)).2.2.1.size ≤ maxLen;unfold maxLen;omega) ?_;refine qO 8 rfl ?_;refine zai (by rw [ByteArray.size_append];show t.raw.size + (L.getD i ((0 : Int),(0 : Int),ByteArray.empty,false)).2.2.1.size + 1 ≤ maxLen;unfold maxLen;omega) ?_;refine qO 9 rfl ?_;refine qK [10] ?_;refine qU ?_;exact ⟨(),trivial,qP ⟨rfl,rfl,rfl,rfl,rfl,rfl⟩ ⟨rfl,rfl⟩ rfl⟩
         ·refine qK [1] ?_;refine qO 7 rfl ?_;refine zai (by show t.raw.size + (L.getD i ((0 : Int),(0 : Int),ByteArray.empty,false)).2.2.1.size ≤ maxLen;unfold maxLen;omega) ?_;refine qO 8 rfl ?_;refine zai (by rw [ByteArray.size_append];show t.raw.size + (L.getD i ((0 : Int),(0 : Int),ByteArray.empty,false)).2.2.1.size + 1 ≤ maxLen;unfold maxLen;omega) ?_;refine qO 9 rfl ?_;refine qK [10] ?_;refine qU ?_;exact ⟨(),trivial,qP ⟨rfl,rfl,rfl,rfl,rfl,rfl⟩ ⟨rfl,rfl⟩ rfl⟩
       ·intro u hcut24;refine qB ?_;refine zob ?_;refine qJ rfl (fun h91=>?_) (fun h91=>?_)
        ·try simp only [decide_eq_true_eq] at h91
         try simp only [Int.toNat_natCast,qD] at h91
         rw [wN hk hil] at h91;refine jJ (fun (rc : Int)=>rc = (if t.kind = 2 then t.recs + 1 else t.recs)) (fun (rc : Int)=>[(5,.one (.sl rLne L)),(6,.one (.sl (.int .i64) k)),(8,.one (.vec 2)),(9,.one (.own 1 0)),(10,ii .i64 rc),(11,ii .i64 i)]) (fun (rc : Int)=>[(1,.box 85 [.lit (.int .i64 t.kind),.lit (.string (t.raw ++ (L.getD i ((0 : Int),(0 : Int),ByteArray.empty,false)).2.2.1 ++ ⟨#[10]⟩)),.sl rFld t.flds]),(2,.vec 85 rItm t.out)]) 4 ?_ ?_
         ·refine qB ?_;refine qJ rfl (fun h94=>?_) (fun h94=>?_)
          ·try simp only [decide_eq_true_eq] at h94
           try simp only [zds] at h94
           refine qH ?_;refine zob ?_;exact ⟨t.recs + 1,(by rw [if_pos h94]),qP ⟨rfl,rfl,rfl,rfl,rfl,rfl⟩ ⟨rfl,rfl⟩ rfl⟩
          ·try simp only [decide_eq_false_iff_not] at h94
           try simp only [zds] at h94
           refine qL ?_;exact ⟨t.recs,(by rw [if_neg h94]),qP ⟨rfl,rfl,rfl,rfl,rfl,rfl⟩ ⟨rfl,rfl⟩ rfl⟩
         ·intro rc hcut27;have hS : xJ t (L.getD i ((0 : Int),(0 : Int),ByteArray.empty,false)) (L.drop (i + 1)) = ⟨3,t.raw ++ (L.getD i ((0 : Int),(0 : Int),ByteArray.empty,false)).2.2.1 ++ ⟨#[10]⟩,t.flds ++ [fldOf (gB (L.getD i ((0 : Int),(0 : Int),ByteArray.empty,false)) (L.drop (i + 1)))],t.out,rc⟩:=(by unfold xJ;rw [if_neg h58,if_pos h91,hcut27]);refine qB ?_;refine qB ?_;refine Or.inl ?_;refine zai (rfl) ?_;refine zei _ (zai (said_c L k hk i hil (by omega)) ?_);refine Or.inl ?_;refine zai (rfl) ?_;refine zei _ (zai (unfold_any _ (hss i hil)) ?_);refine yW rfl ?_;refine qO 1 rfl ?_;refine qK [0,2,4] ?_;refine zai ?_ ?_
          ·refine qK [2,4] ?_;refine zai ?_ ?_
           ·refine qK [3,4] ?_;refine zai ?_ ?_
            ·refine zai (by first|exact qQ (by first|omega|(simp only [List.length_nil];omega)|(simp;omega)) (by decide)|omega|assumption|decide|(simp only [zds];omega)|(simp <;> omega)) ?_;refine qK [4] ?_;refine qK [5] ?_;refine qK [6] ?_;refine zai (by exact qQ (show t.flds.length + 1 ≤ 1000000000 by omega) (by decide)) ?_;refine qO 7 rfl ?_;refine qK [8] ?_;refine qU ?_;refine yD [5,6] ?_;refine qH ?_;refine zob ?_;exact ⟨(i + 1,xJ t (L.getD i ((0 : Int),(0 : Int),ByteArray.empty,false)) (L.drop (i + 1))),hN,by first|omega|(simp <;> omega),qP ⟨rfl,rfl,rfl,rfl,((by rw [hS];try rfl)),(qS (by simp only;omega))⟩ ⟨((by rw [hS];try rfl)),((by rw [hS];try rfl))⟩ rfl⟩
            ·refine qK [3,5] ?_;refine zai ?_ ?_
             ·refine zai (by first|exact qQ (by first|omega|(simp only [List.length_nil];omega)|(simp;omega)) (by decide)|omega|assumption|decide|(simp only [zds];omega)|(simp <;> omega)) ?_;refine qK [5] ?_;refine qK [6] ?_;refine zai (by exact qQ (show t.flds.length + 1 ≤ 1000000000 by omega) (by decide)) ?_;refine qO 7 rfl ?_;refine qK [8] ?_;refine qU ?_;refine yD [5,6] ?_;refine qH ?_;refine zob ?_;exact ⟨(i + 1,xJ t (L.getD i ((0 : Int),(0 : Int),ByteArray.empty,false)) (L.drop (i + 1))),hN,by first|omega|(simp <;> omega),qP ⟨rfl,rfl,rfl,rfl,((by rw [hS];try rfl)),(qS (by simp only;omega))⟩ ⟨((by rw [hS];try rfl)),((by rw [hS];try rfl))⟩ rfl⟩
             ·refine qK [3] ?_;refine zai (by first|exact qQ (by first|omega|(simp only [List.length_nil];omega)|(simp;omega)) (by decide)|omega|assumption|decide|(simp only [zds];omega)|(simp <;> omega)) ?_;refine qK [6] ?_;refine zai (by exact qQ (show t.flds.length + 1 ≤ 1000000000 by omega) (by decide)) ?_;refine qO 7 rfl ?_;refine qK [8] ?_;refine qU ?_;refine yD [5,6] ?_;refine qH ?_;refine zob ?_;exact ⟨(i + 1,xJ t (L.getD i ((0 : Int),(0 : Int),ByteArray.empty,false)) (L.drop (i + 1))),hN,by first|omega|(simp <;> omega),qP ⟨rfl,rfl,rfl,rfl,((by rw [hS];try rfl)),(qS (by simp only;omega))⟩ ⟨((by rw [hS];try rfl)),((by rw [hS];try rfl))⟩ rfl⟩
           ·refine qK [2,5] ?_;refine zai ?_ ?_
            ·refine qK [3,5] ?_;refine zai ?_ ?_
             ·refine zai (by first|exact qQ (by first|omega|(simp only [List.length_nil];omega)|(simp;omega)) (by decide)|omega|assumption|decide|(simp only [zds];omega)|(simp <;> omega)) ?_;refine qK [5] ?_;refine qK [6] ?_;refine zai (by exact qQ (show t.flds.length + 1 ≤ 1000000000 by omega) (by decide)) ?_;refine qO 7 rfl ?_;refine qK [8] ?_;refine qU ?_;refine yD [5,6] ?_;refine qH ?_;refine zob ?_;exact ⟨(i + 1,xJ t (L.getD i ((0 : Int),(0 : Int),ByteArray.empty,false)) (L.drop (i + 1))),hN,by first|omega|(simp <;> omega),qP ⟨rfl,rfl,rfl,rfl,((by rw [hS];try rfl)),(qS (by simp only;omega))⟩ ⟨((by rw [hS];try rfl)),((by rw [hS];try rfl))⟩ rfl⟩
             ·refine qK [3] ?_;refine zai (by first|exact qQ (by first|omega|(simp only [List.length_nil];omega)|(simp;omega)) (by decide)|omega|assumption|decide|(simp only [zds];omega)|(simp <;> omega)) ?_;refine qK [6] ?_;refine zai (by exact qQ (show t.flds.length + 1 ≤ 1000000000 by omega) (by decide)) ?_;refine qO 7 rfl ?_;refine qK [8] ?_;refine qU ?_;refine yD [5,6] ?_;refine qH ?_;refine zob ?_;exact ⟨(i + 1,xJ t (L.getD i ((0 : Int),(0 : Int),ByteArray.empty,false)) (L.drop (i + 1))),hN,by first|omega|(simp <;> omega),qP ⟨rfl,rfl,rfl,rfl,((by rw [hS];try rfl)),(qS (by simp only;omega))⟩ ⟨((by rw [hS];try rfl)),((by rw [hS];try rfl))⟩ rfl⟩
            ·refine qK [2] ?_;refine qK [3] ?_;refine zai (by first|exact qQ (by first|omega|(simp only [List.length_nil];omega)|(simp;omega)) (by decide)|omega|assumption|decide|(simp only [zds];omega)|(simp <;> omega)) ?_;refine qK [6] ?_;refine zai (by exact qQ (show t.flds.length + 1 ≤ 1000000000 by omega) (by decide)) ?_;refine qO 7 rfl ?_;refine qK [8] ?_;refine qU ?_;refine yD [5,6] ?_;refine qH ?_;refine zob ?_;exact ⟨(i + 1,xJ t (L.getD i ((0 : Int),(0 : Int),ByteArray.empty,false)) (L.drop (i + 1))),hN,by first|omega|(simp <;> omega),qP ⟨rfl,rfl,rfl,rfl,((by rw [hS];try rfl)),(qS (by simp only;omega))⟩ ⟨((by rw [hS];try rfl)),((by rw [hS];try rfl))⟩ rfl⟩
          refine zai ?_ ?_
          ·refine qK [0,4] ?_;refine zai ?_ ?_
           ·refine qK [3,4] ?_;refine zai ?_ ?_
            ·refine zai (by first|exact qQ (by first|omega|(simp only [List.length_nil];omega)|(simp;omega)) (by decide)|omega|assumption|decide|(simp only [zds];omega)|(simp <;> omega)) ?_;refine qK [4] ?_;refine qK [5] ?_;refine qK [6] ?_;refine zai (by exact qQ (show t.flds.length + 1 ≤ 1000000000 by omega) (by decide)) ?_;refine qO 7 rfl ?_;refine qK [8] ?_;refine qU ?_;refine yD [5,6] ?_;refine qH ?_;refine zob ?_;exact ⟨(i + 1,xJ t (L.getD i ((0 : Int),(0 : Int),ByteArray.empty,false)) (L.drop (i + 1))),hN,by first|omega|(simp <;> omega),qP ⟨rfl,rfl,rfl,rfl,((by rw [hS];try rfl)),(qS (by simp only;omega))⟩ ⟨((by rw [hS];try rfl)),((by rw [hS];try rfl))⟩ rfl⟩
            ·refine qK [3,5] ?_;refine zai ?_ ?_
             ·refine zai (by first|exact qQ (by first|omega|(simp only [List.length_nil];omega)|(simp;omega)) (by decide)|omega|assumption|decide|(simp only [zds];omega)|(simp <;> omega)) ?_;refine qK [5] ?_;refine qK [6] ?_;refine zai (by exact qQ (show t.flds.length + 1 ≤ 1000000000 by omega) (by decide)) ?_;refine qO 7 rfl ?_;refine qK [8] ?_;refine qU ?_;refine yD [5,6] ?_;refine qH ?_;refine zob ?_;exact ⟨(i + 1,xJ t (L.getD i ((0 : Int),(0 : Int),ByteArray.empty,false)) (L.drop (i + 1))),hN,by first|omega|(simp <;> omega),qP ⟨rfl,rfl,rfl,rfl,((by rw [hS];try rfl)),(qS (by simp only;omega))⟩ ⟨((by rw [hS];try rfl)),((by rw [hS];try rfl))⟩ rfl⟩
             ·refine qK [3] ?_;refine zai (by first|exact qQ (by first|omega|(simp only [List.length_nil];omega)|(simp;omega)) (by decide)|omega|assumption|decide|(simp only [zds];omega)|(simp <;> omega)) ?_;refine qK [6] ?_;refine zai (by exact qQ (show t.flds.length + 1 ≤ 1000000000 by omega) (by decide)) ?_;refine qO 7 rfl ?_;refine qK [8] ?_;refine qU ?_;refine yD [5,6] ?_;refine qH ?_;refine zob ?_;exact ⟨(i + 1,xJ t (L.getD i ((0 : Int),(0 : Int),ByteArray.empty,false)) (L.drop (i + 1))),hN,by first|omega|(simp <;> omega),qP ⟨rfl,rfl,rfl,rfl,((by rw [hS];try rfl)),(qS (by simp only;omega))⟩ ⟨((by rw [hS];try rfl)),((by rw [hS];try rfl))⟩ rfl⟩
           ·refine qK [0,5] ?_;refine zai ?_ ?_
            ·refine qK [3,5] ?_;refine zai ?_ ?_
             ·refine zai (by first|exact qQ (by first|omega|(simp only [List.length_nil];omega)|(simp;omega)) (by decide)|omega|assumption|decide|(simp only [zds];omega)|(simp <;> omega)) ?_;refine qK [5] ?_;refine qK [6] ?_;refine zai (by exact qQ (show t.flds.length + 1 ≤ 1000000000 by omega) (by decide)) ?_;refine qO 7 rfl ?_;refine qK [8] ?_;refine qU ?_;refine yD [5,6] ?_;refine qH ?_;refine zob ?_;exact ⟨(i + 1,xJ t (L.getD i ((0 : Int),(0 : Int),ByteArray.empty,false)) (L.drop (i + 1))),hN,by first|omega|(simp <;> omega),qP ⟨rfl,rfl,rfl,rfl,((by rw [hS];try rfl)),(qS (by simp only;omega))⟩ ⟨((by rw [hS];try rfl)),((by rw [hS];try rfl))⟩ rfl⟩
             ·refine qK [3] ?_;refine zai (by first|exact qQ (by first|omega|(simp only [List.length_nil];omega)|(simp;omega)) (by decide)|omega|assumption|decide|(simp only [zds];omega)|(simp <;> omega)) ?_;refine qK [6] ?_;refine zai (by exact qQ (show t.flds.length + 1 ≤ 1000000000 by omega) (by decide)) ?_;refine qO 7 rfl ?_;refine qK [8] ?_;refine qU ?_;refine yD [5,6] ?_;refine qH ?_;refine zob ?_;exact ⟨(i + 1,xJ t (L.getD i ((0 : Int),(0 : Int),ByteArray.empty,false)) (L.drop (i + 1))),hN,by first|omega|(simp <;> omega),qP ⟨rfl,rfl,rfl,rfl,((by rw [hS];try rfl)),(qS (by simp only;omega))⟩ ⟨((by rw [hS];try rfl)),((by rw [hS];try rfl))⟩ rfl⟩
            ·refine qK [0] ?_;refine qK [3] ?_;refine zai (by first|exact qQ (by first|omega|(simp only [List.length_nil];omega)|(simp;omega)) (by decide)|omega|assumption|decide|(simp only [zds];omega)|(simp <;> omega)) ?_;refine qK [6] ?_;refine zai (by exact qQ (show t.flds.length + 1 ≤ 1000000000 by omega) (by decide)) ?_;refine qO 7 rfl ?_;refine qK [8] ?_;refine qU ?_;refine yD [5,6] ?_;refine qH ?_;refine zob ?_;exact ⟨(i + 1,xJ t (L.getD i ((0 : Int),(0 : Int),ByteArray.empty,false)) (L.drop (i + 1))),hN,by first|omega|(simp <;> omega),qP ⟨rfl,rfl,rfl,rfl,((by rw [hS];try rfl)),(qS (by simp only;omega))⟩ ⟨((by rw [hS];try rfl)),((by rw [hS];try rfl))⟩ rfl⟩
          ·refine qK [0,2,5] ?_;refine zai ?_ ?_
           ·refine qK [2,5] ?_;refine zai ?_ ?_
            ·refine qK [3,5] ?_;refine zai ?_ ?_
             ·refine zai (by first|exact qQ (by first|omega|(simp only [List.length_nil];omega)|(simp;omega)) (by decide)|omega|assumption|decide|(simp only [zds];omega)|(simp <;> omega)) ?_;refine qK [5] ?_;refine qK [6] ?_;refine zai (by exact qQ (show t.flds.length + 1 ≤ 1000000000 by omega) (by decide)) ?_;refine qO 7 rfl ?_;refine qK [8] ?_;refine qU ?_;refine yD [5,6] ?_;refine qH ?_;refine zob ?_;exact ⟨(i + 1,xJ t (L.getD i ((0 : Int),(0 : Int),ByteArray.empty,false)) (L.drop (i + 1))),hN,by first|omega|(simp <;> omega),qP ⟨rfl,rfl,rfl,rfl,((by rw [hS];try rfl)),(qS (by simp only;omega))⟩ ⟨((by rw [hS];try rfl)),((by rw [hS];try rfl))⟩ rfl⟩
             ·refine qK [3] ?_;refine zai (by first|exact qQ (by first|omega|(simp only [List.length_nil];omega)|(simp;omega)) (by decide)|omega|assumption|decide|(simp only [zds];omega)|(simp <;> omega)) ?_;refine qK [6] ?_;refine zai (by exact qQ (show t.flds.length + 1 ≤ 1000000000 by omega) (by decide)) ?_;refine qO 7 rfl ?_;refine qK [8] ?_;refine qU ?_;refine yD [5,6] ?_;refine qH ?_;refine zob ?_;exact ⟨(i + 1,xJ t (L.getD i ((0 : Int),(0 : Int),ByteArray.empty,false)) (L.drop (i + 1))),hN,by first|omega|(simp <;> omega),qP ⟨rfl,rfl,rfl,rfl,((by rw [hS];try rfl)),(qS (by simp only;omega))⟩ ⟨((by rw [hS];try rfl)),((by rw [hS];try rfl))⟩ rfl⟩
            ·refine qK [2] ?_;refine qK [3] ?_;refine zai (by first|exact qQ (by first|omega|(simp only [List.length_nil];omega)|(simp;omega)) (by decide)|omega|assumption|decide|(simp only [zds];omega)|(simp <;> omega)) ?_;refine qK [6] ?_;refine zai (by exact qQ (show t.flds.length + 1 ≤ 1000000000 by omega) (by decide)) ?_;refine qO 7 rfl ?_;refine qK [8] ?_;refine qU ?_;refine yD [5,6] ?_;refine qH ?_;refine zob ?_;exact ⟨(i + 1,xJ t (L.getD i ((0 : Int),(0 : Int),ByteArray.empty,false)) (L.drop (i + 1))),hN,by first|omega|(simp <;> omega),qP ⟨rfl,rfl,rfl,rfl,((by rw [hS];try rfl)),(qS (by simp only;omega))⟩ ⟨((by rw [hS];try rfl)),((by rw [hS];try rfl))⟩ rfl⟩
           refine zai ?_ ?_
           ·refine qK [0,5] ?_;refine zai ?_ ?_
            ·refine qK [3,5] ?_;refine zai ?_ ?_
             ·refine zai (by first|exact qQ (by first|omega|(simp only [List.length_nil];omega)|(simp;omega)) (by decide)|omega|assumption|decide|(simp only [zds];omega)|(simp <;> omega)) ?_;refine qK [5] ?_;refine qK [6] ?_;refine zai (by exact qQ (show t.flds.length + 1 ≤ 1000000000 by omega) (by decide)) ?_;refine qO 7 rfl ?_;refine qK [8] ?_;refine qU ?_;refine yD [5,6] ?_;refine qH ?_;refine zob ?_;exact ⟨(i + 1,xJ t (L.getD i ((0 : Int),(0 : Int),ByteArray.empty,false)) (L.drop (i + 1))),hN,by first|omega|(simp <;> omega),qP ⟨rfl,rfl,rfl,rfl,((by rw [hS];try rfl)),(qS (by simp only;omega))⟩ ⟨((by rw [hS];try rfl)),((by rw [hS];try rfl))⟩ rfl⟩
             ·refine qK [3] ?_;refine zai (by first|exact qQ (by first|omega|(simp only [List.length_nil];omega)|(simp;omega)) (by decide)|omega|assumption|decide|(simp only [zds];omega)|(simp <;> omega)) ?_;refine qK [6] ?_;refine zai (by exact qQ (show t.flds.length + 1 ≤ 1000000000 by omega) (by decide)) ?_;refine qO 7 rfl ?_;refine qK [8] ?_;refine qU ?_;refine yD [5,6] ?_;refine qH ?_;refine zob ?_;exact ⟨(i + 1,xJ t (L.getD i ((0 : Int),(0 : Int),ByteArray.empty,false)) (L.drop (i + 1))),hN,by first|omega|(simp <;> omega),qP ⟨rfl,rfl,rfl,rfl,((by rw [hS];try rfl)),(qS (by simp only;omega))⟩ ⟨((by rw [hS];try rfl)),((by rw [hS];try rfl))⟩ rfl⟩
            ·refine qK [0] ?_;refine qK [3] ?_;refine zai (by first|exact qQ (by first|omega|(simp only [List.length_nil];omega)|(simp;omega)) (by decide)|omega|assumption|decide|(simp only [zds];omega)|(simp <;> omega)) ?_;refine qK [6] ?_;refine zai (by exact qQ (show t.flds.length + 1 ≤ 1000000000 by omega) (by decide)) ?_;refine qO 7 rfl ?_;refine qK [8] ?_;refine qU ?_;refine yD [5,6] ?_;refine qH ?_;refine zob ?_;exact ⟨(i + 1,xJ t (L.getD i ((0 : Int),(0 : Int),ByteArray.empty,false)) (L.drop (i + 1))),hN,by first|omega|(simp <;> omega),qP ⟨rfl,rfl,rfl,rfl,((by rw [hS];try rfl)),(qS (by simp only;omega))⟩ ⟨((by rw [hS];try rfl)),((by rw [hS];try rfl))⟩ rfl⟩
           ·refine qK [0,2] ?_;refine zai ?_ ?_
            ·refine qK [2] ?_;refine qK [3] ?_;refine zai (by first|exact qQ (by first|omega|(simp only [List.length_nil];omega)|(simp;omega)) (by decide)|omega|assumption|decide|(simp only [zds];omega)|(simp <;> omega)) ?_;refine qK [6] ?_;refine zai (by exact qQ (show t.flds.length + 1 ≤ 1000000000 by omega) (by decide)) ?_;refine qO 7 rfl ?_;refine qK [8] ?_;refine qU ?_;refine yD [5,6] ?_;refine qH ?_;refine zob ?_;exact ⟨(i + 1,xJ t (L.getD i ((0 : Int),(0 : Int),ByteArray.empty,false)) (L.drop (i + 1))),hN,by first|omega|(simp <;> omega),qP ⟨rfl,rfl,rfl,rfl,((by rw [hS];try rfl)),(qS (by simp only;omega))⟩ ⟨((by rw [hS];try rfl)),((by rw [hS];try rfl))⟩ rfl⟩
            ·refine qK [0] ?_;refine qK [3] ?_;refine zai (by first|exact qQ (by first|omega|(simp only [List.length_nil];omega)|(simp;omega)) (by decide)|omega|assumption|decide|(simp only [zds];omega)|(simp <;> omega)) ?_;refine qK [6] ?_;refine zai (by exact qQ (show t.flds.length + 1 ≤ 1000000000 by omega) (by decide)) ?_;refine qO 7 rfl ?_;refine qK [8] ?_;refine qU ?_;refine yD [5,6] ?_;refine qH ?_;refine zob ?_;exact ⟨(i + 1,xJ t (L.getD i ((0 : Int),(0 : Int),ByteArray.empty,false)) (L.drop (i + 1))),hN,by first|omega|(simp <;> omega),qP ⟨rfl,rfl,rfl,rfl,((by rw [hS];try rfl)),(qS (by simp only;omega))⟩ ⟨((by rw [hS];try rfl)),((by rw [hS];try rfl))⟩ rfl⟩
        ·try simp only [decide_eq_false_iff_not] at h91
         try simp only [Int.toNat_natCast,qD] at h91
         rw [wN hk hil] at h91;have hS : xJ t (L.getD i ((0 : Int),(0 : Int),ByteArray.empty,false)) (L.drop (i + 1)) = { t with raw:=t.raw ++ (L.getD i ((0 : Int),(0 : Int),ByteArray.empty,false)).2.2.1 ++ ⟨#[10]⟩ }:=(by unfold xJ;rw [if_neg h58,if_neg h91]);refine qL ?_;refine qH ?_;refine zob ?_;exact ⟨(i + 1,xJ t (L.getD i ((0 : Int),(0 : Int),ByteArray.empty,false)) (L.drop (i + 1))),hN,by first|omega|(simp <;> omega),qP ⟨rfl,rfl,rfl,rfl,((by rw [hS];try rfl)),(qS (by simp only;omega))⟩ ⟨((by rw [hS];try rfl)),((by rw [hS];try rfl))⟩ rfl⟩
    ·try simp only [decide_eq_false_iff_not,Int.not_lt] at h39
     try simp only [zds] at h39
     refine qT ?_;have hd : L.drop i = []:=List.drop_eq_nil_of_le (by omega);have hE:=hI.eq;rw [hd] at hE;refine qI ?_;refine qB ?_;refine qJ rfl (fun h116=>?_) (fun h116=>?_)
     ·try simp only [decide_eq_false_iff_not,Bool.not_eq_true'] at h116
      try simp only [zds] at h116
      refine qH ?_;refine zai (by first|exact qQ (by first|omega|(simp only [List.length_cons,List.length_nil];omega)|(simp;omega)) (by decide)|omega|assumption|decide|(simp only [zds];omega)|(simp <;> omega)) ?_;refine qB ?_;refine qM ?_;rw [hE];unfold runR;rw [if_neg (show ¬ t.raw = ByteArray.empty from h116)];rfl
     ·try simp only [decide_eq_true_eq,Bool.not_eq_false'] at h116
      try simp only [zds] at h116
      refine qL ?_;refine qB ?_;refine qM ?_;rw [hE];unfold runR;rw [if_pos (show t.raw = ByteArray.empty from h116)];rfl
theorem runR_ne : ∀ (L : List Lne) (t : RSt) (bh : Bool) (e : Int × Int),runR bh t L = .inl e → e.2 ≠ 0
  | [],t,bh,e,h=>by unfold runR at h;cases h
  | l :: r,t,bh,e,h=>by
    unfold runR at h;split at h
    · rename_i hw;cases h;exact hw
    · exact runR_ne r _ _ e h
theorem items_flds {s : ByteArray} {l : List Itm} (hs : s.size ≤ 60000) (hp : kC s = .inr l) : l.length ≤ 1000000 ∧ ∀ x ∈ l,x.2.2.length ≤ 1000000:=by
  have h0:=cG s;rw [hp] at h0;obtain ⟨h1,_⟩:=uU s;have key : ∀ (L : List Lne) (t : RSt) (bh : Bool) (l : List Itm),runR bh t L = .inr l → l.length ≤ t.out.length + 1 + 2 * L.length ∧ ∀ (B : Nat),t.flds.length + L.length ≤ B → (∀ x ∈ t.out,x.2.2.length ≤ B) → ∀ x ∈ l,x.2.2.length ≤ B:=by
    intro L
    induction L with
    | nil =>
      intro t bh l h;unfold runR at h;cases h;refine ⟨by split <;> simp,fun B hB ho x hx=>?_⟩;split at hx
      · exact ho x hx
      · rcases List.mem_append.1 hx with hx|hx
        · exact ho x hx
        · rw [List.mem_singleton.1 hx];simpa using hB
    | cons a r ih =>
      intro t bh l h;unfold runR at h;split at h
      · cases h
      · obtain ⟨i1,i2⟩:=ih _ _ _ h;have so : (xJ t a r).out.length ≤ t.out.length + 2:=by
          unfold xJ;split
          · simp only;split <;> simp
          · split <;> simp
        have sf : (xJ t a r).flds.length ≤ t.flds.length + 1:=by
          unfold xJ;split
          · simp
          · split <;> simp
        refine ⟨by rw [List.length_cons];omega,fun B hB ho=>i2 B (by rw [List.length_cons] at hB;omega) (fun x hx=>?_)⟩;have hB2 : t.flds.length ≤ B:=by omega
        unfold xJ at hx;split at hx
        · simp only at hx;rcases List.mem_append.1 hx with hx|hx
          · split at hx
            · exact ho x hx
            · rcases List.mem_append.1 hx with hx|hx
              · exact ho x hx
              · rw [List.mem_singleton.1 hx];exact hB2
          · rw [List.mem_singleton.1 hx];exact Nat.zero_le _
        · split at hx
          · exact ho x hx
          · exact ho x hx
  obtain ⟨k1,k2⟩:=key _ _ _ _ h0.symm;refine ⟨by simp only [rst0,List.length_nil] at k1;omega,k2 1000000 (by simp only [rst0,List.length_nil];omega) (fun x hx=>by cases hx)⟩
section
variable {I : List Itm} {c : Int} {p q q1 : PSt}
end
theorem filter_at {α : Type} (p : α → Bool) (d : α) : ∀ (l : List α) (j : Nat),j < l.length → p (l.getD j d) = true → ((l.take j).filter p).length < (l.filter p).length ∧ (l.filter p).getD ((l.take j).filter p).length d = l.getD j d
  | [],j,h,_=>by simp at h
  | x :: r,0,h,hp=>by
    have hp : p x = true:=by simpa using hp
    simp [hp]
  | x :: r,j + 1,h,hp=>by
    obtain ⟨h1,h2⟩:=filter_at p d r j (by simpa using h) (by simpa using hp);rw [List.take_succ_cons,List.filter_cons,List.filter_cons]
    by_cases hx : p x = true
    · simp only [hx,if_true,List.length_cons,List.getD_cons_succ];exact ⟨by omega,h2⟩
    · simp only [hx,List.getD_cons_succ];exact ⟨h1,h2⟩
abbrev Ent:=Itm × Int
abbrev rEnt : Rd Ent:=.st rItm (.int .i64)
abbrev Lst:=List Ent × Int × Int
abbrev rLst (k : Nat) : Rd Lst:=.st (.slk k rEnt) (.st (.int .i64) (.int .i64))
abbrev Stz:=Int × List Fld
abbrev rStz : Rd Stz:=.st (.int .i64) (.sl rFld)
def zK (x : Itm) : Bool:=decide (x.1 = 3)
def cntR (l : List Itm) : Nat:=(l.filter zK).length
def numI (n : Int) : List Itm → List Ent
  | []=>[]
  | x :: r=>match zK x with
    | true=>(x,n) :: numI (n + 1) r
    | false=>(x,0) :: numI n r
theorem cntR_app (a b : List Itm) : cntR (a ++ b) = cntR a + cntR b:=by simp [cntR]
theorem numI_snoc : ∀ (l : List Itm) (n : Int) (x : Itm),numI n (l ++ [x]) = numI n l ++ [(x,if zK x then n + cntR l else 0)]
  | [],n,x=>by
    cases h : zK x <;> simp [numI,h,cntR]
  | y :: r,n,x=>by
    have ih:=fun m=>numI_snoc r m x
    cases h : zK y with
    | true =>
      have e : n + 1 + (cntR r : Int) = n + (cntR (y :: r) : Int):=by simp [cntR,h];omega
      simp only [List.cons_append,numI,h,ih,e]
    | false =>
      have e : (cntR r : Int) = (cntR (y :: r) : Int):=by simp [cntR,h]
      simp only [List.cons_append,numI,h,ih,e]
theorem uM : ∀ (l : List Itm) (n : Int),(numI n l).length = l.length
  | [],_=>rfl
  | x :: r,n=>by
    unfold numI;split <;> simp [uM r]
theorem numI_items : ∀ (l : List Itm) (n : Int),(numI n l).map (·.1) = l
  | [],_=>rfl
  | x :: r,n=>by
    unfold numI;split <;> simp [numI_items r]
def ofT (l : List Itm) : Lst:=(numI 1 l,1 + (cntR l : Int),(cntR l : Int))
def hasId (id : Int) (e : Ent) : Bool:=decide (e.2 = id)
def atE (es : List Ent) (id : Int) : Int:=if id < 1 then -1 else ixOf (hasId id) es
theorem fI (es : List Ent) (id : Int) : (atE es id = -1 ∧ ∀ e ∈ es,0 < id → e.2 ≠ id) ∨ ∃ i : Nat,i < es.length ∧ atE es id = i ∧ 0 < id ∧ (es.getD i (((0 : Int),ByteArray.empty,([] : List Fld)),(0 : Int))).2 = id ∧ ∀ e ∈ es.take i,e.2 ≠ id:=by
  unfold atE
  by_cases h : id < 1
  · exact .inl ⟨if_pos h,fun e _ h0=>by omega⟩
  · rw [if_neg h];rcases aJ (hasId id) es (((0 : Int),ByteArray.empty,([] : List Fld)),(0 : Int)) with ⟨h1,h2⟩|⟨i,h1,h2,h3,h4⟩
    · refine .inl ⟨h1,fun e he _=>?_⟩;have:=List.any_eq_false.1 h2 e he
      simpa [hasId] using this
    · refine .inr ⟨i,h1,h2,by omega,by simpa [hasId] using h4,fun e he=>?_⟩;have:=List.any_eq_false.1 h3 e he
      simpa [hasId] using this
def uJ (es : List Ent) (i : Nat) (x : Itm) : List Ent:=es.set i (x,(es.getD i (((0 : Int),ByteArray.empty,([] : List Fld)),(0 : Int))).2)
def delE (es : List Ent) (i : Nat) : List Ent:=es.take i ++ es.drop (i + 1)
def insE (es : List Ent) (i : Nat) (e : Ent) : List Ent:=es.take i ++ e :: es.drop i
def live (e : Ent) : Bool:=decide (0 < e.2)
def stzOf (e : Ent) : Stz:=(e.2,e.1.2.2)
def stzL (es : List Ent) : List Stz:=(es.filter live).map stzOf
def rowsL (es : List Ent) : List (List Fld):=(stzL es).map (·.2)
theorem cntR_at {l : List Itm} {i : Nat} (h : i < l.length) : cntR (l.take (i + 1)) = cntR (l.take i) + if zK (l.getD i ((0 : Int),ByteArray.empty,([] : List Fld))) then 1 else 0:=by
  rw [← yE ((0 : Int),ByteArray.empty,([] : List Fld)) h,cntR_app]
  generalize l.getD i ((0 : Int),ByteArray.empty,([] : List Fld)) = x
  cases hk : zK x
  · simp [cntR,hk]
  · simp [cntR,hk]
theorem numI_at {l : List Itm} {i : Nat} (h : i < l.length) : numI 1 (l.take (i + 1)) = numI 1 (l.take i) ++ [(l.getD i ((0 : Int),ByteArray.empty,([] : List Fld)),if zK (l.getD i ((0 : Int),ByteArray.empty,([] : List Fld))) then 1 + (cntR (l.take i) : Int) else 0)]:=by
  rw [← yE ((0 : Int),ByteArray.empty,([] : List Fld)) h];exact numI_snoc (l.take i) 1 _
theorem cntR_le (l : List Itm) : cntR l ≤ l.length:=List.length_filter_le _ _
def lsO (l : Lst) : Obs:=[(0,.box 83 [.vec 1,.lit (.int .i64 l.2.1),.lit (.int .i64 l.2.2)]),(1,.vec 87 rEnt l.1)]
theorem cL {a b c d : Int} (h1 : a = c) (h2 : b = d) : some (Ob.box 83 [.vec 1,.lit (.int .i64 a),.lit (.int .i64 b)]) = some (Ob.box 83 [.vec 1,.lit (.int .i64 c),.lit (.int .i64 d)]):=by rw [h1,h2]
theorem of_ok (s : ByteArray) (hs : s.size ≤ 60000) {l : List Itm} (hp : kC s = .inr l) : yB Tryz.prog 6 [is s] [] 0 (.tup [(false,[.own 0 0]),(false,[.lit .nilIface])]) (lsO (ofT l)) 2:=by
  have hpa:=parse_a s hs;rw [hp] at hpa;obtain ⟨hl1,hl2⟩:=items_flds hs hp;refine yA (rs:=[2,3]) Tryz.func6 rfl rfl rfl teOk (by decide) rfl ?_;refine qB ?_;refine qB ?_;refine Or.inl ?_;refine zai (rfl) ?_;refine zei _ (zai (hpa) ?_);refine qI ?_;refine qB ?_;refine qJ rfl (fun h16=>?_) (fun h16=>?_)
  ·try simp only [Bool.not_eq_true'] at h16
   try simp only [zds] at h16
   cases h16
  ·try simp only [Bool.not_eq_false'] at h16
   try simp only [zds] at h16
   refine qL ?_;refine qB ?_;refine qI ?_;refine qI ?_;refine yM 0 0 87 rEnt rfl rfl rfl ?_;refine qH ?_;intro l5_1
   try simp only [zds] at l5_1
   refine qN ?_;refine qR (fun (i : Nat)=>i ≤ l.length) (fun (i : Nat)=>[(0,is s),(6,.one (.own 0 0)),(20,.one (.sl rItm l)),(21,ii .i64 l.length),(22,ii .i64 i)]) (fun (i : Nat)=>[(0,.box 83 [.vec 1,.lit (.int .i64 (1 + (cntR (l.take i) : Int))),.lit (.int .i64 (cntR (l.take i)))]),(1,.vec 87 rEnt (numI 1 (l.take i)))]) 2 (fun (i : Nat)=>l.length - i) 0 (Nat.zero_le _) (qP ⟨rfl,rfl,rfl,rfl,rfl⟩ ⟨rfl,rfl⟩ rfl) ?_;intro i hI0;refine qB ?_;refine qI ?_;refine qJ rfl (fun h23=>?_) (fun h23=>?_)
   ·try simp only [decide_eq_true_eq] at h23
    try simp only [zds] at h23
    have hil : i < l.length:=(by omega);have hsn:=numI_at hil;have hcn:=cntR_at hil;have hcl:=cntR_le (l.take i);rw [List.length_take] at hcl;refine qL ?_;refine qI ?_;refine qN ?_;refine qB ?_;refine zob ?_;refine qB ?_;refine qI ?_;refine qB ?_;refine qJ rfl (fun h30=>?_) (fun h30=>?_)
    ·try simp only [decide_eq_true_eq] at h30
     try simp only [Int.toNat_natCast,qG,qF,qE,qD] at h30
     have hk : zK (l.getD i ((0 : Int),ByteArray.empty,([] : List Fld))) = true:=decide_eq_true h30;rw [hk,if_pos rfl] at hsn hcn;refine qB ?_;refine qB ?_;refine zob ?_;refine qH ?_;refine zob ?_;refine yW rfl ?_;refine qO 0 rfl ?_;refine qO 1 rfl ?_;refine qO 2 rfl ?_;refine qO 3 rfl ?_;refine qK [4,5] ?_;refine zai ?_ ?_
     ·refine qK [5] ?_;refine qK [6] ?_;refine qK [7] ?_;refine zai (by exact qQ (show (numI 1 (l.take i)).length + 1 ≤ 1000000000 by rw [uM,List.length_take];omega) (by decide)) ?_;refine qO 8 rfl ?_;refine qO 9 rfl ?_;refine qK [10] ?_;refine qU ?_;refine qH ?_;refine zob ?_;exact ⟨i + 1,by omega,by first|omega|(simp <;> omega),qP ⟨rfl,rfl,rfl,rfl,rfl⟩ ⟨(cL (by omega) (by omega)),(qV (by rw [hsn];exact rfl))⟩ rfl⟩
     ·refine qK [4,6] ?_;refine zai ?_ ?_
      ·refine qK [6] ?_;refine qK [7] ?_;refine zai (by exact qQ (show (numI 1 (l.take i)).length + 1 ≤ 1000000000 by rw [uM,List.length_take];omega) (by decide)) ?_;refine qO 8 rfl ?_;refine qO 9 rfl ?_;refine qK [10] ?_;refine qU ?_;refine qH ?_;refine zob ?_;exact ⟨i + 1,by omega,by first|omega|(simp <;> omega),qP ⟨rfl,rfl,rfl,rfl,rfl⟩ ⟨(cL (by omega) (by omega)),(qV (by rw [hsn];exact rfl))⟩ rfl⟩
      ·refine qK [4] ?_;refine qK [7] ?_;refine zai (by exact qQ (show (numI 1 (l.take i)).length + 1 ≤ 1000000000 by rw [uM,List.length_take];omega) (by decide)) ?_;refine qO 8 rfl ?_;refine qO 9 rfl ?_;refine qK [10] ?_;refine qU ?_;refine qH ?_;refine zob ?_;exact ⟨i + 1,by omega,by first|omega|(simp <;> omega),qP ⟨rfl,rfl,rfl,rfl,rfl⟩ ⟨(cL (by omega) (by omega)),(qV (by rw [hsn];exact rfl))⟩ rfl⟩
    ·try simp only [decide_eq_false_iff_not] at h30
     try simp only [Int.toNat_natCast,qG,qF,qE,qD] at h30
     have hk : zK (l.getD i ((0 : Int),ByteArray.empty,([] : List Fld))) = false:=decide_eq_false h30;rw [hk,if_neg Bool.false_ne_true] at hsn hcn;refine qL ?_;refine yW rfl ?_;refine qO 0 rfl ?_;refine qO 1 rfl ?_;refine qO 2 rfl ?_;refine qO 3 rfl ?_;refine qK [4,5] ?_;refine zai ?_ ?_
     ·refine qK [5] ?_;refine qK [6] ?_;refine qK [7] ?_;refine zai (by exact qQ (show (numI 1 (l.take i)).length + 1 ≤ 1000000000 by rw [uM,List.length_take];omega) (by decide)) ?_;refine qO 8 rfl ?_;refine qO 9 rfl ?_;refine qK [10] ?_;refine qU ?_;refine qH ?_;refine zob ?_;exact ⟨i + 1,by omega,by first|omega|(simp <;> omega),qP ⟨rfl,rfl,rfl,rfl,rfl⟩ ⟨(cL (by omega) (by omega)),(qV (by rw [hsn];exact rfl))⟩ rfl⟩
     ·refine qK [4,6] ?_;refine zai ?_ ?_
      ·refine qK [6] ?_;refine qK [7] ?_;refine zai (by exact qQ (show (numI 1 (l.take i)).length + 1 ≤ 1000000000 by rw [uM,List.length_take];omega) (by decide)) ?_;refine qO 8 rfl ?_;refine qO 9 rfl ?_;refine qK [10] ?_;refine qU ?_;refine qH ?_;refine zob ?_;exact ⟨i + 1,by omega,by first|omega|(simp <;> omega),qP ⟨rfl,rfl,rfl,rfl,rfl⟩ ⟨(cL (by omega) (by omega)),(qV (by rw [hsn];exact rfl))⟩ rfl⟩
      ·refine qK [4] ?_;refine qK [7] ?_;refine zai (by exact qQ (show (numI 1 (l.take i)).length + 1 ≤ 1000000000 by rw [uM,List.length_take];omega) (by decide)) ?_;refine qO 8 rfl ?_;refine qO 9 rfl ?_;refine qK [10] ?_;refine qU ?_;refine qH ?_;refine zob ?_;exact ⟨i + 1,by omega,by first|omega|(simp <;> omega),qP ⟨rfl,rfl,rfl,rfl,rfl⟩ ⟨(cL (by omega) (by omega)),(qV (by rw [hsn];exact rfl))⟩ rfl⟩
   ·try simp only [decide_eq_false_iff_not,Int.not_lt] at h23
    try simp only [zds] at h23
    refine qT ?_;refine qB ?_;refine qM ?_;rw [List.take_of_length_le (by omega)];exact ⟨rfl,⟨rfl,rfl⟩,rfl⟩
theorem of_err (s : ByteArray) (hs : s.size ≤ 60000) {at_ n : Int} (hp : kC s = .inl (at_,n)) : qX Tryz.prog 6 [is s] (.tup [(false,[.lit (.pointer none)]),(false,[errF at_ n])]):=by
  have hpa:=parse_a s hs;rw [hp] at hpa;refine qW (rs:=[2,3]) Tryz.func6 rfl rfl rfl teOk rfl ?_;refine qB ?_;refine qB ?_;refine Or.inl ?_;refine zai (rfl) ?_;refine zei _ (zai (hpa) ?_);refine qI ?_;refine qB ?_;refine qJ rfl (fun h16=>?_) (fun h16=>?_)
  ·skip
   refine qB ?_;refine qM ?_;rfl
  ·try simp only [zbq] at h16
   try simp only [zds] at h16
   cases h16
end Q
end Ab
end Go.Proofs.YtmaekcmknibmeaaGreatDoor
namespace Go.Proofs.YtmaekcmknibmeaaGreatDoor
open Go.RowKit
namespace Ab
set_option maxRecDepth 100000
set_option maxHeartbeats 2000000
namespace Q
theorem fQ {P : Program} {ops : Array Oper} {o : Oper} {a : Act} {w : World} {K : Act → World → Prop} {Q : Exit → Act → World → Prop} {E : Prop}
    (hg : o.guard = none) (d x : Operand) (dT sT : TypeId) (hop : o.op = Op.call { callee:=Callee.builtin Builtin.append,args:=#[d,x],argTypes:=#[dT,sT] })
    (v u : Value) (hd : a.eval d = v) (hx : a.eval x = u) {v' : Value} {w' : World} (hr : (Builtin.append_ #[dT,sT] o.type #[v,u]).run P w = .ok v' w') (hK : K (a.put o.dst v') w') :
    if Region.wanted o (yielded ops a.tmps) = true then Oper.wp P o a w K Q else E:=by
  have hw : Region.wanted o (yielded ops a.tmps) = true:=by simp [Region.wanted,hg]
  rw [if_pos hw];unfold Oper.wp;simp [execOp,hop,resolve,invoke,builtin,hd,hx,hr,Result.andThen];exact hK
theorem zs_len {P : Program} {t : TypeId} {i : TyI} (h : TyOk P t i) (n : Nat) : (Builtin.zeroCells i.zeroV.cells n).toList.length = n * i.size:=by
  rw [Array.length_toList,size_zeroCells,h.zeroCells,List.size_toArray,h.zlen]
theorem zs_one {P : Program} {t : TypeId} {i : TyI} (h : TyOk P t i) (n : Nat) : ∀ v ∈ (Builtin.zeroCells i.zeroV.cells n).toList,v.oneCell' = true:=by
  intro v hv;unfold Builtin.zeroCells at hv;rw [h.zeroCells] at hv;simp only [Array.toList_map,Array.toList_range,List.mem_map,List.mem_range,List.size_toArray] at hv;obtain ⟨k,hk,rfl⟩:=hv;have hlt : k % i.zero.length < i.zero.length:=Nat.mod_lt _ (by
    rcases Nat.eq_zero_or_pos i.zero.length with h0|h0
    · rw [h0,Nat.mul_zero] at hk;omega
    · exact h0)
  have e : (i.zero.toArray)[k % i.zero.length]! = i.zero[k % i.zero.length]:=by simp [hlt]
  rw [e];exact fV (h.zplain _ (List.getElem_mem hlt))
theorem run_clear_row {P : Program} {t e ty : TypeId} {ei : TyI} (ht : P.underlying t = some (.slice e)) (he : TyOk P e ei) (w : World) (b o n c : Nat) {cur : Array Value} {T : TypeId} (hb : w.heap[b]? = some (.cells cur T (0,0))) (hn : 0 < n) (hfit : o + n * ei.size ≤ cur.size) :
    (Builtin.clear_ #[t] ty #[.slice (some ⟨b,o,none⟩) n c]).run P w = .ok (.tuple #[]) (w.setRow b (cur.toList.take o ++ (Builtin.zeroCells ei.zeroV.cells n).toList ++ cur.toList.drop (o + n * ei.size)).toArray):=by
  have hst:=run_storeCells_at P b o T (Builtin.zeroCells ei.zeroV.cells n).toList 0 cur w hb (by rw [zs_len he];omega) (zs_one he n);simp only [Nat.add_zero,zs_len he] at hst;obtain ⟨m,rfl⟩ : ∃ m,n = m + 1:=⟨n - 1,by omega⟩;simp [Builtin.clear_,run_underlying ht,he.zeroValue,hst]
theorem aZ : TyOk Tryz.prog 87 ty87:=tyOk87
theorem del_w (b cap n i j : Nat) (cur : Array Value) (w : World) (hb : w.heap[b]? = some (.cells cur 87 (0,0))) (hcs : cur.size = cap * 4) (hnc : n ≤ cap) (_hcm : cap ≤ maxLen) (hij : i < j) (hj : j ≤ n) (h1 : ∀ v ∈ cur.toList.take (n * 4),v.oneCell' = true) :
    Calls Tryz.prog 43 #[.slice (some ⟨b,0,none⟩) n cap,.int .i64 i,.int .i64 j] w fun e w'=>e = .returned (.slice (some ⟨b,0,none⟩) (n - (j - i)) cap) ∧ ∃ cur',Grew w w' (some b) ∧ w'.heap[b]? = some (.cells cur' 87 (0,0)) ∧ cur'.size = cap * 4 ∧ cur'.toList.take ((n - (j - i)) * 4) = cur.toList.take (i * 4) ++ (cur.toList.drop (j * 4)).take ((n - j) * 4):=by
  have mixed : Tryz.prog.follows .mixedOrders = true:=by kernel_rfl
  have hic : i ≤ cap:=by omega
  have hjc : j ≤ cap:=by omega
  obtain ⟨news,hnews⟩ : ∃ news,(cur.toList.drop (j * 4)).take ((n - j) * 4) = news:=⟨_,rfl⟩;have hlen : news.length = (n - j) * 4:=by
    rw [← hnews,List.length_take,List.length_drop,Array.length_toList,hcs];have : (n - j) * 4 ≤ cap * 4 - j * 4:=by omega
    omega
  obtain ⟨i0,hi0,hz0,hz1,hz2⟩:=aZ.info;obtain ⟨A,hA,hsrc⟩ : ∃ A : Addr,(if cap = j then (some ⟨b,0,none⟩ : Option Addr) else some ⟨b,j * 4,none⟩) = some A ∧ (∀ t u,news[t]? = some u → w.drew.cell? (A.add t) = some u):=by
    by_cases h : cap = j
    · refine ⟨_,if_pos h,fun t u hu=>?_⟩;have h0 : news.length = 0:=by rw [hlen];omega
      rw [List.length_eq_zero_iff.1 h0] at hu;simp at hu
    · refine ⟨_,if_neg h,fun t u hu=>?_⟩;have ht:=(List.getElem?_eq_some_iff.1 hu).1;rw [← hnews,List.getElem?_take_of_lt (by omega),List.getElem?_drop] at hu;rw [Go.WideShapes.add_plain];show w.cell? _ = _;simp only [World.cell?,hb,Option.isSome_none,Bool.false_eq_true,if_false];rw [← hu];simp
  have hone : ∀ u ∈ news,u.oneCell' = true:=by
    intro u hu;rw [← hnews,show (n - j) * 4 = n * 4 - j * 4 by omega,← List.drop_take] at hu;exact h1 u (List.mem_of_mem_drop hu)
  obtain ⟨cur1,hcur1⟩ : ∃ c : Array Value,(cur.toList.take (i * 4) ++ news ++ cur.toList.drop (i * 4 + news.length)).toArray = c:=⟨_,rfl⟩;have hsz1 : cur1.size = cap * 4:=by
    rw [← hcur1];simp only [List.size_toArray,List.length_append,List.length_take,List.length_drop,Array.length_toList,hcs,hlen];omega
  obtain ⟨W1,hW1⟩ : ∃ W1,w.drew.setRow b cur1 = W1:=⟨_,rfl⟩;have hap : ∀ ty,(Builtin.append_ #[81,81] ty #[.slice (some ⟨b,0,none⟩) i cap,.slice (some A) (n - j) (cap - j)]).run Tryz.prog w.drew = .ok (.slice (some ⟨b,0,none⟩) (i + (n - j)) cap) W1:=by
    intro ty;have:=run_append_room (P:=Tryz.prog) w.drew 81 ty 87 i0 Tryz.underlying81 hi0 b i cap cur hb A (n - j) (cap - j) news (by rw [hlen,hz0];rfl) hsrc hone (by omega) (by rw [hz0,hlen,hcs];show i * 4 + _ ≤ _;omega);rw [show i0.size = 4 from hz0,hcur1,hW1] at this;exact this
  have hb1 : W1.heap[b]? = some (.cells cur1 87 (0,0)):=by rw [← hW1];exact setRow_heap w.drew b cur cur1 _ _ hb
  have hk : i + (n - j) < n:=by omega
  have hkc : ¬ cap = i + (n - j):=by omega
  obtain ⟨W2,cur2,hW2,hcl⟩ : ∃ W2 cur2,W2 = W1.setRow b cur2 ∧ cur2.size = cap * 4 ∧ cur2.toList.take ((i + (n - j)) * 4) = cur1.toList.take ((i + (n - j)) * 4) ∧ ∀ ty,(Builtin.clear_ #[81] ty #[.slice (some ⟨b,(i + (n - j)) * 4,none⟩) (n - (i + (n - j))) (cap - (i + (n - j)))]).run Tryz.prog W1 = .ok (.tuple #[]) W2:=by
    have hz:=zs_len aZ (n - (i + (n - j)));have hz4 : ty87.size = 4:=rfl;rw [hz4] at hz;refine ⟨_,_,rfl,?_,?_,fun ty=>run_clear_row Tryz.underlying81 aZ W1 b _ _ _ hb1 (by omega) (by rw [hsz1,hz4];omega)⟩
    · simp only [List.size_toArray,List.length_append,List.length_take,List.length_drop,Array.length_toList,hsz1,hz,hz4];omega
    · rw [List.append_assoc,List.take_append_of_le_length (by rw [List.length_take,Array.length_toList,hsz1];omega),List.take_take,Nat.min_self]
  obtain ⟨hsz2,htk,hcl⟩:=hcl;have fin : W2.heap[b]? = some (.cells cur2 87 (0,0)) ∧ Grew w W2 (some b):=by
    rw [hW2];exact ⟨setRow_heap W1 b cur1 cur2 _ _ hb1,by rw [← hW1,setRow_setRow];exact ⟨rfl,rfl,rfl,by simp,fun k hk hne=>setRow_other w.drew b k _ (fun e=>hne (by rw [e]))⟩⟩
  have hres : cur2.toList.take ((i + (n - j)) * 4) = cur.toList.take (i * 4) ++ news:=by
    rw [htk,← hcur1,List.take_append_of_le_length (by simp only [List.length_append,List.length_take,Array.length_toList,hcs,hlen];omega),List.take_of_length_le (by simp only [List.length_append,List.length_take,Array.length_toList,hcs,hlen];omega)]
  have hnn : n - (j - i) = i + (n - j):=by omega
  rw [hnn];rw [← hnews] at hres;clear hW2 hW1 htk hcur1 hb hb1 hsrc hone hlen hnews h1
  go_enter Tryz.func43,Tryz.ntmps43
  go_wp2
  go_region_law_o (refine fQ rfl (.tmp 22) (.tmp 25) 81 81 rfl (.slice (some ⟨b,0,none⟩) i cap) (.slice (some A) (n - j) (cap - j)) (by simp [Act.eval,Act.put]) (by simp [Act.eval,Act.put]) (hap _) ?_)
  go_wp2_with (at_builtin;refine wpList_clear_runI _ rfl _ _ rfl _ rfl (hcl _) ?_)
  go_ret
  exact ⟨rfl,cur2,fin.2,fin.1,hsz2,hres⟩
end Q
end Ab
end Go.Proofs.YtmaekcmknibmeaaGreatDoor
namespace Go.Proofs.YtmaekcmknibmeaaGreatDoor
open Go.RowKit
namespace Ab
set_option maxRecDepth 100000
set_option maxHeartbeats 4000000
namespace Q
theorem aD {P : Program} (w : World) (dT sT ty elem : TypeId) {ei : TyI} (hu : P.underlying dT = some (.slice elem)) (he : TyOk P elem ei) (g o dLen dCap : Nat) (a : Addr) (sLen sCap n : Nat) (cur : Array Value) (t : TypeId) (cs : List Value)
    (hg : w.heap[g]? = some (.cells cur t (0,0))) (hm : Nat.min sLen dLen = n) (hn : cs.length = n * ei.size) (hsrc : ∀ j v,cs[j]? = some v → w.cell? (a.add j) = some v) (hfit : o + cs.length ≤ cur.size) (h1 : ∀ v ∈ cs,v.oneCell' = true) :
    (Builtin.copy_ #[dT,sT] ty #[.slice (some ⟨g,o,none⟩) dLen dCap,.slice (some a) sLen sCap]).run P w = .ok (goInt n) (w.setRow g (cur.toList.take o ++ cs ++ cur.toList.drop (o + cs.length)).toArray):=by
  have hl:=run_loadCells_list (P:=P) w a cs hsrc;have hst:=run_storeCells_at P g o t cs 0 cur w hg (by simpa using hfit) h1;simp only [Nat.add_zero] at hst;simp [Builtin.copy_,run_underlying hu,Builtin.lenOf,Builtin.firstCells,he.sizeOf,hm,← hn,hl,hst]
def RowTo (w w' : World) (v u : Value) (n : Nat) (cs : List Value) : Prop :=
  w'.ownsRow 0 87 4 u n cs ∧ Grew w w' (blk (some v)) ∧ (∀ b,blk (some u) = some b → blk (some v) = some b ∨ (w.heap.size ≤ b ∧ b < w'.heap.size)) ∧ ∃ a n c,u = .slice a n c
theorem bG {w : World} {b n cap : Nat} {cs : List Value} (h : w.ownsRow 0 87 4 (.slice (some ⟨b,0,none⟩) n cap) n cs) : ∃ cur,w.heap[b]? = some (.cells cur 87 (0,0)) ∧ n ≤ cap ∧ cap ≤ maxLen ∧ cur.size = cap * 4 ∧ cur.toList.take (n * 4) = cs ∧ cs.length = n * 4:=by
  rcases h.2 with ⟨h0,_⟩|⟨g,c,cur,hsl,_,hg,hnc,hcm,hcs,htake⟩
  · cases h0
  · injection hsl with e1 e2 e3
    injection e1 with e1
    injection e1 with e1 _ _
    subst e1 e3;exact ⟨cur,hg,hnc,hcm,hcs,htake,h.1⟩
theorem ins_end (n : Nat) (v : Value) (cs ns : List Value) (vb vc : Nat) (w : World) (hown : w.ownsRow 0 87 4 v n cs) (hown2 : w.ownsRow 0 87 4 (.slice (some ⟨vb,0,none⟩) 1 vc) 1 ns) (h1 : ∀ u ∈ ns,u.oneCell' = true) (hn : n ≤ 1000000) :
    Calls Tryz.prog 44 #[v,.int .i64 n,.slice (some ⟨vb,0,none⟩) 1 vc] w fun e w'=>∃ u,e = .returned u ∧ RowTo w w' v u (n + 1) (cs ++ ns):=by
  obtain ⟨v',w',hr,h2,h3,h4,h5⟩:=Ab.run_app (P:=Tryz.prog) (w:=w) (ty:=81) Tryz.underlying81 aZ (by decide) hown (ad:=⟨vb,0,none⟩) (m:=1) (c:=vc) (news:=ns) hown2.1 (fun j u hj=>hown2.cells (g:=vb) rfl j u hj) h1 Nat.one_pos (by unfold maxLen;omega) (qQ (show n + 1 ≤ 1000000000 by omega) (show ty87.bytes ≤ 1000 by decide));have mixed : Tryz.prog.follows .mixedOrders = true:=by kernel_rfl
  have fin : RowTo w w' v v' (n + 1) (cs ++ ns):=⟨h2,h3,h4,h5⟩;obtain ⟨va,vn,vcap,hv,hvn⟩ : ∃ a m c,v = .slice a m c ∧ m = n:=by
    rcases hown.2 with ⟨h0,hz⟩|⟨g,c,cur,hsl,_⟩
    · exact ⟨_,_,_,h0,hz.symm⟩
    · exact ⟨_,_,_,hsl,rfl⟩
  subst hvn;subst hv;have hcap : vn ≤ vcap:=by
    rcases hown.2 with ⟨h0,hz⟩|⟨g,c,cur,hsl,_,_,hnc,_⟩
    · omega
    · injection hsl with _ _ e3;omega
  clear hown hown2 h1 h2 h3 h4 h5
  by_cases hq : vcap = vn
  · subst hq
    go_enter Tryz.func44,Tryz.ntmps44
    go_wp2_with (at_builtin;refine Lib.wpList_append_run _ rfl _ _ _ _ rfl _ _ rfl rfl _ _ hr ?_)
    go_ret
    exact ⟨_,rfl,fin⟩
  · go_enter Tryz.func44,Tryz.ntmps44
    go_wp2_with (at_builtin;refine Lib.wpList_append_run _ rfl _ _ _ _ rfl _ _ rfl rfl _ _ hr ?_)
    go_ret
    exact ⟨_,rfl,fin⟩
theorem take4 {α : Type} (l : List α) (a b : Nat) (h : a ≤ b) : (l.take b).take a = l.take a:=by rw [List.take_take,Nat.min_eq_left h]
theorem ins_shift (n i : Nat) (b cap : Nat) (cs ns : List Value) (vb vc : Nat) (w : World) (hi : i < n) (hroom : n + 1 ≤ cap) (hown : w.ownsRow 0 87 4 (.slice (some ⟨b,0,none⟩) n cap) n cs) (hown2 : w.ownsRow 0 87 4 (.slice (some ⟨vb,0,none⟩) 1 vc) 1 ns) (hne : vb ≠ b) (h1 : ∀ u ∈ ns,u.oneCell' = true) (h1c : ∀ u ∈ cs,u.oneCell' = true) :
    Calls Tryz.prog 44 #[.slice (some ⟨b,0,none⟩) n cap,.int .i64 i,.slice (some ⟨vb,0,none⟩) 1 vc] w fun e w'=>∃ u,e = .returned u ∧ RowTo w w' (.slice (some ⟨b,0,none⟩) n cap) u (n + 1) (cs.take (i * 4) ++ ns ++ cs.drop (i * 4)):=by
  obtain ⟨cur,hb,hnc,hcm,hcz,htk,hcl⟩:=bG hown;obtain ⟨cur2,hvb,hvc,_,hcz2,htk2,hnl⟩:=bG hown2;have hz4 : ty87.size = 4:=rfl;have hdl : (cs.drop (i * 4)).length = (n - i) * 4:=by rw [List.length_drop,hcl];omega
  have hov : ∀ lb cb,(callFunc 74 #[.slice (some ⟨vb,0,none⟩) 1 vc,.slice (some ⟨b,(i + 1) * 4,none⟩) lb cb]).run Tryz.prog w = .ok (.value (.bool false)) w:=fun lb cb=>by
    rw [run_callFunc_extern Tryz.func74 (by kernel_rfl) (by kernel_rfl) (by kernel_rfl) (e:=Extern.SlicesOverlaps.overlaps #[81,81] #[4]) (by kernel_rfl),
      Lib.run_overlaps_apart w 81 4 87 Tryz.underlying81 4 (fun w=>aZ.sizeOf w) ⟨vb,0,none⟩ ⟨b,(i + 1) * 4,none⟩ 1 vc lb cb hne 87 87 cur2.size cur.size (by simp [World.shape?,hvb]) (by simp [World.shape?,hb]) (by omega) (by simp [World.frozen?,hvb]) (by simp [World.frozen?,hvb])]
    rfl
  obtain ⟨cur1,hcur1⟩ : ∃ c : Array Value,(cur.toList.take ((i + 1) * 4) ++ cs.drop (i * 4) ++ cur.toList.drop ((i + 1) * 4 + (cs.drop (i * 4)).length)).toArray = c:=⟨_,rfl⟩;have hsz1 : cur1.size = cap * 4:=by
    rw [← hcur1];simp only [List.size_toArray,List.length_append,List.length_take,hdl,List.length_drop (l:=cur.toList),Array.length_toList,hcz];omega
  have hcsrc : ∀ j v,(cs.drop (i * 4))[j]? = some v → w.cell? ⟨b,i * 4 + j,none⟩ = some v:=by
    intro j v hj;have hlt:=(List.getElem?_eq_some_iff.1 hj).1;rw [List.getElem?_drop,← htk,List.getElem?_take_of_lt (by omega)] at hj;simp only [World.cell?,hb,Option.isSome_none,Bool.false_eq_true,if_false];rw [← hj];simp
  have hcp1 : ∀ ty dc sc,(Builtin.copy_ #[81,81] ty #[.slice (some ⟨b,(i + 1) * 4,none⟩) (n - i) dc,.slice (some ⟨b,i * 4,none⟩) (n + 1 - i) sc]).run Tryz.prog w.drew = .ok (goInt ((n - i : Nat) : Int)) (w.drew.setRow b cur1):=fun ty dc sc=>by
    rw [← hcur1];exact aD w.drew _ _ ty 87 Tryz.underlying81 aZ b ((i + 1) * 4) (n - i) dc ⟨b,i * 4,none⟩ (n + 1 - i) sc (n - i) cur _ (cs.drop (i * 4)) hb (by simp only [Nat.min_def];split <;> omega) (by rw [hdl,hz4]) (fun j v hj=>by rw [Go.WideShapes.add_plain];exact hcsrc j v hj) (by rw [hdl,hcz];omega) (fun v hv=>h1c v (List.mem_of_mem_drop hv))
  obtain ⟨W1,hW1⟩ : ∃ W1,w.drew.setRow b cur1 = W1:=⟨_,rfl⟩;rw [hW1] at hcp1;have hb1 : W1.heap[b]? = some (.cells cur1 87 (0,0)):=by rw [← hW1];exact setRow_heap w.drew b cur cur1 _ _ hb
  have hvb1 : W1.heap[vb]? = w.heap[vb]?:=by rw [← hW1];exact setRow_other w.drew b vb _ hne
  obtain ⟨curn,hcurn⟩ : ∃ c : Array Value,(cur1.toList.take (i * 4) ++ ns ++ cur1.toList.drop (i * 4 + ns.length)).toArray = c:=⟨_,rfl⟩;have hszn : curn.size = cap * 4:=by
    rw [← hcurn];simp only [List.size_toArray,List.length_append,List.length_take,hnl,List.length_drop,Array.length_toList,hsz1];omega
  have hcp2 : ∀ (W : World),(∀ k : Nat,W.heap[k]? = W1.heap[k]?) → ∀ ty dc,(Builtin.copy_ #[81,81] ty #[.slice (some ⟨b,i * 4,none⟩) (n + 1 - i) dc,.slice (some ⟨vb,0,none⟩) 1 vc]).run Tryz.prog W = .ok (goInt 1) (W.setRow b curn):=fun W hW ty dc=>by
    rw [← hcurn];exact aD W _ _ ty 87 Tryz.underlying81 aZ b (i * 4) (n + 1 - i) dc ⟨vb,0,none⟩ 1 vc 1 cur1 _ ns (by rw [hW];exact hb1) (by simp only [Nat.min_def];split <;> omega) (by rw [hnl,hz4]) (fun j v hj=>by
      rw [Go.WideShapes.add_plain];have h0:=hown2.cells (g:=vb) rfl j v hj;rw [Go.WideShapes.add_plain] at h0;rw [← h0];simp only [World.cell?,hW,hvb1]) (by rw [hnl,hsz1];omega) h1
  have hrow : curn.toList.take ((n + 1) * 4) = cs.take (i * 4) ++ ns ++ cs.drop (i * 4):=by
    rw [← hcurn];have e1 : cur1.toList.take (i * 4) = cs.take (i * 4):=by
      rw [← hcur1,List.append_assoc,List.take_append_of_le_length (by simp only [List.length_take,Array.length_toList,hcz];omega),take4 _ _ _ (by omega),← htk,take4 _ _ _ (by omega)]
    have e2 : cur1.toList.drop (i * 4 + ns.length) = cs.drop (i * 4) ++ cur.toList.drop ((i + 1) * 4 + (cs.drop (i * 4)).length):=by
      rw [← hcur1,hnl,List.append_assoc,show i * 4 + 1 * 4 = (cur.toList.take ((i + 1) * 4)).length by simp only [List.length_take,Array.length_toList,hcz];omega,List.drop_left]
    rw [e1,e2,← List.append_assoc,List.take_append_of_le_length (by simp only [List.length_append,List.length_take,hcl,hnl,hdl];omega),List.take_of_length_le (by simp only [List.length_append,List.length_take,hcl,hnl,hdl];omega)]
  have fin : ∀ W : World,(∀ k : Nat,W.heap[k]? = W1.heap[k]?) → W.heap.size = W1.heap.size → W.os = W1.os → W.tape = W1.tape → W.output = W1.output → RowTo w (W.setRow b curn) (.slice (some ⟨b,0,none⟩) n cap) (.slice (some ⟨b,0,none⟩) (n + 1) cap) (n + 1) (cs.take (i * 4) ++ ns ++ cs.drop (i * 4)):=by
    intro W hW hs ho ht hu;refine ⟨⟨by simp only [List.length_append,List.length_take,hcl,hnl,hdl];omega,.inr ⟨b,cap,curn,rfl,Nat.zero_le _,setRow_heap W b cur1 curn _ _ (by rw [hW];exact hb1),hroom,hcm,hszn,hrow⟩⟩,⟨?_,?_,?_,?_,?_⟩,fun _ h=>.inl h,_,_,_,rfl⟩
    · show W.os = _;rw [ho,← hW1];rfl
    · show W.tape = _;rw [ht,← hW1];rfl
    · show W.output = _;rw [hu,← hW1];rfl
    · rw [show (W.setRow b curn).heap.size = W.heap.size by simp,hs,← hW1];simp
    · intro k hk hkb;have hkb' : k ≠ b:=fun e=>hkb (by rw [e];rfl)
      rw [setRow_other W b k _ hkb',hW,← hW1];exact setRow_other w.drew b k _ hkb'
  have mixed : Tryz.prog.follows .mixedOrders = true:=by kernel_rfl
  have hz2 : ¬ ((i : Int) = (n : Int)):=by omega
  have hc63 : cap ≤ 9223372036854775807:=by unfold maxLen at hcm;omega
  have hw1 : IntKind.i64.wrap ((i : Int) + 1) = (i : Int) + 1:=by rw [IntKind.wrap_i64];omega
  have hw2 : IntKind.i64.wrap ((n : Int) + 1) = (n : Int) + 1:=by rw [IntKind.wrap_i64];omega
  have hin : i ≤ n:=by omega
  have hb1' : (0 : Int) ≤ (i : Int) + 1:=by omega
  have htn : ((i : Int) + 1).toNat = i + 1:=by omega
  have hb2 : ¬ (cap = i + 1):=by omega
  have hb4 : ¬ (cap = i):=by omega
  have hb3 : (i : Int) ≤ (n : Int) + 1:=by omega
  clear hcur1 hcurn hW1 hown hown2 h1 h1c hcsrc hrow hdl hcl hnl htk htk2
  go_enter Tryz.func44,Tryz.ntmps44
  go_wp2_with (simp only [hov])
  go_region_law_o (refine step_copy_runI rfl _ _ 81 81 rfl _ _ (by simp [Act.eval,Act.put]) (by simp [Act.eval,Act.put]) (hcp1 _ _ _) ?_)
  go_wp2_with (at_builtin;refine wpList_copy_runI _ rfl _ _ 81 81 rfl _ _ rfl rfl (hcp2 _ (fun _=>rfl) _ _) ?_)
  go_ret
  exact ⟨_,rfl,fin _ (fun _=>rfl) rfl rfl rfl rfl⟩
theorem ins_grow (n i : Nat) (b cap : Nat) (cs ns : List Value) (vb vc : Nat) (w : World) (hi : i < n) (hroom : cap < n + 1) (hn1 : n ≤ 1000000) (hown : w.ownsRow 0 87 4 (.slice (some ⟨b,0,none⟩) n cap) n cs) (hown2 : w.ownsRow 0 87 4 (.slice (some ⟨vb,0,none⟩) 1 vc) 1 ns) (h1 : ∀ u ∈ ns,u.oneCell' = true) (h1c : ∀ u ∈ cs,u.oneCell' = true) :
    Calls Tryz.prog 44 #[.slice (some ⟨b,0,none⟩) n cap,.int .i64 i,.slice (some ⟨vb,0,none⟩) 1 vc] w fun e w'=>∃ u,e = .returned u ∧ RowTo w w' (.slice (some ⟨b,0,none⟩) n cap) u (n + 1) (cs.take (i * 4) ++ ns ++ cs.drop (i * 4)):=by
  obtain ⟨cur,hb,hnc,hcm,hcz,htk,hcl⟩:=bG hown;obtain ⟨cur2,hvb,hvc,_,hcz2,htk2,hnl⟩:=bG hown2;have hbw : b < w.heap.size:=(Array.getElem?_eq_some_iff.1 hb).1;have hvw : vb < w.heap.size:=(Array.getElem?_eq_some_iff.1 hvb).1;have hz4 : ty87.size = 4:=rfl;have hdl : (cs.drop (i * 4)).length = (n - i) * 4:=by rw [List.length_drop,hcl];omega
  obtain ⟨i0,hi0,hz0,hzb,hzz⟩:=aZ.info;have hkk : (n : Int) + 1 - (i : Int) = ((n + 1 - i : Nat) : Int):=by omega
  have hik : i + (n + 1 - i) = n + 1:=by omega
  have hold : (Builtin.firstCells i0.size i (.slice (some ⟨b,0,none⟩) i cap)).run Tryz.prog w.drew = .ok (cs.take (i * 4)).toArray w.drew:=by
    rw [hz0,hz4];exact run_firstCells_some w.drew 4 i ⟨b,0,none⟩ i cap (cs.take (i * 4)) (by rw [List.length_take];omega) (fun j v hj=>by
      have hlt:=(List.getElem?_eq_some_iff.1 hj).1;rw [List.length_take] at hlt;rw [List.getElem?_take_of_lt (by omega)] at hj;exact hown.cells (g:=b) rfl j v hj)
  obtain ⟨G,hG⟩ : ∃ G,grownCap w (n + 1) cap 87 = G:=⟨_,rfl⟩;obtain ⟨ROW,hROW⟩ : ∃ ROW : Array Value,(cs.take (i * 4)).toArray ++ Builtin.zeroCells ty87.zeroV.cells (n + 1 - i) ++ Builtin.zeroCells ty87.zeroV.cells (G - (n + 1)) = ROW:=⟨_,rfl⟩;have hGn : n + 1 ≤ G:=by rw [← hG];exact grownCap_ge w _ _ _
  have hGm : G ≤ maxLen:=by rw [← hG];exact grownCap_le_maxLen w (n + 1) cap _ (by unfold maxLen;omega)
  have hRs : ROW.size = G * 4:=by
    have e1:=zs_len aZ (n + 1 - i);have e2:=zs_len aZ (G - (n + 1));rw [Array.length_toList,hz4] at e1 e2;rw [← hROW];simp only [Array.size_append,List.size_toArray,List.length_take,e1,e2];omega
  have hRt : ROW.toList.take (i * 4) = cs.take (i * 4):=by
    rw [← hROW];simp only [Array.toList_append,List.append_assoc];rw [List.take_append_of_le_length (by simp only [List.length_take];omega),take4 _ _ _ (by omega)]
  have hrz : ∀ ty,(Builtin.append_ #[81,3] ty #[.slice (some ⟨b,0,none⟩) i cap,.int .i64 ((n : Int) + 1 - (i : Int))]).run Tryz.prog w = .ok (.slice (some ⟨w.heap.size,0,none⟩) (n + 1) G) (w.drew.alloc (.cells ROW 87)):=fun ty=>by
    have h:=Lib.run_append_grow_zeros w 81 3 ty 87 i0 _ .i64 .i64 Tryz.underlying81 Tryz.underlying3 hi0 hzz (some ⟨b,0,none⟩) i cap (cs.take (i * 4)) hold (n + 1 - i) (by omega) (by rw [hz0,hz4];decide) (by omega) (by omega) (by rw [hzb,show ty87.bytes = 56 from rfl];omega) (by rw [hzb,hik];exact growslice_fits hroom (qQ (show n + 1 ≤ 1000000000 by omega) (show ty87.bytes ≤ 1000 by decide)));rw [hik,hG,hROW] at h;rw [hkk];exact h
  obtain ⟨W1,hW1⟩ : ∃ W1,w.drew.alloc (.cells ROW 87) = W1:=⟨_,rfl⟩;have hN1 : W1.heap[w.heap.size]? = some (.cells ROW 87 (0,0)):=by rw [← hW1];exact gH w.drew _
  have hO1 : ∀ k,k < w.heap.size → W1.heap[k]? = w.heap[k]?:=fun k hk=>by rw [← hW1];exact Lib.alloc_old w.drew _ k hk
  obtain ⟨curA,hcurA⟩ : ∃ c : Array Value,(ROW.toList.take (i * 4) ++ ns ++ ROW.toList.drop (i * 4 + ns.length)).toArray = c:=⟨_,rfl⟩;have hszA : curA.size = G * 4:=by
    rw [← hcurA];simp only [List.size_toArray,List.length_append,List.length_take,hnl,List.length_drop,Array.length_toList,hRs];omega
  have hcpA : ∀ (W : World),(∀ k : Nat,W.heap[k]? = W1.heap[k]?) → ∀ ty dc,(Builtin.copy_ #[81,81] ty #[.slice (some ⟨w.heap.size,i * 4,none⟩) (n + 1 - i) dc,.slice (some ⟨vb,0,none⟩) 1 vc]).run Tryz.prog W = .ok (goInt 1) (W.setRow w.heap.size curA):=fun W hW ty dc=>by
    rw [← hcurA];exact aD W _ _ ty 87 Tryz.underlying81 aZ w.heap.size (i * 4) (n + 1 - i) dc ⟨vb,0,none⟩ 1 vc 1 ROW _ ns (by rw [hW];exact hN1) (by simp only [Nat.min_def];split <;> omega) (by rw [hnl,hz4]) (fun j v hj=>by
      rw [Go.WideShapes.add_plain];have h0:=hown2.cells (g:=vb) rfl j v hj;rw [Go.WideShapes.add_plain] at h0;rw [← h0];simp only [World.cell?,hW,hO1 vb hvw]) (by rw [hnl,hRs];omega) h1
  obtain ⟨W2,hW2⟩ : ∃ W2,W1.setRow w.heap.size curA = W2:=⟨_,rfl⟩;have hN2 : W2.heap[w.heap.size]? = some (.cells curA 87 (0,0)):=by rw [← hW2];exact setRow_heap W1 _ ROW curA _ _ hN1
  have hO2 : ∀ k,k < w.heap.size → W2.heap[k]? = w.heap[k]?:=fun k hk=>by rw [← hW2,setRow_other W1 _ k _ (by omega)];exact hO1 k hk
  obtain ⟨curn,hcurn⟩ : ∃ c : Array Value,(curA.toList.take ((i + 1) * 4) ++ cs.drop (i * 4) ++ curA.toList.drop ((i + 1) * 4 + (cs.drop (i * 4)).length)).toArray = c:=⟨_,rfl⟩;have hszn : curn.size = G * 4:=by
    rw [← hcurn];simp only [List.size_toArray,List.length_append,List.length_take,hdl,List.length_drop (l:=curA.toList),Array.length_toList,hszA];omega
  have hcpB : ∀ (W : World),(∀ k : Nat,W.heap[k]? = W2.heap[k]?) → ∀ ty dc sc,(Builtin.copy_ #[81,81] ty #[.slice (some ⟨w.heap.size,(i + 1) * 4,none⟩) (n - i) dc,.slice (some ⟨b,i * 4,none⟩) (n - i) sc]).run Tryz.prog W = .ok (goInt ((n - i : Nat) : Int)) (W.setRow w.heap.size curn):=fun W hW ty dc sc=>by
    rw [← hcurn];exact aD W _ _ ty 87 Tryz.underlying81 aZ w.heap.size ((i + 1) * 4) (n - i) dc ⟨b,i * 4,none⟩ (n - i) sc (n - i) curA _ (cs.drop (i * 4)) (by rw [hW];exact hN2) (by simp only [Nat.min_def];split <;> omega) (by rw [hdl,hz4]) (fun j v hj=>by
      rw [Go.WideShapes.add_plain];rw [List.getElem?_drop] at hj;have h0:=hown.cells (g:=b) rfl _ v hj;rw [Go.WideShapes.add_plain,Nat.zero_add] at h0;rw [← h0];simp only [World.cell?,hW,hO2 b hbw]) (by rw [hdl,hszA];omega) (fun v hv=>h1c v (List.mem_of_mem_drop hv))
  have hrow : curn.toList.take ((n + 1) * 4) = cs.take (i * 4) ++ ns ++ cs.drop (i * 4):=by
    have e1 : curA.toList.take ((i + 1) * 4) = cs.take (i * 4) ++ ns:=by
      have hlen : (ROW.toList.take (i * 4) ++ ns).length = (i + 1) * 4:=by
        rw [List.length_append,List.length_take,Array.length_toList,hRs,hnl];omega
      rw [← hcurA,← hlen,List.take_left,hRt]
    rw [← hcurn,e1,List.take_append_of_le_length (by simp only [List.length_append,List.length_take,hcl,hnl,hdl];omega),List.take_of_length_le (by simp only [List.length_append,List.length_take,hcl,hnl,hdl];omega)]
  have fin : ∀ W : World,(∀ k : Nat,W.heap[k]? = W2.heap[k]?) → W.heap.size = W2.heap.size → W.os = W2.os → W.tape = W2.tape → W.output = W2.output → RowTo w (W.setRow w.heap.size curn) (.slice (some ⟨b,0,none⟩) n cap) (.slice (some ⟨w.heap.size,0,none⟩) (n + 1) G) (n + 1) (cs.take (i * 4) ++ ns ++ cs.drop (i * 4)):=by
    intro W hW hs ho ht hu;have hsz : (W.setRow w.heap.size curn).heap.size = w.heap.size + 1:=by rw [show (W.setRow w.heap.size curn).heap.size = W.heap.size by simp,hs,← hW2,← hW1];simp
    refine ⟨⟨by simp only [List.length_append,List.length_take,hcl,hnl,hdl];omega,.inr ⟨w.heap.size,G,curn,rfl,Nat.zero_le _,setRow_heap W _ curA curn _ _ (by rw [hW];exact hN2),hGn,hGm,hszn,hrow⟩⟩,⟨?_,?_,?_,by omega,?_⟩,fun b' h=>.inr ?_,_,_,_,rfl⟩
    · show W.os = _;rw [ho,← hW2,← hW1];rfl
    · show W.tape = _;rw [ht,← hW2,← hW1];rfl
    · show W.output = _;rw [hu,← hW2,← hW1];rfl
    · intro k hk _;rw [setRow_other W _ k _ (by omega),hW];exact hO2 k hk
    · cases h;exact ⟨Nat.le_refl _,by rw [hsz];exact Nat.lt_succ_self _⟩
  have mixed : Tryz.prog.follows .mixedOrders = true:=by kernel_rfl
  have hz2 : ¬ ((i : Int) = (n : Int)):=by omega
  have hz3 : (cap : Int) < (n : Int) + 1:=by omega
  have hw1 : IntKind.i64.wrap ((i : Int) + 1) = (i : Int) + 1:=by rw [IntKind.wrap_i64];omega
  have hw2 : IntKind.i64.wrap ((n : Int) + 1) = (n : Int) + 1:=by rw [IntKind.wrap_i64];omega
  have hin : i ≤ n:=by omega
  have hb1' : (0 : Int) ≤ (i : Int) + 1:=by omega
  have htn : ((i : Int) + 1).toNat = i + 1:=by omega
  have hGi : ¬ (G = i):=by omega
  have hGim : ¬ (G = i + 1):=by omega
  have hci : ¬ (cap = i):=by omega
  have hb3 : (i : Int) ≤ (n : Int):=by omega
  have hG63 : G ≤ 9223372036854775807:=by unfold maxLen at hGm;omega
  rw [← hW1] at hW2;have hA : ∀ k : Nat,((w.alloc (.cells ROW 87)).drew).heap[k]? = W1.heap[k]?:=fun k=>by rw [← hW1];rfl
  have hB : ∀ k : Nat,(((w.alloc (.cells ROW 87)).drew.setRow w.heap.size curA).drew).heap[k]? = W2.heap[k]?:=fun k=>by rw [← hW2];rfl
  have hfin:=fin _ hB (by rw [← hW2];rfl) (by rw [← hW2];rfl) (by rw [← hW2];rfl) (by rw [← hW2];rfl);have hcA:=hcpA _ hA;have hcB:=hcpB _ hB;rw [hW1] at hrz;rw [← hW1] at hrz;clear hcpA hcpB fin hA hB hkk hik hold hG hROW hRs hRt hcurA hcurn hW1 hW2 hN1 hN2 hO1 hO2 hown hown2 h1 h1c hrow hdl hcl hnl htk htk2 hroom
  go_enter Tryz.func44,Tryz.ntmps44
  go_wp2_with (first
    | (at_builtin;refine Lib.wpList_append_run _ rfl _ _ _ _ rfl _ _ rfl rfl _ _ (hrz _) ?_)
    | (at_builtin;refine wpList_copy_runI _ rfl _ _ 81 81 rfl _ _ rfl rfl (hcA _ _) ?_))
  go_region_law_o (refine step_copy_runI rfl _ _ 81 81 rfl (.slice (some ⟨w.heap.size,(i + 1) * 4,none⟩) (n - i) (G - (i + 1))) (.slice (some ⟨b,i * 4,none⟩) (n - i) (cap - i)) (by simp [Act.eval,Act.put]) (by simp [Act.eval,Act.put]) (hcB _ _ _) ?_)
  go_wp2
  go_ret
  exact ⟨_,rfl,hfin⟩
end Q
end Ab
end Go.Proofs.YtmaekcmknibmeaaGreatDoor
namespace Go.Proofs.YtmaekcmknibmeaaGreatDoor
open Go.RowKit
namespace Ab
set_option maxRecDepth 100000
namespace Q
theorem hY {n : Nat} : ∀ (css : List (List Value)) (k : Nat),(∀ c ∈ css,c.length = n) → (css.take k).flatten = css.flatten.take (k * n)
  | [],_,_=>by simp
  | c :: r,0,_=>by simp
  | c :: r,k + 1,h=>by
    have h0 : c.length = n:=h c (by simp);have ih:=hY r k fun d hd=>h d (by simp [hd])
    rw [List.take_succ_cons,List.flatten_cons,List.flatten_cons,ih,Nat.add_mul,Nat.one_mul,Nat.add_comm (k * n) n]
    conv=>rhs;rw [← h0]
    rw [List.take_length_add_append,h0]
theorem hZ {n : Nat} : ∀ (css : List (List Value)) (k : Nat),(∀ c ∈ css,c.length = n) → (css.drop k).flatten = css.flatten.drop (k * n)
  | [],_,_=>by simp
  | c :: r,0,_=>by simp
  | c :: r,k + 1,h=>by
    have h0 : c.length = n:=h c (by simp);have ih:=hZ r k fun d hd=>h d (by simp [hd])
    rw [List.drop_succ_cons,List.flatten_cons,ih,Nat.add_mul,Nat.one_mul,Nat.add_comm (k * n) n,← List.drop_drop,← h0,List.drop_left,h0]
section
variable {cx : Cx} {ob : Obs} {nx : Nat} {ρ : Nat → Option Value} {w w' : World}
theorem ent_lens {ok : Oks} {xs : List Ent} {css : List (List Value)} (h1 : css.length = xs.length) (h2 : ∀ i (h : i < xs.length),rEnt.is ok w (css.getD i []) xs[i]) : ∀ c ∈ css,c.length = 4:=uP h1 h2
theorem ent_ones {ok : Oks} {xs : List Ent} {css : List (List Value)} (h1 : css.length = xs.length) (h2 : ∀ i (h : i < xs.length),rEnt.is ok w (css.getD i []) xs[i]) : ∀ v ∈ css.flatten,v.oneCell' = true:=fD h1 h2
theorem row_st (hs : StOk cx [] ob nx ρ ⟨#[],[]⟩ w) {xs xs' : List Ent} (hg : getO ob 0 = some (.vec 87 rEnt xs)) {v u : Value} (hv : ρ 0 = some v) {css' : List (List Value)} (hl : css'.length = xs'.length)
    (hR : ∀ i (h : i < xs'.length),rEnt.is (okOf cx ρ ob) w (css'.getD i []) xs'[i]) (hrow : RowTo w w' v u xs'.length css'.flatten) :
    ∃ ρ',StOk cx [] (setO 0 (.vec 87 rEnt xs') (kG 0 .any ob)) nx ρ' ⟨#[],[]⟩ w' ∧ (C.vec 0).rep (okOf cx ρ' (setO 0 (.vec 87 rEnt xs') (kG 0 .any ob))) ρ' w' u:=by
  obtain ⟨h1,h2,h3,h4⟩:=hrow;rw [← hv] at h2;have h3' : ∀ b,blk (some u) = some b → blk (ρ 0) = some b ∨ (w.heap.size ≤ b ∧ b < w'.heap.size):=by rw [hv];exact h3
  have hkp:=wT (o':=.vec 87 rEnt xs') hs hg h2 (fun b hb=>(h3' b hb).imp (fun h=>h) (·.1));refine ⟨upd ρ 0 u,hs.swap hg h2 h3' ⟨u,xF,css',hl,fun i hi=>Rd.kept _ hkp (hR i hi),h1⟩,xF,h4⟩
end
theorem getD_app {α : Type} (a b : List α) (i : Nat) (d : α) : (a ++ b).getD i d = if i < a.length then a.getD i d else b.getD (i - a.length) d:=by
  simp only [List.getD_eq_getElem?_getD];split
  · rename_i h;rw [List.getElem?_append_left h]
  · rename_i h;rw [List.getElem?_append_right (by omega)]
theorem delete_x (xs : List Ent) (i j : Nat) (hij : i < j) (hj : j ≤ xs.length) : ACallX Tryz.prog 43 [.one (.vec 0),ii .i64 i,ii .i64 j] [(0,.vec 87 rEnt xs)] 1 (.one (.vec 0)) [(0,.vec 87 rEnt (xs.take i ++ xs.drop j))] 1 []:=by
  refine ⟨⟨_,Tryz.func43,rfl,rfl⟩,fun cx ρ w vs _ _ _ hs hvs=>?_⟩;obtain ⟨v,r1,rfl,⟨hv,_⟩,vi,r2,rfl,hvi,vj,r3,rfl,hvj,hr3⟩:=hvs;rw [show r3 = [] from hr3,show vi = _ from hvi,show vj = _ from hvj];obtain ⟨v',hv',css,h1,h2,hown⟩ : ∃ v,ρ 0 = some v ∧ uF (okOf cx ρ [(0,.vec 87 rEnt xs)]) w v 87 rEnt xs:=hs.obs (0,.vec 87 rEnt xs) (by simp);rw [hv] at hv';obtain rfl:=Option.some.inj hv';have hfl:=ent_lens h1 h2;have hon:=ent_ones h1 h2;rcases id hown.2 with ⟨_,h0⟩|⟨b,cap,cur,rfl,_⟩
  · omega
  obtain ⟨cur,hb,hnc,hcm,hcz,htk,hcl⟩:=bG hown;refine (del_w b cap xs.length i j cur w hb hcz hnc hcm hij hj (by rw [htk];exact hon)).mono ?_
  rintro e w' ⟨rfl,cur',hgr,hb',hcz',hrow⟩
  have hnl : xs.length - (j - i) = (xs.take i ++ xs.drop j).length:=by rw [List.length_append,List.length_take,List.length_drop];omega
  have hf : (css.take i ++ css.drop j).flatten = cur.toList.take (i * 4) ++ (cur.toList.drop (j * 4)).take ((xs.length - j) * 4):=by
    rw [List.flatten_append,hY css i hfl,hZ css j hfl,← htk,take4 _ _ _ (by omega),List.drop_take]
    congr 2
    omega
  have hown' : w'.ownsRow 0 87 4 (.slice (some ⟨b,0,none⟩) (xs.length - (j - i)) cap) (xs.length - (j - i)) (css.take i ++ css.drop j).flatten:=by
    rw [hf,← hrow];have hcl' : cur'.toList.length = cap * 4:=by simpa using hcz'
    exact ⟨by rw [List.length_take,hcl'];omega,.inr ⟨b,cap,cur',rfl,Nat.zero_le _,hb',by omega,hcm,hcz',rfl⟩⟩
  rw [hnl] at hown' ⊢;obtain ⟨ρ',h3,h4⟩:=row_st (xs':=xs.take i ++ xs.drop j) (css':=css.take i ++ css.drop j) (u:=.slice (some ⟨b,0,none⟩) (xs.take i ++ xs.drop j).length cap) hs rfl hv (by simp [h1]) (fun k hk=>by
    rw [List.length_append,List.length_take,List.length_drop] at hk;rw [getD_app,List.getElem_append];simp only [List.length_take,h1];split
    · rename_i hlt;have:=h2 k (by omega);rw [List.getElem_take];rw [List.getD_eq_getElem?_getD] at this ⊢;rw [List.getElem?_take_of_lt (by omega)];exact this
    · rename_i hlt;have:=h2 (j + (k - min i xs.length)) (by omega);rw [List.getElem_drop];rw [List.getD_eq_getElem?_getD] at this ⊢;rw [List.getElem?_drop];exact this) ⟨hown',hgr,fun _ h=>.inl h,_,_,_,rfl⟩
  exact ⟨_,ρ',rfl,h3,h4,fun k hk=>by cases hk⟩
theorem insert_x (xs : List Ent) (e : Ent) (i : Nat) (hi : i ≤ xs.length) (hn : xs.length ≤ 1000000) : ACallX Tryz.prog 44 [.one (.vec 0),ii .i64 i,.one (.vec 1)] [(0,.vec 87 rEnt xs),(1,.vec 87 rEnt [e])] 2 (.one (.vec 0)) [(0,.vec 87 rEnt (insE xs i e)),(1,.vec 87 rEnt [e])] 2 []:=by
  refine ⟨⟨_,Tryz.func44,rfl,rfl⟩,fun cx ρ w vs _ _ _ hs hvs=>?_⟩;obtain ⟨v,r1,rfl,⟨hv,_⟩,vi,r2,rfl,hvi,v2,r3,rfl,⟨hv2,_⟩,hr3⟩:=hvs;rw [show r3 = [] from hr3,show vi = _ from hvi];obtain ⟨v',hv',css,h1,h2,hown⟩ : ∃ v,ρ 0 = some v ∧ uF (okOf cx ρ [(0,.vec 87 rEnt xs),(1,.vec 87 rEnt [e])]) w v 87 rEnt xs:=hs.obs (0,.vec 87 rEnt xs) (by simp);rw [hv] at hv';obtain rfl:=Option.some.inj hv';obtain ⟨v2',hv2',ess,g1,g2,hown2⟩ : ∃ v,ρ 1 = some v ∧ uF (okOf cx ρ [(0,.vec 87 rEnt xs),(1,.vec 87 rEnt [e])]) w v 87 rEnt [e]:=hs.obs (1,.vec 87 rEnt [e]) (by simp);rw [hv2] at hv2';obtain rfl:=Option.some.inj hv2';obtain ⟨es,rfl⟩ : ∃ es,ess = [es]:=List.length_eq_one_iff.1 g1;have hge:=g2 0 Nat.one_pos;have hel : es.length = 4:=Rd.len rEnt hge;have hfl:=ent_lens h1 h2;have hon:=ent_ones h1 h2;have hon2:=ent_ones g1 g2;rcases id hown2.2 with ⟨_,h0⟩|⟨vb,vc,cur2,hv2e,_⟩
  · simp at h0
  have hv2e : v2 = .slice (some ⟨vb,0,none⟩) 1 vc:=hv2e;subst hv2e;rw [show ([es] : List (List Value)).flatten = es by simp] at hown2 hon2;have hrow : Calls Tryz.prog 44 #[v,.int .i64 i,.slice (some ⟨vb,0,none⟩) 1 vc] w fun e' w'=>∃ u,e' = .returned u ∧ RowTo w w' v u (xs.length + 1) (css.flatten.take (i * 4) ++ es ++ css.flatten.drop (i * 4)):=by
    have hcl : css.flatten.length = xs.length * 4:=hown.1;rcases Nat.lt_or_ge i xs.length with hlt|hge'
    · rcases id hown.2 with ⟨_,h0⟩|⟨b,cap,cur,rfl,_⟩
      · omega
      have hne : vb ≠ b:=fun e'=>hs.sep (0,.vec 87 rEnt xs) (by simp) (1,.vec 87 rEnt [e]) (by simp) Nat.zero_ne_one b (by rw [hv];rfl) (by rw [hv2,e'];rfl)
      by_cases hroom : xs.length + 1 ≤ cap
      · exact ins_shift xs.length i b cap css.flatten es vb vc w hlt hroom hown hown2 hne hon2 hon
      · exact ins_grow xs.length i b cap css.flatten es vb vc w hlt (by omega) hn hown hown2 hon2 hon
    · obtain rfl : i = xs.length:=by omega
      have:=ins_end xs.length v css.flatten es vb vc w hown hown2 hon2 hn;rw [List.take_of_length_le (by omega),List.drop_of_length_le (by omega),List.append_nil];exact this
  refine hrow.mono ?_
  rintro e' w' ⟨u,rfl,hrt⟩
  have hf : (css.take i ++ es :: css.drop i).flatten = css.flatten.take (i * 4) ++ es ++ css.flatten.drop (i * 4):=by
    rw [List.flatten_append,List.flatten_cons,hY css i hfl,hZ css i hfl,List.append_assoc]
  have hnl : xs.length + 1 = (insE xs i e).length:=by unfold insE;rw [List.length_append,List.length_cons,List.length_take,List.length_drop];omega
  rw [← hf,hnl] at hrt;obtain ⟨ρ',h3,h4⟩:=row_st (xs':=insE xs i e) hs rfl hv (by rw [← hnl];simp [h1];omega) (fun k hk=>by
    rw [← hnl] at hk;simp only [insE,getD_app,List.getElem_append,List.length_take,h1];split
    · rename_i hlt;have:=h2 k (by omega);rw [List.getElem_take];rw [List.getD_eq_getElem?_getD] at this ⊢;rw [List.getElem?_take_of_lt (by omega)];exact this
    · rename_i hlt;obtain ⟨q,hq⟩ : ∃ q,k - min i xs.length = q:=⟨_,rfl⟩;simp only [hq];cases q with
      | zero=>exact hge
      | succ q =>
        have:=h2 (i + q) (by omega);simp only [List.getElem_cons_succ,List.getD_cons_succ,List.getElem_drop];rw [List.getD_eq_getElem?_getD] at this ⊢;rw [List.getElem?_drop];exact this) hrt
  exact ⟨_,ρ',rfl,h3,h4,fun k hk=>by cases hk⟩
def GoodS (a : List Fld) : Prop:=a ≠ [] ∧ a.length ≤ 40 ∧ ∀ f ∈ a,xD f = 0
def badAt : Int → List Fld → Int × Int
  | _,[]=>(-9,0)
  | i,f :: r=>if xD f ≠ 0 then (i,xD f) else badAt (i + 1) r
def chkR (l : List Fld) : Int × Int:=if l = [] then (-9,2) else if 40 < l.length then (-9,11) else badAt 0 l
def chkA (l : List Fld) : C:=if (chkR l).2 = 0 then .lit .nilIface else if (chkR l).1 = -9 then errN (chkR l).2 else errF (chkR l).1 (chkR l).2
theorem cS : ∀ (l : List Fld) (i : Nat) (k : Int),i < l.length → (∀ f ∈ l.take i,xD f = 0) → xD (l.getD i (ByteArray.empty,ByteArray.empty)) ≠ 0 → badAt k l = (k + i,xD (l.getD i (ByteArray.empty,ByteArray.empty)))
  | [],i,k,h,_,_=>by simp at h
  | f :: r,0,k,_,_,hb=>by
    unfold badAt;rw [if_pos (by simpa using hb)];simp
  | f :: r,i + 1,k,h,ht,hb=>by
    unfold badAt;rw [if_neg (by simpa using ht f (by simp))];rw [cS r i (k + 1) (by simpa using h) (fun g hg=>ht g (by simp [hg])) (by simpa using hb)];simp only [List.getD_cons_succ]
    congr 1
    omega
theorem badAt_no : ∀ (l : List Fld) (k : Int),(∀ f ∈ l,xD f = 0) → badAt k l = (-9,0)
  | [],_,_=>rfl
  | f :: r,k,h=>by
    unfold badAt;rw [if_neg (by simpa using h f (by simp))];exact badAt_no r (k + 1) (fun g hg=>h g (by simp [hg]))
theorem chkA_nil {l : List Fld} (h : chkR l = (-9,0)) : chkA l = .lit .nilIface:=by unfold chkA;rw [h];rfl
theorem chkA_no {l : List Fld} {n : Int} (h : chkR l = (-9,n)) (hn : n ≠ 0) : chkA l = errN n:=by unfold chkA;rw [h,if_neg hn,if_pos rfl]
theorem chkA_at {l : List Fld} {i n : Int} (h : chkR l = (i,n)) (hn : n ≠ 0) (hi : 0 ≤ i) : chkA l = errF i n:=by unfold chkA;rw [h,if_neg hn,if_neg (by show ¬ i = -9;omega)]
theorem pcheck_c {κ : Nat} (l : List Fld) (hl : yP l) : qX Tryz.prog 96 [.one (.slk κ rFld l)] (.one (chkA l)):=by
  have hln:=hl.1;refine qW (rs:=[2]) Tryz.func96 rfl rfl rfl teOk rfl ?_;refine qB ?_;refine qI ?_;refine qN ?_;refine qB ?_;intro l1_1
  try simp only [zds] at l1_1
  refine qJ rfl (fun h6=>?_) (fun h6=>?_)
  ·try simp only [decide_eq_true_eq] at h6
   try simp only [zds] at h6
   refine qB ?_;refine qM ?_;rw [chkA_no (l:=l) (n:=2) (by unfold chkR;rw [if_pos (List.eq_nil_of_length_eq_zero (by omega))]) (by decide)];rfl
  ·try simp only [decide_eq_false_iff_not] at h6
   try simp only [zds] at h6
   refine qB ?_;intro l3_1
   try simp only [zds] at l3_1
   refine qJ rfl (fun h11=>?_) (fun h11=>?_)
   ·try simp only [decide_eq_true_eq] at h11
    try simp only [zds] at h11
    refine qB ?_;refine qM ?_;rw [chkA_no (l:=l) (n:=11) (by unfold chkR;rw [if_neg (fun e=>h6 (by rw [e];rfl)),if_pos (by omega)]) (by decide)];rfl
   ·try simp only [decide_eq_false_iff_not,Int.not_lt] at h11
    try simp only [zds] at h11
    refine qL ?_;refine qI ?_;refine qB ?_;intro l5_1
    try simp only [zds] at l5_1
    refine qN ?_;refine qR (fun (i : Nat)=>i ≤ l.length ∧ ∀ f ∈ l.take i,xD f = 0) (fun (i : Nat)=>[(16,.one (.slk κ rFld l)),(17,ii .i64 l.length),(18,ii .i64 i)]) (fun (i : Nat)=>[]) 0 (fun (i : Nat)=>l.length - i) 0 (⟨Nat.zero_le _,by simp⟩) (qP ⟨rfl,rfl,rfl⟩ trivial rfl) ?_;intro i hI1;obtain ⟨hi,hall⟩:=hI1;refine qB ?_;refine qI ?_;refine qJ rfl (fun h19=>?_) (fun h19=>?_)
    ·try simp only [decide_eq_true_eq] at h19
     try simp only [zds] at h19
     have hlt : i < l.length:=(by omega);have hm:=hl.2 _ (yK hlt (ByteArray.empty,ByteArray.empty));have hne : l ≠ []:=(fun e=>by rw [e] at hlt;simp at hlt);refine qL ?_;refine qI ?_;refine qN ?_;refine qB ?_;refine zob ?_;refine qI ?_;rcases bW (l.getD i (ByteArray.empty,ByteArray.empty)) with hc|hc|hc
     ·refine qH ?_;refine Or.inl ?_;refine zai (rfl) ?_;refine zei _ (zai (gY (l.getD i (ByteArray.empty,ByteArray.empty)) _ (by omega) hc) ?_);refine qB ?_;refine qJ rfl (fun h26=>?_) (fun h26=>?_)
      ·skip
       refine qB ?_;refine qM ?_;rw [chkA_at (l:=l) (i:=i) (n:=5) (by unfold chkR;rw [if_neg hne,if_neg (by omega),cS l i 0 hlt hall (by rw [hc];decide),hc];simp) (by decide) (by omega)];rfl
      ·try simp only [zbq] at h26
       try simp only [zds] at h26
       cases h26
     ·refine qH ?_;refine Or.inl ?_;refine zai (rfl) ?_;refine zei _ (zai (gY (l.getD i (ByteArray.empty,ByteArray.empty)) _ (by omega) hc) ?_);refine qB ?_;refine qJ rfl (fun h26=>?_) (fun h26=>?_)
      ·skip
       refine qB ?_;refine qM ?_;rw [chkA_at (l:=l) (i:=i) (n:=6) (by unfold chkR;rw [if_neg hne,if_neg (by omega),cS l i 0 hlt hall (by rw [hc];decide),hc];simp) (by decide) (by omega)];rfl
      ·try simp only [zbq] at h26
       try simp only [zds] at h26
       cases h26
     ·refine qH ?_;refine Or.inl ?_;refine zai (rfl) ?_;refine zei _ (zai (gY (l.getD i (ByteArray.empty,ByteArray.empty)) _ (by omega) hc) ?_);refine qB ?_;refine qJ rfl (fun h26=>?_) (fun h26=>?_)
      ·try simp only [Bool.not_eq_true'] at h26
       try simp only [zds] at h26
       cases h26
      ·try simp only [Bool.not_eq_false'] at h26
       try simp only [zds] at h26
       refine qL ?_;refine qH ?_;refine zob ?_;exact ⟨i + 1,⟨by omega,by rw [← yE (ByteArray.empty,ByteArray.empty) hlt];intro f hf;rcases List.mem_append.1 hf with h|h;exact hall f h;rw [List.mem_singleton.1 h];exact hc⟩,by first|omega|(simp <;> omega),qP ⟨rfl,rfl,(qS (by omega))⟩ trivial rfl⟩
    ·try simp only [decide_eq_false_iff_not,Int.not_lt] at h19
     try simp only [zds] at h19
     refine qT ?_;refine qB ?_;refine qM ?_;rw [List.take_of_length_le (by omega)] at hall;rw [chkA_nil (by unfold chkR;rw [if_neg (fun e=>h6 (by rw [e];rfl)),if_neg (by omega)];exact badAt_no l 0 hall)];rfl
theorem badAt_zero : ∀ (l : List Fld) (k : Int),(badAt k l).2 = 0 → (∀ f ∈ l,xD f = 0)
  | [],_,_,f,hf=>by cases hf
  | g :: r,k,h,f,hf=>by
    unfold badAt at h;split at h
    · rename_i hg;exact absurd h hg
    · rename_i hg;rcases List.mem_cons.1 hf with rfl|hf
      · exact Classical.not_not.1 hg
      · exact badAt_zero r (k + 1) h f hf
theorem chk_good {l : List Fld} (h : (chkR l).2 = 0) : GoodS l ∧ badF l = 0 ∧ chkA l = .lit .nilIface:=by
  have hA : chkA l = .lit .nilIface:=by unfold chkA;rw [if_pos h]
  unfold chkR at h;split at h
  · cases h
  · rename_i h0;split at h
    · cases h
    · rename_i h4;have:=badAt_zero l 0 h;exact ⟨⟨h0,by omega,this⟩,badF_ok this,hA⟩
theorem fE {l : List Fld} (h : (chkR l).2 ≠ 0) : ∃ e,chkA l = e ∧ ((∃ n,n ≠ 0 ∧ e = errN n ∧ chkR l = (-9,n)) ∨ ∃ i n,n ≠ 0 ∧ e = errF i n ∧ chkR l = (i,n)):=by
  refine ⟨_,rfl,?_⟩;unfold chkA;rw [if_neg h]
  by_cases h9 : (chkR l).1 = -9
  · rw [if_pos h9];exact .inl ⟨_,h,rfl,Prod.ext h9 rfl⟩
  · rw [if_neg h9];exact .inr ⟨_,_,h,rfl,rfl⟩
theorem pstanza_ok {κ : Nat} {l : List Fld} (hl : yP l) (h : (chkR l).2 = 0) : qX Tryz.prog 73 [.one (.slk κ rFld l)] (.tup [(false,[.lit (.string (bytes (wJ l)))]),(false,[.lit .nilIface])]):=by
  obtain ⟨h1,h2,h3⟩:=chk_good h;have hc:=pcheck_c (κ:=κ) l hl;rw [h3] at hc;refine qW (rs:=[2,3]) Tryz.func73 rfl rfl rfl teOk rfl ?_;refine qB ?_;refine qI ?_;refine qB ?_;refine Or.inl ?_;refine zai (rfl) ?_;refine zei _ (zai (hc) ?_);refine qB ?_;refine qJ rfl (fun h8=>?_) (fun h8=>?_)
  ·try simp only [Bool.not_eq_true'] at h8
   try simp only [zds] at h8
   cases h8
  ·try simp only [Bool.not_eq_false'] at h8
   try simp only [zds] at h8
   refine qL ?_;refine qB ?_;refine Or.inl ?_;refine zai (rfl) ?_;refine zei _ (zai (fold_yes hl h2) ?_);refine qM ?_;rfl
theorem pstanza_err {κ : Nat} {l : List Fld} (hl : yP l) (h : (chkR l).2 ≠ 0) : qX Tryz.prog 73 [.one (.slk κ rFld l)] (.tup [(false,[.lit (.string ⟨#[]⟩)]),(false,[chkA l])]):=by
  have hc:=pcheck_c (κ:=κ) l hl;obtain ⟨e,he,hs⟩:=fE h;rw [he] at hc ⊢;rcases hs with ⟨n,hn,rfl,_⟩|⟨i,n,hn,rfl,_⟩
  ·
    refine qW (rs:=[2,3]) Tryz.func73 rfl rfl rfl teOk rfl ?_;refine qB ?_;refine qI ?_;refine qB ?_;refine Or.inl ?_;refine zai (rfl) ?_;refine zei _ (zai (hc) ?_);refine qB ?_;refine qJ rfl (fun h8=>?_) (fun h8=>?_)
    ·skip
     refine qB ?_;refine qM ?_;rfl
    ·try simp only [zbq] at h8
     try simp only [zds] at h8
     cases h8
  ·
    refine qW (rs:=[2,3]) Tryz.func73 rfl rfl rfl teOk rfl ?_;refine qB ?_;refine qI ?_;refine qB ?_;refine Or.inl ?_;refine zai (rfl) ?_;refine zei _ (zai (hc) ?_);refine qB ?_;refine qJ rfl (fun h8=>?_) (fun h8=>?_)
    ·skip
     refine qB ?_;refine qM ?_;rfl
    ·try simp only [zbq] at h8
     try simp only [zds] at h8
     cases h8
theorem uA {k : Nat} (l : List Fld) (hl : l.length ≤ 1000000) : qX Tryz.prog 62 [.one (.slk k rFld l)] (.one (.sl rFld l)):=by
  refine qW (rs:=[2]) Tryz.func62 rfl rfl rfl teOk rfl ?_;refine qB ?_;refine qI ?_;refine qI ?_;refine wC (q:=k) [_] _ (R:=rFld) (xs:=l) rfl rfl rfl rfl (e:=114) rfl rfl ?_;refine ⟨rfl,fun b hb=>?_⟩;refine qJ rfl (fun h4=>?_) (fun h4=>?_)
  ·have hl0:=hb h4;subst hl0;refine qB ?_;refine xE 2 114 rFld rfl ?_;refine qM ?_;rfl
  ·refine qL ?_;refine qB ?_;refine zai (by first|exact qQ (show l.length ≤ 1000000000 by omega) (by decide)|exact qQ (show 0 + l.length ≤ 1000000000 by omega) (by decide)) ?_;refine qM ?_;rfl
def itEs (es : List Ent) : List (List A):=(es.filter live).map fun e=>[A.agg (toL rEnt e)]
def cntL (es : List Ent) : Nat:=(es.filter live).length
theorem cntL_snoc {es : List Ent} {i : Nat} (h : i < es.length) : cntL (es.take (i + 1)) = cntL (es.take i) + if live (es.getD i (((0 : Int),ByteArray.empty,([] : List Fld)),(0 : Int))) then 1 else 0:=by
  unfold cntL;rw [← yE (((0 : Int),ByteArray.empty,([] : List Fld)),(0 : Int)) h,List.filter_append,List.length_append]
  generalize es.getD i (((0 : Int),ByteArray.empty,([] : List Fld)),(0 : Int)) = x
  cases hk : live x <;> simp [hk]
theorem itEs_at {es : List Ent} {i : Nat} (h : i < es.length) (hl : live (es.getD i (((0 : Int),ByteArray.empty,([] : List Fld)),(0 : Int))) = true) : ∃ hk : cntL (es.take i) < (itEs es).length,(itEs es)[cntL (es.take i)] = [A.agg (toL rEnt (es.getD i (((0 : Int),ByteArray.empty,([] : List Fld)),(0 : Int))))]:=by
  obtain ⟨h1,h2⟩:=filter_at live (((0 : Int),ByteArray.empty,([] : List Fld)),(0 : Int)) es i h hl;have h1' : cntL (es.take i) < (es.filter live).length:=h1;refine ⟨by unfold itEs;rw [List.length_map];exact h1',?_⟩;have h3 : (es.filter live)[cntL (es.take i)]'h1' = es.getD i (((0 : Int),ByteArray.empty,([] : List Fld)),(0 : Int)):=(vJ h1' (((0 : Int),ByteArray.empty,([] : List Fld)),(0 : Int))).trans h2;exact (List.getElem_map (fun e=>[A.agg (toL rEnt e)])).trans (congrArg (fun e=>[A.agg (toL rEnt e)]) h3)
theorem all_iter {k : Nat} (es : List Ent) (n m : Int) : AIter Tryz.prog 110 [.one (.ref (.adk k (rLst k) (es,n,m)))] (itEs es):=by
  refine aiter_of Tryz.func110 rfl rfl rfl teOk rfl ?_;intro l ι Pr J U n0 hU hab hy;refine yL ?_;refine yL ?_;refine xC hab hU rfl ?_;refine qH ?_;refine ⟨_,_,_,le_refl,?_⟩;refine kK rfl (fun h6=>?_) (fun h6=>?_)
  ·simp at h6
  refine kJ ?_;refine yL ?_;refine xC hab hU rfl ?_;refine qH ?_;intro hln;have hln : es.length ≤ 9223372036854775807:=hln;refine ⟨_,_,_,le_refl,?_⟩;refine kV ?_;refine gZ (κ:=Nat) (fun i=>i ≤ es.length) (fun i=>cntL (es.take i)) (fun i=>[(0,.one (.lit (.func (.yield l) #[] #[]))),(10,.one (.slk k rEnt es)),(11,ii .i64 es.length),(12,ii .i64 i)]) (fun _=>[]) 0 (fun i=>es.length - i) 0 (Nat.zero_le _) hab hU (qP ⟨rfl,rfl,rfl,rfl⟩ trivial rfl) rfl ?_;intro i hi;have hi : i ≤ es.length:=hi;refine bX hab hU ?_;refine yL ?_;refine xC hab hU rfl ?_;refine qH ?_;refine ⟨_,_,_,le_refl,?_⟩;refine yL ?_;refine kK rfl (fun h13=>?_) (fun h13=>?_)
  ·simp only [decide_eq_true_eq] at h13;have hlt : i < es.length:=by omega
   have hsn:=cntL_snoc hlt;refine kJ ?_;refine yL ?_;refine kV ?_;refine yL ?_;refine xC hab hU rfl ?_;refine qH ?_;refine zai (by omega) ?_;refine ⟨_,_,_,le_refl,?_⟩;refine yL ?_;refine acodeY_yieldG (pre:=[_,_,_,_,_,_]) (post:=[_,_]) _ (live (es.getD i (((0 : Int),ByteArray.empty,([] : List Fld)),(0 : Int)))) rfl rfl rfl rfl rfl hab hU hy ?_;refine zai (fun _=>trivial) ?_;refine zai (fun _=>trivial) ?_;refine ⟨_,_,_,le_refl,⟨_,rfl,rfl⟩,fun hq=>?_,fun hq=>?_⟩
   ·obtain ⟨hk,hx⟩:=itEs_at hlt hq;refine ⟨hk,⟨⟨hq,trivial⟩,⟨hq,trivial⟩,trivial⟩,rfl,hx.symm,by rw [hx];rfl,fun st=>?_⟩;refine zai (fun _=>⟨⟨rfl,trivial⟩,trivial⟩) ?_;refine zai (fun h=>h) ?_;refine ⟨_,_,_,le_refl,?_⟩;refine kK rfl (fun h24=>?_) (fun h24=>?_)
    ·have h24 : (live (es.getD i (((0 : Int),ByteArray.empty,([] : List Fld)),(0 : Int))) && !!st) = true:=h24;rw [hq,Bool.true_and,Bool.not_not] at h24;subst h24;refine aW ?_;exact ⟨_,.inl rfl,.inl rfl,fun e=>by cases e⟩
    ·have h24 : (live (es.getD i (((0 : Int),ByteArray.empty,([] : List Fld)),(0 : Int))) && !!st) = false:=h24;rw [hq,Bool.true_and,Bool.not_not] at h24;subst h24;refine kJ ?_;refine xC hab hU rfl ?_;refine qH ?_;refine zai (by omega) ?_;refine ⟨_,_,_,qP (tm':=[(0,.one (.lit (.func (.yield l) #[] #[]))),(10,.one (.slk k rEnt es)),(11,ii .i64 es.length),(12,ii .i64 (i + 1 : Nat))]) (ob':=[]) (nx':=1) ⟨rfl,rfl,rfl,qS (by omega)⟩ trivial rfl,0,.inr rfl,⟨i + 1,hlt,by omega,rfl,?_,rfl,rfl,rfl⟩⟩;rw [hsn,if_pos hq]
   ·refine zai (fun h=>absurd (h.symm.trans hq) (by decide)) ?_;refine zai (fun h=>h) ?_;refine ⟨_,_,_,le_refl,?_⟩;refine kK rfl (fun h24=>?_) (fun h24=>?_)
    ·have h24 : (live (es.getD i (((0 : Int),ByteArray.empty,([] : List Fld)),(0 : Int))) && _) = true:=h24;rw [hq] at h24;cases h24
    ·refine kJ ?_;refine xC hab hU rfl ?_;refine qH ?_;refine zai (by omega) ?_;refine ⟨_,_,_,qP (tm':=[(0,.one (.lit (.func (.yield l) #[] #[]))),(10,.one (.slk k rEnt es)),(11,ii .i64 es.length),(12,ii .i64 (i + 1 : Nat))]) (ob':=[]) (nx':=1) ⟨rfl,rfl,rfl,qS (by omega)⟩ trivial rfl,0,.inr rfl,⟨i + 1,hlt,by omega,rfl,?_,rfl,rfl,rfl⟩⟩;rw [hsn,if_neg (by rw [hq];decide)];rfl
  ·simp only [decide_eq_false_iff_not] at h13;refine zA ?_;refine ⟨_,.inl rfl,.inr rfl,fun _=>?_⟩;rw [List.take_of_length_le (by omega)];simp only [itEs,List.length_map,cntL]
theorem all_c {k : Nat} (L : Lst) : qX Tryz.prog 87 [.one (.adk k (rLst k) L)] (.one (.clo 110 (.ref (.adk k (rLst k) L)))):=by
  refine qW (rs:=[2]) Tryz.func87 rfl rfl rfl teOk rfl ?_;refine qB ?_;refine qB ?_;refine yD [0] ?_;refine qM ?_;rfl
theorem index_E (f : FuncId) {k : Nat} {β : Type} (S : Rd β) (y : β) (l : List Ent) (p : Ent → Bool) (hp : ∀ x ∈ l,qX Tryz.prog f [.agg (toL rEnt x),.one (.addr S y)] (ib (p x))) : qX Tryz.prog 71 [.one (.slk k rEnt l),.one (.clo f (.addr S y))] (ii .i64 (ixOf p l)):=by
  refine qW (rs:=[4]) Tryz.func71 rfl rfl rfl teOk rfl ?_;refine qB ?_;refine qI ?_;refine qB ?_;intro l1_1
  try simp only [zds] at l1_1
  refine qN ?_;refine qR (fun (i : Nat)=>i ≤ l.length ∧ (l.take i).any p = false) (fun (i : Nat)=>[(0,.one (.slk k rEnt l)),(1,.one (.clo f (.addr S y))),(7,ii .i64 l.length),(8,ii .i64 i)]) (fun (i : Nat)=>[]) 0 (fun (i : Nat)=>l.length - i) 0 (⟨Nat.zero_le _,rfl⟩) (qP ⟨rfl,rfl,rfl,rfl⟩ trivial rfl) ?_;intro i hI0;obtain ⟨hi,hn⟩:=hI0;refine qB ?_;refine qI ?_;refine qJ rfl (fun h9=>?_) (fun h9=>?_)
  ·try simp only [decide_eq_true_eq] at h9
   try simp only [zds] at h9
   refine qL ?_;refine qI ?_;refine qN ?_;refine qB ?_;refine qB ?_;refine zob ?_;refine Or.inl ?_;refine zai (rfl) ?_;refine zei _ (zai (hp _ (yK (show i < l.length by omega) _)) ?_);refine qJ rfl (fun h16=>?_) (fun h16=>?_)
   ·try simp only [zbq] at h16
    try simp only [Int.toNat_natCast,qG,qF,qE,qD] at h16
    refine qB ?_;refine qM ?_;exact qS (aK (((0 : Int),ByteArray.empty,([] : List Fld)),(0 : Int)) (by omega) hn h16).symm
   ·try simp only [zbq] at h16
    try simp only [Int.toNat_natCast,qG,qF,qE,qD] at h16
    refine qL ?_;refine qH ?_;refine zob ?_;exact ⟨i + 1,⟨by omega,by rw [kY l p (((0 : Int),ByteArray.empty,([] : List Fld)),(0 : Int)) i (by omega),hn];exact h16⟩,by first|omega|(simp <;> omega),qP ⟨rfl,rfl,rfl,rfl⟩ trivial rfl⟩
  ·try simp only [decide_eq_false_iff_not,Int.not_lt] at h9
   try simp only [zds] at h9
   refine qT ?_;refine qB ?_;refine qM ?_;have e : i = l.length:=by omega
   subst e;rw [List.take_length] at hn;exact qS (vB hn).symm
theorem at1_c (id : Int) (e : Ent) : qX Tryz.prog 72 [.agg (toL rEnt e),.one (.addr (.int .i64) id)] (ib (hasId id e)):=by
  refine qW (rs:=[3]) Tryz.func72 rfl rfl rfl teOk rfl ?_;refine qB ?_;refine qB ?_;refine qM ?_;rfl
theorem at_c {k : Nat} (es : List Ent) (n m id : Int) : qX Tryz.prog 41 [.one (.adk k (rLst k) (es,n,m)),ii .i64 id] (ii .i64 (atE es id)):=by
  refine qW (rs:=[4]) Tryz.func41 rfl rfl rfl teOk rfl ?_;refine qB ?_;refine qI ?_;refine qB ?_;refine zai (fun h=>trivial) ?_;refine zai (fun h=>⟨⟨h,trivial⟩,trivial⟩) ?_;refine zai (by first|(intro h;rw [h];rfl)|(intro h;cases h)) ?_;refine qJ rfl (fun h10=>?_) (fun h10=>?_)
  ·try simp only [decide_eq_true_eq,Bool.or_eq_true] at h10
   try simp only [zds] at h10
   have h10 : id < 1:=h10.elim (fun h=>by cases h) (fun h=>h);refine qB ?_;refine qM ?_;exact qS (by unfold atE;rw [if_pos h10])
  ·try simp only [decide_eq_false_iff_not,Bool.or_eq_false_iff,Int.not_lt] at h10
   try simp only [zds] at h10
   have h10 : ¬ id < 1:=(by simp at h10;omega);refine qL ?_;refine qB ?_;refine Or.inl ?_;refine zai (rfl) ?_;refine zei _ (zai (index_E _ (.int .i64) id es (hasId id) (fun x _=>at1_c id x)) ?_);refine qM ?_;exact qS (by unfold atE;rw [if_neg h10])
theorem at_lt {es : List Ent} {id : Int} (h : ¬ atE es id < 0) : ∃ i : Nat,i < es.length ∧ atE es id = i ∧ 0 < id ∧ (es.getD i (((0 : Int),ByteArray.empty,([] : List Fld)),(0 : Int))).2 = id:=by
  rcases fI es id with ⟨h1,_⟩|⟨i,h1,h2,h3,h4,_⟩
  · omega
  · exact ⟨i,h1,h2,h3,h4⟩
theorem lDel_no (es : List Ent) (n m id : Int) (h : atE es id < 0) : yB Tryz.prog 20 [.one (.own 0 0),ii .i64 id] (lsO (es,n,m)) 2 (.one (errN 7)) (lsO (es,n,m)) 2:=by
  refine yA (rs:=[4]) Tryz.func20 rfl rfl rfl teOk (by decide) rfl ?_;refine qB ?_;refine qB ?_;refine Or.inr (Or.inr (Or.inl ?_));refine zai rfl ?_;refine zei _ (zai (at_c es n m id) ?_);refine qI ?_;refine qB ?_;refine qJ rfl (fun h10=>?_) (fun h10=>?_)
  ·try simp only [decide_eq_true_eq] at h10
   try simp only [zds] at h10
   refine qB ?_;refine qM ?_;exact ⟨rfl,⟨rfl,rfl⟩,rfl⟩
  ·try simp only [decide_eq_false_iff_not,Int.not_lt] at h10
   try simp only [zds] at h10
   omega
theorem lDel_ok (es : List Ent) (n m id : Int) (i : Nat) (hi : i < es.length) (h : atE es id = i) (hm : 0 ≤ m ∧ m ≤ 1000000) (hl : es.length ≤ 1000000) : yB Tryz.prog 20 [.one (.own 0 0),ii .i64 id] (lsO (es,n,m)) 2 (.one (.lit .nilIface)) (lsO (delE es i,n,m - 1)) 2:=by
  refine yA (rs:=[4]) Tryz.func20 rfl rfl rfl teOk (by decide) rfl ?_;refine qB ?_;refine qB ?_;refine Or.inr (Or.inr (Or.inl ?_));refine zai rfl ?_;refine zei _ (zai ((by have:=at_c (k:=1) es n m id;rw [h] at this;exact this)) ?_);refine qI ?_;refine qB ?_;refine qJ rfl (fun h10=>?_) (fun h10=>?_)
  ·try simp only [decide_eq_true_eq] at h10
   try simp only [zds] at h10
   omega
  ·try simp only [decide_eq_false_iff_not,Int.not_lt] at h10
   try simp only [zds] at h10
   refine qL ?_;refine qB ?_;refine zob ?_;refine Or.inr (Or.inr (Or.inr (zei [1] (zei [] (zei _ (zei _ (zei _ (zei _ (zei _ (zai (delete_x es i (i + 1) (Nat.lt_succ_self _) hi) (zai rfl (zai (zai (zai rfl rfl) True.intro) (zai rfl ?_)))))))))))));refine qB ?_;refine zai (by first|omega|assumption|decide|(simp only [];omega)|(simp <;> omega)) ?_;refine qB ?_;refine qM ?_;exact ⟨rfl,⟨rfl,rfl⟩,rfl⟩
theorem pitem_ok {κ : Nat} {l : List Fld} (hl : yP l) (h : (chkR l).2 = 0) : qX Tryz.prog 42 [.one (.slk κ rFld l)] (.tup [(true,toL rItm (3,bytes (wJ l),l)),(false,[.lit .nilIface])]):=by
  refine yT (rs:=[.cell 2 85,.tmp 3]) Tryz.func42 rfl rfl rfl teOk rfl ?_;refine qB ?_;refine qB ?_;refine Or.inl ?_;refine zai (rfl) ?_;refine zei _ (zai (pstanza_ok hl h) ?_);refine qI ?_;refine qB ?_;refine qJ rfl (fun h12=>?_) (fun h12=>?_)
  ·try simp only [Bool.not_eq_true'] at h12
   try simp only [zds] at h12
   cases h12
  ·try simp only [Bool.not_eq_false'] at h12
   try simp only [zds] at h12
   refine qL ?_;refine qB ?_;refine Or.inl ?_;refine zai (rfl) ?_;refine zei _ (zai (uA l (Nat.le_trans hl.1 (by decide))) ?_);refine qM ?_;rfl
theorem pitem_err {κ : Nat} {l : List Fld} (hl : yP l) (h : (chkR l).2 ≠ 0) : qX Tryz.prog 42 [.one (.slk κ rFld l)] (.tup [(true,[.lit (.int .i64 0),.lit (.string ⟨#[]⟩),.lit (.slice none 0 0)]),(false,[chkA l])]):=by
  have hc:=pstanza_err (κ:=κ) hl h;obtain ⟨e,he,hs⟩:=fE h;rw [he] at hc ⊢;rcases hs with ⟨n,hn,rfl,_⟩|⟨i,n,hn,rfl,_⟩
  ·
    refine yT (rs:=[.cell 2 85,.tmp 3]) Tryz.func42 rfl rfl rfl teOk rfl ?_;refine qB ?_;refine qB ?_;refine Or.inl ?_;refine zai (rfl) ?_;refine zei _ (zai (hc) ?_);refine qI ?_;refine qB ?_;refine qJ rfl (fun h12=>?_) (fun h12=>?_)
    ·skip
     refine qB ?_;refine qM ?_;rfl
    ·try simp only [zbq] at h12
     try simp only [zds] at h12
     cases h12
  ·
    refine yT (rs:=[.cell 2 85,.tmp 3]) Tryz.func42 rfl rfl rfl teOk rfl ?_;refine qB ?_;refine qB ?_;refine Or.inl ?_;refine zai (rfl) ?_;refine zei _ (zai (hc) ?_);refine qI ?_;refine qB ?_;refine qJ rfl (fun h12=>?_) (fun h12=>?_)
    ·skip
     refine qB ?_;refine qM ?_;rfl
    ·try simp only [zbq] at h12
     try simp only [zds] at h12
     cases h12
def kM (f : List Fld) : Itm:=(3,bytes (wJ f),f)
theorem lRep_no {κ : Nat} (es : List Ent) (n m id : Int) (f : List Fld) (h : atE es id < 0) : yB Tryz.prog 19 [.one (.own 0 0),ii .i64 id,.one (.slk κ rFld f)] (lsO (es,n,m)) 2 (.one (errN 7)) (lsO (es,n,m)) 2:=by
  refine yA (rs:=[6]) Tryz.func19 rfl rfl rfl teOk (by decide) rfl ?_;refine qB ?_;refine qB ?_;refine Or.inr (Or.inr (Or.inl ?_));refine zai rfl ?_;refine zei _ (zai (at_c es n m id) ?_);refine qI ?_;refine qB ?_;refine qJ rfl (fun h14=>?_) (fun h14=>?_)
  ·try simp only [decide_eq_true_eq] at h14
   try simp only [zds] at h14
   refine qB ?_;refine qM ?_;exact ⟨rfl,⟨rfl,rfl⟩,rfl⟩
  ·try simp only [decide_eq_false_iff_not,Int.not_lt] at h14
   try simp only [zds] at h14
   omega
theorem lRep_bad {κ : Nat} (es : List Ent) (n m id : Int) (f : List Fld) (h : 0 ≤ atE es id) (hf : yP f) (hc : (chkR f).2 ≠ 0) : yB Tryz.prog 19 [.one (.own 0 0),ii .i64 id,.one (.slk κ rFld f)] (lsO (es,n,m)) 2 (.one (chkA f)) (lsO (es,n,m)) 2:=by
  have hpi:=pitem_err (κ:=κ) hf hc;obtain ⟨e,he,hs⟩:=fE hc;rw [he] at hpi ⊢;rcases hs with ⟨x,hx,rfl,_⟩|⟨j,x,hx,rfl,_⟩
  ·
    refine yA (rs:=[6]) Tryz.func19 rfl rfl rfl teOk (by decide) rfl ?_;refine qB ?_;refine qB ?_;refine Or.inr (Or.inr (Or.inl ?_));refine zai rfl ?_;refine zei _ (zai (at_c es n m id) ?_);refine qI ?_;refine qB ?_;refine qJ rfl (fun h14=>?_) (fun h14=>?_)
    ·try simp only [decide_eq_true_eq] at h14
     try simp only [zds] at h14
     omega
    ·try simp only [decide_eq_false_iff_not,Int.not_lt] at h14
     try simp only [zds] at h14
     refine qL ?_;refine qB ?_;refine Or.inl ?_;refine zai (rfl) ?_;refine zei _ (zai (hpi) ?_);refine qI ?_;refine qB ?_;refine qJ rfl (fun h22=>?_) (fun h22=>?_)
     ·skip
      refine qB ?_;refine qM ?_;exact ⟨rfl,⟨rfl,rfl⟩,rfl⟩
     ·try simp only [zbq] at h22
      try simp only [zds] at h22
      cases h22
  ·
    refine yA (rs:=[6]) Tryz.func19 rfl rfl rfl teOk (by decide) rfl ?_;refine qB ?_;refine qB ?_;refine Or.inr (Or.inr (Or.inl ?_));refine zai rfl ?_;refine zei _ (zai (at_c es n m id) ?_);refine qI ?_;refine qB ?_;refine qJ rfl (fun h14=>?_) (fun h14=>?_)
    ·try simp only [decide_eq_true_eq] at h14
     try simp only [zds] at h14
     omega
    ·try simp only [decide_eq_false_iff_not,Int.not_lt] at h14
     try simp only [zds] at h14
     refine qL ?_;refine qB ?_;refine Or.inl ?_;refine zai (rfl) ?_;refine zei _ (zai (hpi) ?_);refine qI ?_;refine qB ?_;refine qJ rfl (fun h22=>?_) (fun h22=>?_)
     ·skip
      refine qB ?_;refine qM ?_;exact ⟨rfl,⟨rfl,rfl⟩,rfl⟩
     ·try simp only [zbq] at h22
      try simp only [zds] at h22
      cases h22
theorem lRep_ok {κ : Nat} (es : List Ent) (n m id : Int) (f : List Fld) (i : Nat) (hi : i < es.length) (h : atE es id = i) (hf : yP f) (hc : (chkR f).2 = 0) : yB Tryz.prog 19 [.one (.own 0 0),ii .i64 id,.one (.slk κ rFld f)] (lsO (es,n,m)) 2 (.one (.lit .nilIface)) (lsO (uJ es i (kM f),n,m)) 2:=by
  refine yA (rs:=[6]) Tryz.func19 rfl rfl rfl teOk (by decide) rfl ?_;refine qB ?_;refine qB ?_;refine Or.inr (Or.inr (Or.inl ?_));refine zai rfl ?_;refine zei _ (zai ((by have:=at_c (k:=1) es n m id;rw [h] at this;exact this)) ?_);refine qI ?_;refine qB ?_;refine qJ rfl (fun h14=>?_) (fun h14=>?_)
  ·try simp only [decide_eq_true_eq] at h14
   try simp only [zds] at h14
   omega
  ·try simp only [decide_eq_false_iff_not,Int.not_lt] at h14
   try simp only [zds] at h14
   refine qL ?_;refine qB ?_;refine Or.inl ?_;refine zai (rfl) ?_;refine zei _ (zai (pitem_ok hf hc) ?_);refine qI ?_;refine qB ?_;refine qJ rfl (fun h22=>?_) (fun h22=>?_)
   ·try simp only [Bool.not_eq_true'] at h22
    try simp only [zds] at h22
    cases h22
   ·try simp only [Bool.not_eq_false'] at h22
    try simp only [zds] at h22
    refine qL ?_;refine qI ?_;refine yW rfl ?_;refine qO 0 rfl ?_;refine qO 1 rfl ?_;refine qO 2 rfl ?_;refine qO 4 rfl ?_;refine qK [3,5] ?_;refine zai ?_ ?_
    ·refine qK [5] ?_;refine qO 6 rfl ?_;refine zai (by first|omega|assumption|decide|(simp only [];omega)|(simp <;> omega)) ?_;refine qK [7] ?_;refine qK [8] ?_;refine zai (by (rw [Int.toNat_natCast];exact hi)) ?_;refine qU ?_;refine qB ?_;refine qM ?_;exact ⟨rfl,⟨rfl,rfl⟩,rfl⟩
    ·refine qK [3] ?_;refine qO 6 rfl ?_;refine zai (by first|omega|assumption|decide|(simp only [];omega)|(simp <;> omega)) ?_;refine qK [7] ?_;refine qK [8] ?_;refine zai (by (rw [Int.toNat_natCast];exact hi)) ?_;refine qU ?_;refine qB ?_;refine qM ?_;exact ⟨rfl,⟨rfl,rfl⟩,rfl⟩
theorem lIns_no {κ : Nat} (es : List Ent) (n m id : Int) (f : List Fld) (h : atE es id < 0) (h0 : id ≠ 0) : yB Tryz.prog 21 [.one (.own 0 0),ii .i64 id,.one (.slk κ rFld f)] (lsO (es,n,m)) 2 (.tup [(false,[.lit (.int .i64 0)]),(false,[errN 7])]) (lsO (es,n,m)) 2:=by
  refine yA (rs:=[6,7]) Tryz.func21 rfl rfl rfl teOk (by decide) rfl ?_;refine qB ?_;refine qB ?_;refine Or.inr (Or.inr (Or.inl ?_));refine zai rfl ?_;refine zei _ (zai (at_c es n m id) ?_);refine qI ?_;refine qB ?_;refine zai (fun h=>trivial) ?_;refine zai (fun h=>⟨⟨h,trivial⟩,trivial⟩) ?_;refine zai (fun h=>⟨⟨h,trivial⟩,trivial⟩) ?_;refine zai (fun h=>trivial) ?_;refine zai (fun h=>⟨⟨h,trivial⟩,trivial⟩) ?_;refine zai (fun h=>⟨⟨⟨h,trivial⟩,trivial⟩,by first|exact fun h2=>h2|(intro h2;rw [h,h2];rfl)|(intro h2;cases h2)|(intro h2;simp_all [gq])⟩) ?_;refine zai (by first|(intro h;rw [h];rfl)|(intro h;cases h)) ?_;refine qJ rfl (fun h24=>?_) (fun h24=>?_)
  ·try simp only [decide_eq_true_eq,decide_eq_false_iff_not,Bool.and_eq_true,Bool.not_eq_true',Bool.or_eq_true] at h24
   try simp only [zds] at h24
   refine qB ?_;refine qM ?_;exact ⟨rfl,⟨rfl,rfl⟩,rfl⟩
  ·try simp only [decide_eq_true_eq,decide_eq_false_iff_not,Bool.not_eq_false',Bool.or_eq_false_iff,Bool.and_eq_false_iff,Int.not_lt] at h24
   try simp only [zds] at h24
   simp at h24;omega
theorem lIns_bad {κ : Nat} (es : List Ent) (n m id : Int) (f : List Fld) (h : ¬ (atE es id < 0 ∧ id ≠ 0)) (hf : yP f) (hc : (chkR f).2 ≠ 0) : yB Tryz.prog 21 [.one (.own 0 0),ii .i64 id,.one (.slk κ rFld f)] (lsO (es,n,m)) 2 (.tup [(false,[.lit (.int .i64 0)]),(false,[chkA f])]) (lsO (es,n,m)) 2:=by
  have hpi:=pitem_err (κ:=κ) hf hc;obtain ⟨e,he,hs⟩:=fE hc;rw [he] at hpi ⊢;rcases hs with ⟨x,hx,rfl,_⟩|⟨j,x,hx,rfl,_⟩
  ·
    refine yA (rs:=[6,7]) Tryz.func21 rfl rfl rfl teOk (by decide) rfl ?_;refine qB ?_;refine qB ?_;refine Or.inr (Or.inr (Or.inl ?_));refine zai rfl ?_;refine zei _ (zai (at_c es n m id) ?_);refine qI ?_;refine qB ?_;refine zai (fun h=>trivial) ?_;refine zai (fun h=>⟨⟨h,trivial⟩,trivial⟩) ?_;refine zai (fun h=>⟨⟨h,trivial⟩,trivial⟩) ?_;refine zai (fun h=>trivial) ?_;refine zai (fun h=>⟨⟨h,trivial⟩,trivial⟩) ?_;refine zai (fun h=>⟨⟨⟨h,trivial⟩,trivial⟩,by first|exact fun h2=>h2|(intro h2;rw [h,h2];rfl)|(intro h2;cases h2)|(intro h2;simp_all [gq])⟩) ?_;refine zai (by first|(intro h;rw [h];rfl)|(intro h;cases h)) ?_;refine qJ rfl (fun h24=>?_) (fun h24=>?_)
    ·try simp only [decide_eq_true_eq,decide_eq_false_iff_not,Bool.and_eq_true,Bool.not_eq_true',Bool.or_eq_true] at h24
     try simp only [zds] at h24
     exact absurd (by simpa using h24) h
    ·try simp only [decide_eq_true_eq,decide_eq_false_iff_not,Bool.not_eq_false',Bool.or_eq_false_iff,Bool.and_eq_false_iff,Int.not_lt] at h24
     try simp only [zds] at h24
     refine qL ?_;refine qB ?_;refine Or.inl ?_;refine zai (rfl) ?_;refine zei _ (zai (hpi) ?_);refine qI ?_;refine qN ?_;refine qB ?_;refine qJ rfl (fun h31=>?_) (fun h31=>?_)
     ·skip
      refine qB ?_;refine qM ?_;exact ⟨rfl,⟨rfl,rfl⟩,rfl⟩
     ·try simp only [zbq] at h31
      try simp only [zds] at h31
      cases h31
  ·
    refine yA (rs:=[6,7]) Tryz.func21 rfl rfl rfl teOk (by decide) rfl ?_;refine qB ?_;refine qB ?_;refine Or.inr (Or.inr (Or.inl ?_));refine zai rfl ?_;refine zei _ (zai (at_c es n m id) ?_);refine qI ?_;refine qB ?_;refine zai (fun h=>trivial) ?_;refine zai (fun h=>⟨⟨h,trivial⟩,trivial⟩) ?_;refine zai (fun h=>⟨⟨h,trivial⟩,trivial⟩) ?_;refine zai (fun h=>trivial) ?_;refine zai (fun h=>⟨⟨h,trivial⟩,trivial⟩) ?_;refine zai (fun h=>⟨⟨⟨h,trivial⟩,trivial⟩,by first|exact fun h2=>h2|(intro h2;rw [h,h2];rfl)|(intro h2;cases h2)|(intro h2;simp_all [gq])⟩) ?_;refine zai (by first|(intro h;rw [h];rfl)|(intro h;cases h)) ?_;refine qJ rfl (fun h24=>?_) (fun h24=>?_)
    ·try simp only [decide_eq_true_eq,decide_eq_false_iff_not,Bool.and_eq_true,Bool.not_eq_true',Bool.or_eq_true] at h24
     try simp only [zds] at h24
     exact absurd (by simpa using h24) h
    ·try simp only [decide_eq_true_eq,decide_eq_false_iff_not,Bool.not_eq_false',Bool.or_eq_false_iff,Bool.and_eq_false_iff,Int.not_lt] at h24
     try simp only [zds] at h24
     refine qL ?_;refine qB ?_;refine Or.inl ?_;refine zai (rfl) ?_;refine zei _ (zai (hpi) ?_);refine qI ?_;refine qN ?_;refine qB ?_;refine qJ rfl (fun h31=>?_) (fun h31=>?_)
     ·skip
      refine qB ?_;refine qM ?_;exact ⟨rfl,⟨rfl,rfl⟩,rfl⟩
     ·try simp only [zbq] at h31
      try simp only [zds] at h31
      cases h31
theorem lIns_full {κ : Nat} (es : List Ent) (n m id : Int) (f : List Fld) (h : ¬ (atE es id < 0 ∧ id ≠ 0)) (hf : yP f) (hc : (chkR f).2 = 0) (hm : 400 ≤ m) : yB Tryz.prog 21 [.one (.own 0 0),ii .i64 id,.one (.slk κ rFld f)] (lsO (es,n,m)) 2 (.tup [(false,[.lit (.int .i64 0)]),(false,[errN 11])]) (lsO (es,n,m)) 2:=by
  refine yA (rs:=[6,7]) Tryz.func21 rfl rfl rfl teOk (by decide) rfl ?_;refine qB ?_;refine qB ?_;refine Or.inr (Or.inr (Or.inl ?_));refine zai rfl ?_;refine zei _ (zai (at_c es n m id) ?_);refine qI ?_;refine qB ?_;refine zai (fun h=>trivial) ?_;refine zai (fun h=>⟨⟨h,trivial⟩,trivial⟩) ?_;refine zai (fun h=>⟨⟨h,trivial⟩,trivial⟩) ?_;refine zai (fun h=>trivial) ?_;refine zai (fun h=>⟨⟨h,trivial⟩,trivial⟩) ?_;refine zai (fun h=>⟨⟨⟨h,trivial⟩,trivial⟩,by first|exact fun h2=>h2|(intro h2;rw [h,h2];rfl)|(intro h2;cases h2)|(intro h2;simp_all [gq])⟩) ?_;refine zai (by first|(intro h;rw [h];rfl)|(intro h;cases h)) ?_;refine qJ rfl (fun h24=>?_) (fun h24=>?_)
  ·try simp only [decide_eq_true_eq,decide_eq_false_iff_not,Bool.and_eq_true,Bool.not_eq_true',Bool.or_eq_true] at h24
   try simp only [zds] at h24
   exact absurd (by simpa using h24) h
  ·try simp only [decide_eq_true_eq,decide_eq_false_iff_not,Bool.not_eq_false',Bool.or_eq_false_iff,Bool.and_eq_false_iff,Int.not_lt] at h24
   try simp only [zds] at h24
   refine qL ?_;refine qB ?_;refine Or.inl ?_;refine zai (rfl) ?_;refine zei _ (zai (pitem_ok hf hc) ?_);refine qI ?_;refine qN ?_;refine qB ?_;refine qJ rfl (fun h31=>?_) (fun h31=>?_)
   ·try simp only [Bool.not_eq_true'] at h31
    try simp only [zds] at h31
    cases h31
   ·try simp only [Bool.not_eq_false'] at h31
    try simp only [zds] at h31
    refine qB ?_;refine qJ rfl (fun h35=>?_) (fun h35=>?_)
    ·try simp only [decide_eq_true_eq] at h35
     try simp only [zds] at h35
     refine qB ?_;refine qM ?_;exact ⟨rfl,⟨rfl,rfl⟩,rfl⟩
    ·try simp only [decide_eq_false_iff_not,Int.not_le] at h35
     try simp only [zds] at h35
     omega
theorem lIns_ok {κ : Nat} (es : List Ent) (n m id : Int) (f : List Fld) (j : Nat) (hj : j ≤ es.length) (h : ¬ (atE es id < 0 ∧ id ≠ 0)) (ha : atE es id + 1 = (j : Int)) (hf : yP f) (hc : (chkR f).2 = 0) (hm : 0 ≤ m ∧ m < 400) (hn : 0 ≤ n ∧ n ≤ 1000000000) (hl : es.length ≤ 1000000) : yB Tryz.prog 21 [.one (.own 0 0),ii .i64 id,.one (.slk κ rFld f)] (lsO (es,n,m)) 2 (.tup [(false,[.lit (.int .i64 n)]),(false,[.lit .nilIface])]) (lsO (insE es j (kM f,n),n + 1,m + 1)) 2:=by
  have hins:=insert_x es (kM f,n) j hj hl;rw [← ha] at hins;refine yA (rs:=[6,7]) Tryz.func21 rfl rfl rfl teOk (by decide) rfl ?_;refine qB ?_;refine qB ?_;refine Or.inr (Or.inr (Or.inl ?_));refine zai rfl ?_;refine zei _ (zai (at_c es n m id) ?_);refine qI ?_;refine qB ?_;refine zai (fun h=>trivial) ?_;refine zai (fun h=>⟨⟨h,trivial⟩,trivial⟩) ?_;refine zai (fun h=>⟨⟨h,trivial⟩,trivial⟩) ?_;refine zai (fun h=>trivial) ?_;refine zai (fun h=>⟨⟨h,trivial⟩,trivial⟩) ?_;refine zai (fun h=>⟨⟨⟨h,trivial⟩,trivial⟩,by first|exact fun h2=>h2|(intro h2;rw [h,h2];rfl)|(intro h2;cases h2)|(intro h2;simp_all [gq])⟩) ?_;refine zai (by first|(intro h;rw [h];rfl)|(intro h;cases h)) ?_;refine qJ rfl (fun h24=>?_) (fun h24=>?_)
  ·try simp only [decide_eq_true_eq,decide_eq_false_iff_not,Bool.and_eq_true,Bool.not_eq_true',Bool.or_eq_true] at h24
   try simp only [zds] at h24
   exact absurd (by simpa using h24) h
  ·try simp only [decide_eq_true_eq,decide_eq_false_iff_not,Bool.not_eq_false',Bool.or_eq_false_iff,Bool.and_eq_false_iff,Int.not_lt] at h24
   try simp only [zds] at h24
   refine qL ?_;refine qB ?_;refine Or.inl ?_;refine zai (rfl) ?_;refine zei _ (zai (pitem_ok hf hc) ?_);refine qI ?_;refine qN ?_;refine qB ?_;refine qJ rfl (fun h31=>?_) (fun h31=>?_)
   ·try simp only [Bool.not_eq_true'] at h31
    try simp only [zds] at h31
    cases h31
   ·try simp only [Bool.not_eq_false'] at h31
    try simp only [zds] at h31
    refine qB ?_;refine qJ rfl (fun h35=>?_) (fun h35=>?_)
    ·try simp only [decide_eq_true_eq] at h35
     try simp only [zds] at h35
     omega
    ·try simp only [decide_eq_false_iff_not,Int.not_le] at h35
     try simp only [zds] at h35
     refine qL ?_;refine qB ?_;refine qI ?_;refine yW rfl ?_;refine qO 0 rfl ?_;refine qO 1 rfl ?_;refine qO 2 rfl ?_;refine qO 3 rfl ?_;refine qO 5 rfl ?_;refine qO 6 rfl ?_;refine zob ?_;refine qO 8 rfl ?_;refine qK [4,7] ?_;refine zai ?_ ?_
     ·refine qK [7] ?_;refine qK [9] ?_;refine qK [10] ?_;refine qK [11] ?_;refine Or.inr (Or.inr (Or.inr (zei [1,3] (zei [] (zei _ (zei _ (zei _ (zei _ (zei _ (zai (hins) (zai rfl (zai (zai (zai rfl rfl) (zai (zai rfl rfl) True.intro)) (zai rfl ?_)))))))))))));refine qO 12 rfl ?_;refine qO 13 rfl ?_;refine qK [14] ?_;refine qU ?_;refine qB ?_;refine zai (by first|omega|assumption|decide|(simp only [];omega)|(simp <;> omega)) ?_;refine qB ?_;refine zai (by first|omega|assumption|decide|(simp only [];omega)|(simp <;> omega)) ?_;refine qB ?_;refine qM ?_;exact ⟨rfl,⟨rfl,rfl⟩,rfl⟩
     ·refine qK [4,9] ?_;refine zai ?_ ?_
      ·refine qK [9] ?_;refine qK [10] ?_;refine qK [11] ?_;refine Or.inr (Or.inr (Or.inr (zei [1,3] (zei [] (zei _ (zei _ (zei _ (zei _ (zei _ (zai (hins) (zai rfl (zai (zai (zai rfl rfl) (zai (zai rfl rfl) True.intro)) (zai rfl ?_)))))))))))));refine qO 12 rfl ?_;refine qO 13 rfl ?_;refine qK [14] ?_;refine qU ?_;refine qB ?_;refine zai (by first|omega|assumption|decide|(simp only [];omega)|(simp <;> omega)) ?_;refine qB ?_;refine zai (by first|omega|assumption|decide|(simp only [];omega)|(simp <;> omega)) ?_;refine qB ?_;refine qM ?_;exact ⟨rfl,⟨rfl,rfl⟩,rfl⟩
      ·refine qK [4,10] ?_;refine zai ?_ ?_
       ·refine qK [10] ?_;refine qK [11] ?_;refine Or.inr (Or.inr (Or.inr (zei [1,3] (zei [] (zei _ (zei _ (zei _ (zei _ (zei _ (zai (hins) (zai rfl (zai (zai (zai rfl rfl) (zai (zai rfl rfl) True.intro)) (zai rfl ?_)))))))))))));refine qO 12 rfl ?_;refine qO 13 rfl ?_;refine qK [14] ?_;refine qU ?_;refine qB ?_;refine zai (by first|omega|assumption|decide|(simp only [];omega)|(simp <;> omega)) ?_;refine qB ?_;refine zai (by first|omega|assumption|decide|(simp only [];omega)|(simp <;> omega)) ?_;refine qB ?_;refine qM ?_;exact ⟨rfl,⟨rfl,rfl⟩,rfl⟩
       ·refine qK [4] ?_;refine qK [11] ?_;refine Or.inr (Or.inr (Or.inr (zei [1,3] (zei [] (zei _ (zei _ (zei _ (zei _ (zei _ (zai (hins) (zai rfl (zai (zai (zai rfl rfl) (zai (zai rfl rfl) True.intro)) (zai rfl ?_)))))))))))));refine qO 12 rfl ?_;refine qO 13 rfl ?_;refine qK [14] ?_;refine qU ?_;refine qB ?_;refine zai (by first|omega|assumption|decide|(simp only [];omega)|(simp <;> omega)) ?_;refine qB ?_;refine zai (by first|omega|assumption|decide|(simp only [];omega)|(simp <;> omega)) ?_;refine qB ?_;refine qM ?_;exact ⟨rfl,⟨rfl,rfl⟩,rfl⟩
end Q
end Ab
end Go.Proofs.YtmaekcmknibmeaaGreatDoor
namespace Go.Proofs.YtmaekcmknibmeaaGreatDoor
open Go.RowKit
namespace Ab
set_option maxRecDepth 100000
abbrev Edt:=Int × Int × List Fld
abbrev rEdt : Rd Edt:=.st (.int .i64) (.st (.int .i64) (.sl rFld))
namespace Q
def heavyB (l : List Edt) : Bool:=decide (51 < l.length) || l.any fun e=>zI e.2.2
theorem heavy_c (l : List Edt) : qX Tryz.prog 28 [.one (.sl rEdt l)] (ib (heavyB l)):=by
  refine qW (rs:=[2]) Tryz.func28 rfl rfl rfl teOk rfl ?_;refine qB ?_;refine qI ?_;refine qB ?_;intro l1_1
  try simp only [zds] at l1_1
  refine qN ?_;refine qR (fun (i : Nat)=>i ≤ l.length ∧ i ≤ 51 ∧ (l.take i).any (fun e=>zI e.2.2) = false) (fun (i : Nat)=>[(5,.one (.sl rEdt l)),(6,ii .i64 l.length),(7,ii .i64 i)]) (fun (i : Nat)=>[]) 0 (fun (i : Nat)=>l.length - i) 0 (⟨Nat.zero_le _,Nat.zero_le _,rfl⟩) (qP ⟨rfl,rfl,rfl⟩ trivial rfl) ?_;intro i hI0;obtain ⟨hi,hi2,hn⟩:=hI0;refine qB ?_;refine qI ?_;refine qJ rfl (fun h8=>?_) (fun h8=>?_)
  ·try simp only [decide_eq_true_eq] at h8
   try simp only [zds] at h8
   have hil : i < l.length:=(by omega);have hsn:=kY l (fun e : Edt=>zI e.2.2) ((0 : Int),(0 : Int),([] : List Fld)) i hil;rw [hn,Bool.false_or] at hsn;refine qL ?_;refine qI ?_;refine qN ?_;refine qB ?_;refine zob ?_;refine qB ?_;refine zai (fun h=>trivial) ?_;refine zai (fun h=>⟨⟨h,trivial⟩,trivial⟩) ?_;refine Or.inl ?_;refine zai (rfl) ?_;refine zei _ (zai (fun h=>⟨⟨⟨h,trivial⟩,trivial⟩,much_c _⟩) ?_);refine zai (by first|(intro h;rw [h];rfl)|(intro h;cases h)) ?_;refine qJ rfl (fun h18=>?_) (fun h18=>?_)
   ·try simp only [decide_eq_true_eq,Bool.or_eq_true] at h18
    try simp only [Int.toNat_natCast,qG,qF,qD] at h18
    refine qB ?_;refine qM ?_;refine xH (Eq.symm ?_);unfold heavyB;rcases h18 with h|h
    rw [decide_eq_true (show 51 < l.length by omega)];rfl;rw [show l.any (fun e : Edt=>zI e.2.2) = true from List.any_eq_true.2 ⟨_,yK hil ((0 : Int),(0 : Int),([] : List Fld)),h⟩,Bool.or_true]
   ·try simp only [decide_eq_false_iff_not,Bool.or_eq_false_iff,Int.not_lt] at h18
    try simp only [Int.toNat_natCast,qG,qF,qD] at h18
    refine qL ?_;refine qH ?_;refine zob ?_;exact ⟨i + 1,⟨by omega,by omega,by rw [hsn];exact h18.2⟩,by first|omega|(simp <;> omega),qP ⟨rfl,rfl,(qS (by omega))⟩ trivial rfl⟩
  ·try simp only [decide_eq_false_iff_not,Int.not_lt] at h8
   try simp only [zds] at h8
   refine qT ?_;refine qB ?_;refine qM ?_;rw [List.take_of_length_le (by omega)] at hn;refine xH (Eq.symm ?_);unfold heavyB;rw [hn,decide_eq_false (by omega)];rfl
theorem fieldsk_c {κ : Nat} (a b : List Fld) : qX Tryz.prog 45 [.one (.slk κ rFld a),.one (.sl rFld b)] (ib (decide (a = b))):=by
  refine qW (rs:=[4]) Tryz.func45 rfl rfl rfl teOk rfl ?_;refine qB ?_;refine qI ?_;refine qB ?_;intro l1_1
  try simp only [zds] at l1_1
  intro l1_3
  try simp only [zds] at l1_3
  refine qJ rfl (fun h10=>?_) (fun h10=>?_)
  ·try simp only [decide_eq_false_iff_not,Bool.not_eq_true'] at h10
   try simp only [zds] at h10
   refine qB ?_;refine qM ?_;exact xH (decide_eq_false (fun e=>by rw [e] at h10;omega)).symm
  ·try simp only [decide_eq_true_eq,Bool.not_eq_false'] at h10
   try simp only [zds] at h10
   refine qL ?_;refine qI ?_;refine qB ?_;intro l3_1
   try simp only [zds] at l3_1
   refine qN ?_;refine qR (fun (i : Nat)=>i ≤ a.length ∧ a.take i = b.take i) (fun (i : Nat)=>[(0,.one (.slk κ rFld a)),(1,.one (.sl rFld b)),(12,ii .i64 a.length),(13,ii .i64 i)]) (fun (i : Nat)=>[]) 0 (fun (i : Nat)=>a.length - i) 0 (⟨Nat.zero_le _,by simp⟩) (qP ⟨rfl,rfl,rfl,rfl⟩ trivial rfl) ?_;intro i hI0;obtain ⟨hi,ht⟩:=hI0;refine qB ?_;refine qI ?_;refine qJ rfl (fun h14=>?_) (fun h14=>?_)
   ·try simp only [decide_eq_true_eq] at h14
    try simp only [zds] at h14
    have hla : i < a.length:=by omega
    have hlb : i < b.length:=by omega
    refine qL ?_;refine qI ?_;refine qN ?_;refine qB ?_;refine qI ?_;refine kF rfl (by kernel_rfl) ?_;refine zob ?_;refine zob ?_;refine zai (by rfl) ?_;refine qJ rfl (fun h24=>?_) (fun h24=>?_)
    ·try simp only [decide_eq_false_iff_not,Bool.not_eq_true',Bool.and_eq_false_iff] at h24
     try simp only [Int.toNat_natCast,qF,qE] at h24
     refine qB ?_;refine qM ?_;exact xH (decide_eq_false (ne_at (i:=i) (ByteArray.empty,ByteArray.empty) (fun e=>h24.elim (fun h=>h (congrArg Prod.fst e)) (fun h=>h (congrArg Prod.snd e))))).symm
    ·try simp only [decide_eq_true_eq,Bool.and_eq_true,Bool.not_eq_false'] at h24
     try simp only [Int.toNat_natCast,qF,qE] at h24
     refine qL ?_;refine qH ?_;refine zob ?_;exact ⟨i + 1,⟨by omega,cV (ByteArray.empty,ByteArray.empty) hla hlb ht (Prod.ext h24.1 h24.2)⟩,by first|omega|(simp <;> omega),qP ⟨rfl,rfl,rfl,(qS (by omega))⟩ trivial rfl⟩
   ·try simp only [decide_eq_false_iff_not,Int.not_lt] at h14
    try simp only [zds] at h14
    refine qT ?_;refine qB ?_;refine qM ?_;exact xH (decide_eq_true (by rw [List.take_of_length_le (by omega),List.take_of_length_le (by omega)] at ht;exact ht)).symm
end Q
end Ab
end Go.Proofs.YtmaekcmknibmeaaGreatDoor
namespace Go.Proofs.YtmaekcmknibmeaaGreatDoor
open Go.RowKit
namespace Ab
set_option maxRecDepth 100000
namespace Q
theorem itEs_len (es : List Ent) : (itEs es).length = (es.filter live).length:=List.length_map _
theorem itEs_get (es : List Ent) {i : Nat} (h : i < (itEs es).length) : ∃ e ∈ es,(es.filter live).getD i (((0 : Int),ByteArray.empty,([] : List Fld)),(0 : Int)) = e ∧ i < (es.filter live).length ∧ (itEs es)[i] = [A.agg (toL rEnt e)]:=by
  have h1 : i < (es.filter live).length:=by rw [← itEs_len];exact h
  refine ⟨_,(List.mem_filter.1 (yK h1 (((0 : Int),ByteArray.empty,([] : List Fld)),(0 : Int)))).1,rfl,h1,?_⟩;exact (List.getElem_map (fun e=>[A.agg (toL rEnt e)])).trans (congrArg (fun e=>[A.agg (toL rEnt e)]) (vJ h1 (((0 : Int),ByteArray.empty,([] : List Fld)),(0 : Int))))
def stT (es : List Ent) (i : Nat) : List Stz:=((es.filter live).take i).map stzOf
theorem stT_snoc {es : List Ent} {i : Nat} (h : i < (es.filter live).length) : stT es (i + 1) = stT es i ++ [stzOf ((es.filter live).getD i (((0 : Int),ByteArray.empty,([] : List Fld)),(0 : Int)))]:=by
  unfold stT;rw [← yE (((0 : Int),ByteArray.empty,([] : List Fld)),(0 : Int)) h,List.map_append];rfl
theorem stT_len {es : List Ent} {i : Nat} : (stT es i).length ≤ i:=by
  unfold stT;rw [List.length_map,List.length_take];omega
theorem live_len (es : List Ent) : (es.filter live).length ≤ es.length:=List.length_filter_le _ _
def SmallF (l : List Fld) : Prop:=∀ f ∈ l,f.1.size ≤ 1000 ∧ f.2.size ≤ 1000
structure GP (p : PSt) : Prop where
  flds : SmallF p.flds
  room : p.lns ≠ [] → p.full = false → p.flds.length < 40
  len : p.flds.length ≤ 40
  its : ∀ x ∈ p.its,SmallF x.2.2 ∧ x.2.2.length ≤ 40
theorem aB : SmallF []:=fun f hf=>by cases hf
theorem flush_gp {p q : PSt} (h : GP p) (hf : kD p = .inr q) : GP q:=by
  unfold kD at hf;split at hf
  · cases hf;exact h
  · rename_i h0;split at hf
    · cases hf
    · split at hf
      · cases hf
      · rename_i h1 h2;cases hf;have hr:=h.room h0 (by simpa using h2);refine ⟨fun f hf=>?_,fun h=>absurd rfl h,by simp only [List.length_append,List.length_cons,List.length_nil];omega,h.its⟩;rcases List.mem_append.1 hf with hf|hf
        · exact h.flds f hf
        · rw [List.mem_singleton.1 hf];rcases fN (p.lns.map ls) with ⟨n,hn,e⟩|⟨k,v,e,hk,hv⟩
          · rw [e];exact ⟨by show (bytes []).size ≤ 1000;decide,by show (bytes []).size ≤ 1000;decide⟩
          · rw [e];simp only [yR];refine ⟨?_,hv⟩;unfold vA at hk;simp only [Bool.and_eq_true,decide_eq_true_eq] at hk;omega
theorem close_gp {q : PSt} (h : GP q) : GP (bV q):=by
  unfold bV;split
  · exact ⟨aB,fun _ _=>(by show 0 < 40;decide),(by show 0 ≤ 40;decide),h.its⟩
  · refine ⟨aB,fun _ _=>(by show 0 < 40;decide),(by show 0 ≤ 40;decide),fun x hx=>?_⟩;rcases List.mem_append.1 hx with hx|hx
    · exact h.its x hx
    · rw [List.mem_singleton.1 hx];exact ⟨h.flds,h.len⟩
theorem end_gp {p q : PSt} (h : GP p) (hf : endS p = .inr q) : GP q:=by
  unfold endS at hf;split at hf
  · cases hf
  · rename_i r e;cases hf;exact close_gp (flush_gp h e)
theorem begin_gp {p : PSt} (l : Lne) (h : GP p) : GP (jH p l):=by
  refine ⟨h.flds,fun _ hf=>?_,h.len,h.its⟩;have:=h.len;unfold jH at hf;simp only [Bool.or_eq_false_iff,decide_eq_false_iff_not] at hf;show p.flds.length < 40;omega
theorem ahead_gp {p q : PSt} {l : Lne} {k : Int} (h : GP p) (hf : kE p l k = .inr q) : GP q:=by
  unfold kE at hf;split at hf
  · split at hf
    · cases hf
    · rename_i h0;have h2 : GP { p with lns:=p.lns ++ [l.2.2.1] }:=⟨h.flds,fun _=>h.room h0,h.len,h.its⟩;split at hf
      · cases hf;exact h2
      · exact flush_gp h2 hf
  · split at hf
    · exact end_gp h hf
    · exact flush_gp h hf
theorem line_gp {p q : PSt} {l : Lne} {k : Int} (h : GP p) (hf : gF p l k = .inr q) : GP q:=by
  unfold gF at hf;split at hf
  · cases hf
  · split at hf
    · cases hf;refine ⟨h.flds,h.room,h.len,fun x hx=>?_⟩;rcases List.mem_append.1 hx with hx|hx
      · exact h.its x hx
      · rw [List.mem_singleton.1 hx];exact ⟨aB,by show 0 ≤ 40;decide⟩
    · split at hf
      · cases hf;have:=begin_gp l h;exact ⟨this.flds,this.room,this.len,this.its⟩
      · cases hf;exact ⟨h.flds,h.room,h.len,h.its⟩
theorem take_gp {p q : PSt} {l : Lne} (h : GP p) (hf : xY p l = .inr q) : GP q:=by
  unfold xY at hf;split at hf
  · cases hf
  · rename_i r e;exact line_gp (ahead_gp h e) hf
theorem run_gp : ∀ (L : List Lne) {p q : PSt},GP p → runS p L = .inr q → GP q
  | [],p,q,h,hf=>by
    cases hf;exact h
  | l :: r,p,q,h,hf=>by
    unfold runS at hf;split at hf
    · cases hf
    · rename_i t e;exact run_gp r (take_gp h e) hf
theorem bO {s : ByteArray} {l : List Itm} (hp : kC s = .inr l) : ∀ x ∈ l,SmallF x.2.2 ∧ x.2.2.length ≤ 40:=by
  unfold kC at hp;split at hp
  · cases hp
  · rename_i p e;split at hp
    · cases hp
    · rename_i q e2;cases hp;exact (end_gp (run_gp _ ⟨aB,fun h=>absurd rfl h,by decide,fun x hx=>by cases hx⟩ e) e2).its
theorem fldsOk_of {l : List Fld} (h : SmallF l) (hl : l.length ≤ 40) : yP l:=⟨by omega,fun f hf=>by have:=h f hf;omega⟩
abbrev RLs:=List Ent × Int
abbrev rRL : Rd RLs:=.st (.sl rEnt) (.int .i64)
theorem parse_ne {s : ByteArray} {at_ n : Int} (h : kC s = .inl (at_,n)) : n ≠ 0:=by
  rw [cG] at h;exact runR_ne _ _ _ _ h
theorem rlbox_eq {T : TypeId} {i : Nat} {a b : Int} (h : a = b) : some (Ob.box T [.vec i,.lit (.int .i64 a)]) = some (Ob.box T [.vec i,.lit (.int .i64 b)]):=by rw [h]
theorem refOf_ok (s : ByteArray) (hs : s.size ≤ 60000) {l : List Itm} (hp : kC s = .inr l) : qX Tryz.prog 7 [is s] (.tup [(true,toL rRL (numI 1 l,1 + (cntR l : Int))),(false,[.lit (.int .i64 (-9))]),(false,[.lit (.int .i64 0)])]):=by
  have hpa:=refParse_a s hs;rw [hp] at hpa;obtain ⟨hl1,hl2⟩:=items_flds hs hp;refine yT (rs:=[.cell 2 33,.tmp 3,.tmp 4]) Tryz.func7 rfl rfl rfl teOk rfl ?_;refine qB ?_;refine qB ?_;refine Or.inl ?_;refine zai (rfl) ?_;refine zei _ (zai (hpa) ?_);refine qI ?_;refine qB ?_;refine qJ rfl (fun h18=>?_) (fun h18=>?_)
  ·try simp only [decide_eq_false_iff_not,Bool.not_eq_true'] at h18
   try simp only [zds] at h18
   simp at h18
  ·try simp only [decide_eq_true_eq,Bool.not_eq_false'] at h18
   try simp only [zds] at h18
   refine qL ?_;refine qB ?_;refine qI ?_;refine qI ?_;refine yM 1 0 91 rEnt rfl rfl rfl ?_;refine qH ?_;refine qN ?_;refine qR (fun (i : Nat)=>i ≤ l.length) (fun (i : Nat)=>[(2,.one (.own 0 0)),(5,.one (.sl rItm l)),(6,ii .i64 (-9)),(8,.one (.own 1 0)),(9,ii .i64 i)]) (fun (i : Nat)=>[(0,.box 33 [.lit (.slice none 0 0),.lit (.int .i64 0)]),(1,.box 33 [.vec 2,.lit (.int .i64 (1 + (cntR (l.take i) : Int)))]),(2,.vec 91 rEnt (numI 1 (l.take i)))]) 3 (fun (i : Nat)=>l.length - i) 0 (Nat.zero_le _) (qP ⟨rfl,rfl,rfl,rfl,rfl⟩ ⟨rfl,rfl,rfl⟩ rfl) ?_;intro i hI0;refine qI ?_;refine qB ?_;intro l6_2
   try simp only [zds] at l6_2
   refine qJ rfl (fun h26=>?_) (fun h26=>?_)
   ·try simp only [decide_eq_true_eq] at h26
    try simp only [zds] at h26
    have hil : i < l.length:=(by omega);have hsn:=numI_at hil;have hcn:=cntR_at hil;have hcl:=cntR_le (l.take i);rw [List.length_take] at hcl;refine qL ?_;refine qI ?_;refine qN ?_;refine qB ?_;refine zob ?_;refine qI ?_;refine qB ?_;refine zob ?_;refine qJ rfl (fun h39=>?_) (fun h39=>?_)
    ·try simp only [decide_eq_true_eq] at h39
     try simp only [Int.toNat_natCast,qG,qF,qE,qD] at h39
     have hk : zK (l.getD i ((0 : Int),ByteArray.empty,([] : List Fld))) = true:=decide_eq_true h39;rw [hk,if_pos rfl] at hsn hcn;refine qB ?_;refine qH ?_;refine zob ?_;refine qH ?_;refine zai (by exact qQ (show (numI 1 (l.take i)).length + 1 ≤ 1000000000 by rw [uM,List.length_take];omega) (by decide)) ?_;refine qH ?_;refine zob ?_;exact ⟨i + 1,by omega,by first|omega|(simp <;> omega),qP ⟨rfl,rfl,rfl,rfl,(qS (by omega))⟩ ⟨rfl,(rlbox_eq (by omega)),(qV (by rw [hsn];exact rfl))⟩ rfl⟩
    ·try simp only [decide_eq_false_iff_not] at h39
     try simp only [Int.toNat_natCast,qG,qF,qE,qD] at h39
     have hk : zK (l.getD i ((0 : Int),ByteArray.empty,([] : List Fld))) = false:=decide_eq_false h39;rw [hk,if_neg Bool.false_ne_true] at hsn hcn;refine qL ?_;refine qH ?_;refine zai (by exact qQ (show (numI 1 (l.take i)).length + 1 ≤ 1000000000 by rw [uM,List.length_take];omega) (by decide)) ?_;refine qH ?_;refine zob ?_;exact ⟨i + 1,by omega,by first|omega|(simp <;> omega),qP ⟨rfl,rfl,rfl,rfl,(qS (by omega))⟩ ⟨rfl,(rlbox_eq (by omega)),(qV (by rw [hsn];exact rfl))⟩ rfl⟩
   ·try simp only [decide_eq_false_iff_not,Int.not_lt] at h26
    try simp only [zds] at h26
    refine qT ?_;refine qB ?_;refine yD [2] ?_;refine qM ?_;rw [List.take_of_length_le (by omega)];exact rfl
theorem refOf_err (s : ByteArray) (hs : s.size ≤ 60000) {at_ n : Int} (hp : kC s = .inl (at_,n)) : qX Tryz.prog 7 [is s] (.tup [(true,[.lit (.slice none 0 0),.lit (.int .i64 0)]),(false,[.lit (.int .i64 at_)]),(false,[.lit (.int .i64 n)])]):=by
  have hpa:=refParse_a s hs;rw [hp] at hpa;have hne:=parse_ne hp;refine yT (rs:=[.cell 2 33,.tmp 3,.tmp 4]) Tryz.func7 rfl rfl rfl teOk rfl ?_;refine qB ?_;refine qB ?_;refine Or.inl ?_;refine zai (rfl) ?_;refine zei _ (zai (hpa) ?_);refine qI ?_;refine qB ?_;refine qJ rfl (fun h18=>?_) (fun h18=>?_)
  ·try simp only [decide_eq_false_iff_not,Bool.not_eq_true'] at h18
   try simp only [zds] at h18
   refine qB ?_;refine qM ?_;rfl
  ·try simp only [decide_eq_true_eq,Bool.not_eq_false'] at h18
   try simp only [zds] at h18
   exact absurd h18 hne
theorem stzL_snoc {es : List Ent} {i : Nat} (h : i < es.length) : stzL (es.take (i + 1)) = stzL (es.take i) ++ if live (es.getD i (((0 : Int),ByteArray.empty,([] : List Fld)),(0 : Int))) then [stzOf (es.getD i (((0 : Int),ByteArray.empty,([] : List Fld)),(0 : Int)))] else []:=by
  unfold stzL;rw [← yE (((0 : Int),ByteArray.empty,([] : List Fld)),(0 : Int)) h,List.filter_append,List.map_append]
  generalize es.getD i (((0 : Int),ByteArray.empty,([] : List Fld)),(0 : Int)) = x
  cases hk : live x
  · simp [hk]
  · simp [hk]
theorem stzL_le (es : List Ent) : (stzL es).length ≤ es.length:=by
  unfold stzL;rw [List.length_map];exact live_len es
theorem refStz_c (es : List Ent) (n : Int) (hl : es.length ≤ 1000000) : qX Tryz.prog 60 [.agg (toL rRL (es,n))] (.one (.sl rStz (stzL es))):=by
  refine qW (rs:=[2]) Tryz.func60 rfl rfl rfl teOk rfl ?_;refine qB ?_;refine qB ?_;refine qI ?_;refine qI ?_;refine xE 3 54 rStz rfl ?_;refine qH ?_;refine qN ?_;refine qR (fun (i : Nat)=>i ≤ es.length) (fun (i : Nat)=>[(1,.one (.own 0 0)),(3,.one (.vec 1)),(4,ii .i64 i)]) (fun (i : Nat)=>[(0,.box 33 (toL rRL (es,n))),(1,.vec 54 rStz (stzL (es.take i)))]) 2 (fun (i : Nat)=>es.length - i) 0 (Nat.zero_le _) (qP ⟨rfl,rfl,rfl⟩ ⟨rfl,rfl⟩ rfl) ?_;intro i hI0;refine qI ?_;refine qB ?_;intro l3_3;refine qJ rfl (fun h9=>?_) (fun h9=>?_)
  ·try simp only [decide_eq_true_eq] at h9
   try simp only [zds] at h9
   have hil : i < es.length:=(by omega);have hsn:=stzL_snoc hil;have hsl:=stzL_le (es.take i);rw [List.length_take] at hsl;refine qL ?_;refine qI ?_;refine qN ?_;refine qB ?_;refine zai (by first|omega|assumption|decide|(simp only [];omega)|(simp <;> omega)) ?_;refine qJ rfl (fun h18=>?_) (fun h18=>?_)
   ·try simp only [decide_eq_true_eq] at h18
    try simp only [Int.toNat_natCast,qG,qF,qE,qD] at h18
    have hk : live (es.getD i (((0 : Int),ByteArray.empty,([] : List Fld)),(0 : Int))) = true:=decide_eq_true h18;rw [hk,if_pos rfl] at hsn;refine yW rfl ?_;refine qO 0 rfl ?_;refine qO 1 rfl ?_;refine qO 3 rfl ?_;refine qO 7 rfl ?_;refine qO 9 rfl ?_;refine qK [2,8] ?_;refine zai ?_ ?_
    ·refine qO 4 rfl ?_;refine zai (by first|omega|assumption|decide|(simp only [];omega)|(simp <;> omega)) ?_;refine qK [5,8] ?_;refine zai ?_ ?_
     ·refine qK [6,8] ?_;refine zai ?_ ?_
      ·refine qK [8] ?_;refine qO 10 rfl ?_;refine zai (by first|omega|assumption|decide|(simp only [];omega)|(simp <;> omega)) ?_;refine qK [11] ?_;refine qK [12] ?_;refine qK [13] ?_;refine qK [14] ?_;refine qK [15] ?_;refine qK [16] ?_;refine zai (by exact qQ (show (stzL (es.take i)).length + 1 ≤ 1000000000 by omega) (by decide)) ?_;refine qO 17 rfl ?_;refine qU ?_;refine qH ?_;refine zob ?_;exact ⟨i + 1,by omega,by first|omega|(simp <;> omega),qP ⟨rfl,rfl,(qS (by omega))⟩ ⟨rfl,(qV (by rw [hsn];try exact rfl))⟩ rfl⟩
      ·refine qO 10 rfl ?_;refine zai (by first|omega|assumption|decide|(simp only [];omega)|(simp <;> omega)) ?_;refine qK [6,11] ?_;refine zai ?_ ?_
       ·refine qK [11] ?_;refine qK [12] ?_;refine qK [13] ?_;refine qK [14] ?_;refine qK [15] ?_;refine qK [16] ?_;refine zai (by exact qQ (show (stzL (es.take i)).length + 1 ≤ 1000000000 by omega) (by decide)) ?_;refine qO 17 rfl ?_;refine qU ?_;refine qH ?_;refine zob ?_;exact ⟨i + 1,by omega,by first|omega|(simp <;> omega),qP ⟨rfl,rfl,(qS (by omega))⟩ ⟨rfl,(qV (by rw [hsn];try exact rfl))⟩ rfl⟩
       ·refine qK [6,12] ?_;refine zai ?_ ?_
        ·refine qK [12] ?_;refine qK [13] ?_;refine qK [14] ?_;refine qK [15] ?_;refine qK [16] ?_;refine zai (by exact qQ (show (stzL (es.take i)).length + 1 ≤ 1000000000 by omega) (by decide)) ?_;refine qO 17 rfl ?_;refine qU ?_;refine qH ?_;refine zob ?_;exact ⟨i + 1,by omega,by first|omega|(simp <;> omega),qP ⟨rfl,rfl,(qS (by omega))⟩ ⟨rfl,(qV (by rw [hsn];try exact rfl))⟩ rfl⟩
        ·refine qK [6,13] ?_;refine zai ?_ ?_
         ·refine qK [13] ?_;refine qK [14] ?_;refine qK [15] ?_;refine qK [16] ?_;refine zai (by exact qQ (show (stzL (es.take i)).length + 1 ≤ 1000000000 by omega) (by decide)) ?_;refine qO 17 rfl ?_;refine qU ?_;refine qH ?_;refine zob ?_;exact ⟨i + 1,by omega,by first|omega|(simp <;> omega),qP ⟨rfl,rfl,(qS (by omega))⟩ ⟨rfl,(qV (by rw [hsn];try exact rfl))⟩ rfl⟩
         ·refine qK [6] ?_;refine qK [14] ?_;refine qK [15] ?_;refine qK [16] ?_;refine zai (by exact qQ (show (stzL (es.take i)).length + 1 ≤ 1000000000 by omega) (by decide)) ?_;refine qO 17 rfl ?_;refine qU ?_;refine qH ?_;refine zob ?_;exact ⟨i + 1,by omega,by first|omega|(simp <;> omega),qP ⟨rfl,rfl,(qS (by omega))⟩ ⟨rfl,(qV (by rw [hsn];try exact rfl))⟩ rfl⟩
     ·refine qO 10 rfl ?_;refine zai (by first|omega|assumption|decide|(simp only [];omega)|(simp <;> omega)) ?_;refine qK [5,11] ?_;refine zai ?_ ?_
      ·refine qK [6,11] ?_;refine zai ?_ ?_
       ·refine qK [11] ?_;refine qK [12] ?_;refine qK [13] ?_;refine qK [14] ?_;refine qK [15] ?_;refine qK [16] ?_;refine zai (by exact qQ (show (stzL (es.take i)).length + 1 ≤ 1000000000 by omega) (by decide)) ?_;refine qO 17 rfl ?_;refine qU ?_;refine qH ?_;refine zob ?_;exact ⟨i + 1,by omega,by first|omega|(simp <;> omega),qP ⟨rfl,rfl,(qS (by omega))⟩ ⟨rfl,(qV (by rw [hsn];try exact rfl))⟩ rfl⟩
       ·refine qK [6,12] ?_;refine zai ?_ ?_
        ·refine qK [12] ?_;refine qK [13] ?_;refine qK [14] ?_;refine qK [15] ?_;refine qK [16] ?_;refine zai (by exact qQ (show (stzL (es.take i)).length + 1 ≤ 1000000000 by omega) (by decide)) ?_;refine qO 17 rfl ?_;refine qU ?_;refine qH ?_;refine zob ?_;exact ⟨i + 1,by omega,by first|omega|(simp <;> omega),qP ⟨rfl,rfl,(qS (by omega))⟩ ⟨rfl,(qV (by rw [hsn];try exact rfl))⟩ rfl⟩
        ·refine qK [6,13] ?_;refine zai ?_ ?_
         ·refine qK [13] ?_;refine qK [14] ?_;refine qK [15] ?_;refine qK [16] ?_;refine zai (by exact qQ (show (stzL (es.take i)).length + 1 ≤ 1000000000 by omega) (by decide)) ?_;refine qO 17 rfl ?_;refine qU ?_;refine qH ?_;refine zob ?_;exact ⟨i + 1,by omega,by first|omega|(simp <;> omega),qP ⟨rfl,rfl,(qS (by omega))⟩ ⟨rfl,(qV (by rw [hsn];try exact rfl))⟩ rfl⟩
         ·refine qK [6] ?_;refine qK [14] ?_;refine qK [15] ?_;refine qK [16] ?_;refine zai (by exact qQ (show (stzL (es.take i)).length + 1 ≤ 1000000000 by omega) (by decide)) ?_;refine qO 17 rfl ?_;refine qU ?_;refine qH ?_;refine zob ?_;exact ⟨i + 1,by omega,by first|omega|(simp <;> omega),qP ⟨rfl,rfl,(qS (by omega))⟩ ⟨rfl,(qV (by rw [hsn];try exact rfl))⟩ rfl⟩
      ·refine qK [5,12] ?_;refine zai ?_ ?_
       ·refine qK [6,12] ?_;refine zai ?_ ?_
        ·refine qK [12] ?_;refine qK [13] ?_;refine qK [14] ?_;refine qK [15] ?_;refine qK [16] ?_;refine zai (by exact qQ (show (stzL (es.take i)).length + 1 ≤ 1000000000 by omega) (by decide)) ?_;refine qO 17 rfl ?_;refine qU ?_;refine qH ?_;refine zob ?_;exact ⟨i + 1,by omega,by first|omega|(simp <;> omega),qP ⟨rfl,rfl,(qS (by omega))⟩ ⟨rfl,(qV (by rw [hsn];try exact rfl))⟩ rfl⟩
        ·refine qK [6,13] ?_;refine zai ?_ ?_
         ·refine qK [13] ?_;refine qK [14] ?_;refine qK [15] ?_;refine qK [16] ?_;refine zai (by exact qQ (show (stzL (es.take i)).length + 1 ≤ 1000000000 by omega) (by decide)) ?_;refine qO 17 rfl ?_;refine qU ?_;refine qH ?_;refine zob ?_;exact ⟨i + 1,by omega,by first|omega|(simp <;> omega),qP ⟨rfl,rfl,(qS (by omega))⟩ ⟨rfl,(qV (by rw [hsn];try exact rfl))⟩ rfl⟩
         ·refine qK [6] ?_;refine qK [14] ?_;refine qK [15] ?_;refine qK [16] ?_;refine zai (by exact qQ (show (stzL (es.take i)).length + 1 ≤ 1000000000 by omega) (by decide)) ?_;refine qO 17 rfl ?_;refine qU ?_;refine qH ?_;refine zob ?_;exact ⟨i + 1,by omega,by first|omega|(simp <;> omega),qP ⟨rfl,rfl,(qS (by omega))⟩ ⟨rfl,(qV (by rw [hsn];try exact rfl))⟩ rfl⟩
       ·refine qK [5,13] ?_;refine zai ?_ ?_
        ·refine qK [6,13] ?_;refine zai ?_ ?_
         ·refine qK [13] ?_;refine qK [14] ?_;refine qK [15] ?_;refine qK [16] ?_;refine zai (by exact qQ (show (stzL (es.take i)).length + 1 ≤ 1000000000 by omega) (by decide)) ?_;refine qO 17 rfl ?_;refine qU ?_;refine qH ?_;refine zob ?_;exact ⟨i + 1,by omega,by first|omega|(simp <;> omega),qP ⟨rfl,rfl,(qS (by omega))⟩ ⟨rfl,(qV (by rw [hsn];try exact rfl))⟩ rfl⟩
         ·refine qK [6] ?_;refine qK [14] ?_;refine qK [15] ?_;refine qK [16] ?_;refine zai (by exact qQ (show (stzL (es.take i)).length + 1 ≤ 1000000000 by omega) (by decide)) ?_;refine qO 17 rfl ?_;refine qU ?_;refine qH ?_;refine zob ?_;exact ⟨i + 1,by omega,by first|omega|(simp <;> omega),qP ⟨rfl,rfl,(qS (by omega))⟩ ⟨rfl,(qV (by rw [hsn];try exact rfl))⟩ rfl⟩
        ·refine qK [5] ?_;refine qK [6] ?_;refine qK [14] ?_;refine qK [15] ?_;refine qK [16] ?_;refine zai (by exact qQ (show (stzL (es.take i)).length + 1 ≤ 1000000000 by omega) (by decide)) ?_;refine qO 17 rfl ?_;refine qU ?_;refine qH ?_;refine zob ?_;exact ⟨i + 1,by omega,by first|omega|(simp <;> omega),qP ⟨rfl,rfl,(qS (by omega))⟩ ⟨rfl,(qV (by rw [hsn];try exact rfl))⟩ rfl⟩
    ·refine qO 10 rfl ?_;refine zai (by first|omega|assumption|decide|(simp only [];omega)|(simp <;> omega)) ?_;refine qK [2,11] ?_;refine zai ?_ ?_
     ·refine qO 4 rfl ?_;refine zai (by first|omega|assumption|decide|(simp only [];omega)|(simp <;> omega)) ?_;refine qK [5,11] ?_;refine zai ?_ ?_
      ·refine qK [6,11] ?_;refine zai ?_ ?_
       ·refine qK [11] ?_;refine qK [12] ?_;refine qK [13] ?_;refine qK [14] ?_;refine qK [15] ?_;refine qK [16] ?_;refine zai (by exact qQ (show (stzL (es.take i)).length + 1 ≤ 1000000000 by omega) (by decide)) ?_;refine qO 17 rfl ?_;refine qU ?_;refine qH ?_;refine zob ?_;exact ⟨i + 1,by omega,by first|omega|(simp <;> omega),qP ⟨rfl,rfl,(qS (by omega))⟩ ⟨rfl,(qV (by rw [hsn];try exact rfl))⟩ rfl⟩
       ·refine qK [6,12] ?_;refine zai ?_ ?_
        ·refine qK [12] ?_;refine qK [13] ?_;refine qK [14] ?_;refine qK [15] ?_;refine qK [16] ?_;refine zai (by exact qQ (show (stzL (es.take i)).length + 1 ≤ 1000000000 by omega) (by decide)) ?_;refine qO 17 rfl ?_;refine qU ?_;refine qH ?_;refine zob ?_;exact ⟨i + 1,by omega,by first|omega|(simp <;> omega),qP ⟨rfl,rfl,(qS (by omega))⟩ ⟨rfl,(qV (by rw [hsn];try exact rfl))⟩ rfl⟩
        ·refine qK [6,13] ?_;refine zai ?_ ?_
         ·refine qK [13] ?_;refine qK [14] ?_;refine qK [15] ?_;refine qK [16] ?_;refine zai (by exact qQ (show (stzL (es.take i)).length + 1 ≤ 1000000000 by omega) (by decide)) ?_;refine qO 17 rfl ?_;refine qU ?_;refine qH ?_;refine zob ?_;exact ⟨i + 1,by omega,by first|omega|(simp <;> omega),qP ⟨rfl,rfl,(qS (by omega))⟩ ⟨rfl,(qV (by rw [hsn];try exact rfl))⟩ rfl⟩
         ·refine qK [6] ?_;refine qK [14] ?_;refine qK [15] ?_;refine qK [16] ?_;refine zai (by exact qQ (show (stzL (es.take i)).length + 1 ≤ 1000000000 by omega) (by decide)) ?_;refine qO 17 rfl ?_;refine qU ?_;refine qH ?_;refine zob ?_;exact ⟨i + 1,by omega,by first|omega|(simp <;> omega),qP ⟨rfl,rfl,(qS (by omega))⟩ ⟨rfl,(qV (by rw [hsn];try exact rfl))⟩ rfl⟩
      ·refine qK [5,12] ?_;refine zai ?_ ?_
       ·refine qK [6,12] ?_;refine zai ?_ ?_
        ·refine qK [12] ?_;refine qK [13] ?_;refine qK [14] ?_;refine qK [15] ?_;refine qK [16] ?_;refine zai (by exact qQ (show (stzL (es.take i)).length + 1 ≤ 1000000000 by omega) (by decide)) ?_;refine qO 17 rfl ?_;refine qU ?_;refine qH ?_;refine zob ?_;exact ⟨i + 1,by omega,by first|omega|(simp <;> omega),qP ⟨rfl,rfl,(qS (by omega))⟩ ⟨rfl,(qV (by rw [hsn];try exact rfl))⟩ rfl⟩
        ·refine qK [6,13] ?_;refine zai ?_ ?_
         ·refine qK [13] ?_;refine qK [14] ?_;refine qK [15] ?_;refine qK [16] ?_;refine zai (by exact qQ (show (stzL (es.take i)).length + 1 ≤ 1000000000 by omega) (by decide)) ?_;refine qO 17 rfl ?_;refine qU ?_;refine qH ?_;refine zob ?_;exact ⟨i + 1,by omega,by first|omega|(simp <;> omega),qP ⟨rfl,rfl,(qS (by omega))⟩ ⟨rfl,(qV (by rw [hsn];try exact rfl))⟩ rfl⟩
         ·refine qK [6] ?_;refine qK [14] ?_;refine qK [15] ?_;refine qK [16] ?_;refine zai (by exact qQ (show (stzL (es.take i)).length + 1 ≤ 1000000000 by omega) (by decide)) ?_;refine qO 17 rfl ?_;refine qU ?_;refine qH ?_;refine zob ?_;exact ⟨i + 1,by omega,by first|omega|(simp <;> omega),qP ⟨rfl,rfl,(qS (by omega))⟩ ⟨rfl,(qV (by rw [hsn];try exact rfl))⟩ rfl⟩
       ·refine qK [5,13] ?_;refine zai ?_ ?_
        ·refine qK [6,13] ?_;refine zai ?_ ?_
         ·refine qK [13] ?_;refine qK [14] ?_;refine qK [15] ?_;refine qK [16] ?_;refine zai (by exact qQ (show (stzL (es.take i)).length + 1 ≤ 1000000000 by omega) (by decide)) ?_;refine qO 17 rfl ?_;refine qU ?_;refine qH ?_;refine zob ?_;exact ⟨i + 1,by omega,by first|omega|(simp <;> omega),qP ⟨rfl,rfl,(qS (by omega))⟩ ⟨rfl,(qV (by rw [hsn];try exact rfl))⟩ rfl⟩
         ·refine qK [6] ?_;refine qK [14] ?_;refine qK [15] ?_;refine qK [16] ?_;refine zai (by exact qQ (show (stzL (es.take i)).length + 1 ≤ 1000000000 by omega) (by decide)) ?_;refine qO 17 rfl ?_;refine qU ?_;refine qH ?_;refine zob ?_;exact ⟨i + 1,by omega,by first|omega|(simp <;> omega),qP ⟨rfl,rfl,(qS (by omega))⟩ ⟨rfl,(qV (by rw [hsn];try exact rfl))⟩ rfl⟩
        ·refine qK [5] ?_;refine qK [6] ?_;refine qK [14] ?_;refine qK [15] ?_;refine qK [16] ?_;refine zai (by exact qQ (show (stzL (es.take i)).length + 1 ≤ 1000000000 by omega) (by decide)) ?_;refine qO 17 rfl ?_;refine qU ?_;refine qH ?_;refine zob ?_;exact ⟨i + 1,by omega,by first|omega|(simp <;> omega),qP ⟨rfl,rfl,(qS (by omega))⟩ ⟨rfl,(qV (by rw [hsn];try exact rfl))⟩ rfl⟩
     ·refine qK [2,12] ?_;refine zai ?_ ?_
      ·refine qO 4 rfl ?_;refine zai (by first|omega|assumption|decide|(simp only [];omega)|(simp <;> omega)) ?_;refine qK [5,12] ?_;refine zai ?_ ?_
       ·refine qK [6,12] ?_;refine zai ?_ ?_
        ·refine qK [12] ?_;refine qK [13] ?_;refine qK [14] ?_;refine qK [15] ?_;refine qK [16] ?_;refine zai (by exact qQ (show (stzL (es.take i)).length + 1 ≤ 1000000000 by omega) (by decide)) ?_;refine qO 17 rfl ?_;refine qU ?_;refine qH ?_;refine zob ?_;exact ⟨i + 1,by omega,by first|omega|(simp <;> omega),qP ⟨rfl,rfl,(qS (by omega))⟩ ⟨rfl,(qV (by rw [hsn];try exact rfl))⟩ rfl⟩
        ·refine qK [6,13] ?_;refine zai ?_ ?_
         ·refine qK [13] ?_;refine qK [14] ?_;refine qK [15] ?_;refine qK [16] ?_;refine zai (by exact qQ (show (stzL (es.take i)).length + 1 ≤ 1000000000 by omega) (by decide)) ?_;refine qO 17 rfl ?_;refine qU ?_;refine qH ?_;refine zob ?_;exact ⟨i + 1,by omega,by first|omega|(simp <;> omega),qP ⟨rfl,rfl,(qS (by omega))⟩ ⟨rfl,(qV (by rw [hsn];try exact rfl))⟩ rfl⟩
         ·refine qK [6] ?_;refine qK [14] ?_;refine qK [15] ?_;refine qK [16] ?_;refine zai (by exact qQ (show (stzL (es.take i)).length + 1 ≤ 1000000000 by omega) (by decide)) ?_;refine qO 17 rfl ?_;refine qU ?_;refine qH ?_;refine zob ?_;exact ⟨i + 1,by omega,by first|omega|(simp <;> omega),qP ⟨rfl,rfl,(qS (by omega))⟩ ⟨rfl,(qV (by rw [hsn];try exact rfl))⟩ rfl⟩
       ·refine qK [5,13] ?_;refine zai ?_ ?_
        ·refine qK [6,13] ?_;refine zai ?_ ?_
         ·refine qK [13] ?_;refine qK [14] ?_;refine qK [15] ?_;refine qK [16] ?_;refine zai (by exact qQ (show (stzL (es.take i)).length + 1 ≤ 1000000000 by omega) (by decide)) ?_;refine qO 17 rfl ?_;refine qU ?_;refine qH ?_;refine zob ?_;exact ⟨i + 1,by omega,by first|omega|(simp <;> omega),qP ⟨rfl,rfl,(qS (by omega))⟩ ⟨rfl,(qV (by rw [hsn];try exact rfl))⟩ rfl⟩
         ·refine qK [6] ?_;refine qK [14] ?_;refine qK [15] ?_;refine qK [16] ?_;refine zai (by exact qQ (show (stzL (es.take i)).length + 1 ≤ 1000000000 by omega) (by decide)) ?_;refine qO 17 rfl ?_;refine qU ?_;refine qH ?_;refine zob ?_;exact ⟨i + 1,by omega,by first|omega|(simp <;> omega),qP ⟨rfl,rfl,(qS (by omega))⟩ ⟨rfl,(qV (by rw [hsn];try exact rfl))⟩ rfl⟩
        ·refine qK [5] ?_;refine qK [6] ?_;refine qK [14] ?_;refine qK [15] ?_;refine qK [16] ?_;refine zai (by exact qQ (show (stzL (es.take i)).length + 1 ≤ 1000000000 by omega) (by decide)) ?_;refine qO 17 rfl ?_;refine qU ?_;refine qH ?_;refine zob ?_;exact ⟨i + 1,by omega,by first|omega|(simp <;> omega),qP ⟨rfl,rfl,(qS (by omega))⟩ ⟨rfl,(qV (by rw [hsn];try exact rfl))⟩ rfl⟩
      ·refine qK [2,13] ?_;refine zai ?_ ?_
       ·refine qO 4 rfl ?_;refine zai (by first|omega|assumption|decide|(simp only [];omega)|(simp <;> omega)) ?_;refine qK [5,13] ?_;refine zai ?_ ?_
        ·refine qK [6,13] ?_;refine zai ?_ ?_
         ·refine qK [13] ?_;refine qK [14] ?_;refine qK [15] ?_;refine qK [16] ?_;refine zai (by exact qQ (show (stzL (es.take i)).length + 1 ≤ 1000000000 by omega) (by decide)) ?_;refine qO 17 rfl ?_;refine qU ?_;refine qH ?_;refine zob ?_;exact ⟨i + 1,by omega,by first|omega|(simp <;> omega),qP ⟨rfl,rfl,(qS (by omega))⟩ ⟨rfl,(qV (by rw [hsn];try exact rfl))⟩ rfl⟩
         ·refine qK [6] ?_;refine qK [14] ?_;refine qK [15] ?_;refine qK [16] ?_;refine zai (by exact qQ (show (stzL (es.take i)).length + 1 ≤ 1000000000 by omega) (by decide)) ?_;refine qO 17 rfl ?_;refine qU ?_;refine qH ?_;refine zob ?_;exact ⟨i + 1,by omega,by first|omega|(simp <;> omega),qP ⟨rfl,rfl,(qS (by omega))⟩ ⟨rfl,(qV (by rw [hsn];try exact rfl))⟩ rfl⟩
        ·refine qK [5] ?_;refine qK [6] ?_;refine qK [14] ?_;refine qK [15] ?_;refine qK [16] ?_;refine zai (by exact qQ (show (stzL (es.take i)).length + 1 ≤ 1000000000 by omega) (by decide)) ?_;refine qO 17 rfl ?_;refine qU ?_;refine qH ?_;refine zob ?_;exact ⟨i + 1,by omega,by first|omega|(simp <;> omega),qP ⟨rfl,rfl,(qS (by omega))⟩ ⟨rfl,(qV (by rw [hsn];try exact rfl))⟩ rfl⟩
       ·refine qK [2] ?_;refine qO 4 rfl ?_;refine zai (by first|omega|assumption|decide|(simp only [];omega)|(simp <;> omega)) ?_;refine qK [5] ?_;refine qK [6] ?_;refine qK [14] ?_;refine qK [15] ?_;refine qK [16] ?_;refine zai (by exact qQ (show (stzL (es.take i)).length + 1 ≤ 1000000000 by omega) (by decide)) ?_;refine qO 17 rfl ?_;refine qU ?_;refine qH ?_;refine zob ?_;exact ⟨i + 1,by omega,by first|omega|(simp <;> omega),qP ⟨rfl,rfl,(qS (by omega))⟩ ⟨rfl,(qV (by rw [hsn];try exact rfl))⟩ rfl⟩
   ·try simp only [decide_eq_false_iff_not,Int.not_lt] at h18
    try simp only [Int.toNat_natCast,qG,qF,qE,qD] at h18
    have hk : live (es.getD i (((0 : Int),ByteArray.empty,([] : List Fld)),(0 : Int))) = false:=decide_eq_false (by omega);rw [hk,if_neg Bool.false_ne_true,List.append_nil] at hsn;refine qL ?_;refine qH ?_;refine zob ?_;exact ⟨i + 1,by omega,by first|omega|(simp <;> omega),qP ⟨rfl,rfl,(qS (by omega))⟩ ⟨rfl,(qV (by rw [hsn];try exact rfl))⟩ rfl⟩
  ·try simp only [decide_eq_false_iff_not,Int.not_lt] at h9
   try simp only [zds] at h9
   refine qT ?_;refine qB ?_;refine qM ?_;rw [List.take_of_length_le (by omega)];exact rfl
def doL (L : Lst) (e : Edt) : Lst :=
  if e.1 = 1 then
    if atE L.1 e.2.1 < 0 then L else if (chkR e.2.2).2 ≠ 0 then L else (uJ L.1 (atE L.1 e.2.1).toNat (kM e.2.2),L.2)
  else if e.1 = 2 then
    if atE L.1 e.2.1 < 0 then L else (delE L.1 (atE L.1 e.2.1).toNat,L.2.1,L.2.2 - 1)
  else if atE L.1 e.2.1 < 0 ∧ e.2.1 ≠ 0 then L else if (chkR e.2.2).2 ≠ 0 then L else if 400 ≤ L.2.2 then L else
    (insE L.1 (atE L.1 e.2.1 + 1).toNat (kM e.2.2,L.2.1),L.2.1 + 1,L.2.2 + 1)
def dD (M : RLs) (id : Int) (f : List Fld) : RLs × Int × Int :=
  if atE M.1 id < 0 then (M,-9,7) else if (chkR f).2 ≠ 0 then (M,(chkR f).1,(chkR f).2) else ((uJ M.1 (atE M.1 id).toNat (kM f),M.2),-9,0)
def refDel (M : RLs) (id : Int) : RLs × Int :=
  if atE M.1 id < 0 then (M,7) else ((delE M.1 (atE M.1 id).toNat,M.2),0)
def aG (M : RLs) (id : Int) (f : List Fld) : RLs × Int × Int × Int :=
  if atE M.1 id < 0 ∧ id ≠ 0 then (M,0,-9,7) else if (chkR f).2 ≠ 0 then (M,0,(chkR f).1,(chkR f).2) else if 400 ≤ ((M.1.filter live).length : Int) then (M,0,-9,11) else
    ((insE M.1 (atE M.1 id + 1).toNat (kM f,M.2),M.2 + 1),M.2,-9,0)
def posI (n : Int) : Bool:=decide (0 < n)
def nmsL (es : List Ent) : List Int:=(es.map (·.2)).filter posI
theorem ids_eq (es : List Ent) : (es.filter live).map (·.2) = nmsL es:=by
  unfold nmsL;rw [List.filter_map];rfl
theorem ids_len (es : List Ent) : (nmsL es).length = (es.filter live).length:=by rw [← ids_eq,List.length_map]
structure LOk (c : Nat) (L : Lst) : Prop where
  flds : ∀ e ∈ L.1,yP e.1.2.2
  ids : ∀ e ∈ L.1,0 ≤ e.2 ∧ e.2 < L.2.1
  nd : (nmsL L.1).Nodup
  many : L.2.2 = ((nmsL L.1).length : Int)
  next : 1 ≤ L.2.1 ∧ L.2.1 ≤ c
  len : L.1.length ≤ c
theorem ids_repl (es : List Ent) (i : Nat) (x : Itm) (h : i < es.length) : (uJ es i x).map (·.2) = es.map (·.2):=by
  apply List.ext_getElem
  · simp [uJ]
  · intro j h1 h2;simp only [uJ,List.getElem_map,List.getElem_set];split
    · rename_i e;subst e;simp only;rw [List.getD_eq_getElem?_getD,List.getElem?_eq_getElem h];rfl
    · rfl
theorem mem_repl {es : List Ent} {i : Nat} {x : Itm} {e : Ent} (h : e ∈ uJ es i x) : e ∈ es ∨ e = (x,(es.getD i (((0 : Int),ByteArray.empty,([] : List Fld)),(0 : Int))).2):=List.mem_or_eq_of_mem_set h
theorem del_split {es : List Ent} {i : Nat} (h : i < es.length) : es = es.take i ++ (es.getD i (((0 : Int),ByteArray.empty,([] : List Fld)),(0 : Int))) :: es.drop (i + 1):=by
  conv=>lhs;rw [← List.take_append_drop i es,List.drop_eq_getElem_cons h]
  rw [List.getD_eq_getElem?_getD,List.getElem?_eq_getElem h];rfl
theorem mem_del {es : List Ent} {i : Nat} {e : Ent} (h : e ∈ delE es i) : e ∈ es:=by
  rcases List.mem_append.1 h with h|h
  · exact List.mem_of_mem_take h
  · exact List.mem_of_mem_drop h
theorem ids_app (a b : List Ent) : nmsL (a ++ b) = nmsL a ++ nmsL b:=by unfold nmsL;rw [List.map_append,List.filter_append]
theorem eR (e : Ent) (b : List Ent) : nmsL (e :: b) = if 0 < e.2 then e.2 :: nmsL b else nmsL b:=by
  unfold nmsL;rw [List.map_cons,List.filter_cons];unfold posI
  by_cases h : 0 < e.2
  · rw [if_pos h,if_pos (decide_eq_true h)]
  · rw [if_neg h,if_neg (by simpa using h)]
theorem ids_del {es : List Ent} {i : Nat} (h : i < es.length) (hp : 0 < (es.getD i (((0 : Int),ByteArray.empty,([] : List Fld)),(0 : Int))).2) : (nmsL es).length = (nmsL (delE es i)).length + 1 ∧ ((nmsL es).Nodup → (nmsL (delE es i)).Nodup):=by
  have e1 : nmsL es = nmsL (es.take i) ++ (es.getD i (((0 : Int),ByteArray.empty,([] : List Fld)),(0 : Int))).2 :: nmsL (es.drop (i + 1)):=by
    conv=>lhs;rw [del_split h,ids_app,eR,if_pos hp]
  have e2 : nmsL (delE es i) = nmsL (es.take i) ++ nmsL (es.drop (i + 1)):=ids_app _ _;rw [e1,e2];refine ⟨by simp only [List.length_append,List.length_cons];omega,fun hn=>?_⟩;exact hn.sublist (List.Sublist.append_left (List.sublist_cons_self _ _) _)
theorem mem_ins {es : List Ent} {i : Nat} {x e : Ent} (h : e ∈ insE es i x) : e ∈ es ∨ e = x:=by
  rcases List.mem_append.1 h with h|h
  · exact .inl (List.mem_of_mem_take h)
  · rcases List.mem_cons.1 h with h|h
    · exact .inr h
    · exact .inl (List.mem_of_mem_drop h)
theorem ids_ins {es : List Ent} {i : Nat} {x : Ent} (hp : 0 < x.2) (hlt : ∀ e ∈ es,e.2 < x.2) : (nmsL (insE es i x)).length = (nmsL es).length + 1 ∧ ((nmsL es).Nodup → (nmsL (insE es i x)).Nodup):=by
  have e1 : nmsL es = nmsL (es.take i) ++ nmsL (es.drop i):=by
    conv=>lhs;rw [← List.take_append_drop i es,ids_app]
  have e2 : nmsL (insE es i x) = nmsL (es.take i) ++ x.2 :: nmsL (es.drop i):=by unfold insE;rw [ids_app,eR,if_pos hp]
  have hno : x.2 ∉ nmsL es:=fun h=>by
    unfold nmsL at h;obtain ⟨e,he,hx⟩:=List.mem_map.1 (List.mem_filter.1 h).1;have:=hlt e he;omega
  rw [e1] at hno ⊢;rw [e2];refine ⟨by simp only [List.length_append,List.length_cons];omega,fun hn=>?_⟩;rw [List.perm_middle.nodup_iff];exact List.nodup_cons.2 ⟨hno,hn⟩
theorem doL_ok {c : Nat} {L : Lst} {e : Edt} (h : LOk c L) (hf : yP e.2.2) : LOk (c + 1) (doL L e):=by
  have h0 : LOk (c + 1) L:=⟨h.flds,h.ids,h.nd,h.many,⟨h.next.1,by have:=h.next.2;omega⟩,by have:=h.len;omega⟩;have hat : ∀ id,¬ atE L.1 id < 0 → ∃ i : Nat,i < L.1.length ∧ atE L.1 id = i ∧ 0 < id ∧ (L.1.getD i (((0 : Int),ByteArray.empty,([] : List Fld)),(0 : Int))).2 = id:=fun id hn=>by
    rcases fI L.1 id with ⟨h1,_⟩|⟨i,h1,h2,h3,h4,_⟩
    · omega
    · exact ⟨i,h1,h2,h3,h4⟩
  unfold doL;split
  · split
    · exact h0
    · rename_i hn;obtain ⟨i,hi,he,hp,hid⟩:=hat _ hn;rw [he,Int.toNat_natCast];split
      · exact h0
      · have hids : nmsL (uJ L.1 i (kM e.2.2)) = nmsL L.1:=by unfold nmsL;rw [ids_repl _ _ _ hi]
        refine ⟨fun x hx=>?_,fun x hx=>?_,by show (nmsL (uJ L.1 i _)).Nodup;rw [hids];exact h.nd,by show L.2.2 = ((nmsL (uJ L.1 i _)).length : Int);rw [hids];exact h.many,h0.next,?_⟩
        · rcases mem_repl hx with hx|rfl
          · exact h.flds x hx
          · exact hf
        · rcases mem_repl hx with hx|rfl
          · exact h.ids x hx
          · show 0 ≤ (L.1.getD i (((0 : Int),ByteArray.empty,([] : List Fld)),(0 : Int))).2 ∧ (L.1.getD i (((0 : Int),ByteArray.empty,([] : List Fld)),(0 : Int))).2 < L.2.1;exact h.ids _ (yK hi (((0 : Int),ByteArray.empty,([] : List Fld)),(0 : Int)))
        · show (uJ L.1 i _).length ≤ c + 1;unfold uJ;rw [List.length_set];exact h0.len
  · split
    · split
      · exact h0
      · rename_i hn;obtain ⟨i,hi,he,hp,hid⟩:=hat _ hn;rw [he,Int.toNat_natCast];obtain ⟨h1,h2⟩:=ids_del hi (by omega);refine ⟨fun x hx=>h.flds x (mem_del hx),fun x hx=>h.ids x (mem_del hx),h2 h.nd,?_,h0.next,?_⟩
        · show L.2.2 - 1 = ((nmsL (delE L.1 i)).length : Int);rw [h.many];omega
        · show (delE L.1 i).length ≤ c + 1;have:=h.len;unfold delE;rw [List.length_append,List.length_take,List.length_drop];omega
    · split
      · exact h0
      · rename_i hn;split
        · exact h0
        · split
          · exact h0
          · have hnx:=h.next;obtain ⟨h1,h2⟩:=ids_ins (es:=L.1) (i:=(atE L.1 e.2.1 + 1).toNat) (x:=(kM e.2.2,L.2.1)) (by show 0 < L.2.1;omega) (fun x hx=>(h.ids x hx).2);refine ⟨fun x hx=>?_,fun x hx=>?_,h2 h.nd,?_,⟨by show 1 ≤ L.2.1 + 1;omega,by show L.2.1 + 1 ≤ ((c + 1 : Nat) : Int);omega⟩,?_⟩
            · rcases mem_ins hx with hx|rfl
              · exact h.flds x hx
              · exact hf
            · show 0 ≤ x.2 ∧ x.2 < L.2.1 + 1;rcases mem_ins hx with hx|rfl
              · have:=h.ids x hx;omega
              · show 0 ≤ L.2.1 ∧ L.2.1 < L.2.1 + 1;omega
            · show L.2.2 + 1 = _;rw [h1,h.many];omega
            · have:=h.len;show (insE L.1 _ _).length ≤ c + 1;unfold insE;rw [List.length_append,List.length_cons,List.length_take,List.length_drop];omega
theorem ids_num : ∀ (l : List Itm) (n : Int),1 ≤ n → nmsL (numI n l) = (List.range (cntR l)).map (fun k : Nat=>n + (k : Int)) ∧ ∀ e ∈ numI n l,0 ≤ e.2 ∧ e.2 < n + (cntR l : Int)
  | [],n,_=>⟨rfl,fun e he=>by cases he⟩
  | x :: r,n,hn=>by
    unfold numI;split
    · rename_i h;obtain ⟨h1,h2⟩:=ids_num r (n + 1) (by omega);have hc : cntR (x :: r) = cntR r + 1:=by simp [cntR,h]
      rw [hc];refine ⟨?_,fun e he=>?_⟩
      · rw [eR,if_pos (show 0 < n by omega),h1,List.range_succ_eq_map,List.map_cons,List.map_map]
        congr 1
        · simp
        · apply List.map_congr_left;intro k _;simp only [Function.comp];omega
      · rcases List.mem_cons.1 he with rfl|he
        · show 0 ≤ n ∧ n < _;omega
        · have:=h2 e he;omega
    · rename_i h;obtain ⟨h1,h2⟩:=ids_num r n hn;have hc : cntR (x :: r) = cntR r:=by simp [cntR,h]
      rw [hc];refine ⟨?_,fun e he=>?_⟩
      · rw [eR,if_neg (show ¬ (0 : Int) < 0 by omega),h1]
      · rcases List.mem_cons.1 he with rfl|he
        · show 0 ≤ (0 : Int) ∧ (0 : Int) < _;omega
        · exact h2 e he
theorem ofT_ok {l : List Itm} {c : Nat} (hl : l.length < c) (hf : ∀ x ∈ l,yP x.2.2) : LOk c (ofT l):=by
  obtain ⟨h1,h2⟩:=ids_num l 1 (Int.le_refl _);have h3:=List.length_filter_le zK l;have h4 : cntR l ≤ l.length:=h3;refine ⟨fun e he=>?_,h2,?_,?_,⟨?_,?_⟩,?_⟩
  · have : e.1 ∈ (numI 1 l).map (·.1):=List.mem_map.2 ⟨e,he,rfl⟩;rw [numI_items] at this;exact hf _ this
  · show (nmsL (numI 1 l)).Nodup;rw [h1];refine List.Pairwise.map _ ?_ List.nodup_range;intro a b hab e;apply hab;omega
  · show (cntR l : Int) = _;rw [show nmsL (ofT l).1 = _ from h1,List.length_map,List.length_range]
  · show 1 ≤ 1 + (cntR l : Int);omega
  · show 1 + (cntR l : Int) ≤ c;omega
  · show (numI 1 l).length ≤ c;rw [uM];omega
theorem bI (es : List Ent) (n id : Int) : qX Tryz.prog 67 [.agg (toL rRL (es,n)),ii .i64 id] (ii .i64 (atE es id)):=by
  refine qW (rs:=[4]) Tryz.func67 rfl rfl rfl teOk rfl ?_;refine qB ?_;refine qI ?_;refine qB ?_;refine qN ?_;refine qR (fun (i : Nat)=>i ≤ es.length ∧ (es.take i).any (hasId id) = false) (fun (i : Nat)=>[(1,ii .i64 id),(2,.one (.own 0 0)),(5,ii .i64 i)]) (fun (i : Nat)=>[(0,.box 33 (toL rRL (es,n)))]) 1 (fun (i : Nat)=>es.length - i) 0 (⟨Nat.zero_le _,rfl⟩) (qP ⟨rfl,rfl,rfl⟩ rfl rfl) ?_;intro i hI0;obtain ⟨hi,hn⟩:=hI0;refine qI ?_;refine qB ?_;intro l2_3
  try simp only [zds] at l2_3
  refine zai (fun h=>trivial) ?_;refine zai (fun h=>⟨⟨h,trivial⟩,trivial⟩) ?_;refine zai (by exact fun h=>h) ?_;refine qJ rfl (fun h14=>?_) (fun h14=>?_)
  ·try simp only [zbq] at h14
   try simp only [zds] at h14
   have hil : i < es.length:=(by omega);have hid : ¬ id < 1:=(by omega);refine qL ?_;refine qI ?_;refine qN ?_;refine qB ?_;refine zob ?_;refine qJ rfl (fun h24=>?_) (fun h24=>?_)
   ·try simp only [zbq] at h24
    try simp only [zds] at h24
    refine qB ?_;refine qM ?_;exact qS (by unfold atE;rw [if_neg hid];exact (aK (((0 : Int),ByteArray.empty,([] : List Fld)),(0 : Int)) hil hn (decide_eq_true h24)).symm)
   ·try simp only [zbq] at h24
    try simp only [zds] at h24
    refine qL ?_;refine qH ?_;refine zob ?_;exact ⟨i + 1,⟨by omega,by rw [kY es (hasId id) (((0 : Int),ByteArray.empty,([] : List Fld)),(0 : Int)) i hil,hn];exact decide_eq_false h24⟩,by first|omega|(simp <;> omega),qP ⟨rfl,rfl,rfl⟩ rfl rfl⟩
  ·try simp only [zbq] at h14
   try simp only [zds] at h14
   refine qT ?_;refine qB ?_;refine qM ?_
   by_cases hid : id < 1
   exact qS (by unfold atE;rw [if_pos hid]);have e : i = es.length:=(by omega);subst e;rw [List.take_length] at hn;exact qS (by unfold atE;rw [if_neg hid];exact (vB hn).symm)
theorem refChk_c (l : List Fld) (hl : yP l) : qX Tryz.prog 68 [.one (.sl rFld l)] (.tup [(false,[.lit (.int .i64 (chkR l).1)]),(false,[.lit (.int .i64 (chkR l).2)])]):=by
  have hln:=hl.1;refine qW (rs:=[2,3]) Tryz.func68 rfl rfl rfl teOk rfl ?_;refine qB ?_;refine qI ?_;refine qB ?_;intro l1_1
  try simp only [zds] at l1_1
  refine qJ rfl (fun h8=>?_) (fun h8=>?_)
  ·try simp only [decide_eq_true_eq] at h8
   try simp only [zds] at h8
   refine qB ?_;refine qM ?_;have e : chkR l = (-9,2):=(by unfold chkR;rw [if_pos (List.eq_nil_of_length_eq_zero (by omega))]);rw [e];rfl
  ·try simp only [decide_eq_false_iff_not] at h8
   try simp only [zds] at h8
   refine qL ?_;refine qI ?_;refine qB ?_;intro l3_1
   try simp only [zds] at l3_1
   refine qJ rfl (fun h11=>?_) (fun h11=>?_)
   ·try simp only [decide_eq_true_eq] at h11
    try simp only [zds] at h11
    refine qB ?_;refine qM ?_;have e : chkR l = (-9,11):=(by unfold chkR;rw [if_neg (fun e=>h8 (by rw [e];rfl)),if_pos (by omega)]);rw [e];rfl
   ·try simp only [decide_eq_false_iff_not,Int.not_lt] at h11
    try simp only [zds] at h11
    refine qL ?_;refine qI ?_;refine qB ?_;refine qN ?_;refine qR (fun (i : Nat)=>i ≤ l.length ∧ ∀ f ∈ l.take i,xD f = 0) (fun (i : Nat)=>[(0,.one (.sl rFld l)),(4,ii .i64 i)]) (fun (i : Nat)=>[]) 0 (fun (i : Nat)=>l.length - i) 0 (⟨Nat.zero_le _,by simp⟩) (qP ⟨rfl,rfl⟩ trivial rfl) ?_;intro i hI0;obtain ⟨hi,hall⟩:=hI0;refine qI ?_;refine qB ?_;intro l6_2
    try simp only [zds] at l6_2
    refine qJ rfl (fun h15=>?_) (fun h15=>?_)
    ·try simp only [decide_eq_true_eq] at h15
     try simp only [zds] at h15
     have hlt : i < l.length:=(by omega);have hm:=hl.2 _ (yK hlt (ByteArray.empty,ByteArray.empty));have hne : l ≠ []:=(fun e=>by rw [e] at hlt;simp at hlt);refine qL ?_;refine qI ?_;refine qN ?_;refine qB ?_;refine zob ?_;refine Or.inl ?_;refine zai (rfl) ?_;refine zei _ (zai (refCheck_c (l.getD i (ByteArray.empty,ByteArray.empty)) (by omega)) ?_);refine qB ?_;refine qJ rfl (fun h24=>?_) (fun h24=>?_)
     ·try simp only [decide_eq_false_iff_not,Bool.not_eq_true'] at h24
      try simp only [zds] at h24
      refine qB ?_;refine qM ?_;have e : chkR l = ((i : Int),xD (l.getD i (ByteArray.empty,ByteArray.empty))):=(by unfold chkR;rw [if_neg hne,if_neg (by omega),cS l i 0 hlt hall h24,Int.zero_add]);rw [e];rfl
     ·try simp only [decide_eq_true_eq,Bool.not_eq_false'] at h24
      try simp only [zds] at h24
      refine qL ?_;refine qH ?_;refine zob ?_;exact ⟨i + 1,⟨by omega,by rw [← yE (ByteArray.empty,ByteArray.empty) hlt];intro f hf;rcases List.mem_append.1 hf with h|h;exact hall f h;rw [List.mem_singleton.1 h];exact h24⟩,by first|omega|(simp <;> omega),qP ⟨rfl,(qS (by omega))⟩ trivial rfl⟩
    ·try simp only [decide_eq_false_iff_not,Int.not_lt] at h15
     try simp only [zds] at h15
     refine qT ?_;refine qB ?_;refine qM ?_;rw [List.take_of_length_le (by omega)] at hall;have e : chkR l = (-9,0):=(by unfold chkR;rw [if_neg (fun e=>h8 (by rw [e];rfl)),if_neg (by omega)];exact badAt_no l 0 hall);rw [e];rfl
theorem wS (f : List Fld) (hg : ∀ x ∈ f,xD x = 0) (hn : f.length ≤ 1000) : qX Tryz.prog 69 [.one (.sl rFld f)] (.agg (toL rItm (kM f))):=by
  refine yT (rs:=[.cell 2 85]) Tryz.func69 rfl rfl rfl teOk rfl ?_;refine qB ?_;refine qB ?_;refine Or.inl ?_;refine zai (rfl) ?_;refine zei _ (zai (refFold_c f hg hn) ?_);refine qM ?_;rfl
theorem eL (es : List Ent) (k : Nat) (x : Itm) : (uJ es k x).length = es.length:=List.length_set
theorem repl_at {es : List Ent} {k i : Nat} {x : Itm} (hk : k < es.length) (h : i < es.length) : (uJ es k x).take (i + 1) = (uJ es k x).take i ++ [if i = k then (x,(es.getD k (((0 : Int),ByteArray.empty,([] : List Fld)),(0 : Int))).2) else es.getD i (((0 : Int),ByteArray.empty,([] : List Fld)),(0 : Int))]:=by
  have h1 : i < (uJ es k x).length:=by rw [eL];exact h
  rw [← yE (((0 : Int),ByteArray.empty,([] : List Fld)),(0 : Int)) h1]
  congr 2
  unfold uJ;rw [List.getD_eq_getElem?_getD,List.getElem?_set]
  by_cases e : i = k
  · subst e;rw [if_pos rfl,if_pos hk,if_pos rfl];rfl
  · rw [if_neg (fun h=>e h.symm),if_neg e,← List.getD_eq_getElem?_getD]
theorem refRep_c (es : List Ent) (n id : Int) (f : List Fld) (hf : yP f) (hl : es.length ≤ 1000000) : qX Tryz.prog 38 [.agg (toL rRL (es,n)),ii .i64 id,.one (.sl rFld f)] (.tup [(true,toL rRL (dD (es,n) id f).1),(false,[.lit (.int .i64 (dD (es,n) id f).2.1)]),(false,[.lit (.int .i64 (dD (es,n) id f).2.2)])]):=by
  have hat:=bI es n id;have hck:=refChk_c f hf;unfold dD
  by_cases h0 : atE es id < 0
  · simp only [if_pos h0];refine yT (rs:=[.cell 6 33,.tmp 7,.tmp 8]) Tryz.func38 rfl rfl rfl teOk rfl ?_;refine qB ?_;refine qB ?_;refine Or.inl ?_;refine zai (rfl) ?_;refine zei _ (zai (hat) ?_);refine qI ?_;refine qB ?_;refine qJ rfl (fun h19=>?_) (fun h19=>?_)
    ·try simp only [decide_eq_true_eq] at h19
     try simp only [zds] at h19
     refine qB ?_;refine qM ?_;rfl
    ·try simp only [decide_eq_false_iff_not,Int.not_lt] at h19
     try simp only [zds] at h19
     omega
  · simp only [if_neg h0]
    by_cases hc : (chkR f).2 ≠ 0
    · simp only [if_pos hc];refine yT (rs:=[.cell 6 33,.tmp 7,.tmp 8]) Tryz.func38 rfl rfl rfl teOk rfl ?_;refine qB ?_;refine qB ?_;refine Or.inl ?_;refine zai (rfl) ?_;refine zei _ (zai (hat) ?_);refine qI ?_;refine qB ?_;refine qJ rfl (fun h19=>?_) (fun h19=>?_)
      ·try simp only [decide_eq_true_eq] at h19
       try simp only [zds] at h19
       omega
      ·try simp only [decide_eq_false_iff_not,Int.not_lt] at h19
       try simp only [zds] at h19
       refine qL ?_;refine qB ?_;refine Or.inl ?_;refine zai (rfl) ?_;refine zei _ (zai (hck) ?_);refine qI ?_;refine qB ?_;refine qJ rfl (fun h27=>?_) (fun h27=>?_)
       ·try simp only [decide_eq_false_iff_not,Bool.not_eq_true'] at h27
        try simp only [zds] at h27
        refine qB ?_;refine qM ?_;rfl
       ·try simp only [decide_eq_true_eq,Bool.not_eq_false'] at h27
        try simp only [zds] at h27
        exact absurd h27 hc
    · simp only [if_neg hc];have hc : (chkR f).2 = 0:=Classical.not_not.1 hc;have hg:=(chk_good hc).1;obtain ⟨k,hk,he,_,_⟩:=at_lt h0;rw [he,Int.toNat_natCast];rw [he] at hat;refine yT (rs:=[.cell 6 33,.tmp 7,.tmp 8]) Tryz.func38 rfl rfl rfl teOk rfl ?_;refine qB ?_;refine qB ?_;refine Or.inl ?_;refine zai (rfl) ?_;refine zei _ (zai (hat) ?_);refine qI ?_;refine qB ?_;refine qJ rfl (fun h19=>?_) (fun h19=>?_)
      ·try simp only [decide_eq_true_eq] at h19
       try simp only [zds] at h19
       omega
      ·try simp only [decide_eq_false_iff_not,Int.not_lt] at h19
       try simp only [zds] at h19
       refine qL ?_;refine qB ?_;refine Or.inl ?_;refine zai (rfl) ?_;refine zei _ (zai (hck) ?_);refine qI ?_;refine qB ?_;refine qJ rfl (fun h27=>?_) (fun h27=>?_)
       ·try simp only [decide_eq_false_iff_not,Bool.not_eq_true'] at h27
        try simp only [zds] at h27
        exact absurd hc h27
       ·try simp only [decide_eq_true_eq,Bool.not_eq_false'] at h27
        try simp only [zds] at h27
        refine qL ?_;refine qB ?_;refine qI ?_;refine qI ?_;refine yM 2 0 91 rEnt rfl rfl rfl ?_;refine qH ?_;refine qN ?_;refine qR (fun (i : Nat)=>i ≤ es.length) (fun (i : Nat)=>[(2,.one (.sl rFld f)),(3,.one (.own 0 0)),(6,.one (.own 1 0)),(9,ii .i64 k),(12,.one (.own 2 0)),(13,ii .i64 i)]) (fun (i : Nat)=>[(0,.box 33 (toL rRL (es,n))),(1,.box 33 [.lit (.slice none 0 0),.lit (.int .i64 0)]),(2,.box 33 [.vec 3,.lit (.int .i64 n)]),(3,.vec 91 rEnt ((uJ es k (kM f)).take i))]) 4 (fun (i : Nat)=>es.length - i) 0 (Nat.zero_le _) (qP ⟨rfl,rfl,rfl,rfl,rfl,rfl⟩ ⟨rfl,rfl,rfl,rfl⟩ rfl) ?_;intro i hI0;refine qI ?_;refine qB ?_;intro l9_3;refine qJ rfl (fun h38=>?_) (fun h38=>?_)
        ·try simp only [decide_eq_true_eq] at h38
         try simp only [zds] at h38
         have hil : i < es.length:=(by omega);have hsn:=repl_at (x:=kM f) hk hil;refine qL ?_;refine qI ?_;refine qN ?_;refine qB ?_;refine zai (by first|omega|assumption|decide|(simp only [];omega)|(simp <;> omega)) ?_;refine qI ?_;refine qB ?_;refine qJ rfl (fun h48=>?_) (fun h48=>?_)
         ·try simp only [decide_eq_true_eq] at h48
          try simp only [zds] at h48
          have e1 : i = k:=(by omega);rw [if_pos e1] at hsn;subst e1;refine qH ?_;refine Or.inl ?_;refine zai (rfl) ?_;refine zei _ (zai (wS f hg.2.2 hf.1) ?_);refine qH ?_;refine zai (by exact qQ (show ((uJ es _ (kM f)).take _).length + 1 ≤ 1000000000 by rw [List.length_take,eL];omega) (by decide)) ?_;refine qH ?_;refine zob ?_;exact ⟨i + 1,by omega,by first|omega|(simp <;> omega),qP ⟨rfl,rfl,rfl,rfl,rfl,(qS (by omega))⟩ ⟨rfl,rfl,rfl,(qV (by rw [hsn];exact rfl))⟩ rfl⟩
         ·try simp only [decide_eq_false_iff_not] at h48
          try simp only [zds] at h48
          rw [if_neg (fun e1=>h48 (by rw [e1]))] at hsn;refine qL ?_;refine qH ?_;refine zai (by exact qQ (show ((uJ es _ (kM f)).take _).length + 1 ≤ 1000000000 by rw [List.length_take,eL];omega) (by decide)) ?_;refine qH ?_;refine zob ?_;exact ⟨i + 1,by omega,by first|omega|(simp <;> omega),qP ⟨rfl,rfl,rfl,rfl,rfl,(qS (by omega))⟩ ⟨rfl,rfl,rfl,(qV (by rw [hsn];exact rfl))⟩ rfl⟩
        ·try simp only [decide_eq_false_iff_not,Int.not_lt] at h38
         try simp only [zds] at h38
         refine qT ?_;refine qB ?_;refine yD [3] ?_;refine qM ?_;rw [List.take_of_length_le (by rw [eL];omega)];exact rfl
theorem del_at {es : List Ent} {k i : Nat} (h : i < es.length) : delE (es.take (i + 1)) k = delE (es.take i) k ++ (if i = k then [] else [es.getD i (((0 : Int),ByteArray.empty,([] : List Fld)),(0 : Int))]):=by
  unfold delE;rw [← yE (((0 : Int),ByteArray.empty,([] : List Fld)),(0 : Int)) h,List.take_append,List.drop_append,List.length_take,Nat.min_eq_left (by omega)];rcases Nat.lt_trichotomy i k with h1|h1|h1
  · rw [if_neg (by omega)];have e1 : (es.take i).drop (k + 1) = []:=List.drop_of_length_le (by rw [List.length_take];omega);have e2 : [es.getD i (((0 : Int),ByteArray.empty,([] : List Fld)),(0 : Int))].take (k - i) = [es.getD i (((0 : Int),ByteArray.empty,([] : List Fld)),(0 : Int))]:=List.take_of_length_le (by simp;omega);have e3 : [es.getD i (((0 : Int),ByteArray.empty,([] : List Fld)),(0 : Int))].drop (k + 1 - i) = []:=List.drop_of_length_le (by simp;omega);rw [e1,e2,e3];simp
  · subst h1;rw [if_pos rfl];have e3 : [es.getD i (((0 : Int),ByteArray.empty,([] : List Fld)),(0 : Int))].drop (i + 1 - i) = []:=List.drop_of_length_le (by simp);rw [e3,Nat.sub_self];simp
  · rw [if_neg (by omega)];have e2 : [es.getD i (((0 : Int),ByteArray.empty,([] : List Fld)),(0 : Int))].take (k - i) = []:=by rw [show k - i = 0 by omega];rfl
    have e3 : [es.getD i (((0 : Int),ByteArray.empty,([] : List Fld)),(0 : Int))].drop (k + 1 - i) = [es.getD i (((0 : Int),ByteArray.empty,([] : List Fld)),(0 : Int))]:=by rw [show k + 1 - i = 0 by omega];rfl
    rw [e2,e3];simp
theorem del_le (es : List Ent) (k i : Nat) : (delE (es.take i) k).length ≤ es.length:=by
  unfold delE;rw [List.length_append,List.length_take,List.length_drop,List.length_take];omega
theorem refDel_c (es : List Ent) (n id : Int) (hl : es.length ≤ 1000000) : qX Tryz.prog 39 [.agg (toL rRL (es,n)),ii .i64 id] (.tup [(true,toL rRL (refDel (es,n) id).1),(false,[.lit (.int .i64 (refDel (es,n) id).2)])]):=by
  have hat:=bI es n id;unfold refDel
  by_cases h0 : atE es id < 0
  · simp only [if_pos h0];refine yT (rs:=[.cell 4 33,.tmp 5]) Tryz.func39 rfl rfl rfl teOk rfl ?_;refine qB ?_;refine qB ?_;refine Or.inl ?_;refine zai (rfl) ?_;refine zei _ (zai (hat) ?_);refine qI ?_;refine qB ?_;refine qJ rfl (fun h13=>?_) (fun h13=>?_)
    ·try simp only [decide_eq_true_eq] at h13
     try simp only [zds] at h13
     refine qB ?_;refine qM ?_;rfl
    ·try simp only [decide_eq_false_iff_not,Int.not_lt] at h13
     try simp only [zds] at h13
     omega
  · simp only [if_neg h0];obtain ⟨k,hk,he,_,_⟩:=at_lt h0;rw [he,Int.toNat_natCast];rw [he] at hat;refine yT (rs:=[.cell 4 33,.tmp 5]) Tryz.func39 rfl rfl rfl teOk rfl ?_;refine qB ?_;refine qB ?_;refine Or.inl ?_;refine zai (rfl) ?_;refine zei _ (zai (hat) ?_);refine qI ?_;refine qB ?_;refine qJ rfl (fun h13=>?_) (fun h13=>?_)
    ·try simp only [decide_eq_true_eq] at h13
     try simp only [zds] at h13
     omega
    ·try simp only [decide_eq_false_iff_not,Int.not_lt] at h13
     try simp only [zds] at h13
     refine qL ?_;refine qB ?_;refine qI ?_;refine qI ?_;refine yM 2 0 91 rEnt rfl rfl rfl ?_;refine qH ?_;refine qN ?_;refine qR (fun (i : Nat)=>i ≤ es.length) (fun (i : Nat)=>[(2,.one (.own 0 0)),(4,.one (.own 1 0)),(6,ii .i64 k),(7,.one (.own 2 0)),(8,ii .i64 i)]) (fun (i : Nat)=>[(0,.box 33 (toL rRL (es,n))),(1,.box 33 [.lit (.slice none 0 0),.lit (.int .i64 0)]),(2,.box 33 [.vec 3,.lit (.int .i64 n)]),(3,.vec 91 rEnt (delE (es.take i) k))]) 4 (fun (i : Nat)=>es.length - i) 0 (Nat.zero_le _) (qP ⟨rfl,rfl,rfl,rfl,rfl⟩ ⟨rfl,rfl,rfl,(qV (by simp [delE]))⟩ rfl) ?_;intro i hI0;refine qI ?_;refine qB ?_;intro l6_3;refine qJ rfl (fun h22=>?_) (fun h22=>?_)
     ·try simp only [decide_eq_true_eq] at h22
      try simp only [zds] at h22
      have hil : i < es.length:=(by omega);have hsn:=del_at (k:=k) hil;have hdl:=del_le es k i;refine qL ?_;refine qI ?_;refine qN ?_;refine qB ?_;refine qJ rfl (fun h27=>?_) (fun h27=>?_)
      ·try simp only [decide_eq_false_iff_not,Bool.not_eq_true'] at h27
       try simp only [zds] at h27
       rw [if_neg (fun e1=>h27 (by rw [e1]))] at hsn;refine yW rfl ?_;refine qO 0 rfl ?_;refine qO 2 rfl ?_;refine qO 4 rfl ?_;refine qK [1,3] ?_;refine zai ?_ ?_
       ·refine qK [3] ?_;refine qO 5 rfl ?_;refine zai (by first|omega|assumption|decide|(simp only [];omega)|(simp <;> omega)) ?_;refine qK [6] ?_;refine qK [7] ?_;refine qK [8] ?_;refine zai (by exact qQ (show (delE (es.take i) k).length + 1 ≤ 1000000000 by omega) (by decide)) ?_;refine qO 9 rfl ?_;refine qK [10] ?_;refine qU ?_;refine qH ?_;refine zob ?_;exact ⟨i + 1,by omega,by first|omega|(simp <;> omega),qP ⟨rfl,rfl,rfl,rfl,(qS (by omega))⟩ ⟨rfl,rfl,rfl,(qV (by rw [hsn];try exact rfl))⟩ rfl⟩
       ·refine qO 5 rfl ?_;refine zai (by first|omega|assumption|decide|(simp only [];omega)|(simp <;> omega)) ?_;refine qK [1,6] ?_;refine zai ?_ ?_
        ·refine qK [6] ?_;refine qK [7] ?_;refine qK [8] ?_;refine zai (by exact qQ (show (delE (es.take i) k).length + 1 ≤ 1000000000 by omega) (by decide)) ?_;refine qO 9 rfl ?_;refine qK [10] ?_;refine qU ?_;refine qH ?_;refine zob ?_;exact ⟨i + 1,by omega,by first|omega|(simp <;> omega),qP ⟨rfl,rfl,rfl,rfl,(qS (by omega))⟩ ⟨rfl,rfl,rfl,(qV (by rw [hsn];try exact rfl))⟩ rfl⟩
        ·refine qK [1,7] ?_;refine zai ?_ ?_
         ·refine qK [7] ?_;refine qK [8] ?_;refine zai (by exact qQ (show (delE (es.take i) k).length + 1 ≤ 1000000000 by omega) (by decide)) ?_;refine qO 9 rfl ?_;refine qK [10] ?_;refine qU ?_;refine qH ?_;refine zob ?_;exact ⟨i + 1,by omega,by first|omega|(simp <;> omega),qP ⟨rfl,rfl,rfl,rfl,(qS (by omega))⟩ ⟨rfl,rfl,rfl,(qV (by rw [hsn];try exact rfl))⟩ rfl⟩
         ·refine qK [1] ?_;refine qK [8] ?_;refine zai (by exact qQ (show (delE (es.take i) k).length + 1 ≤ 1000000000 by omega) (by decide)) ?_;refine qO 9 rfl ?_;refine qK [10] ?_;refine qU ?_;refine qH ?_;refine zob ?_;exact ⟨i + 1,by omega,by first|omega|(simp <;> omega),qP ⟨rfl,rfl,rfl,rfl,(qS (by omega))⟩ ⟨rfl,rfl,rfl,(qV (by rw [hsn];try exact rfl))⟩ rfl⟩
      ·try simp only [decide_eq_true_eq,Bool.not_eq_false'] at h27
       try simp only [zds] at h27
       rw [if_pos (by omega),List.append_nil] at hsn;refine qL ?_;refine qH ?_;refine zob ?_;exact ⟨i + 1,by omega,by first|omega|(simp <;> omega),qP ⟨rfl,rfl,rfl,rfl,(qS (by omega))⟩ ⟨rfl,rfl,rfl,(qV (by rw [hsn];try exact rfl))⟩ rfl⟩
     ·try simp only [decide_eq_false_iff_not,Int.not_lt] at h22
      try simp only [zds] at h22
      refine qT ?_;refine qB ?_;refine yD [3] ?_;refine qM ?_;rw [List.take_of_length_le (show es.length ≤ i by omega)];exact rfl
def insT (es : List Ent) (j : Nat) (e : Ent) (i : Nat) : List Ent:=if i < j then es.take i else insE (es.take i) j e
theorem insT_snoc {es : List Ent} {j i : Nat} {e : Ent} (h : i < es.length) : insT es j e (i + 1) = insT es j e i ++ (if i + 1 = j then [es.getD i (((0 : Int),ByteArray.empty,([] : List Fld)),(0 : Int)),e] else [es.getD i (((0 : Int),ByteArray.empty,([] : List Fld)),(0 : Int))]):=by
  unfold insT insE;rcases Nat.lt_trichotomy (i + 1) j with h1|h1|h1
  · rw [if_pos h1,if_pos (by omega),if_neg (by omega),yE (((0 : Int),ByteArray.empty,([] : List Fld)),(0 : Int)) h]
  · subst h1;rw [if_neg (by omega),if_pos (by omega),if_pos rfl,← yE (((0 : Int),ByteArray.empty,([] : List Fld)),(0 : Int)) h];have e1 : (es.take i ++ [es.getD i (((0 : Int),ByteArray.empty,([] : List Fld)),(0 : Int))]).take (i + 1) = es.take i ++ [es.getD i (((0 : Int),ByteArray.empty,([] : List Fld)),(0 : Int))]:=List.take_of_length_le (by simp;omega);have e2 : (es.take i ++ [es.getD i (((0 : Int),ByteArray.empty,([] : List Fld)),(0 : Int))]).drop (i + 1) = []:=List.drop_of_length_le (by simp;omega);rw [e1,e2];simp
  · rw [if_neg (by omega),if_neg (by omega),if_neg (by omega),← yE (((0 : Int),ByteArray.empty,([] : List Fld)),(0 : Int)) h];have e1 : (es.take i ++ [es.getD i (((0 : Int),ByteArray.empty,([] : List Fld)),(0 : Int))]).take j = (es.take i).take j:=by rw [List.take_append_of_le_length (by rw [List.length_take];omega)]
    have e2 : (es.take i ++ [es.getD i (((0 : Int),ByteArray.empty,([] : List Fld)),(0 : Int))]).drop j = (es.take i).drop j ++ [es.getD i (((0 : Int),ByteArray.empty,([] : List Fld)),(0 : Int))]:=by rw [List.drop_append_of_le_length (by rw [List.length_take];omega)]
    rw [e1,e2];simp
theorem insT_le (es : List Ent) (j : Nat) (e : Ent) (i : Nat) : (insT es j e i).length ≤ es.length + 1:=by
  unfold insT insE;split
  · rw [List.length_take];omega
  · rw [List.length_append,List.length_cons,List.length_take,List.length_drop,List.length_take];omega
theorem insT_all {es : List Ent} {j i : Nat} {e : Ent} (hj : j ≤ es.length) (hi : es.length ≤ i) : insT es j e i = insE es j e:=by
  unfold insT;rw [if_neg (by omega),List.take_of_length_le hi]
theorem insT_0 (es : List Ent) (e : Ent) : insT es 0 e 0 = [e]:=by
  unfold insT insE;rw [if_neg (by omega)];simp
theorem insT_1 {es : List Ent} {j : Nat} {e : Ent} (hj : 0 < j) : insT es j e 0 = []:=by
  unfold insT;rw [if_pos hj];simp
theorem liveN_snoc {es : List Ent} {i : Nat} (h : i < es.length) : ((es.take (i + 1)).filter live).length = ((es.take i).filter live).length + if live (es.getD i (((0 : Int),ByteArray.empty,([] : List Fld)),(0 : Int))) then 1 else 0:=by
  rw [← yE (((0 : Int),ByteArray.empty,([] : List Fld)),(0 : Int)) h,List.filter_append,List.length_append]
  congr 1
  generalize es.getD i (((0 : Int),ByteArray.empty,([] : List Fld)),(0 : Int)) = x
  cases hx : live x
  · simp [hx]
  · simp [hx]
theorem liveN_le (es : List Ent) (i : Nat) : ((es.take i).filter live).length ≤ es.length:=by
  refine Nat.le_trans (List.length_filter_le _ _) ?_;rw [List.length_take];omega
theorem refLen_c (es : List Ent) (n : Int) (hl : es.length ≤ 1000000) : qX Tryz.prog 70 [.agg (toL rRL (es,n))] (ii .i64 ((es.filter live).length : Int)):=by
  refine qW (rs:=[2]) Tryz.func70 rfl rfl rfl teOk rfl ?_;refine qB ?_;refine qB ?_;refine qI ?_;refine qB ?_;refine qN ?_;refine qR (fun (i : Nat)=>i ≤ es.length) (fun (i : Nat)=>[(1,.one (.own 0 0)),(3,ii .i64 (((es.take i).filter live).length : Int)),(4,ii .i64 i)]) (fun (i : Nat)=>[(0,.box 33 (toL rRL (es,n)))]) 1 (fun (i : Nat)=>es.length - i) 0 (Nat.zero_le _) (qP ⟨rfl,rfl,rfl⟩ rfl rfl) ?_;intro i hI0;refine qI ?_;refine qB ?_;intro l3_3;refine qJ rfl (fun h9=>?_) (fun h9=>?_)
  ·try simp only [decide_eq_true_eq] at h9
   try simp only [zds] at h9
   have hil : i < es.length:=(by omega);have hsn:=liveN_snoc hil;have hsl:=liveN_le es i;refine qL ?_;refine qI ?_;refine qN ?_;refine qB ?_;refine zai (by first|omega|assumption|decide|(simp only [];omega)|(simp <;> omega)) ?_;refine qJ rfl (fun h18=>?_) (fun h18=>?_)
   ·try simp only [decide_eq_true_eq] at h18
    try simp only [Int.toNat_natCast,qG,qF,qE,qD] at h18
    have hk : live (es.getD i (((0 : Int),ByteArray.empty,([] : List Fld)),(0 : Int))) = true:=decide_eq_true h18;rw [hk,if_pos rfl] at hsn;refine qH ?_;refine zob ?_;refine qH ?_;refine zob ?_;exact ⟨i + 1,by omega,by first|omega|(simp <;> omega),qP ⟨rfl,(qS (by omega)),(qS (by omega))⟩ rfl rfl⟩
   ·try simp only [decide_eq_false_iff_not,Int.not_lt] at h18
    try simp only [Int.toNat_natCast,qG,qF,qE,qD] at h18
    have hk : live (es.getD i (((0 : Int),ByteArray.empty,([] : List Fld)),(0 : Int))) = false:=decide_eq_false (by omega);rw [hk,if_neg Bool.false_ne_true] at hsn;refine qL ?_;refine qH ?_;refine zob ?_;exact ⟨i + 1,by omega,by first|omega|(simp <;> omega),qP ⟨rfl,(qS (by omega)),(qS (by omega))⟩ rfl rfl⟩
  ·try simp only [decide_eq_false_iff_not,Int.not_lt] at h9
   try simp only [zds] at h9
   refine qT ?_;refine qB ?_;refine qM ?_;rw [List.take_of_length_le (by omega)];exact rfl
theorem refIns_c (es : List Ent) (n id : Int) (f : List Fld) (hf : yP f) (hl : es.length ≤ 1000000) (hn : 0 ≤ n ∧ n ≤ 1000000000) : qX Tryz.prog 40 [.agg (toL rRL (es,n)),ii .i64 id,.one (.sl rFld f)] (.tup [(true,toL rRL (aG (es,n) id f).1),(false,[.lit (.int .i64 (aG (es,n) id f).2.1)]),(false,[.lit (.int .i64 (aG (es,n) id f).2.2.1)]),(false,[.lit (.int .i64 (aG (es,n) id f).2.2.2)])]):=by
  have hat:=bI es n id;have hck:=refChk_c f hf;have hln:=refLen_c es n hl;unfold aG
  by_cases h0 : atE es id < 0 ∧ id ≠ 0
  · simp only [if_pos h0];refine yT (rs:=[.cell 6 33,.tmp 7,.tmp 8,.tmp 9]) Tryz.func40 rfl rfl rfl teOk rfl ?_;refine qB ?_;refine qB ?_;refine Or.inl ?_;refine zai (rfl) ?_;refine zei _ (zai (hat) ?_);refine qI ?_;refine qB ?_;refine zai (fun h=>trivial) ?_;refine zai (fun h=>⟨⟨h,trivial⟩,trivial⟩) ?_;refine zai (by exact fun h=>h) ?_;refine qJ rfl (fun h24=>?_) (fun h24=>?_)
    ·try simp only [decide_eq_true_eq,decide_eq_false_iff_not,Bool.and_eq_true,Bool.not_eq_true'] at h24
     try simp only [zds] at h24
     refine qB ?_;refine qM ?_;rfl
    ·try simp only [decide_eq_true_eq,decide_eq_false_iff_not,Bool.not_eq_false',Bool.and_eq_false_iff,Int.not_lt] at h24
     try simp only [zds] at h24
     omega
  · simp only [if_neg h0]
    by_cases hc : (chkR f).2 ≠ 0
    · simp only [if_pos hc];refine yT (rs:=[.cell 6 33,.tmp 7,.tmp 8,.tmp 9]) Tryz.func40 rfl rfl rfl teOk rfl ?_;refine qB ?_;refine qB ?_;refine Or.inl ?_;refine zai (rfl) ?_;refine zei _ (zai (hat) ?_);refine qI ?_;refine qB ?_;refine zai (fun h=>trivial) ?_;refine zai (fun h=>⟨⟨h,trivial⟩,trivial⟩) ?_;refine zai (by exact fun h=>h) ?_;refine qJ rfl (fun h24=>?_) (fun h24=>?_)
      ·try simp only [decide_eq_true_eq,decide_eq_false_iff_not,Bool.and_eq_true,Bool.not_eq_true'] at h24
       try simp only [zds] at h24
       omega
      ·try simp only [decide_eq_true_eq,decide_eq_false_iff_not,Bool.not_eq_false',Bool.and_eq_false_iff,Int.not_lt] at h24
       try simp only [zds] at h24
       refine qL ?_;refine qB ?_;refine Or.inl ?_;refine zai (rfl) ?_;refine zei _ (zai (hck) ?_);refine qI ?_;refine qB ?_;refine qJ rfl (fun h32=>?_) (fun h32=>?_)
       ·try simp only [decide_eq_false_iff_not,Bool.not_eq_true'] at h32
        try simp only [zds] at h32
        refine qB ?_;refine qM ?_;rfl
       ·try simp only [decide_eq_true_eq,Bool.not_eq_false'] at h32
        try simp only [zds] at h32
        exact absurd h32 hc
    · simp only [if_neg hc];have hc : (chkR f).2 = 0:=Classical.not_not.1 hc;have hg:=(chk_good hc).1
      by_cases h4 : 400 ≤ ((es.filter live).length : Int)
      · simp only [if_pos h4];refine yT (rs:=[.cell 6 33,.tmp 7,.tmp 8,.tmp 9]) Tryz.func40 rfl rfl rfl teOk rfl ?_;refine qB ?_;refine qB ?_;refine Or.inl ?_;refine zai (rfl) ?_;refine zei _ (zai (hat) ?_);refine qI ?_;refine qB ?_;refine zai (fun h=>trivial) ?_;refine zai (fun h=>⟨⟨h,trivial⟩,trivial⟩) ?_;refine zai (by exact fun h=>h) ?_;refine qJ rfl (fun h24=>?_) (fun h24=>?_)
        ·try simp only [decide_eq_true_eq,decide_eq_false_iff_not,Bool.and_eq_true,Bool.not_eq_true'] at h24
         try simp only [zds] at h24
         omega
        ·try simp only [decide_eq_true_eq,decide_eq_false_iff_not,Bool.not_eq_false',Bool.and_eq_false_iff,Int.not_lt] at h24
         try simp only [zds] at h24
         refine qL ?_;refine qB ?_;refine Or.inl ?_;refine zai (rfl) ?_;refine zei _ (zai (hck) ?_);refine qI ?_;refine qB ?_;refine qJ rfl (fun h32=>?_) (fun h32=>?_)
         ·try simp only [decide_eq_false_iff_not,Bool.not_eq_true'] at h32
          try simp only [zds] at h32
          exact absurd hc h32
         ·try simp only [decide_eq_true_eq,Bool.not_eq_false'] at h32
          try simp only [zds] at h32
          refine qL ?_;refine qI ?_;refine qB ?_;refine Or.inl ?_;refine zai (rfl) ?_;refine zei _ (zai (hln) ?_);refine qJ rfl (fun h38=>?_) (fun h38=>?_)
          ·try simp only [decide_eq_true_eq] at h38
           try simp only [zds] at h38
           refine qB ?_;refine qM ?_;rfl
          ·try simp only [decide_eq_false_iff_not,Int.not_le] at h38
           try simp only [zds] at h38
           omega
      · simp only [if_neg h4];obtain ⟨j,hj,hje⟩ : ∃ j : Nat,j ≤ es.length ∧ atE es id + 1 = (j : Int):=by
          rcases fI es id with ⟨h1,_⟩|⟨i,h1,h2,_⟩
          · exact ⟨0,Nat.zero_le _,by omega⟩
          · exact ⟨i + 1,by omega,by omega⟩
        rw [hje,Int.toNat_natCast];refine yT (rs:=[.cell 6 33,.tmp 7,.tmp 8,.tmp 9]) Tryz.func40 rfl rfl rfl teOk rfl ?_;refine qB ?_;refine qB ?_;refine Or.inl ?_;refine zai (rfl) ?_;refine zei _ (zai (hat) ?_);refine qI ?_;refine qB ?_;refine zai (fun h=>trivial) ?_;refine zai (fun h=>⟨⟨h,trivial⟩,trivial⟩) ?_;refine zai (by exact fun h=>h) ?_;refine qJ rfl (fun h24=>?_) (fun h24=>?_)
        ·try simp only [decide_eq_true_eq,decide_eq_false_iff_not,Bool.and_eq_true,Bool.not_eq_true'] at h24
         try simp only [zds] at h24
         omega
        ·try simp only [decide_eq_true_eq,decide_eq_false_iff_not,Bool.not_eq_false',Bool.and_eq_false_iff,Int.not_lt] at h24
         try simp only [zds] at h24
         refine qL ?_;refine qB ?_;refine Or.inl ?_;refine zai (rfl) ?_;refine zei _ (zai (hck) ?_);refine qI ?_;refine qB ?_;refine qJ rfl (fun h32=>?_) (fun h32=>?_)
         ·try simp only [decide_eq_false_iff_not,Bool.not_eq_true'] at h32
          try simp only [zds] at h32
          exact absurd hc h32
         ·try simp only [decide_eq_true_eq,Bool.not_eq_false'] at h32
          try simp only [zds] at h32
          refine qL ?_;refine qI ?_;refine qB ?_;refine Or.inl ?_;refine zai (rfl) ?_;refine zei _ (zai (hln) ?_);refine qJ rfl (fun h38=>?_) (fun h38=>?_)
          ·try simp only [decide_eq_true_eq] at h38
           try simp only [zds] at h38
           omega
          ·try simp only [decide_eq_false_iff_not,Int.not_le] at h38
           try simp only [zds] at h38
           refine qL ?_;refine qB ?_;refine zob ?_;refine jJ (fun (u : Unit)=>True) (fun (u : Unit)=>[(3,.one (.own 0 0)),(6,.one (.own 1 0)),(10,ii .i64 (atE es id)),(13,.one (.own 2 0)),(14,.one (.own 4 0))]) (fun (u : Unit)=>[(0,.box 33 (toL rRL (es,n))),(1,.box 33 [.lit (.slice none 0 0),.lit (.int .i64 0)]),(2,.box 33 [.vec 3,.lit (.int .i64 (n + 1))]),(3,.vec 91 rEnt []),(4,.box 91 (toL rEnt (kM f,n)))]) 5 ?_ ?_
           ·refine yM 2 0 91 rEnt rfl rfl rfl ?_;refine yW rfl ?_;refine qO 0 rfl ?_;refine qO 2 rfl ?_;refine qK [1,3,5] ?_;refine zai ?_ ?_
            ·refine Or.inl ?_;refine zai (rfl) ?_;refine zei _ (zai (wS f hg.2.2 hf.1) ?_);refine qK [3,5] ?_;refine zai ?_ ?_
             ·refine qK [4,5] ?_;refine zai ?_ ?_
              ·refine qK [5] ?_;refine qK [6] ?_;refine qU ?_;exact ⟨(),trivial,qP ⟨rfl,rfl,rfl,rfl,rfl⟩ ⟨rfl,rfl,rfl,rfl,rfl⟩ rfl⟩
              ·refine qK [4] ?_;refine qK [6] ?_;refine qU ?_;exact ⟨(),trivial,qP ⟨rfl,rfl,rfl,rfl,rfl⟩ ⟨rfl,rfl,rfl,rfl,rfl⟩ rfl⟩
             ·refine qK [3] ?_;refine qK [4] ?_;refine qK [6] ?_;refine qU ?_;exact ⟨(),trivial,qP ⟨rfl,rfl,rfl,rfl,rfl⟩ ⟨rfl,rfl,rfl,rfl,rfl⟩ rfl⟩
            refine zai ?_ ?_
            ·refine qK [1,5] ?_;refine zai ?_ ?_
             ·refine Or.inl ?_;refine zai (rfl) ?_;refine zei _ (zai (wS f hg.2.2 hf.1) ?_);refine qK [4,5] ?_;refine zai ?_ ?_
              ·refine qK [5] ?_;refine qK [6] ?_;refine qU ?_;exact ⟨(),trivial,qP ⟨rfl,rfl,rfl,rfl,rfl⟩ ⟨rfl,rfl,rfl,rfl,rfl⟩ rfl⟩
              ·refine qK [4] ?_;refine qK [6] ?_;refine qU ?_;exact ⟨(),trivial,qP ⟨rfl,rfl,rfl,rfl,rfl⟩ ⟨rfl,rfl,rfl,rfl,rfl⟩ rfl⟩
             ·refine qK [1] ?_;refine Or.inl ?_;refine zai (rfl) ?_;refine zei _ (zai (wS f hg.2.2 hf.1) ?_);refine qK [4] ?_;refine qK [6] ?_;refine qU ?_;exact ⟨(),trivial,qP ⟨rfl,rfl,rfl,rfl,rfl⟩ ⟨rfl,rfl,rfl,rfl,rfl⟩ rfl⟩
            ·refine qK [1,3] ?_;refine zai ?_ ?_
             ·refine Or.inl ?_;refine zai (rfl) ?_;refine zei _ (zai (wS f hg.2.2 hf.1) ?_);refine qK [3] ?_;refine qK [4] ?_;refine qK [6] ?_;refine qU ?_;exact ⟨(),trivial,qP ⟨rfl,rfl,rfl,rfl,rfl⟩ ⟨rfl,rfl,rfl,rfl,rfl⟩ rfl⟩
             ·refine qK [1] ?_;refine Or.inl ?_;refine zai (rfl) ?_;refine zei _ (zai (wS f hg.2.2 hf.1) ?_);refine qK [4] ?_;refine qK [6] ?_;refine qU ?_;exact ⟨(),trivial,qP ⟨rfl,rfl,rfl,rfl,rfl⟩ ⟨rfl,rfl,rfl,rfl,rfl⟩ rfl⟩
           ·intro u hcut11;refine jJ (fun (u : Unit)=>True) (fun (u : Unit)=>[(3,.one (.own 0 0)),(6,.one (.own 1 0)),(10,ii .i64 (atE es id)),(13,.one (.own 2 0)),(14,.one (.own 4 0))]) (fun (u : Unit)=>[(0,.box 33 (toL rRL (es,n))),(1,.box 33 [.lit (.slice none 0 0),.lit (.int .i64 0)]),(2,.box 33 [.vec 3,.lit (.int .i64 (n + 1))]),(3,.vec 91 rEnt (insT es j (kM f,n) 0)),(4,.box 91 (toL rEnt (kM f,n)))]) 5 ?_ ?_
            ·refine qB ?_;refine qJ rfl (fun h50=>?_) (fun h50=>?_)
             ·try simp only [decide_eq_true_eq] at h50
              try simp only [zds] at h50
              refine qH ?_;refine zai (by first|exact qQ (by first|omega|(simp only [List.length_cons,List.length_nil];omega)|(simp;omega)) (by decide)|omega|assumption|decide|(simp only [zds];omega)|(simp <;> omega)) ?_;exact ⟨(),trivial,qP ⟨rfl,rfl,rfl,rfl,rfl⟩ ⟨rfl,rfl,rfl,(qV (by rw [show j = 0 by omega,insT_0];exact rfl)),rfl⟩ rfl⟩
             ·try simp only [decide_eq_false_iff_not,Int.not_lt] at h50
              try simp only [zds] at h50
              refine qL ?_;exact ⟨(),trivial,qP ⟨rfl,rfl,rfl,rfl,rfl⟩ ⟨rfl,rfl,rfl,(qV (by rw [insT_1 (by omega)])),rfl⟩ rfl⟩
            ·intro u hcut13;refine qI ?_;refine qB ?_;refine qN ?_;refine qR (fun (i : Nat)=>i ≤ es.length) (fun (i : Nat)=>[(3,.one (.own 0 0)),(6,.one (.own 1 0)),(10,ii .i64 (atE es id)),(13,.one (.own 2 0)),(14,.one (.own 4 0)),(15,ii .i64 i)]) (fun (i : Nat)=>[(0,.box 33 (toL rRL (es,n))),(1,.box 33 [.lit (.slice none 0 0),.lit (.int .i64 0)]),(2,.box 33 [.vec 3,.lit (.int .i64 (n + 1))]),(3,.vec 91 rEnt (insT es j (kM f,n) i)),(4,.box 91 (toL rEnt (kM f,n)))]) 5 (fun (i : Nat)=>es.length - i) 0 (Nat.zero_le _) (qP ⟨rfl,rfl,rfl,rfl,rfl,rfl⟩ ⟨rfl,rfl,rfl,rfl,rfl⟩ rfl) ?_;intro i hI0;refine qI ?_;refine qB ?_;intro l14_3;refine qJ rfl (fun h61=>?_) (fun h61=>?_)
             ·try simp only [decide_eq_true_eq] at h61
              try simp only [zds] at h61
              have hil : i < es.length:=(by omega);have hsn:=insT_snoc (j:=j) (e:=(kM f,n)) hil;have hsl:=insT_le es j (kM f,n) i;refine qL ?_;refine qI ?_;refine qN ?_;refine qI ?_;refine yW rfl ?_;refine qO 0 rfl ?_;refine qO 2 rfl ?_;refine qO 4 rfl ?_;refine qK [1,3] ?_;refine zai ?_ ?_
              ·refine qK [3] ?_;refine qO 5 rfl ?_;refine zai (by first|omega|assumption|decide|(simp only [];omega)|(simp <;> omega)) ?_;refine qK [6] ?_;refine qK [7] ?_;refine qK [8] ?_;refine zai (by exact qQ (show (insT es j (kM f,n) i).length + 1 ≤ 1000000000 by omega) (by decide)) ?_;refine qO 9 rfl ?_;refine qK [10] ?_;refine qU ?_;refine qB ?_;refine qJ rfl (fun h76=>?_) (fun h76=>?_)
               ·try simp only [decide_eq_true_eq] at h76
                try simp only [zds] at h76
                rw [if_pos (by omega)] at hsn;refine qH ?_;refine zai (by exact qQ (by rw [List.length_append];show (insT es j (kM f,n) i).length + 1 + 1 ≤ 1000000000;omega) (by decide)) ?_;refine qH ?_;refine zob ?_;exact ⟨i + 1,by omega,by first|omega|(simp <;> omega),qP ⟨rfl,rfl,rfl,rfl,rfl,(qS (by omega))⟩ ⟨rfl,rfl,rfl,(qV (by rw [hsn];(try rw [List.append_assoc]);(try exact rfl))),rfl⟩ rfl⟩
               ·try simp only [decide_eq_false_iff_not] at h76
                try simp only [zds] at h76
                rw [if_neg (by omega)] at hsn;refine qL ?_;refine qH ?_;refine zob ?_;exact ⟨i + 1,by omega,by first|omega|(simp <;> omega),qP ⟨rfl,rfl,rfl,rfl,rfl,(qS (by omega))⟩ ⟨rfl,rfl,rfl,(qV (by rw [hsn];(try rw [List.append_assoc]);(try exact rfl))),rfl⟩ rfl⟩
              ·refine qO 5 rfl ?_;refine zai (by first|omega|assumption|decide|(simp only [];omega)|(simp <;> omega)) ?_;refine qK [1,6] ?_;refine zai ?_ ?_
               ·refine qK [6] ?_;refine qK [7] ?_;refine qK [8] ?_;refine zai (by exact qQ (show (insT es j (kM f,n) i).length + 1 ≤ 1000000000 by omega) (by decide)) ?_;refine qO 9 rfl ?_;refine qK [10] ?_;refine qU ?_;refine qB ?_;refine qJ rfl (fun h76=>?_) (fun h76=>?_)
                ·try simp only [decide_eq_true_eq] at h76
                 try simp only [zds] at h76
                 rw [if_pos (by omega)] at hsn;refine qH ?_;refine zai (by exact qQ (by rw [List.length_append];show (insT es j (kM f,n) i).length + 1 + 1 ≤ 1000000000;omega) (by decide)) ?_;refine qH ?_;refine zob ?_;exact ⟨i + 1,by omega,by first|omega|(simp <;> omega),qP ⟨rfl,rfl,rfl,rfl,rfl,(qS (by omega))⟩ ⟨rfl,rfl,rfl,(qV (by rw [hsn];(try rw [List.append_assoc]);(try exact rfl))),rfl⟩ rfl⟩
                ·try simp only [decide_eq_false_iff_not] at h76
                 try simp only [zds] at h76
                 rw [if_neg (by omega)] at hsn;refine qL ?_;refine qH ?_;refine zob ?_;exact ⟨i + 1,by omega,by first|omega|(simp <;> omega),qP ⟨rfl,rfl,rfl,rfl,rfl,(qS (by omega))⟩ ⟨rfl,rfl,rfl,(qV (by rw [hsn];(try rw [List.append_assoc]);(try exact rfl))),rfl⟩ rfl⟩
               ·refine qK [1,7] ?_;refine zai ?_ ?_
                ·refine qK [7] ?_;refine qK [8] ?_;refine zai (by exact qQ (show (insT es j (kM f,n) i).length + 1 ≤ 1000000000 by omega) (by decide)) ?_;refine qO 9 rfl ?_;refine qK [10] ?_;refine qU ?_;refine qB ?_;refine qJ rfl (fun h76=>?_) (fun h76=>?_)
                 ·try simp only [decide_eq_true_eq] at h76
                  try simp only [zds] at h76
                  rw [if_pos (by omega)] at hsn;refine qH ?_;refine zai (by exact qQ (by rw [List.length_append];show (insT es j (kM f,n) i).length + 1 + 1 ≤ 1000000000;omega) (by decide)) ?_;refine qH ?_;refine zob ?_;exact ⟨i + 1,by omega,by first|omega|(simp <;> omega),qP ⟨rfl,rfl,rfl,rfl,rfl,(qS (by omega))⟩ ⟨rfl,rfl,rfl,(qV (by rw [hsn];(try rw [List.append_assoc]);(try exact rfl))),rfl⟩ rfl⟩
                 ·try simp only [decide_eq_false_iff_not] at h76
                  try simp only [zds] at h76
                  rw [if_neg (by omega)] at hsn;refine qL ?_;refine qH ?_;refine zob ?_;exact ⟨i + 1,by omega,by first|omega|(simp <;> omega),qP ⟨rfl,rfl,rfl,rfl,rfl,(qS (by omega))⟩ ⟨rfl,rfl,rfl,(qV (by rw [hsn];(try rw [List.append_assoc]);(try exact rfl))),rfl⟩ rfl⟩
                ·refine qK [1] ?_;refine qK [8] ?_;refine zai (by exact qQ (show (insT es j (kM f,n) i).length + 1 ≤ 1000000000 by omega) (by decide)) ?_;refine qO 9 rfl ?_;refine qK [10] ?_;refine qU ?_;refine qB ?_;refine qJ rfl (fun h76=>?_) (fun h76=>?_)
                 ·try simp only [decide_eq_true_eq] at h76
                  try simp only [zds] at h76
                  rw [if_pos (by omega)] at hsn;refine qH ?_;refine zai (by exact qQ (by rw [List.length_append];show (insT es j (kM f,n) i).length + 1 + 1 ≤ 1000000000;omega) (by decide)) ?_;refine qH ?_;refine zob ?_;exact ⟨i + 1,by omega,by first|omega|(simp <;> omega),qP ⟨rfl,rfl,rfl,rfl,rfl,(qS (by omega))⟩ ⟨rfl,rfl,rfl,(qV (by rw [hsn];(try rw [List.append_assoc]);(try exact rfl))),rfl⟩ rfl⟩
                 ·try simp only [decide_eq_false_iff_not] at h76
                  try simp only [zds] at h76
                  rw [if_neg (by omega)] at hsn;refine qL ?_;refine qH ?_;refine zob ?_;exact ⟨i + 1,by omega,by first|omega|(simp <;> omega),qP ⟨rfl,rfl,rfl,rfl,rfl,(qS (by omega))⟩ ⟨rfl,rfl,rfl,(qV (by rw [hsn];(try rw [List.append_assoc]);(try exact rfl))),rfl⟩ rfl⟩
             ·try simp only [decide_eq_false_iff_not,Int.not_lt] at h61
              try simp only [zds] at h61
              refine qT ?_;refine qI ?_;refine yW rfl ?_;refine qO 1 rfl ?_;refine qK [0,2] ?_;refine zai ?_ ?_
              ·refine qK [2,3] ?_;refine zai ?_ ?_
               ·refine qK [3] ?_;refine qO 4 rfl ?_;refine qO 5 rfl ?_;refine qO 6 rfl ?_;refine qU ?_;refine yD [3] ?_;refine qM ?_;rw [insT_all hj (by omega)];exact rfl
               ·refine qK [2] ?_;refine qO 4 rfl ?_;refine qO 5 rfl ?_;refine qO 6 rfl ?_;refine qU ?_;refine yD [3] ?_;refine qM ?_;rw [insT_all hj (by omega)];exact rfl
              ·refine qK [0] ?_;refine qK [3] ?_;refine qO 4 rfl ?_;refine qO 5 rfl ?_;refine qO 6 rfl ?_;refine qU ?_;refine yD [3] ?_;refine qM ?_;rw [insT_all hj (by omega)];exact rfl
theorem chk_shape {f : List Fld} (h : (chkR f).2 ≠ 0) : (∃ k9,chkA f = errN k9 ∧ k9 ≠ 0 ∧ (-9 : Int) = (chkR f).1 ∧ k9 = (chkR f).2) ∨ ∃ a9 k9,chkA f = errF a9 k9 ∧ k9 ≠ 0 ∧ a9 = (chkR f).1 ∧ k9 = (chkR f).2:=by
  obtain ⟨e,he,hs⟩:=fE h;rcases hs with ⟨n,hn,rfl,hr⟩|⟨i,n,hn,rfl,hr⟩
  · exact .inl ⟨n,he,hn,by rw [hr],by rw [hr]⟩
  · exact .inr ⟨i,n,he,hn,by rw [hr],by rw [hr]⟩
theorem items_len {s : ByteArray} {l : List Itm} (hp : kC s = .inr l) : l.length ≤ 2 * s.size + 1:=by
  have h0:=cG s;rw [hp] at h0;obtain ⟨h1,_⟩:=uU s;have key : ∀ (L : List Lne) (t : RSt) (bh : Bool) (l : List Itm),runR bh t L = .inr l → l.length ≤ t.out.length + 1 + 2 * L.length:=by
    intro L
    induction L with
    | nil =>
      intro t bh l h;unfold runR at h;cases h;split <;> simp
    | cons a r ih =>
      intro t bh l h;unfold runR at h;split at h
      · cases h
      · have i1:=ih _ _ _ h;have so : (xJ t a r).out.length ≤ t.out.length + 2:=by
          unfold xJ;split
          · simp only;split <;> simp
          · split <;> simp
        rw [List.length_cons];omega
  have k1:=key _ _ _ _ h0.symm;simp only [rst0,List.length_nil] at k1;omega
theorem of_lok {s : ByteArray} {l : List Itm} (hs : s.size ≤ 4000) (hp : kC s = .inr l) : LOk 9000 (ofT l):=by
  have h1:=items_len hp;exact ofT_ok (by omega) fun x hx=>fldsOk_of (bO hp x hx).1 (bO hp x hx).2
theorem indexS_c (f : FuncId) {k κ : Nat} {β : Type} (S : Rd β) (y : β) (l : List Stz) (p : Stz → Bool) (hp : ∀ x ∈ l,qX Tryz.prog f [.agg (toL rStz x),.one (.adk κ S y)] (ib (p x))) : qX Tryz.prog 63 [.one (.slk k rStz l),.one (.clo f (.adk κ S y))] (ii .i64 (ixOf p l)):=by
  refine qW (rs:=[4]) Tryz.func63 rfl rfl rfl teOk rfl ?_;refine qB ?_;refine qI ?_;refine qB ?_;intro l1_1
  try simp only [zds] at l1_1
  refine qN ?_;refine qR (fun (i : Nat)=>i ≤ l.length ∧ (l.take i).any p = false) (fun (i : Nat)=>[(0,.one (.slk k rStz l)),(1,.one (.clo f (.adk κ S y))),(7,ii .i64 l.length),(8,ii .i64 i)]) (fun (i : Nat)=>[]) 0 (fun (i : Nat)=>l.length - i) 0 (⟨Nat.zero_le _,rfl⟩) (qP ⟨rfl,rfl,rfl,rfl⟩ trivial rfl) ?_;intro i hI0;obtain ⟨hi,hn⟩:=hI0;refine qB ?_;refine qI ?_;refine qJ rfl (fun h9=>?_) (fun h9=>?_)
  ·try simp only [decide_eq_true_eq] at h9
   try simp only [zds] at h9
   refine qL ?_;refine qI ?_;refine qN ?_;refine qB ?_;refine qB ?_;refine zob ?_;refine Or.inl ?_;refine zai (rfl) ?_;refine zei _ (zai (hp _ (yK (show i < l.length by omega) _)) ?_);refine qJ rfl (fun h16=>?_) (fun h16=>?_)
   ·try simp only [zbq] at h16
    try simp only [Int.toNat_natCast,qG,qF,qD] at h16
    refine qB ?_;refine qM ?_;exact qS (aK ((0 : Int),([] : List Fld)) (by omega) hn h16).symm
   ·try simp only [zbq] at h16
    try simp only [Int.toNat_natCast,qG,qF,qD] at h16
    refine qL ?_;refine qH ?_;refine zob ?_;exact ⟨i + 1,⟨by omega,by rw [kY l p ((0 : Int),([] : List Fld)) i (by omega),hn];exact h16⟩,by first|omega|(simp <;> omega),qP ⟨rfl,rfl,rfl,rfl⟩ trivial rfl⟩
  ·try simp only [decide_eq_false_iff_not,Int.not_lt] at h9
   try simp only [zds] at h9
   refine qT ?_;refine qB ?_;refine qM ?_;have e : i = l.length:=by omega
   subst e;rw [List.take_length] at hn;exact qS (vB hn).symm
theorem tyStz : TyOk Tryz.prog 54 ty54:=tyOk54
def jM (p : Stz → Bool) (l : List Stz) : List Stz:=l.filter fun x=>!p x
structure DelI (p : Stz → Bool) (l : List Stz) (j : Nat) (ys : List Stz) : Prop where
  le : j ≤ l.length
  len : ys.length = l.length
  lt : (jM p (l.take j)).length < j
  pre : ys.take (jM p (l.take j)).length = jM p (l.take j)
  suf : ys.drop j = l.drop j
theorem dK {p : Stz → Bool} {l : List Stz} {j : Nat} (h : j < l.length) : jM p (l.take (j + 1)) = jM p (l.take j) ++ if p (l.getD j ((0 : Int),([] : List Fld))) then [] else [l.getD j ((0 : Int),([] : List Fld))]:=by
  unfold jM;rw [← yE ((0 : Int),([] : List Fld)) h,List.filter_append]
  congr 1
  generalize l.getD j ((0 : Int),([] : List Fld)) = x
  cases e : p x <;> simp [e]
theorem DelI.at {p : Stz → Bool} {l ys : List Stz} {j : Nat} (h : DelI p l j ys) (hj : j < l.length) : ys.getD j ((0 : Int),([] : List Fld)) = l.getD j ((0 : Int),([] : List Fld)):=by
  have h1:=congrArg (fun m=>m.getD 0 ((0 : Int),([] : List Fld))) h.suf
  simpa [List.getD_eq_getElem?_getD,List.getElem?_drop] using h1
theorem DelI.skip {p : Stz → Bool} {l ys : List Stz} {j : Nat} (h : DelI p l j ys) (hj : j < l.length) (hp : p (l.getD j ((0 : Int),([] : List Fld))) = true) : DelI p l (j + 1) ys ∧ (jM p (l.take (j + 1))).length = (jM p (l.take j)).length:=by
  have e:=dK (p:=p) hj;rw [hp,if_pos rfl,List.append_nil] at e;refine ⟨⟨hj,h.len,by rw [e];have:=h.lt;omega,by rw [e];exact h.pre,?_⟩,by rw [e]⟩;rw [← List.drop_drop,h.suf,List.drop_drop]
theorem DelI.keep {p : Stz → Bool} {l ys : List Stz} {j : Nat} (h : DelI p l j ys) (hj : j < l.length) (hp : p (l.getD j ((0 : Int),([] : List Fld))) = false) : DelI p l (j + 1) (ys.set (jM p (l.take j)).length (l.getD j ((0 : Int),([] : List Fld)))) ∧ (jM p (l.take (j + 1))).length = (jM p (l.take j)).length + 1:=by
  have e:=dK (p:=p) hj;rw [hp,if_neg Bool.false_ne_true] at e;have hlt:=h.lt;have hl:=h.len;obtain ⟨i,hi⟩ : ∃ i,(jM p (l.take j)).length = i:=⟨_,rfl⟩;have hpre:=h.pre;rw [hi] at hlt hpre ⊢;have e2 : (jM p (l.take (j + 1))).length = i + 1:=by rw [e,List.length_append,hi];rfl
  refine ⟨⟨hj,by rw [List.length_set];exact hl,by omega,?_,?_⟩,e2⟩
  · rw [e2,e,List.take_succ_eq_append_getElem (by rw [List.length_set];omega),List.take_set,List.getElem_set_self,List.set_eq_of_length_le (by rw [List.length_take];omega),hpre]
  · rw [List.drop_set_of_lt (by omega),← List.drop_drop,h.suf,List.drop_drop]
theorem DelI.init {p : Stz → Bool} {l : List Stz} {i : Nat} (hi : i < l.length) (hn : (l.take i).any p = false) (hp : p (l.getD i ((0 : Int),([] : List Fld))) = true) : DelI p l (i + 1) l ∧ (jM p (l.take (i + 1))).length = i:=by
  have e0 : jM p (l.take i) = l.take i:=by
    unfold jM;refine List.filter_eq_self.2 fun x hx=>?_
    have:=List.any_eq_false.1 hn x hx
    simpa using this
  have e:=dK (p:=p) hi;rw [hp,if_pos rfl,List.append_nil,e0] at e;have e2 : (jM p (l.take (i + 1))).length = i:=by rw [e,List.length_take];omega
  exact ⟨⟨hi,rfl,by omega,by rw [e2,e],rfl⟩,e2⟩
theorem keepF_all {p : Stz → Bool} {l : List Stz} (h : l.any p = false) : jM p l = l:=by
  unfold jM;refine List.filter_eq_self.2 fun x hx=>?_
  have:=List.any_eq_false.1 h x hx
  simpa using this
theorem deleteS_o (f : FuncId) {κ : Nat} {β : Type} (S : Rd β) (y : β) (l : List Stz) (p : Stz → Bool) (hp : ∀ x ∈ l,qX Tryz.prog f [.agg (toL rStz x),.one (.adk κ S y)] (ib (p x))) (hl : l.length ≤ 1000000) : yB Tryz.prog 56 [.one (.vec 0),.one (.clo f (.adk κ S y))] [(0,.vec 54 rStz l)] 1 (.one (.vec 0)) [(0,.vec 54 rStz (jM p l))] 1:=by
  have hix:=indexS_c f (k:=1) S y l p hp;rcases aJ p l ((0 : Int),([] : List Fld)) with ⟨h1,h2⟩|⟨i0,h1,h2,h3,h4⟩
  · rw [h1] at hix;refine yA (rs:=[4]) Tryz.func56 rfl rfl rfl teOk (by decide) rfl ?_;refine qB ?_;refine qB ?_;refine Or.inr (Or.inr (Or.inl ?_));refine zai rfl ?_;refine zei _ (zai (hix) ?_);refine qI ?_;refine qB ?_;refine qJ rfl (fun h12=>?_) (fun h12=>?_)
    ·try simp only [decide_eq_true_eq] at h12
     try simp only [zds] at h12
     refine qB ?_;refine qM ?_;rw [keepF_all h2];exact ⟨rfl,rfl,rfl⟩
    ·try simp only [decide_eq_false_iff_not] at h12
     try simp only [zds] at h12
     simp at h12
  · rw [h2] at hix;obtain ⟨hd0,hk0⟩:=DelI.init h1 h3 h4;refine yA (rs:=[4]) Tryz.func56 rfl rfl rfl teOk (by decide) rfl ?_;refine qB ?_;refine qB ?_;refine Or.inr (Or.inr (Or.inl ?_));refine zai rfl ?_;refine zei _ (zai (hix) ?_);refine qI ?_;refine qB ?_;refine qJ rfl (fun h12=>?_) (fun h12=>?_)
    ·try simp only [decide_eq_true_eq] at h12
     try simp only [zds] at h12
     omega
    ·try simp only [decide_eq_false_iff_not] at h12
     try simp only [zds] at h12
     refine qL ?_;refine qI ?_;refine qB ?_;refine zob ?_;refine qN ?_;refine qR (fun (x : Nat × List Stz)=>DelI p l x.1 x.2) (fun (x : Nat × List Stz)=>[(0,.one (.vec 0)),(1,.one (.clo f (.adk κ S y))),(5,ii .i64 ((jM p (l.take x.1)).length : Int)),(6,ii .i64 x.1)]) (fun (x : Nat × List Stz)=>[(0,.vec 54 rStz x.2)]) 1 (fun (x : Nat × List Stz)=>l.length - x.1) (i0 + 1,l) (hd0) (qP ⟨rfl,rfl,(qS (by rw [hk0])),(qS (by simp only;omega))⟩ rfl rfl) ?_;intro ⟨j,ys⟩ hI0;simp only at hI0 ⊢;have hj1:=hI0.le;have hj2:=hI0.len;have hj3:=hI0.lt;refine qI ?_;refine qB ?_;intro l5_2
     try simp only [zds] at l5_2
     refine qJ rfl (fun h19=>?_) (fun h19=>?_)
     ·try simp only [decide_eq_true_eq] at h19
      try simp only [zds] at h19
      have hjl : j < l.length:=(by omega);have hya:=hI0.at hjl;refine qL ?_;refine qI ?_;refine qN ?_;refine qB ?_;refine zob ?_;refine zai (by (first|omega|(simp only [Int.toNat_natCast];omega))) ?_;refine qB ?_;refine Or.inl ?_;refine zai (rfl) ?_;refine zei _ (zai (hp (ys.getD j ((0 : Int),([] : List Fld))) (by rw [hya];exact yK hjl ((0 : Int),([] : List Fld)))) ?_);refine qJ rfl (fun h29=>?_) (fun h29=>?_)
      ·try simp only [Bool.not_eq_true'] at h29
       try simp only [zds] at h29
       rw [hya] at h29;obtain ⟨hk1,hk2⟩:=hI0.keep hjl h29;refine qB ?_;refine zai (by (first|omega|(simp only [Int.toNat_natCast];omega))) ?_;refine zai (by (first|omega|(simp only [Int.toNat_natCast];omega))) ?_;refine qH ?_;refine zob ?_;refine qH ?_;refine zob ?_;exact ⟨(j + 1,ys.set (jM p (l.take j)).length (l.getD j ((0 : Int),([] : List Fld)))),hk1,by first|omega|(simp <;> omega),qP ⟨rfl,rfl,(qS (by simp only;omega)),(qS (by simp only;omega))⟩ (qV (by simp only;rw [← hya];try exact rfl)) rfl⟩
      ·try simp only [Bool.not_eq_false'] at h29
       try simp only [zds] at h29
       rw [hya] at h29;obtain ⟨hk1,hk2⟩:=hI0.skip hjl (by simpa using h29);refine qL ?_;refine qH ?_;refine zob ?_;exact ⟨(j + 1,ys),hk1,by first|omega|(simp <;> omega),qP ⟨rfl,rfl,(qS (by simp only;omega)),(qS (by simp only;omega))⟩ rfl rfl⟩
     ·try simp only [decide_eq_false_iff_not,Int.not_lt] at h19
      try simp only [zds] at h19
      refine qT ?_;have hje : j = l.length:=(by omega);subst hje;have hpre:=hI0.pre;rw [List.take_length] at hpre hj3 ⊢;obtain ⟨i,hi⟩ : ∃ i,(jM p l).length = i:=⟨_,rfl⟩;rw [hi] at hj3 hpre ⊢;refine qI ?_;refine acode_part [_,_] [_,_] rfl (Eq.refl _) ?_;intro hte rd n cx e1 e2 ρ a w hs;refine clear_sound (kk:=i) (xs:=ys) Tryz.underlying41 tyStz (z:=((0 : Int),([] : List Fld))) rfl rfl rfl rfl rfl rfl rfl rfl (by rw [e1];decide) hs rfl rfl rfl (by omega) (fun a w hs'=>⟨_,_,_,_,?_,hs'⟩);clear hs hte;refine qI ?_;refine acode_part [_,_] [_,_] rfl (Eq.refl _) ?_;intro hte rd n cx e1 e2 ρ a w hs;refine cut_sound (kk:=i) Tryz.underlying41 tyStz rfl rfl rfl rfl (by rw [e1];decide) hs rfl rfl rfl (by simp;omega) (fun ρ a hs'=>?_);refine awp_last hte e1 e2 [_] hs' (Eq.refl _) ?_;clear hs hte hs';refine qM ?_;exact ⟨rfl,qV (by rw [List.take_append_of_le_length (by rw [List.length_take];omega),List.take_take,Nat.min_self];exact hpre),rfl⟩
end Q
end Ab
end Go.Proofs.YtmaekcmknibmeaaGreatDoor
namespace Go.Proofs.YtmaekcmknibmeaaGreatDoor
open Go.RowKit
namespace Ab
set_option maxRecDepth 100000
abbrev Term:=Bool × ByteArray × Int × ByteArray
abbrev qY : Rd Term:=.st .bool (.st .str (.st (.int .i64) .str))
namespace Q
namespace QQ
def gK (s w : ByteArray) (n : Nat) : Bool:=decide (n + w.size ≤ s.size) && decide (s.extract n (n + w.size) = w)
theorem begins_c (s w : ByteArray) (n : Nat) (h1 : s.size ≤ 1000000000) (h2 : w.size ≤ 1000000000) (h3 : n ≤ 1000000000) : qX Tryz.prog 116 [is s,is w,ii .i64 n] (ib (gK s w n)):=by
  refine qW (rs:=[6]) Tryz.func116 rfl rfl rfl teOk rfl ?_;refine qB ?_;refine qB ?_;refine zob ?_;refine zai (fun h=>trivial) ?_;refine zai (fun h=>trivial) ?_;refine zai (fun h=>trivial) ?_;refine zai (fun h=>trivial) ?_;refine zai (fun h=>⟨⟨h,trivial⟩,trivial⟩) ?_;refine zai (fun h=>⟨⟨⟨h,trivial⟩,⟨h,trivial⟩,trivial⟩,by first|omega|decide|(simp only [zds];omega)|(have h9:=of_decide_eq_true h;omega)|(simp [gq] at h;omega)⟩) ?_;refine zai (fun h=>⟨⟨⟨h,trivial⟩,⟨h,trivial⟩,⟨h,trivial⟩,trivial⟩,by first|omega|decide|(simp only [zds];omega)|(have h9:=of_decide_eq_true h;omega)|(simp [gq] at h;omega)⟩) ?_;refine zai (fun h=>trivial) ?_;refine zai (fun h=>⟨⟨h,trivial⟩,⟨h,trivial⟩,trivial⟩) ?_;refine zai (by exact fun h=>h) ?_;refine qM ?_;refine xH ?_;unfold gK
  congr 1
  exact decide_eq_decide.2 (by omega)
def ok0 (t : Term) (v : ByteArray) : Bool:=((decide (t.2.2.1 = 1) || (decide (t.2.2.1 = 2) && decide (v = t.2.2.2))) || (decide (t.2.2.1 = 3) && gK v t.2.2.2 0)) || (decide (t.2.2.1 = 5) && Op.bytesLess v.toList t.2.2.2.toList)
def okV (t : Term) (v : ByteArray) : Bool:=ok0 t v || (decide (t.2.2.1 = 4) && (List.range (v.size + 1)).any (gK v t.2.2.2))
def okF (t : Term) (f : Fld) : Bool:=decide (f.1 = t.2.1) && okV t f.2
def bad (t : Term) : Bool:=decide (t.2.2.1 < 1) || decide (5 < t.2.2.1)
def jN (t : Term) (l : List Fld) : Bool:=!bad t && !decide (l.any (okF t) = t.1)
theorem matches_c (t : Term) (l : List Fld) (hl : ∀ f ∈ l,f.2.size ≤ 1000000000) (ht : t.2.2.2.size ≤ 1000000000) : qX Tryz.prog 93 [.agg (toL qY t),.one (.sl rFld l)] (ib (jN t l)):=by
  refine qW (rs:=[4]) Tryz.func93 rfl rfl rfl teOk rfl ?_;refine qB ?_;refine qI ?_;refine qB ?_;refine zai (fun h=>trivial) ?_;refine zai (fun h=>⟨⟨h,trivial⟩,trivial⟩) ?_;refine zai (fun h=>⟨⟨h,trivial⟩,trivial⟩) ?_;refine zai (by first|(intro h;rw [h];rfl)|(intro h;cases h)) ?_;refine qJ rfl (fun h17=>?_) (fun h17=>?_)
  ·try simp only [decide_eq_true_eq,Bool.or_eq_true] at h17
   try simp only [zds] at h17
   refine qB ?_;refine qM ?_;refine xH ?_;unfold jN bad;rcases h17 with h|h <;> simp [h]
  ·try simp only [decide_eq_false_iff_not,Bool.or_eq_false_iff,Int.not_lt] at h17
   try simp only [zds] at h17
   refine qL ?_;refine qB ?_;refine qI ?_;refine qB ?_;refine qN ?_;refine qR (fun (i : Nat)=>i ≤ l.length) (fun (i : Nat)=>[(1,.one (.sl rFld l)),(2,.one (.own 0 0)),(5,ib ((l.take i).any (okF t))),(6,ii .i64 i)]) (fun (i : Nat)=>[(0,.box 75 (toL qY t))]) 1 (fun (i : Nat)=>l.length - i) 0 (Nat.zero_le _) (qP ⟨rfl,rfl,rfl,rfl⟩ rfl rfl) ?_;intro i hI0;refine qI ?_;refine qB ?_;intro l5_2
   try simp only [zds] at l5_2
   refine qJ rfl (fun h21=>?_) (fun h21=>?_)
   ·try simp only [decide_eq_true_eq] at h21
    try simp only [zds] at h21
    have hv : (l.getD i ⟨.empty,.empty⟩).2.size ≤ 1000000000:=by (have hi : i < l.length:=by omega);rw [List.getD_eq_getElem?_getD,List.getElem?_eq_getElem hi];exact hl _ (List.getElem_mem hi)
    refine qL ?_;refine qI ?_;refine qN ?_;refine qB ?_;refine zob ?_;refine qB ?_;refine zai (fun h=>trivial) ?_;refine zai (fun h=>⟨⟨h,trivial⟩,trivial⟩) ?_;refine zai (fun h=>⟨⟨h,trivial⟩,trivial⟩) ?_;refine zai (fun h=>⟨⟨h,trivial⟩,trivial⟩) ?_;refine zai (fun h=>trivial) ?_;refine zai (fun h=>trivial) ?_;refine zai (fun h=>⟨⟨h,trivial⟩,trivial⟩) ?_;refine zai (fun h=>⟨⟨h,trivial⟩,⟨h,trivial⟩,trivial⟩) ?_;refine zai (fun h=>⟨⟨⟨h,trivial⟩,trivial⟩,by first|exact fun h2=>h2|(intro h2;rw [h,h2];rfl)|(intro h2;cases h2)|(intro h2;simp_all [gq])⟩) ?_;refine zai (by first|(intro h;rw [h];rfl)|(intro h;cases h)) ?_;refine zai (fun h=>trivial) ?_;refine zai (fun h=>⟨⟨h,trivial⟩,trivial⟩) ?_;refine zai (fun h=>⟨⟨h,trivial⟩,trivial⟩) ?_;refine zai (fun h=>⟨⟨h,trivial⟩,trivial⟩) ?_;refine zai (fun h=>trivial) ?_;refine zai (fun h=>trivial) ?_;refine zai (fun h=>⟨⟨h,trivial⟩,trivial⟩) ?_;refine Or.inl ?_;refine zai (rfl) ?_;refine zei _ (zai (fun h=>⟨⟨⟨h,trivial⟩,⟨h,trivial⟩,trivial⟩,begins_c _ _ 0 hv ht (by omega)⟩) ?_);refine zai (fun h=>⟨⟨⟨h,trivial⟩,trivial⟩,by first|exact fun h2=>h2|(intro h2;rw [h,h2];rfl)|(intro h2;cases h2)|(intro h2;simp_all [gq])⟩) ?_;refine zai (by first|(intro h;rw [h];rfl)|(intro h;cases h)) ?_;refine zai (fun h=>trivial) ?_;refine zai (fun h=>⟨⟨h,trivial⟩,trivial⟩) ?_;refine zai (fun h=>⟨⟨h,trivial⟩,trivial⟩) ?_;refine zai (fun h=>⟨⟨h,trivial⟩,trivial⟩) ?_;refine zai (fun h=>trivial) ?_;refine zai (fun h=>trivial) ?_;refine zai (fun h=>⟨⟨h,trivial⟩,trivial⟩) ?_;refine zai (fun h=>⟨⟨h,trivial⟩,⟨h,trivial⟩,trivial⟩) ?_;refine zai (fun h=>⟨⟨⟨h,trivial⟩,trivial⟩,by first|exact fun h2=>h2|(intro h2;rw [h,h2];rfl)|(intro h2;cases h2)|(intro h2;simp_all [gq])⟩) ?_;refine zai (by first|(intro h;rw [h];rfl)|(intro h;cases h)) ?_;refine qI ?_;refine qB ?_;refine qN ?_;refine qR (fun (j : Nat)=>j ≤ (l.getD i ⟨.empty,.empty⟩).2.size + 1) (fun (j : Nat)=>[(1,.one (.sl rFld l)),(2,.one (.own 0 0)),(5,ib ((l.take i).any (okF t))),(6,ii .i64 i),(7,is (l.getD i ⟨.empty,.empty⟩).2),(8,ib (ok0 t (l.getD i ⟨.empty,.empty⟩).2 || (decide (t.2.2.1 = 4) && (List.range j).any (gK (l.getD i ⟨.empty,.empty⟩).2 t.2.2.2)))),(9,ii .i64 j)]) (fun (j : Nat)=>[(0,.box 75 (toL qY t))]) 1 (fun (j : Nat)=>(l.getD i ⟨.empty,.empty⟩).2.size + 1 - j) 0 (Nat.zero_le _) (qP ⟨rfl,rfl,rfl,rfl,rfl,(xH (by rw [show (List.range 0).any (gK (l.getD i (.empty,.empty)).2 t.2.2.2) = false from rfl,Bool.and_false,Bool.or_false];rfl)),rfl⟩ rfl rfl) ?_;intro j hI2;refine qI ?_;refine qB ?_;refine zai (fun h=>trivial) ?_;refine zai (fun h=>⟨⟨h,trivial⟩,trivial⟩) ?_;refine zai (fun h=>⟨⟨h,trivial⟩,trivial⟩) ?_;refine zai (by exact fun h=>h) ?_;refine qJ rfl (fun h73=>?_) (fun h73=>?_)
    ·try simp only [decide_eq_true_eq,Bool.and_eq_true] at h73
     try simp only [zds] at h73
     refine qL ?_;refine qI ?_;refine qN ?_;refine qH ?_;refine zai (fun h=>trivial) ?_;refine zai (fun h=>trivial) ?_;refine zai (fun h=>⟨⟨h,trivial⟩,trivial⟩) ?_;refine zai (fun h=>trivial) ?_;refine Or.inl ?_;refine zai (rfl) ?_;refine zei _ (zai (fun h=>⟨⟨⟨h,trivial⟩,⟨h,trivial⟩,⟨h,trivial⟩,trivial⟩,begins_c _ _ _ hv ht (by omega)⟩) ?_);refine zai (by first|(intro h;rw [h];rfl)|(intro h;cases h)) ?_;refine qH ?_;refine zob ?_;exact ⟨j + 1,by omega,by first|omega|(simp <;> omega),qP ⟨rfl,rfl,rfl,rfl,rfl,(xH (by rw [range_any];simp [h73.2,Bool.or_assoc])),rfl⟩ rfl rfl⟩
    ·try simp only [decide_eq_false_iff_not,Bool.and_eq_false_iff,Int.not_le] at h73
     try simp only [zds] at h73
     refine qT ?_;have e2 : (ok0 t (l.getD i (.empty,.empty)).2 || (decide (t.2.2.1 = 4) && (List.range j).any (gK (l.getD i (.empty,.empty)).2 t.2.2.2))) = okV t (l.getD i (.empty,.empty)).2:=by (unfold okV;exact if h4 : t.2.2.1 = 4 then (by (have e3 : j = (l.getD i (.empty,.empty)).2.size + 1:=by (rcases h73 with h|h <;> omega));rw [e3]) else (by rw [decide_eq_false h4,Bool.false_and,Bool.false_and]))
     refine kF rfl (by kernel_rfl) ?_;refine zai (fun h=>trivial) ?_;refine zai (fun h=>trivial) ?_;refine zai (fun h=>⟨⟨⟨h,trivial⟩,⟨h,trivial⟩,trivial⟩,by first|omega|decide|(simp only [zds];omega)|(have h9:=of_decide_eq_true h;omega)|(simp [gq] at h;omega)⟩) ?_;refine zai (fun h=>⟨⟨h,trivial⟩,trivial⟩) ?_;refine zai (fun h=>⟨⟨h,trivial⟩,trivial⟩) ?_;refine zai (fun h=>trivial) ?_;refine zai (fun h=>⟨⟨h,trivial⟩,trivial⟩) ?_;refine zai (fun h=>⟨⟨h,trivial⟩,⟨h,trivial⟩,trivial⟩) ?_;refine zai (fun h=>⟨⟨h,trivial⟩,trivial⟩) ?_;refine zai (fun h=>trivial) ?_;refine zai (fun h=>⟨⟨⟨h,trivial⟩,trivial⟩,by first|exact fun h2=>h2|(intro h2;rw [h,h2];rfl)|(intro h2;cases h2)|(intro h2;simp_all [gq])⟩) ?_;refine zai (by first|(intro h;rw [h];rfl)|(intro h;cases h)) ?_;refine qH ?_;refine zob ?_;exact ⟨i + 1,by omega,by first|omega|(simp <;> omega),qP ⟨rfl,rfl,(xH (by rw [kY l (okF t) (.empty,.empty) i (by omega)];show _ = (_ || (decide _ && okV t (l.getD i (.empty,.empty)).2));rw [← e2];rfl)),rfl⟩ rfl rfl⟩
   ·try simp only [decide_eq_false_iff_not,Int.not_lt] at h21
    try simp only [zds] at h21
    refine qT ?_;refine qB ?_;refine qM ?_;refine xH ?_;have e : i = l.length:=by omega
    subst e;unfold jN bad;rw [List.take_length,decide_eq_false (show ¬ t.2.2.1 < 1 by omega),decide_eq_false (show ¬ 5 < t.2.2.1 by omega)];rfl
def TermOk (t : Term) : Prop:=t.2.1.size ≤ 100 ∧ t.2.2.2.size ≤ 500
def SelOk (s : List (List Term)) : Prop:=s.length ≤ 1000 ∧ ∀ r ∈ s,r.length ≤ 1000 ∧ ∀ t ∈ r,TermOk t
def yP (l : List Fld) : Prop:=l.length ≤ 1000 ∧ ∀ f ∈ l,f.1.size ≤ 1000000 ∧ f.2.size ≤ 1000000
def refAll (s : List (List Term)) (l : List Fld) : Bool:=s.any fun r=>r.all fun t=>jN t l
theorem all_c (s : List (List Term)) (l : List Fld) (hs : SelOk s) (hl : yP l) : qX Tryz.prog 61 [.one (.sl (.sl qY) s),.one (.sl rFld l)] (ib (refAll s l)):=by
  have hl' : ∀ f ∈ l,f.2.size ≤ 1000000000:=fun f hf=>Nat.le_trans (hl.2 f hf).2 (by decide)
  refine qW (rs:=[4]) Tryz.func61 rfl rfl rfl teOk rfl ?_;refine qB ?_;refine qI ?_;refine qB ?_;refine qN ?_;refine qR (fun (i : Nat)=>i ≤ s.length ∧ (s.take i).any (fun r=>r.all fun t=>jN t l) = false) (fun (i : Nat)=>[(0,.one (.sl (.sl qY) s)),(1,.one (.sl rFld l)),(5,ii .i64 i)]) (fun (i : Nat)=>[]) 0 (fun (i : Nat)=>s.length - i) 0 (⟨Nat.zero_le _,rfl⟩) (qP ⟨rfl,rfl,rfl⟩ trivial rfl) ?_;intro i hI0;obtain ⟨hi,hn⟩:=hI0;refine qI ?_;refine qB ?_;intro l2_2
  try simp only [zds] at l2_2
  refine qJ rfl (fun h11=>?_) (fun h11=>?_)
  ·try simp only [decide_eq_true_eq] at h11
   try simp only [zds] at h11
   have hr:=hs.2 _ (yK (show i < s.length by omega) []);refine qL ?_;refine qI ?_;refine qN ?_;refine qB ?_;refine qI ?_;refine qB ?_;refine qN ?_;refine qR (fun (j : Nat)=>j ≤ (s.getD i []).length) (fun (j : Nat)=>[(0,.one (.sl (.sl qY) s)),(1,.one (.sl rFld l)),(5,ii .i64 i),(6,ib (((s.getD i []).take j).all fun t=>jN t l)),(7,ii .i64 j)]) (fun (j : Nat)=>[]) 0 (fun (j : Nat)=>(s.getD i []).length - j) 0 (Nat.zero_le _) (qP ⟨rfl,rfl,rfl,rfl,rfl⟩ trivial rfl) ?_;intro j hI2;refine qI ?_;refine qB ?_;refine zob ?_;intro l6_5
   try simp only [Int.toNat_natCast,qG] at l6_5
   refine qJ rfl (fun h20=>?_) (fun h20=>?_)
   ·try simp only [decide_eq_true_eq] at h20
    try simp only [Int.toNat_natCast,qG] at h20
    refine qL ?_;refine qI ?_;refine qN ?_;refine qH ?_;refine zai (fun h=>trivial) ?_;refine zai (fun h=>trivial) ?_;refine zai (fun h=>⟨⟨⟨h,trivial⟩,⟨h,trivial⟩,trivial⟩,by first|omega|decide|(simp only [zds];omega)|(have h9:=of_decide_eq_true h;omega)|(simp [gq] at h;omega)⟩) ?_;refine zai (fun h=>⟨⟨h,trivial⟩,trivial⟩) ?_;refine zai (fun h=>trivial) ?_;refine zai (fun h=>⟨⟨⟨h,trivial⟩,⟨h,trivial⟩,trivial⟩,by first|omega|decide|(simp only [Int.toNat_natCast,qG];omega)|(have h9:=of_decide_eq_true h;omega)|(simp [gq] at h;omega)⟩) ?_;refine zai (fun h=>⟨⟨h,trivial⟩,trivial⟩) ?_;refine zai (fun h=>trivial) ?_;refine Or.inl ?_;refine zai (rfl) ?_;refine zei _ (zai (fun h=>⟨⟨⟨h,trivial⟩,⟨h,trivial⟩,trivial⟩,matches_c _ _ hl' (Nat.le_trans (hr.2 _ (yK (show j < (s.getD i []).length by omega) (false,ByteArray.empty,0,ByteArray.empty))).2 (by decide))⟩) ?_);refine zai (by exact fun h=>h) ?_;refine qH ?_;refine zob ?_;exact ⟨j + 1,by omega,by first|omega|(simp <;> omega),qP ⟨rfl,rfl,rfl,(xH (by rw [take_all _ _ (false,ByteArray.empty,0,ByteArray.empty) j (by omega)];rfl)),rfl⟩ trivial rfl⟩
   ·try simp only [decide_eq_false_iff_not,Int.not_lt] at h20
    try simp only [Int.toNat_natCast,qG] at h20
    refine qT ?_;have e2 : j = (s.getD i []).length:=by omega
    subst e2;refine qB ?_;refine qJ rfl (fun h35=>?_) (fun h35=>?_)
    ·try simp only [zbq] at h35
     try simp only [zds] at h35
     rw [List.take_length] at h35;refine qB ?_;refine qM ?_;refine xH ?_;exact (any_at (p:=fun r=>r.all fun t=>jN t l) [] (by omega) h35).symm
    ·try simp only [zbq] at h35
     try simp only [zds] at h35
     rw [List.take_length] at h35;refine qL ?_;refine qH ?_;refine zob ?_;exact ⟨i + 1,⟨by omega,by rw [kY _ _ [] i (by omega),hn];exact h35⟩,by first|omega|(simp <;> omega),qP ⟨rfl,rfl,rfl⟩ trivial rfl⟩
  ·try simp only [decide_eq_false_iff_not,Int.not_lt] at h11
   try simp only [zds] at h11
   refine qT ?_;refine qB ?_;refine qM ?_;refine xH ?_;have e : i = s.length:=by omega
   subst e;rw [List.take_length] at hn;exact hn.symm
def bigT (t : Term) : Bool:=decide (100 < t.2.1.size) || decide (500 < t.2.2.2.size)
def sumF (l : List Fld) : Nat:=(l.map fun f=>min f.1.size 10000 + min f.2.size 10000).sum
def zI (l : List Fld) : Bool:=decide (61 < l.length) || decide (6000 < sumF l)
end QQ
end Q
end Ab
end Go.Proofs.YtmaekcmknibmeaaGreatDoor
namespace Go.Proofs.YtmaekcmknibmeaaGreatDoor
open Go.RowKit
namespace Ab
set_option maxRecDepth 100000
namespace Q
namespace QQ
theorem index_F (f : FuncId) {β : Type} (S : Rd β) (y : β) (l : List (Fld)) (p : Fld → Bool) (d : Fld) (_hd : (rFld).dflt = d) (hp : ∀ x ∈ l,qX Tryz.prog f [.agg (toL rFld x),.one (.addr S y)] (ib (p x))) : qX Tryz.prog 135 [.one (.sl rFld l),.one (.clo f (.addr S y))] (ii .i64 (ixOf p l)):=by
  obtain rfl:=_hd;refine qW (rs:=[4]) Tryz.func135 rfl rfl rfl teOk rfl ?_;refine qB ?_;refine qI ?_;refine qB ?_;intro l1_1
  try simp only [zds] at l1_1
  refine qN ?_;refine qR (fun (i : Nat)=>i ≤ l.length ∧ (l.take i).any p = false) (fun (i : Nat)=>[(0,.one (.sl rFld l)),(1,.one (.clo f (.addr S y))),(7,ii .i64 l.length),(8,ii .i64 i)]) (fun (i : Nat)=>[]) 0 (fun (i : Nat)=>l.length - i) 0 (⟨Nat.zero_le _,rfl⟩) (qP ⟨rfl,rfl,rfl,rfl⟩ trivial rfl) ?_;intro i hI0;obtain ⟨hi,hn⟩:=hI0;refine qB ?_;refine qI ?_;refine qJ rfl (fun h9=>?_) (fun h9=>?_)
  ·try simp only [decide_eq_true_eq] at h9
   try simp only [zds] at h9
   refine qL ?_;refine qI ?_;refine qN ?_;refine qB ?_;refine qB ?_;refine zob ?_;refine Or.inl ?_;refine zai (rfl) ?_;refine zei _ (zai (hp _ (yK (show i < l.length by omega) _)) ?_);refine qJ rfl (fun h16=>?_) (fun h16=>?_)
   ·try simp only [zbq] at h16
    try simp only [Int.toNat_natCast,qF,qE] at h16
    refine qB ?_;refine qM ?_;exact qS (aK (rFld).dflt (by omega) hn h16).symm
   ·try simp only [zbq] at h16
    try simp only [Int.toNat_natCast,qF,qE] at h16
    refine qL ?_;refine qH ?_;refine zob ?_;exact ⟨i + 1,⟨by omega,by rw [kY l p (rFld).dflt i (by omega),hn];exact h16⟩,by first|omega|(simp <;> omega),qP ⟨rfl,rfl,rfl,rfl⟩ trivial rfl⟩
  ·try simp only [decide_eq_false_iff_not,Int.not_lt] at h9
   try simp only [zds] at h9
   refine qT ?_;refine qB ?_;refine qM ?_;have e : i = l.length:=by omega
   subst e;rw [List.take_length] at hn;exact qS (vB hn).symm
theorem contains_F (f : FuncId) {β : Type} (S : Rd β) (y : β) (l : List (Fld)) (p : Fld → Bool) (d : Fld) (hd : (rFld).dflt = d) (hp : ∀ x ∈ l,qX Tryz.prog f [.agg (toL rFld x),.one (.addr S y)] (ib (p x))) : qX Tryz.prog 111 [.one (.sl rFld l),.one (.clo f (.addr S y))] (ib (l.any p)):=by
  refine qW (rs:=[4]) Tryz.func111 rfl rfl rfl teOk rfl ?_;refine qB ?_;refine qB ?_;refine Or.inl ?_;refine zai (rfl) ?_;refine zei _ (zai (index_F f S y l p d hd hp) ?_);refine qM ?_;exact xH (ixOf_ge p l)
def ofB (t : Term) (v : ByteArray) : Bool:=if t.2.2.1 = 1 then true else if t.2.2.1 = 2 then decide (v = t.2.2.2) else if t.2.2.1 = 3 then Lib.hasPrefix v.data.toList t.2.2.2.data.toList
  else if t.2.2.1 = 4 then Lib.contains v.data.toList t.2.2.2.data.toList else Op.bytesLess v.toList t.2.2.2.toList
theorem of_c (t : Term) (v : ByteArray) (hv : v.size ≤ 1000000) : qX Tryz.prog 113 [.agg (toL qY t),is v] (ib (ofB t v)):=by
  refine qW (rs:=[4]) Tryz.func113 rfl rfl rfl teOk rfl ?_;refine qB ?_;refine qI ?_;refine qB ?_;refine qN ?_;refine qB ?_;refine qJ rfl (fun h7=>?_) (fun h7=>?_)
  ·try simp only [decide_eq_true_eq] at h7
   try simp only [zds] at h7
   refine qB ?_;refine qM ?_;refine xH ?_;unfold ofB;rw [if_pos h7]
  ·try simp only [decide_eq_false_iff_not] at h7
   try simp only [zds] at h7
   refine qB ?_;refine qJ rfl (fun h9=>?_) (fun h9=>?_)
   ·try simp only [decide_eq_true_eq] at h9
    try simp only [zds] at h9
    refine qB ?_;refine qM ?_;refine xH ?_;unfold ofB;rw [if_neg h7,if_pos h9]
   ·try simp only [decide_eq_false_iff_not] at h9
    try simp only [zds] at h9
    refine qB ?_;refine qJ rfl (fun h15=>?_) (fun h15=>?_)
    ·try simp only [decide_eq_true_eq] at h15
     try simp only [zds] at h15
     refine qB ?_;refine Or.inl ?_;refine zai (rfl) ?_;refine zei _ (zai (gV _ _) ?_);refine qM ?_;refine xH ?_;unfold ofB;rw [if_neg h7,if_neg h9,if_pos h15]
    ·try simp only [decide_eq_false_iff_not] at h15
     try simp only [zds] at h15
     refine qB ?_;refine qJ rfl (fun h21=>?_) (fun h21=>?_)
     ·try simp only [decide_eq_true_eq] at h21
      try simp only [zds] at h21
      refine qB ?_;refine Or.inl ?_;refine zai (rfl) ?_;refine zei _ (zai (gJ _ _ (by omega)) ?_);refine qM ?_;refine xH ?_;unfold ofB;rw [if_neg h7,if_neg h9,if_neg h15,if_pos h21]
     ·try simp only [decide_eq_false_iff_not] at h21
      try simp only [zds] at h21
      refine qL ?_;refine qB ?_;refine qM ?_;refine xH ?_;unfold ofB;rw [if_neg h7,if_neg h9,if_neg h15,if_neg h21]
theorem matches1_c (t : Term) (f : Fld) (hv : f.2.size ≤ 1000000) : qX Tryz.prog 112 [.agg (toL rFld f),.one (.addr qY t)] (ib (decide (f.1 = t.2.1) && ofB t f.2)):=by
  refine qW (rs:=[3]) Tryz.func112 rfl rfl rfl teOk rfl ?_;refine qB ?_;refine qB ?_;refine zai (fun h=>trivial) ?_;refine zai (fun h=>trivial) ?_;refine zai (fun h=>⟨⟨h,trivial⟩,trivial⟩) ?_;refine Or.inl ?_;refine zai (rfl) ?_;refine zei _ (zai (fun h=>⟨⟨⟨h,trivial⟩,⟨h,trivial⟩,trivial⟩,of_c _ _ hv⟩) ?_);refine zai (by exact fun h=>h) ?_;refine qM ?_;rfl
def kI (t : Term) (l : List Fld) : Bool:=!bad t && !decide ((l.any fun f=>decide (f.1 = t.2.1) && ofB t f.2) = t.1)
theorem termMatches_c (t : Term) (l : List Fld) (hl : yP l) : qX Tryz.prog 89 [.agg (toL qY t),.one (.sl rFld l)] (ib (kI t l)):=by
  refine qW (rs:=[4]) Tryz.func89 rfl rfl rfl teOk rfl ?_;refine qB ?_;refine qI ?_;refine qB ?_;refine zai (fun h=>trivial) ?_;refine zai (fun h=>⟨⟨h,trivial⟩,trivial⟩) ?_;refine zai (fun h=>⟨⟨h,trivial⟩,trivial⟩) ?_;refine zai (by first|(intro h;rw [h];rfl)|(intro h;cases h)) ?_;refine qJ rfl (fun h13=>?_) (fun h13=>?_)
  ·try simp only [decide_eq_true_eq,Bool.or_eq_true] at h13
   try simp only [zds] at h13
   refine qB ?_;refine qM ?_;refine xH ?_;unfold kI bad;rcases h13 with h|h <;> simp [h]
  ·try simp only [decide_eq_false_iff_not,Bool.or_eq_false_iff,Int.not_lt] at h13
   try simp only [zds] at h13
   refine qL ?_;refine qB ?_;refine Or.inl ?_;refine zai (rfl) ?_;refine zei _ (zai (contains_F 112 qY t l (fun f=>decide (f.1 = t.2.1) && ofB t f.2) _ rfl (fun x hx=>matches1_c t x (hl.2 x hx).2)) ?_);refine qB ?_;refine qM ?_;refine xH ?_;unfold kI bad;rw [decide_eq_false (show ¬ t.2.2.1 < 1 by omega),decide_eq_false (show ¬ 5 < t.2.2.1 by omega)];rfl
theorem index_T (f : FuncId) {β : Type} (S : Rd β) (y : β) (l : List (Term)) (p : Term → Bool) (d : Term) (_hd : (qY).dflt = d) (hp : ∀ x ∈ l,qX Tryz.prog f [.agg (toL qY x),.one (.addr S y)] (ib (p x))) : qX Tryz.prog 115 [.one (.sl qY l),.one (.clo f (.addr S y))] (ii .i64 (ixOf p l)):=by
  obtain rfl:=_hd;refine qW (rs:=[4]) Tryz.func115 rfl rfl rfl teOk rfl ?_;refine qB ?_;refine qI ?_;refine qB ?_;intro l1_1
  try simp only [zds] at l1_1
  refine qN ?_;refine qR (fun (i : Nat)=>i ≤ l.length ∧ (l.take i).any p = false) (fun (i : Nat)=>[(0,.one (.sl qY l)),(1,.one (.clo f (.addr S y))),(7,ii .i64 l.length),(8,ii .i64 i)]) (fun (i : Nat)=>[]) 0 (fun (i : Nat)=>l.length - i) 0 (⟨Nat.zero_le _,rfl⟩) (qP ⟨rfl,rfl,rfl,rfl⟩ trivial rfl) ?_;intro i hI0;obtain ⟨hi,hn⟩:=hI0;refine qB ?_;refine qI ?_;refine qJ rfl (fun h9=>?_) (fun h9=>?_)
  ·try simp only [decide_eq_true_eq] at h9
   try simp only [zds] at h9
   refine qL ?_;refine qI ?_;refine qN ?_;refine qB ?_;refine qB ?_;refine zob ?_;refine Or.inl ?_;refine zai (rfl) ?_;refine zei _ (zai (hp _ (yK (show i < l.length by omega) _)) ?_);refine qJ rfl (fun h16=>?_) (fun h16=>?_)
   ·try simp only [zbq] at h16
    try simp only [Int.toNat_natCast,qF,qE,qD,qC] at h16
    refine qB ?_;refine qM ?_;exact qS (aK (qY).dflt (by omega) hn h16).symm
   ·try simp only [zbq] at h16
    try simp only [Int.toNat_natCast,qF,qE,qD,qC] at h16
    refine qL ?_;refine qH ?_;refine zob ?_;exact ⟨i + 1,⟨by omega,by rw [kY l p (qY).dflt i (by omega),hn];exact h16⟩,by first|omega|(simp <;> omega),qP ⟨rfl,rfl,rfl,rfl⟩ trivial rfl⟩
  ·try simp only [decide_eq_false_iff_not,Int.not_lt] at h9
   try simp only [zds] at h9
   refine qT ?_;refine qB ?_;refine qM ?_;have e : i = l.length:=by omega
   subst e;rw [List.take_length] at hn;exact qS (vB hn).symm
theorem contains_T (f : FuncId) {β : Type} (S : Rd β) (y : β) (l : List (Term)) (p : Term → Bool) (d : Term) (hd : (qY).dflt = d) (hp : ∀ x ∈ l,qX Tryz.prog f [.agg (toL qY x),.one (.addr S y)] (ib (p x))) : qX Tryz.prog 92 [.one (.sl qY l),.one (.clo f (.addr S y))] (ib (l.any p)):=by
  refine qW (rs:=[4]) Tryz.func92 rfl rfl rfl teOk rfl ?_;refine qB ?_;refine qB ?_;refine Or.inl ?_;refine zai (rfl) ?_;refine zei _ (zai (index_T f S y l p d hd hp) ?_);refine qM ?_;exact xH (ixOf_ge p l)
theorem index_R (f g : FuncId) {β : Type} (S : Rd β) (y : β) (l : List (List Term)) (p : (List Term) → Bool) (d : List Term) (_hd : (Rd.sl qY).dflt = d) (hp : ∀ x ∈ l,qX Tryz.prog f [.one (.sl qY x),.one (.ref (.clo g (.addr S y)))] (ib (p x))) : qX Tryz.prog 114 [.one (.sl (.sl qY) l),.one (.clo f (.ref (.clo g (.addr S y))))] (ii .i64 (ixOf p l)):=by
  obtain rfl:=_hd;refine qW (rs:=[4]) Tryz.func114 rfl rfl rfl teOk rfl ?_;refine qB ?_;refine qI ?_;refine qB ?_;intro l1_1
  try simp only [zds] at l1_1
  refine qN ?_;refine qR (fun (i : Nat)=>i ≤ l.length ∧ (l.take i).any p = false) (fun (i : Nat)=>[(0,.one (.sl (.sl qY) l)),(1,.one (.clo f (.ref (.clo g (.addr S y))))),(7,ii .i64 l.length),(8,ii .i64 i)]) (fun (i : Nat)=>[]) 0 (fun (i : Nat)=>l.length - i) 0 (⟨Nat.zero_le _,rfl⟩) (qP ⟨rfl,rfl,rfl,rfl⟩ trivial rfl) ?_;intro i hI0;obtain ⟨hi,hn⟩:=hI0;refine qB ?_;refine qI ?_;refine qJ rfl (fun h9=>?_) (fun h9=>?_)
  ·try simp only [decide_eq_true_eq] at h9
   try simp only [zds] at h9
   refine qL ?_;refine qI ?_;refine qN ?_;refine qB ?_;refine qB ?_;refine zob ?_;refine Or.inl ?_;refine zai (rfl) ?_;refine zei _ (zai (hp _ (yK (show i < l.length by omega) _)) ?_);refine qJ rfl (fun h16=>?_) (fun h16=>?_)
   ·try simp only [zbq] at h16
    try simp only [Int.toNat_natCast,qG] at h16
    refine qB ?_;refine qM ?_;exact qS (aK (Rd.sl qY).dflt (by omega) hn h16).symm
   ·try simp only [zbq] at h16
    try simp only [Int.toNat_natCast,qG] at h16
    refine qL ?_;refine qH ?_;refine zob ?_;exact ⟨i + 1,⟨by omega,by rw [kY l p (Rd.sl qY).dflt i (by omega),hn];exact h16⟩,by first|omega|(simp <;> omega),qP ⟨rfl,rfl,rfl,rfl⟩ trivial rfl⟩
  ·try simp only [decide_eq_false_iff_not,Int.not_lt] at h9
   try simp only [zds] at h9
   refine qT ?_;refine qB ?_;refine qM ?_;have e : i = l.length:=by omega
   subst e;rw [List.take_length] at hn;exact qS (vB hn).symm
theorem contains_R (f g : FuncId) {β : Type} (S : Rd β) (y : β) (l : List (List Term)) (p : (List Term) → Bool) (d : List Term) (hd : (Rd.sl qY).dflt = d) (hp : ∀ x ∈ l,qX Tryz.prog f [.one (.sl qY x),.one (.ref (.clo g (.addr S y)))] (ib (p x))) : qX Tryz.prog 90 [.one (.sl (.sl qY) l),.one (.clo f (.ref (.clo g (.addr S y))))] (ib (l.any p)):=by
  refine qW (rs:=[4]) Tryz.func90 rfl rfl rfl teOk rfl ?_;refine qB ?_;refine qB ?_;refine Or.inl ?_;refine zai (rfl) ?_;refine zei _ (zai (index_R f g S y l p d hd hp) ?_);refine qM ?_;exact xH (ixOf_ge p l)
theorem fails_c (t : Term) (l : List Fld) (hl : yP l) : qX Tryz.prog 88 [.agg (toL qY t),.one (.addr (.sl rFld) l)] (ib (!kI t l)):=by
  refine qW (rs:=[3]) Tryz.func88 rfl rfl rfl teOk rfl ?_;refine qB ?_;refine qB ?_;refine Or.inl ?_;refine zai (rfl) ?_;refine zei _ (zai (termMatches_c t l hl) ?_);refine qM ?_;rfl
theorem rowFails_c (r : List Term) (l : List Fld) (hl : yP l) : qX Tryz.prog 91 [.one (.sl qY r),.one (.ref (.clo 88 (.addr (.sl rFld) l)))] (ib (!(r.any fun t=>!kI t l))):=by
  refine qW (rs:=[3]) Tryz.func91 rfl rfl rfl teOk rfl ?_;refine qB ?_;refine qB ?_;refine Or.inl ?_;refine zai (rfl) ?_;refine zei _ (zai (contains_T _ (.sl rFld) l r (fun t=>!kI t l) _ rfl (fun x _=>fails_c x l hl)) ?_);refine qM ?_;rfl
def selMatches (s : List (List Term)) (l : List Fld) : Bool:=s.any fun r=>!(r.any fun t=>!kI t l)
theorem selMatches_c (s : List (List Term)) (l : List Fld) (hl : yP l) : qX Tryz.prog 59 [.one (.sl (.sl qY) s),.one (.sl rFld l)] (ib (selMatches s l)):=by
  refine qW (rs:=[4]) Tryz.func59 rfl rfl rfl teOk rfl ?_;refine qB ?_;refine qB ?_;refine qB ?_;refine Or.inl ?_;refine zai (rfl) ?_;refine zei _ (zai (contains_R 91 88 (.sl rFld) l s (fun r=>!(r.any fun t=>!kI t l)) _ rfl (fun x _=>rowFails_c x l hl)) ?_);refine qM ?_;rfl
theorem yC (s : ByteArray) : s.size = s.data.toList.length:=by cases s;rfl
abbrev ls (s : ByteArray) : List UInt8:=s.data.toList
def bytes (l : List UInt8) : ByteArray:=⟨l.toArray⟩
theorem kA (s : ByteArray) : bytes (ls s) = s:=by cases s;rfl
def Clean (sep p : List UInt8) : Prop:=(∀ r j,j < p.length → Lib.occAt (p ++ sep ++ r) sep j = false) ∧ ∀ j,j ≤ p.length → Lib.occAt p sep j = false
theorem uW (s : ByteArray) (a b : Nat) : (s.extract a b).data.toList = (s.data.toList.drop a).take (b - a):=Lib.extract_data s a b
def blankC (c : UInt8) : Bool:=decide (c = 32) || decide (c = 9)
def aR (l : List UInt8) : Bool:=decide (1 ≤ l.length) && blankC (l.getD 0 0)
def vA (l : List UInt8) : Bool:=(((((decide (1 ≤ l.length) && decide (l.length ≤ 32)) && !blankC (l.getD 0 0)) && !decide (l.getD 0 0 = 35)) && !decide (58 ∈ l)) && !decide (10 ∈ l))
end QQ
end Q
end Ab
end Go.Proofs.YtmaekcmknibmeaaGreatDoor
