/-
  The texts of this proof, joined: abstract values, the library, the functions of the program and what they compute (part 4). No condition.
-/
import Derived.Lib.UnsafeStr
import Derived.Shelf.RegionOpenPlain
import Derived.Shelf.Spec.SlicesInsert
import Derived.Lib.AppendZerosOnto
import Derived.Laws.NewBlocks
import Derived.Test.YtehmiepjeffloaaGreatDoorK1
import Derived.Test.YtehmiepjeffloaaGreatDoorK2
import Derived.Test.YtehmiepjeffloaaGreatDoorK3
namespace Go.Proofs.YtehmiepjeffloaaGreatDoor
open Go.RowKit
namespace Ab
set_option maxRecDepth 100000
namespace Q
theorem mach_esc (r : List UInt8) (out : List (List (List UInt8))) (row : List (List UInt8)) (cell : List UInt8) : yB (34 :: 34 :: r) out row cell true = yB r out row (cell ++ [34]) true:=by
  rw [yB,if_pos rfl,if_pos ⟨rfl,rfl⟩]
theorem mach_tog (t : List UInt8) (out : List (List (List UInt8))) (row : List (List UInt8)) (cell : List UInt8) (b : Bool) (h : b = false ∨ ∀ r,t ≠ 34 :: r) : yB (34 :: t) out row cell b = yB t out row cell (!b):=by
  cases t with
  | nil=>simp [yB]
  | cons d r =>
    rw [yB,if_pos rfl,if_neg]
    rintro ⟨h1,h2⟩
    rcases h with h|h
    · rw [h] at h1;cases h1
    · exact h r (by rw [h2])
theorem mach_in (x : UInt8) (t : List UInt8) (out : List (List (List UInt8))) (row : List (List UInt8)) (cell : List UInt8) (h : x ≠ 34) : yB (x :: t) out row cell true = yB t out row (cell ++ [x]) true:=by
  cases t with
  | nil=>simp [yB,h]
  | cons d r=>rw [yB,if_neg h,if_pos rfl]
theorem mach_com (t : List UInt8) (out : List (List (List UInt8))) (row : List (List UInt8)) (cell : List UInt8) : yB (44 :: t) out row cell false = yB t out (row ++ [cell]) [] false:=by
  cases t with
  | nil=>simp [yB]
  | cons d r=>rw [yB,if_neg (by decide),if_neg (by decide),if_pos rfl]
theorem mach_oth (x : UInt8) (t : List UInt8) (out : List (List (List UInt8))) (row : List (List UInt8)) (cell : List UInt8) (h : x ≠ 34) (h2 : x ≠ 44) (h3 : x ≠ 10) : yB (x :: t) out row cell false = yB t out row (cell ++ [x]) false:=by
  cases t with
  | nil=>simp [yB,h,h3]
  | cons d r=>rw [yB,if_neg h,if_neg (by decide),if_neg h2,if_neg h3]
def shRefA (o : Option (List (List (List UInt8)))) : A:=match o with
  | some rows=>.tup [(false,[.sl (.sl .str) (unt rows)]),(false,[.lit (.bool true)])]
  | none=>.tup [(false,[.sl (.sl .str) []]),(false,[.lit (.bool false)])]
theorem mL_snoc (r : List (List UInt8)) (c : List UInt8) : mL (r ++ [c]) = mL r + (c.length + 1):=by simp [mL]
theorem tog_cond {l : List UInt8} {i : Nat} {b : Bool} (hi : i < l.length) (h : (b = false ∨ (l.length : Int) ≤ (i : Int) + 1) ∨ ¬ ((l.getD ((i : Int) + 1).toNat 0).toNat : Int) = 34) : b = false ∨ ∀ r,l.drop (i + 1) ≠ 34 :: r:=by
  rcases h with (h|h)|h
  · exact .inl h
  · exact .inr fun r e=>by rw [List.drop_of_length_le (by omega)] at e;cases e
  · refine .inr fun r e=>h ?_
    rw [show ((i : Int) + 1).toNat = i + 1 by omega]
    by_cases hl : i + 1 < l.length
    · rw [drop_cons hl] at e
      injection e with e1 _
      rw [e1];rfl
    · rw [List.drop_of_length_le (by omega)] at e;cases e
theorem esc_drop {l : List UInt8} {i : Nat} (hi : i + 1 < l.length) (h : ((l.getD ((i : Int) + 1).toNat 0).toNat : Int) = 34) : l.drop (i + 1) = 34 :: l.drop (i + 2):=by
  rw [show ((i : Int) + 1).toNat = i + 1 by omega] at h;rw [drop_cons hi,show l.getD (i + 1) 0 = 34 from u8_eq h]
theorem refReadS_c (s : ByteArray) (hs : s.size ≤ 60000) : qQ Tryz.prog 39 [is s] (shRefA (shReadR (ls s))):=by
  have hz : s.size = (ls s).length:=qW s;refine qR (rs:=[2,3]) Tryz.func39 rfl rfl rfl teOk rfl ?_;refine qC ?_;refine qB ?_;refine qC ?_;refine qB ?_;refine qV 4 22 (.sl .str) rfl ?_;refine qC ?_;refine qB ?_;refine qV 5 9 .str rfl ?_;refine qC ?_;refine qB ?_;refine qC ?_;refine qB ?_;refine qC ?_;refine qC ?_;refine qB ?_;refine qN ?_;refine qU (fun (x : Nat × List (List (List UInt8)) × List (List UInt8) × List UInt8 × Bool)=>x.1 ≤ s.size ∧ mT (unt x.2.1) + mL x.2.2.1 + x.2.2.2.1.length ≤ x.1 ∧ x.2.1.length ≤ x.1 ∧ x.2.2.1.length ≤ x.1 ∧ yB ((ls s).drop x.1) x.2.1 x.2.2.1 x.2.2.2.1 x.2.2.2.2 = yB (ls s) [] [] [] false) (fun (x : Nat × List (List (List UInt8)) × List (List UInt8) × List UInt8 × Bool)=>[(0,is s),(4,.one (.vec 0)),(5,.one (.vec 1)),(6,is (bytes x.2.2.2.1)),(7,ib x.2.2.2.2),(8,ii .i64 x.1)]) (fun (x : Nat × List (List (List UInt8)) × List (List UInt8) × List UInt8 × Bool)=>[(0,.vec 22 (.sl .str) (unt x.2.1)),(1,.vec 9 .str (uns x.2.2.1))]) 2 (fun (x : Nat × List (List (List UInt8)) × List (List UInt8) × List UInt8 × Bool)=>s.size - x.1) (0,[],[],[],false) (⟨Nat.zero_le _,Nat.le_refl _,Nat.le_refl _,Nat.le_refl _,rfl⟩) (qP ⟨rfl,rfl,rfl,rfl,rfl,rfl⟩ ⟨rfl,rfl⟩ rfl) ?_;intro ⟨i,out,row,cell,b⟩ hI0;simp only at hI0 ⊢;obtain ⟨hi,hm,ho,hrl,hq⟩:=hI0;refine qC ?_;refine qC ?_;refine qB ?_;refine qK rfl (fun h13=>?_) (fun h13=>?_)
  ·try simp only [decide_eq_true_eq] at h13
   try simp only [zds] at h13
   have hil : i < (ls s).length:=by omega
   obtain ⟨x,hxd⟩ : ∃ x,(ls s).getD i 0 = x:=⟨_,rfl⟩;have hx : s.extract (i : Int).toNat ((i : Int) + 1).toNat = bytes [x]:=by rw [Int.toNat_natCast,show ((i : Int) + 1).toNat = i + 1 by omega,← hxd];exact extract_one hil
   have hdr : (ls s).drop i = x :: (ls s).drop (i + 1):=by rw [← hxd];exact drop_cons hil
   have hcz : (bytes cell).size = cell.length:=qX _;have hx1 : (s.extract (i : Int).toNat ((i : Int) + 1).toNat).size = 1:=by rw [hx];rfl
   refine qM ?_;refine qC ?_;refine qN ?_;refine qC ?_;refine qB ?_;refine zai (by first|omega|assumption|decide|(simp only [zds];omega)|(simp <;> omega)) ?_;refine zai (by first|omega|assumption|decide|(simp only [zds];omega)|(simp <;> omega)) ?_;refine qN ?_;refine qC ?_;refine qB ?_;refine qK rfl (fun h24=>?_) (fun h24=>?_)
   ·try simp only [decide_eq_true_eq] at h24
    try simp only [Int.toNat_natCast] at h24
    have hx34 : x = 34:=one_inj (by rw [← hx];exact h24);refine qC ?_;refine qB ?_;refine zai (fun h=>trivial) ?_;refine zai (fun h=>⟨⟨⟨h,trivial⟩,trivial⟩,by first|omega|decide|(simp only [zds];omega)|(have h9:=of_decide_eq_true h;omega)|(simp [gq] at h;omega)⟩) ?_;refine zai (fun h=>trivial) ?_;refine zai (fun h=>⟨⟨h,trivial⟩,trivial⟩) ?_;refine zai (fun h=>⟨⟨h,trivial⟩,⟨h,trivial⟩,trivial⟩) ?_;refine zai (by exact fun h=>h) ?_;refine zai (fun h=>trivial) ?_;refine zai (fun h=>trivial) ?_;refine zai (fun h=>⟨⟨⟨h,trivial⟩,trivial⟩,by first|omega|decide|(simp only [zds];omega)|(have h9:=of_decide_eq_true h;omega)|(simp [gq] at h;omega)⟩) ?_;refine zai (fun h=>⟨⟨⟨h,trivial⟩,⟨h,trivial⟩,trivial⟩,by first|omega|decide|(simp only [zds];omega)|(have h9:=of_decide_eq_true h;omega)|(simp [gq] at h;omega)⟩) ?_;refine zai (fun h=>⟨⟨h,trivial⟩,trivial⟩) ?_;refine zai (by exact fun h=>h) ?_;refine qK rfl (fun h41=>?_) (fun h41=>?_)
    ·try simp only [decide_eq_true_eq,Bool.and_eq_true] at h41
     try simp only [zds] at h41
     refine qC ?_;refine qB ?_;refine zai (by first|omega|(simp only [ByteArray.size_append];omega)|(unfold maxLen;(try simp only [ByteArray.size_append]);omega)) ?_;refine qB ?_;refine zai (by first|omega|assumption|decide|(simp only [zds];omega)|(simp <;> omega)) ?_;refine qB ?_;refine zai (by first|omega|assumption|decide|(simp only [zds];omega)|(simp <;> omega)) ?_;exact ⟨(i + 2,out,row,cell ++ [34],true),⟨by simp only;omega,by simp only [List.length_append,List.length_singleton];omega,by simp only;omega,by simp only;omega,by simp only;rw [← hq,hdr,hx34,esc_drop (l:=ls s) (by have:=h41.1.2;omega) h41.2,h41.1.1,mach_esc]⟩,by first|omega|(simp <;> omega),qP ⟨rfl,rfl,rfl,(is_eq (by rw [hx,hx34];exact (yR _ _).symm)),(xH h41.1.1),(yM (by simp only;omega))⟩ ⟨rfl,rfl⟩ rfl⟩
    ·try simp only [decide_eq_false_iff_not,Bool.and_eq_false_iff,Int.not_lt] at h41
     try simp only [zds] at h41
     refine qB ?_;refine qB ?_;refine zai (by first|omega|assumption|decide|(simp only [zds];omega)|(simp <;> omega)) ?_;exact ⟨(i + 1,out,row,cell,!b),⟨by simp only;omega,by simp only;omega,by simp only;omega,by simp only;omega,by simp only;rw [← hq,hdr,hx34,mach_tog _ _ _ _ _ (tog_cond hil (by rw [← hz];exact h41))]⟩,by first|omega|(simp <;> omega),qP ⟨rfl,rfl,rfl,rfl,rfl,(yM (by simp only;omega))⟩ ⟨rfl,rfl⟩ rfl⟩
   ·try simp only [decide_eq_false_iff_not] at h24
    try simp only [Int.toNat_natCast] at h24
    have hx34 : x ≠ 34:=fun e=>h24 (by subst e;exact hx)
    refine qC ?_;refine qB ?_;refine qK rfl (fun h49=>?_) (fun h49=>?_)
    ·try simp only [zbq] at h49
     try simp only [zds] at h49
     have hb : b = true:=h49;rw [hb] at hq;refine qB ?_;refine zai (by first|omega|(simp only [ByteArray.size_append];omega)|(unfold maxLen;(try simp only [ByteArray.size_append]);omega)) ?_;refine qB ?_;refine zai (by first|omega|assumption|decide|(simp only [zds];omega)|(simp <;> omega)) ?_;exact ⟨(i + 1,out,row,cell ++ [x],true),⟨by simp only;omega,by simp only [List.length_append,List.length_singleton];omega,by simp only;omega,by simp only;omega,by simp only;rw [← hq,hdr,mach_in _ _ _ _ _ hx34]⟩,by first|omega|(simp <;> omega),qP ⟨rfl,rfl,rfl,(is_eq (by rw [hx];exact (yR _ _).symm)),(xH hb),(yM (by simp only;omega))⟩ ⟨rfl,rfl⟩ rfl⟩
    ·try simp only [zbq] at h49
     try simp only [zds] at h49
     have hb : b = false:=h49;rw [hb] at hq;refine qC ?_;refine qB ?_;refine qK rfl (fun h54=>?_) (fun h54=>?_)
     ·try simp only [decide_eq_true_eq] at h54
      try simp only [Int.toNat_natCast] at h54
      have hx44 : x = 44:=one_inj (by rw [← hx];exact h54);refine qC ?_;refine qB ?_;refine zai (by first|exact qS (by first|omega|(simp only [List.length_cons,List.length_nil,List.length_map];omega)|(simp;omega)) (by decide)|omega|assumption|decide|(simp only [zds];omega)|(simp <;> omega)) ?_;refine qB ?_;refine qB ?_;refine zai (by first|omega|assumption|decide|(simp only [zds];omega)|(simp <;> omega)) ?_;exact ⟨(i + 1,out,row ++ [cell],[],false),⟨by simp only;omega,by simp only [mL_snoc,List.length_nil];omega,by simp only;omega,by simp only [List.length_append,List.length_singleton];omega,by simp only;rw [← hq,hdr,hx44,mach_com]⟩,by first|omega|(simp <;> omega),qP ⟨rfl,rfl,rfl,rfl,(xH hb),(yM (by simp only;omega))⟩ ⟨rfl,(yA (by show List.map bytes row ++ [bytes cell] = List.map bytes (row ++ [cell]);rw [List.map_append];rfl))⟩ rfl⟩
     ·try simp only [decide_eq_false_iff_not] at h54
      try simp only [Int.toNat_natCast] at h54
      have hx44 : x ≠ 44:=fun e=>h54 (by subst e;exact hx)
      refine qC ?_;refine qB ?_;refine qK rfl (fun h61=>?_) (fun h61=>?_)
      ·try simp only [decide_eq_true_eq] at h61
       try simp only [Int.toNat_natCast] at h61
       have hx10 : x = 10:=one_inj (by rw [← hx];exact h61);refine qC ?_;refine qB ?_;refine zai (by first|exact qS (by first|omega|(simp only [List.length_cons,List.length_nil,List.length_map];omega)|(simp;omega)) (by decide)|omega|assumption|decide|(simp only [zds];omega)|(simp <;> omega)) ?_;refine zai (by first|exact qS (by first|omega|(simp only [List.length_cons,List.length_nil,List.length_map];omega)|(simp;omega)) (by decide)|omega|assumption|decide|(simp only [zds];omega)|(simp <;> omega)) ?_;refine qC ?_;refine qB ?_;refine qV 5 9 .str rfl ?_;refine acode_free 1 4 rfl rfl rfl rfl ?_;refine qB ?_;refine qB ?_;refine zai (by first|omega|assumption|decide|(simp only [zds];omega)|(simp <;> omega)) ?_;exact ⟨(i + 1,out ++ [row ++ [cell]],[],[],false),⟨by simp only;omega,by simp only [mT_snoc,mL_snoc];show _ + (_ + (_ + 1)) + 0 + 0 ≤ _;omega,by simp only [List.length_append,List.length_singleton];omega,by simp only [List.length_nil];omega,by simp only;rw [← hq,hdr,hx10,mach_10]⟩,by first|omega|(simp <;> omega),qP ⟨rfl,rfl,rfl,rfl,(xH hb),(yM (by simp only;omega))⟩ ⟨(yA (by show List.map uns out ++ [List.map bytes row ++ [bytes cell]] = List.map uns (out ++ [row ++ [cell]]);rw [List.map_append];show _ = _ ++ [List.map bytes (row ++ [cell])];rw [List.map_append];rfl)),rfl⟩ rfl⟩
      ·try simp only [decide_eq_false_iff_not] at h61
       try simp only [Int.toNat_natCast] at h61
       have hx10 : x ≠ 10:=fun e=>h61 (by subst e;exact hx)
       refine qB ?_;refine zai (by first|omega|(simp only [ByteArray.size_append];omega)|(unfold maxLen;(try simp only [ByteArray.size_append]);omega)) ?_;refine qB ?_;refine zai (by first|omega|assumption|decide|(simp only [zds];omega)|(simp <;> omega)) ?_;exact ⟨(i + 1,out,row,cell ++ [x],false),⟨by simp only;omega,by simp only [List.length_append,List.length_singleton];omega,by simp only;omega,by simp only;omega,by simp only;rw [← hq,hdr,mach_oth _ _ _ _ _ hx34 hx44 hx10]⟩,by first|omega|(simp <;> omega),qP ⟨rfl,rfl,rfl,(is_eq (by rw [hx];exact (yR _ _).symm)),(xH hb),(yM (by simp only;omega))⟩ ⟨rfl,rfl⟩ rfl⟩
  ·try simp only [decide_eq_false_iff_not,Int.not_lt] at h13
   try simp only [zds] at h13
   rw [List.drop_of_length_le (by omega)] at hq;have hend : yB (ls s) [] [] [] false = out:=by rw [← hq,yB]
   refine yC ?_;refine qC ?_;refine qC ?_;refine qB ?_;refine Or.inl ?_;refine zai (rfl) ?_;refine zei _ (zai (refWriteS_c (unt out) (by omega) (by rw [List.length_map];omega)) ?_);refine qK rfl (fun h74=>?_) (fun h74=>?_)
   ·try simp only [decide_eq_false_iff_not,Bool.not_eq_true'] at h74
    try simp only [zds] at h74
    refine qC ?_;refine qB ?_;refine qV 2 22 (.sl .str) rfl ?_;refine qL ?_;have e : shReadR (ls s) = none:=by (unfold shReadR;rw [hend,if_neg (fun h=>h74 (by rw [lst_unt,h,xQ]))])
    rw [e];rfl
   ·try simp only [decide_eq_true_eq,Bool.not_eq_false'] at h74
    try simp only [zds] at h74
    refine qM ?_;refine qC ?_;refine qB ?_;refine qL ?_;have e : shReadR (ls s) = some out:=by (unfold shReadR;rw [hend,if_pos (by have h:=h74;rw [lst_unt] at h;rw [← h,ls,qT])])
    rw [e];rfl
end Q
end Ab
end Go.Proofs.YtehmiepjeffloaaGreatDoor
namespace Go.Proofs.YtehmiepjeffloaaGreatDoor
open Go.RowKit
namespace Ab
set_option maxRecDepth 100000
namespace Q
def refCutL (l : List UInt8) : List UInt8 × List UInt8 × Bool:=if 10 ∈ l then ([],[],false) else if ((Lib.cut l [58]).2.2 && keyOk (Lib.cut l [58]).1) = true then Lib.cut l [58] else ([],[],false)
theorem cut_none {l : List UInt8} {c : UInt8} (h : c ∉ l) : Lib.cut l [c] = (l,[],false):=by
  have hi : Lib.index l [c] = -1:=Lib.index_none fun j _=>Bool.eq_false_iff.2 fun e=>h (List.mem_of_getElem? ((occ_one _ _ _).1 e))
  unfold Lib.cut;rw [hi,if_neg (by omega)]
end Q
end Ab
end Go.Proofs.YtehmiepjeffloaaGreatDoor
namespace Go.Proofs.YtehmiepjeffloaaGreatDoor
open Go.RowKit
namespace Ab
set_option maxRecDepth 100000
namespace Q
end Q
end Ab
end Go.Proofs.YtehmiepjeffloaaGreatDoor
namespace Go.Proofs.YtehmiepjeffloaaGreatDoor
open Go.RowKit
namespace Ab
set_option maxRecDepth 100000
namespace Q
def lineB (key v : ByteArray) : List ByteArray:=(linesL key.data.toList v.data.toList).map bytes
theorem check_ok {f : Fld} (h : yV f = 0) : keyOk f.1.data.toList = true ∧ f.2.size ≤ 1000 ∧ f.1.size ≤ 32:=by
  unfold yV at h;split at h
  · rename_i hk;split at h
    · cases h
    · refine ⟨hk,by omega,?_⟩;have:=hk;unfold keyOk at this;simp only [Bool.and_eq_true,decide_eq_true_eq] at this;rw [qW];exact this.1.1.1.1.2
  · cases h
theorem stuff_len (s : List UInt8) : (stuffL s).length ≤ s.length + 1:=by
  unfold stuffL;split <;> simp
def linesA (f : Fld) : A:=if yV f = 0 then .tup [(false,[.sl .str (lineB f.1 f.2)]),(false,[.lit .nilIface])] else .tup [(false,[.sl .str []]),(false,[errN (yV f)])]
theorem linesA_bad {f : Fld} {n : Int} (h : yV f = n) (hn : n ≠ 0) : linesA f = .tup [(false,[.sl .str []]),(false,[errN n])]:=by
  unfold linesA;rw [if_neg (by rw [h];exact hn),h]
theorem linesA_ok {f : Fld} (h : yV f = 0) : linesA f = .tup [(false,[.sl .str (lineB f.1 f.2)]),(false,[.lit .nilIface])]:=by
  unfold linesA;rw [if_pos h]
theorem stuffed_v (s : ByteArray) (l : List UInt8) (hl : s.data.toList = l) (hs : l.length ≤ 1000000) : qQ Tryz.prog 128 [is s] (is (bytes (stuffL l))):=by
  subst hl;exact stuffed_c s (by rw [qW];exact hs)
theorem first_b (k p : ByteArray) (h : ¬ p = ⟨#[]⟩) : (k ++ (⟨#[58]⟩ : ByteArray)) ++ ((⟨#[32]⟩ : ByteArray) ++ p) = bytes (firstL k.data.toList p.data.toList):=by
  have hp : p.data.toList ≠ []:=fun e=>h (emp.2 (by rw [e];rfl))
  unfold firstL;rw [if_neg hp,yR,yR,show (32 :: p.data.toList) = [32] ++ p.data.toList from rfl,yR,show bytes k.data.toList = k from xQ k,show bytes p.data.toList = p from xQ p];rfl
theorem first_e (k p : ByteArray) (h : p = ⟨#[]⟩) : k ++ (⟨#[58]⟩ : ByteArray) = bytes (firstL k.data.toList p.data.toList):=by
  have hp : p.data.toList = []:=by rw [h]
  unfold firstL;rw [if_pos hp,List.append_nil,yR,show bytes k.data.toList = k from xQ k];rfl
theorem tupS_eq {xs ys : List ByteArray} (h : xs = ys) : A.tup [(false,[.sl .str xs]),(false,[.lit .nilIface])] = A.tup [(false,[.sl .str ys]),(false,[.lit .nilIface])]:=by rw [h]
theorem lineB_eq {key v : ByteArray} {ws : List ByteArray} (hsp : ws.map ls = partsL v.data.toList) (hpos : 0 < ws.length) : bytes (firstL key.data.toList (ws.getD 0 ByteArray.empty).data.toList) :: (ws.drop 1).map (fun s=>bytes (32 :: stuffL s.data.toList)) = lineB key v:=by
  unfold lineB linesL;rw [← hsp];cases ws with
  | nil=>cases hpos
  | cons w r=>simp [ls]
theorem lines_c (f : Fld) (hk : f.1.size ≤ 1000000) (hv : f.2.size ≤ 1000000) : qQ Tryz.prog 110 [.agg (toL rFld f)] (linesA f):=by
  obtain ⟨ws,hws⟩ : ∃ ws,Lib.splitB ⟨#[10]⟩ 0 (Lib.countB f.2 ⟨#[10]⟩) f.2 = ws:=⟨_,rfl⟩;have hsz : ∀ x ∈ ws,x.size ≤ 1000000:=fun x hx=>Nat.le_trans (split_size _ _ _ x (hws ▸ hx)) hv
  have hlen : ws.length ≤ f.2.size + 1:=by rw [← hws];exact split_len _ _ (by decide)
  have hsp : ws.map ls = partsL f.2.data.toList:=by rw [← hws];exact split_ls _ _
  have hpos : 0 < ws.length:=by
    have:=split_ne f.2.data.toList [10];rw [← List.length_map (f:=ls),hsp];exact List.length_pos_iff.2 this
  refine qR (rs:=[2,3]) Tryz.func110 rfl rfl rfl teOk rfl ?_;refine qC ?_;refine qB ?_;refine qC ?_;refine qC ?_;rcases check_cases f with hc|hc|hc
  ·refine qB ?_;refine Or.inl ?_;refine zai (rfl) ?_;refine zei _ (zai ((check_v f 5 (by omega) hc : qQ _ _ _ (.one (errN 5)))) ?_);refine qC ?_;refine qB ?_;refine qK rfl (fun h12=>?_) (fun h12=>?_)
   ·skip
    refine qC ?_;refine qB ?_;refine qV 2 9 .str rfl ?_;refine qL ?_;rw [linesA_bad hc (by decide)];rfl
   ·try simp only [zbq] at h12
    try simp only [zds] at h12
    cases h12
  ·refine qB ?_;refine Or.inl ?_;refine zai (rfl) ?_;refine zei _ (zai ((check_v f 6 (by omega) hc : qQ _ _ _ (.one (errN 6)))) ?_);refine qC ?_;refine qB ?_;refine qK rfl (fun h12=>?_) (fun h12=>?_)
   ·skip
    refine qC ?_;refine qB ?_;refine qV 2 9 .str rfl ?_;refine qL ?_;rw [linesA_bad hc (by decide)];rfl
   ·try simp only [zbq] at h12
    try simp only [zds] at h12
    cases h12
  ·refine qB ?_;refine Or.inl ?_;refine zai (rfl) ?_;refine zei _ (zai ((check_v f 0 (by omega) hc : qQ _ _ _ (.one (.lit .nilIface)))) ?_);refine qC ?_;refine qB ?_;refine qK rfl (fun h12=>?_) (fun h12=>?_)
   ·try simp only [Bool.not_eq_true'] at h12
    try simp only [zds] at h12
    cases h12
   ·try simp only [Bool.not_eq_false'] at h12
    try simp only [zds] at h12
    have hdl : (ws.drop 1).length = ws.length - 1:=List.length_drop;obtain ⟨hko,hv1,hk1⟩:=check_ok hc;obtain ⟨p0,hp0⟩ : ∃ p,ws.getD 0 ByteArray.empty = p:=⟨_,rfl⟩;have hp0s : p0.size ≤ 1000000:=by rw [← hp0];exact hsz _ (yL hpos _)
    refine qM ?_;refine qC ?_;refine qB ?_;refine Or.inl ?_;refine zai (rfl) ?_;refine zei _ (zai (split_v f.2 ⟨#[10]⟩ ws hws (by omega) (by decide)) ?_);refine qC ?_;refine qB ?_;refine zai (by (have hk0 : ByteArray.size { data:=#[58] } = 1:=rfl;first|(unfold maxLen;omega)|(simp only [ByteArray.size_append];omega)|(unfold maxLen;(try simp only [ByteArray.size_append]);omega))) ?_;refine acode_cut (fun (u : Unit)=>True) (fun (u : Unit)=>[(5,.one (.sl .str ws)),(6,.one (.vec 1))]) (fun (u : Unit)=>[(1,.vec 9 .str [bytes (firstL f.1.data.toList p0.data.toList)])]) 2 ?_ ?_
    ·refine qC ?_;refine qB ?_;refine zai (by first|omega|assumption|decide|(simp only [zds];omega)|(simp <;> omega)) ?_;refine qK rfl (fun h24=>?_) (fun h24=>?_)
     ·try simp only [decide_eq_false_iff_not,Bool.not_eq_true'] at h24
      try simp only [qE] at h24
      have hq : (ws.getD (Int.toNat 0) (Rd.str).dflt).size ≤ 1000000:=hsz _ (yL hpos _);have hk2 : ([f.1 ++ (⟨#[58]⟩ : ByteArray)].getD (Int.toNat 0) (Rd.str).dflt).size ≤ 1000:=by show (f.1 ++ (⟨#[58]⟩ : ByteArray)).size ≤ _;rw [ByteArray.size_append,show ByteArray.size ⟨#[58]⟩ = 1 from rfl];omega
      refine xM rfl ?_;refine qJ 0 rfl rfl rfl (by kernel_rfl) ?_;refine qJ 1 rfl rfl rfl (by kernel_rfl) ?_;refine zai (by first|omega|assumption|decide|(simp only [zds];omega)|(simp <;> omega)) ?_;refine qJ 3 rfl rfl rfl (by kernel_rfl) ?_;refine qJ 4 rfl rfl rfl (by kernel_rfl) ?_;refine zai (by first|omega|assumption|decide|(simp only [zds];omega)|(simp <;> omega)) ?_;refine qI [2,5] (by kernel_rfl) rfl ?_;refine zai ?_ ?_
      ·refine zai (by exact Nat.zero_lt_one) ?_;refine qI [5] (by kernel_rfl) rfl ?_;refine qJ 6 rfl rfl rfl (by kernel_rfl) ?_;refine zai (by (have hk0 : ByteArray.size { data:=#[32] } = 1:=rfl;first|(unfold maxLen;omega)|(simp only [ByteArray.size_append];omega)|(unfold maxLen;(try simp only [ByteArray.size_append]);omega))) ?_;refine qJ 7 rfl rfl rfl (by kernel_rfl) ?_;refine zai (by (have hk0 : ByteArray.size { data:=#[32] } = 1:=rfl;first|(unfold maxLen;omega)|(simp only [ByteArray.size_append];omega)|(unfold maxLen;(try simp only [ByteArray.size_append]);omega))) ?_;refine qJ 8 rfl rfl rfl (by kernel_rfl) ?_;refine zai (by first|omega|assumption|decide|(simp only [zds];omega)|(simp <;> omega)) ?_;refine qI [9] (by kernel_rfl) rfl ?_;refine zai (by exact Nat.zero_lt_one) ?_;refine qO (by kernel_rfl) ?_;exact ⟨(),trivial,qP ⟨rfl,rfl⟩ (yA (congrArg (fun x=>[x]) (by rw [← hp0];exact first_b _ _ h24))) rfl⟩
      ·refine qJ 6 rfl rfl rfl (by kernel_rfl) ?_;refine zai (by (have hk0 : ByteArray.size { data:=#[32] } = 1:=rfl;first|(unfold maxLen;omega)|(simp only [ByteArray.size_append];omega)|(unfold maxLen;(try simp only [ByteArray.size_append]);omega))) ?_;refine qI [2] (by kernel_rfl) rfl ?_;refine zai (by exact Nat.zero_lt_one) ?_;refine qJ 7 rfl rfl rfl (by kernel_rfl) ?_;refine zai (by (have hk0 : ByteArray.size { data:=#[32] } = 1:=rfl;first|(unfold maxLen;omega)|(simp only [ByteArray.size_append];omega)|(unfold maxLen;(try simp only [ByteArray.size_append]);omega))) ?_;refine qJ 8 rfl rfl rfl (by kernel_rfl) ?_;refine zai (by first|omega|assumption|decide|(simp only [zds];omega)|(simp <;> omega)) ?_;refine qI [9] (by kernel_rfl) rfl ?_;refine zai (by exact Nat.zero_lt_one) ?_;refine qO (by kernel_rfl) ?_;exact ⟨(),trivial,qP ⟨rfl,rfl⟩ (yA (congrArg (fun x=>[x]) (by rw [← hp0];exact first_b _ _ h24))) rfl⟩
     ·try simp only [decide_eq_true_eq,Bool.not_eq_false'] at h24
      try simp only [qE] at h24
      refine qM ?_;exact ⟨(),trivial,qP ⟨rfl,rfl⟩ (yA (congrArg (fun x=>[x]) (by rw [← hp0];exact first_e _ _ h24))) rfl⟩
    ·intro u hcut8;refine qC ?_;refine qC ?_;refine qB ?_;refine zai (by first|omega|assumption|decide|(simp only [zds];omega)|(simp <;> omega)) ?_;intro l8_2
     try simp only [zds] at l8_2
     refine qN ?_;refine qU (fun (i : Nat)=>i ≤ (ws.drop 1).length) (fun (i : Nat)=>[(6,.one (.vec 1)),(35,.one (.sl .str (ws.drop 1))),(36,ii .i64 (ws.drop 1).length),(37,ii .i64 i)]) (fun (i : Nat)=>[(1,.vec 9 .str (bytes (firstL f.1.data.toList p0.data.toList) :: ((ws.drop 1).take i).map fun s=>bytes (32 :: stuffL s.data.toList)))]) 2 (fun (i : Nat)=>(ws.drop 1).length - i) 0 (Nat.zero_le _) (qP ⟨rfl,(sl_eq rfl),(yM rfl),rfl⟩ rfl rfl) ?_;intro i hI0;have hi:=hI0;refine qC ?_;refine qB ?_;refine qC ?_;refine qK rfl (fun h38=>?_) (fun h38=>?_)
     ·try simp only [decide_eq_true_eq] at h38
      try simp only [zds] at h38
      have hlt : i < (ws.drop 1).length:=by omega
      have hm : ((ws.drop 1).getD i ByteArray.empty).size ≤ 1000000:=hsz _ (List.mem_of_mem_drop (yL hlt _));have hst : (bytes (stuffL ((ws.drop 1).getD i ByteArray.empty).data.toList)).size ≤ 1000001:=by rw [qX];have:=stuff_len ((ws.drop 1).getD i ByteArray.empty).data.toList;rw [qW] at hm;omega
      refine qM ?_;refine qC ?_;refine qN ?_;refine qC ?_;refine qB ?_;refine zai (by first|omega|assumption|decide|(simp only [zds];omega)|(simp <;> omega)) ?_;refine qB ?_;refine Or.inl ?_;refine zai (rfl) ?_;refine zei _ (zai (stuffed_v _ _ rfl (by rw [← qW];exact hm)) ?_);refine zai (by unfold maxLen;rw [show ByteArray.size ⟨#[32]⟩ = 1 from rfl,Int.toNat_natCast];exact Nat.le_trans (Nat.add_le_add_left hst 1) (by decide)) ?_;refine zai (by show (_ + 1) * 16 ≤ 140737488355328;rw [List.length_cons,List.length_map,List.length_take];omega) ?_;refine qB ?_;refine zai (by first|omega|assumption|decide|(simp only [zds];omega)|(simp <;> omega)) ?_;exact ⟨i + 1,by omega,by first|omega|(simp <;> omega),qP ⟨rfl,rfl,rfl,(yM (by omega))⟩ (yA (by rw [← map_snoc (fun s : ByteArray=>bytes (32 :: stuffL s.data.toList)) ByteArray.empty hlt,← List.cons_append,show bytes (32 :: stuffL ((ws.drop 1).getD i ByteArray.empty).data.toList) = bytes [32] ++ bytes (stuffL ((ws.drop 1).getD i ByteArray.empty).data.toList) from yR [32] _];rfl)) rfl⟩
     ·try simp only [decide_eq_false_iff_not,Int.not_lt] at h38
      try simp only [zds] at h38
      refine yC ?_;refine qC ?_;refine qB ?_;refine qL ?_;rw [linesA_ok hc];exact tupS_eq (by rw [List.take_of_length_le (by omega),← lineB_eq hsp hpos,hp0])
end Q
end Ab
end Go.Proofs.YtehmiepjeffloaaGreatDoor
namespace Go.Proofs.YtehmiepjeffloaaGreatDoor
open Go.RowKit
namespace Ab
set_option maxRecDepth 100000
namespace Q
def endL (ls : List (List UInt8)) : List UInt8:=ls.flatMap fun s=>s ++ [10]
def textL (f : Fld) : List UInt8:=endL (linesL f.1.data.toList f.2.data.toList)
def foldL (l : List Fld) : List UInt8:=l.flatMap textL
def badF (l : List Fld) : Int:=match l with
  | []=>0
  | f :: r=>if yV f = 0 then badF r else yV f
theorem badF_ok : ∀ {l : List Fld},(∀ f ∈ l,yV f = 0) → badF l = 0
  | [],_=>rfl
  | f :: r,h=>by unfold badF;rw [if_pos (h f (by simp)),badF_ok fun g hg=>h g (by simp [hg])]
theorem badF_at : ∀ {l : List Fld} {i : Nat} (d : Fld),i < l.length → (∀ f ∈ l.take i,yV f = 0) → yV (l.getD i d) ≠ 0 → badF l = yV (l.getD i d)
  | f :: r,0,d,_,_,h=>by unfold badF;rw [if_neg (by simpa using h)];rfl
  | f :: r,i + 1,d,hi,ht,h=>by
    unfold badF;rw [if_pos (ht f (by simp)),badF_at d (by simpa using hi) (fun g hg=>ht g (by simp [hg])) (by simpa using h)];simp
theorem endL_snoc (ps : List (List UInt8)) (k : Nat) (h : k < ps.length) : endL (ps.take (k + 1)) = endL (ps.take k) ++ (ps.getD k [] ++ [10]):=by
  rw [← yT [] h];simp [endL]
theorem foldL_snoc (l : List Fld) (i : Nat) (d : Fld) (h : i < l.length) : foldL (l.take (i + 1)) = foldL (l.take i) ++ textL (l.getD i d):=by
  rw [← yT d h];simp [foldL]
theorem flat_le {α : Type} (g : α → List UInt8) (B : Nat) : ∀ l : List α,(∀ x ∈ l,(g x).length ≤ B) → (l.flatMap g).length ≤ l.length * B
  | [],_=>by simp
  | x :: l,h=>by
    rw [List.flatMap_cons,List.length_append,List.length_cons,Nat.succ_mul];have:=h x (by simp);have:=flat_le g B l fun y hy=>h y (by simp [hy])
    omega
theorem line_len {k v : List UInt8} (hk : k.length ≤ 32) (hv : v.length ≤ 1000) : (linesL k v).length ≤ 2000 ∧ ∀ s ∈ linesL k v,s.length ≤ 2000:=by
  have hp : ∀ p ∈ partsL v,p.length ≤ v.length:=fun p hp=>split_mem hp
  have hl : (partsL v).length ≤ v.length + 1:=by
    have:=split_len (bytes [10]) (bytes v) (by decide);have h2:=congrArg List.length (split_ls (bytes [10]) (bytes v));rw [List.length_map] at h2;rw [h2] at this;unfold ls at this;rw [qT,qT,qX] at this;exact this
  refine ⟨?_,fun s hs=>?_⟩
  · unfold linesL;simp only [List.length_cons,List.length_map,List.length_drop];omega
  · unfold linesL at hs;rcases List.mem_cons.1 hs with rfl|hs
    · unfold firstL;have h0 : ((partsL v).headD []).length ≤ v.length:=by
        cases e : partsL v with
        | nil=>exact absurd e (split_ne v [10])
        | cons p ps=>rw [e] at hp;exact hp p (by simp)
      have h1 : (if (partsL v).headD [] = [] then [] else 32 :: (partsL v).headD [] : List UInt8).length ≤ ((partsL v).headD []).length + 1:=by split <;> simp
      simp only [List.length_append,List.length_cons,List.length_nil];omega
    · obtain ⟨q,hq,rfl⟩:=List.mem_map.1 hs;have:=stuff_len q;have:=hp q (List.mem_of_mem_drop hq);simp only [List.length_cons];omega
theorem text_len {f : Fld} (h : yV f = 0) : (textL f).length ≤ 5000000 ∧ ∀ k,(endL ((linesL f.1.data.toList f.2.data.toList).take k)).length ≤ 5000000:=by
  obtain ⟨_,h2,h3⟩:=check_ok h;rw [qW] at h2 h3;obtain ⟨h4,h5⟩:=line_len h3 h2;have : ∀ ps : List (List UInt8),ps.length ≤ 2000 → (∀ s ∈ ps,s.length ≤ 2000) → (endL ps).length ≤ 5000000:=fun ps hl hs=>by
    have:=flat_le (fun s : List UInt8=>s ++ [10]) 2001 ps (fun s h=>by have:=hs s h;simp;omega);unfold endL;have : ps.length * 2001 ≤ 2000 * 2001:=Nat.mul_le_mul_right _ hl;omega
  exact ⟨this _ h4 h5,fun k=>this _ (by rw [List.length_take];omega) fun s hs=>h5 s (List.mem_of_mem_take hs)⟩
def foldA (l : List Fld) : A:=if badF l = 0 then .tup [(false,[.lit (.string (bytes (foldL l)))]),(false,[.lit .nilIface])] else .tup [(false,[.lit (.string ⟨#[]⟩)]),(false,[errN (badF l)])]
theorem lineB_get {k v : ByteArray} {j : Nat} (h : j < (lineB k v).length) : (lineB k v).getD j ByteArray.empty = bytes ((linesL k.data.toList v.data.toList).getD j []):=by
  unfold lineB at *;rw [List.length_map] at h;rw [List.getD_eq_getElem?_getD,List.getElem?_map,List.getD_eq_getElem?_getD,List.getElem?_eq_getElem h];rfl
theorem fold_c {κ : Nat} (l : List Fld) (hl : FldsOk l) : qQ Tryz.prog 95 [.one (.slk κ rFld l)] (foldA l):=by
  have hln:=hl.1;refine qR (rs:=[2,3]) Tryz.func95 rfl rfl rfl teOk rfl ?_;refine qC ?_;refine qB ?_;refine qC ?_;refine qB ?_;refine qC ?_;refine qC ?_;refine acode_bld 0 5 (.int .u8) rfl ?_;refine qB ?_;intro l2_1
  try simp only [zds] at l2_1
  refine qN ?_;refine qU (fun (x : Nat × Bool)=>x.1 ≤ l.length ∧ ∀ f ∈ l.take x.1,yV f = 0) (fun (x : Nat × Bool)=>[(4,.one (.own 0 0)),(11,.one (.slk κ rFld l)),(12,ii .i64 l.length),(13,ii .i64 x.1)]) (fun (x : Nat × Bool)=>[(0,.box 119 [.nself x.2 0,.vec 1]),(1,.vec 5 (.int .u8) (xB (bytes (foldL (l.take x.1)))))]) 2 (fun (x : Nat × Bool)=>l.length - x.1) (0,false) (⟨Nat.zero_le _,by simp⟩) (qP ⟨rfl,rfl,rfl,rfl⟩ ⟨rfl,rfl⟩ rfl) ?_;intro ⟨i,u⟩ hI0;simp only at hI0 ⊢;obtain ⟨hi,hall⟩:=hI0;refine qC ?_;refine qB ?_;refine qC ?_;refine qK rfl (fun h14=>?_) (fun h14=>?_)
  ·try simp only [decide_eq_true_eq] at h14
   try simp only [zds] at h14
   have hlt : i < l.length:=by omega
   have hm:=hl.2 _ (yL hlt (ByteArray.empty,ByteArray.empty));have hfl : (foldL (l.take i)).length ≤ 1000 * 5000000:=by refine Nat.le_trans (flat_le textL 5000000 _ fun f hf=>(text_len (hall f hf)).1) (Nat.mul_le_mul_right _ (by rw [List.length_take];omega))
   refine qM ?_;refine qC ?_;refine qN ?_;refine qC ?_;refine qB ?_;refine zai (by first|omega|assumption|decide|(simp only [zds];omega)|(simp <;> omega)) ?_;refine qC ?_;rcases check_cases (l.getD i (ByteArray.empty,ByteArray.empty)) with hc|hc|hc
   ·refine qB ?_;refine Or.inl ?_;refine zai (rfl) ?_;refine zei _ (zai ((by have:=lines_c (l.getD i (ByteArray.empty,ByteArray.empty)) hm.1 hm.2;rw [linesA_bad hc (by decide)] at this;exact this)) ?_);refine qC ?_;refine qC ?_;refine qB ?_;refine qK rfl (fun h23=>?_) (fun h23=>?_)
    ·skip
     refine qC ?_;refine qB ?_;refine qL ?_;have hb : badF l = 5:=by rw [badF_at (ByteArray.empty,ByteArray.empty) hlt hall (by rw [hc];decide),hc]
     unfold foldA;rw [if_neg (by rw [hb];decide),hb];rfl
    ·try simp only [zbq] at h23
     try simp only [zds] at h23
     cases h23
   ·refine qB ?_;refine Or.inl ?_;refine zai (rfl) ?_;refine zei _ (zai ((by have:=lines_c (l.getD i (ByteArray.empty,ByteArray.empty)) hm.1 hm.2;rw [linesA_bad hc (by decide)] at this;exact this)) ?_);refine qC ?_;refine qC ?_;refine qB ?_;refine qK rfl (fun h23=>?_) (fun h23=>?_)
    ·skip
     refine qC ?_;refine qB ?_;refine qL ?_;have hb : badF l = 6:=by rw [badF_at (ByteArray.empty,ByteArray.empty) hlt hall (by rw [hc];decide),hc]
     unfold foldA;rw [if_neg (by rw [hb];decide),hb];rfl
    ·try simp only [zbq] at h23
     try simp only [zds] at h23
     cases h23
   ·refine qB ?_;refine Or.inl ?_;refine zai (rfl) ?_;refine zei _ (zai ((by have:=lines_c (l.getD i (ByteArray.empty,ByteArray.empty)) hm.1 hm.2;rw [linesA_ok hc] at this;exact this)) ?_);refine qC ?_;refine qC ?_;refine qB ?_;refine qK rfl (fun h23=>?_) (fun h23=>?_)
    ·try simp only [Bool.not_eq_true'] at h23
     try simp only [zds] at h23
     cases h23
    ·try simp only [Bool.not_eq_false'] at h23
     try simp only [zds] at h23
     obtain ⟨ps,hps⟩ : ∃ ps,lineB (l.getD i (ByteArray.empty,ByteArray.empty)).1 (l.getD i (ByteArray.empty,ByteArray.empty)).2 = ps:=⟨_,rfl⟩;refine qM ?_;refine qC ?_;refine qB ?_;intro l8_1
     try simp only [zds] at l8_1
     refine qN ?_;refine qU (fun (y : Nat × Bool)=>y.1 ≤ (lineB (l.getD i (ByteArray.empty,ByteArray.empty)).1 (l.getD i (ByteArray.empty,ByteArray.empty)).2).length) (fun (y : Nat × Bool)=>[(4,.one (.own 0 0)),(11,.one (.slk κ rFld l)),(12,ii .i64 l.length),(13,ii .i64 i),(25,.one (.sl .str (lineB (l.getD i (ByteArray.empty,ByteArray.empty)).1 (l.getD i (ByteArray.empty,ByteArray.empty)).2))),(26,ii .i64 (lineB (l.getD i (ByteArray.empty,ByteArray.empty)).1 (l.getD i (ByteArray.empty,ByteArray.empty)).2).length),(27,ii .i64 y.1)]) (fun (y : Nat × Bool)=>[(0,.box 119 [.nself y.2 0,.vec 1]),(1,.vec 5 (.int .u8) (xB (bytes (foldL (l.take i) ++ endL ((linesL (l.getD i (ByteArray.empty,ByteArray.empty)).1.data.toList (l.getD i (ByteArray.empty,ByteArray.empty)).2.data.toList).take y.1)))))]) 2 (fun (y : Nat × Bool)=>(lineB (l.getD i (ByteArray.empty,ByteArray.empty)).1 (l.getD i (ByteArray.empty,ByteArray.empty)).2).length - y.1) (0,u) (Nat.zero_le _) (qP ⟨rfl,rfl,rfl,rfl,rfl,rfl,rfl⟩ ⟨rfl,(yA (by simp [endL]))⟩ rfl) ?_;intro ⟨k,u2⟩ hI2;simp only at hI2 ⊢;have hk:=hI2;refine qC ?_;refine qB ?_;refine qC ?_;refine qK rfl (fun h28=>?_) (fun h28=>?_)
     ·try simp only [decide_eq_true_eq] at h28
      try simp only [zds] at h28
      have hlk : k < (lineB (l.getD i (ByteArray.empty,ByteArray.empty)).1 (l.getD i (ByteArray.empty,ByteArray.empty)).2).length:=by omega
      have hg:=lineB_get hlk;have hlk2 : k < (linesL (l.getD i (ByteArray.empty,ByteArray.empty)).1.data.toList (l.getD i (ByteArray.empty,ByteArray.empty)).2.data.toList).length:=by unfold lineB at hlk;rw [List.length_map] at hlk;exact hlk
      have hgs : ((lineB (l.getD i (ByteArray.empty,ByteArray.empty)).1 (l.getD i (ByteArray.empty,ByteArray.empty)).2).getD k ByteArray.empty).size ≤ 2000:=by rw [hg,qX];obtain ⟨_,h2,h3⟩:=check_ok hc;rw [qW] at h2 h3;exact (line_len h3 h2).2 _ (yL hlk2 _)
      have hen:=(text_len hc).2 k;refine qM ?_;refine qC ?_;refine qN ?_;refine qC ?_;refine qB ?_;refine zai (by first|omega|assumption|decide|(simp only [zds];omega)|(simp <;> omega)) ?_;refine qB ?_;refine zai (by unfold maxLen;rw [Int.toNat_natCast];exact Nat.le_trans (Nat.add_le_add_right hgs 1) (by decide)) ?_;refine Or.inr (Or.inl (zei [] (zei [0,1] (zei _ (zei _ (zei _ (zei _ (zei _ (zai (writeString_o _ _ _ (by rw [ints_len,List.length_append,ByteArray.size_append,Int.toNat_natCast,show ByteArray.size ⟨#[10]⟩ = 1 from rfl];have:=hgs;show _ + (((lineB (l.getD i (ByteArray.empty,ByteArray.empty)).1 (l.getD i (ByteArray.empty,ByteArray.empty)).2).getD k ByteArray.empty).size + 1) ≤ _;omega)) (zai rfl (zai (zai (zai rfl rfl) (zai (zai rfl rfl) True.intro)) (zai rfl ?_))))))))))));refine qB ?_;refine zai (by first|omega|assumption|decide|(simp only [zds];omega)|(simp <;> omega)) ?_;exact ⟨(k + 1,true),(by simp only;omega),by first|omega|(simp <;> omega),qP ⟨rfl,rfl,rfl,rfl,rfl,rfl,(yM (by simp only;omega))⟩ ⟨rfl,(yA (by simp only;rw [endL_snoc _ _ hlk2,← List.append_assoc];exact ints_add _ _ _ (by rw [yR,← hg];rfl)))⟩ rfl⟩
     ·try simp only [decide_eq_false_iff_not,Int.not_lt] at h28
      try simp only [zds] at h28
      refine yC ?_;refine qB ?_;refine zai (by first|omega|assumption|decide|(simp only [zds];omega)|(simp <;> omega)) ?_;exact ⟨(i + 1,u2),⟨by simp only;omega,by simp only;rw [← yT (ByteArray.empty,ByteArray.empty) hlt];intro f hf;rcases List.mem_append.1 hf with h|h;exact hall f h;rw [List.mem_singleton.1 h];exact hc⟩,by first|omega|(simp <;> omega),qP ⟨rfl,rfl,rfl,(yM (by simp only;omega))⟩ ⟨rfl,(yA (by simp only;rw [foldL_snoc l i (ByteArray.empty,ByteArray.empty) hlt,show List.take k (linesL (l.getD i (ByteArray.empty,ByteArray.empty)).1.data.toList (l.getD i (ByteArray.empty,ByteArray.empty)).2.data.toList) = linesL (l.getD i (ByteArray.empty,ByteArray.empty)).1.data.toList (l.getD i (ByteArray.empty,ByteArray.empty)).2.data.toList from List.take_of_length_le (by unfold lineB at h28;rw [List.length_map] at h28;omega)];rfl))⟩ rfl⟩
  ·try simp only [decide_eq_false_iff_not,Int.not_lt] at h14
   try simp only [zds] at h14
   refine yC ?_;refine qC ?_;refine qB ?_;refine Or.inr (Or.inl (zei [] (zei [0,1] (zei _ (zei _ (zei _ (zei _ (zei _ (zai (string_o _ _) (zai rfl (zai (zai (zai rfl rfl) (zai (zai rfl rfl) True.intro)) (zai rfl ?_))))))))))));refine qL ?_;rw [List.take_of_length_le (by omega)] at hall ⊢;unfold foldA;rw [if_pos (badF_ok hall)];rfl
end Q
end Ab
end Go.Proofs.YtehmiepjeffloaaGreatDoor
namespace Go.Proofs.YtehmiepjeffloaaGreatDoor
open Go.RowKit
namespace Ab
set_option maxRecDepth 100000
namespace Q
theorem fold_yes {κ : Nat} {l : List Fld} (hl : FldsOk l) (h : badF l = 0) : qQ Tryz.prog 95 [.one (.slk κ rFld l)] (.tup [(false,[.lit (.string (bytes (foldL l)))]),(false,[.lit .nilIface])]):=by
  have:=fold_c (κ:=κ) l hl;unfold foldA at this;rw [if_pos h] at this;exact this
end Q
end Ab
end Go.Proofs.YtehmiepjeffloaaGreatDoor
namespace Go.Proofs.YtehmiepjeffloaaGreatDoor
open Go.RowKit
namespace Ab
set_option maxRecDepth 100000
namespace Q
def partB (s : ByteArray) : List ByteArray:=(partsL s.data.toList).map bytes
end Q
end Ab
end Go.Proofs.YtehmiepjeffloaaGreatDoor
namespace Go.Proofs.YtehmiepjeffloaaGreatDoor
open Go.RowKit
namespace Ab
set_option maxRecDepth 100000
namespace Q
theorem list_ext_take {α : Type} {a b : List α} {i : Nat} (d : α) (ha : i < a.length) (hb : i < b.length) (h : a.take i = b.take i) (he : a.getD i d = b.getD i d) : a.take (i + 1) = b.take (i + 1):=by
  rw [← yT d ha,← yT d hb,h,he]
theorem ne_at {α : Type} {a b : List α} {i : Nat} (d : α) (he : a.getD i d ≠ b.getD i d) : ¬ a = b:=fun e=>he (by rw [e])
abbrev rFault : Rd (Int × Value):=.st (.int .i64) .raw
def errF (at_ n : Int) : C:=.ifc 96 (.addr rFault (at_,.iface 41 (.int .i64 n)))
theorem num_errno (n : Int) (hn : n ≠ 0) : qQ Tryz.prog 11 [.one (errN n)] (ii .i64 n):=by
  refine qR (rs:=[2]) Tryz.func11 rfl rfl rfl teOk rfl ?_;refine qC ?_;refine qB ?_;refine qC ?_;refine qC ?_;refine qB ?_;refine qN ?_;refine qU (fun (u : Unit)=>True) (fun (u : Unit)=>[(0,.one (errN n)),(7,ii .i64 0)]) (fun (u : Unit)=>[]) 0 (fun (u : Unit)=>0) () (trivial) (qP ⟨rfl,rfl⟩ trivial rfl) ?_;intro u hI0;refine qC ?_;refine qB ?_;refine qC ?_;refine qK rfl (fun h8=>?_) (fun h8=>?_)
  ·try simp only [decide_eq_true_eq] at h8
   try simp only [zds] at h8
   refine qM ?_;refine qC ?_;refine qN ?_;refine qC ?_;refine qC ?_;refine qB ?_;refine qK rfl (fun h10=>?_) (fun h10=>?_)
   ·try simp only [zbq] at h10
    try simp only [zds] at h10
    cases h10
   ·skip
    refine qM ?_;refine qC ?_;refine qC ?_;refine qB ?_;refine qC ?_;refine qB ?_;refine zai (fun h=>trivial) ?_;refine zai (fun h=>⟨⟨h,trivial⟩,trivial⟩) ?_;refine zai (by exact fun h=>h) ?_;refine qK rfl (fun h20=>?_) (fun h20=>?_)
    ·try simp only [decide_eq_false_iff_not,Bool.and_eq_true,Bool.not_eq_true'] at h20
     try simp only [zds] at h20
     refine qC ?_;refine qB ?_;refine qL ?_;rfl
    ·try simp only [decide_eq_true_eq,Bool.not_eq_false',Bool.and_eq_false_iff] at h20
     try simp only [zds] at h20
     exact absurd (h20.resolve_left (fun e=>by cases e)) hn
  ·try simp only [decide_eq_false_iff_not,Int.not_lt] at h8
   try simp only [zds] at h8
   cases h8
theorem num_fault (at_ n : Int) (hn : n ≠ 0) : qQ Tryz.prog 11 [.one (errF at_ n)] (ii .i64 n):=by
  refine qR (rs:=[2]) Tryz.func11 rfl rfl rfl teOk rfl ?_;refine qC ?_;refine qB ?_;refine qC ?_;refine qC ?_;refine qB ?_;refine qN ?_;refine qU (fun (b : Bool)=>True) (fun (b : Bool)=>[(0,cond b (.one (errN n)) (.one (errF at_ n))),(7,ii .i64 (cond b 1 0))]) (fun (b : Bool)=>[]) 0 (fun (b : Bool)=>cond b 0 1) false (trivial) (qP ⟨rfl,rfl⟩ trivial rfl) ?_;intro b hI0;refine qC ?_;cases b
  ·refine qB ?_;refine qC ?_;refine qK rfl (fun h8=>?_) (fun h8=>?_)
   ·try simp only [decide_eq_true_eq] at h8
    try simp only [zds] at h8
    refine qM ?_;refine qC ?_;refine qN ?_;refine qC ?_;refine qC ?_;refine qB ?_;refine qK rfl (fun h10=>?_) (fun h10=>?_)
    ·try simp only [zbq] at h10
     try simp only [zds] at h10
     cases h10
    ·skip
     refine qM ?_;refine qC ?_;refine qC ?_;refine qB ?_;refine qC ?_;refine qB ?_;refine zai (fun h=>trivial) ?_;refine zai (fun h=>⟨⟨h,trivial⟩,trivial⟩) ?_;refine zai (by exact fun h=>h) ?_;refine qK rfl (fun h20=>?_) (fun h20=>?_)
     ·try simp only [decide_eq_false_iff_not,Bool.and_eq_true,Bool.not_eq_true'] at h20
      try simp only [zds] at h20
      exact absurd h20.1 (by decide)
     ·try simp only [decide_eq_true_eq,Bool.not_eq_false',Bool.and_eq_false_iff] at h20
      try simp only [zds] at h20
      refine qM ?_;refine qC ?_;refine qB ?_;refine qC ?_;refine qC ?_;refine qB ?_;refine zai (fun h=>trivial) ?_;refine zai (fun h=>⟨⟨h,trivial⟩,trivial⟩) ?_;refine zai (by first|(intro h;rw [h];rfl)|(intro h;cases h)) ?_;refine zai (fun h=>trivial) ?_;refine zai (fun h=>⟨⟨h,trivial⟩,trivial⟩) ?_;refine zai (fun h=>⟨⟨h,trivial⟩,trivial⟩) ?_;refine zai (fun h=>⟨⟨h,trivial⟩,trivial⟩) ?_;refine zai (fun h=>⟨⟨h,trivial⟩,trivial⟩) ?_;refine zai (by first|(intro h;rw [h];rfl)|(intro h;cases h)) ?_;refine qK rfl (fun h39=>?_) (fun h39=>?_)
      ·try simp only [Bool.not_eq_true',Bool.or_eq_true] at h39
       try simp only [zds] at h39
       exact absurd h39 (by decide)
      ·try simp only [Bool.not_eq_false',Bool.or_eq_false_iff] at h39
       try simp only [zds] at h39
       refine qM ?_;refine qB ?_;refine qB ?_;refine zai (by first|omega|assumption|decide|(simp only [zds];omega)|(simp <;> omega)) ?_;exact ⟨true,trivial,by decide,qP ⟨rfl,rfl⟩ trivial rfl⟩
   ·try simp only [decide_eq_false_iff_not,Int.not_lt] at h8
    try simp only [zds] at h8
    exact absurd h8 (by decide)
  ·refine qB ?_;refine qC ?_;refine qK rfl (fun h8=>?_) (fun h8=>?_)
   ·try simp only [decide_eq_true_eq] at h8
    try simp only [zds] at h8
    refine qM ?_;refine qC ?_;refine qN ?_;refine qC ?_;refine qC ?_;refine qB ?_;refine qK rfl (fun h10=>?_) (fun h10=>?_)
    ·try simp only [zbq] at h10
     try simp only [zds] at h10
     cases h10
    ·skip
     refine qM ?_;refine qC ?_;refine qC ?_;refine qB ?_;refine qC ?_;refine qB ?_;refine zai (fun h=>trivial) ?_;refine zai (fun h=>⟨⟨h,trivial⟩,trivial⟩) ?_;refine zai (by exact fun h=>h) ?_;refine qK rfl (fun h20=>?_) (fun h20=>?_)
     ·try simp only [decide_eq_false_iff_not,Bool.and_eq_true,Bool.not_eq_true'] at h20
      try simp only [zds] at h20
      refine qC ?_;refine qB ?_;refine qL ?_;rfl
     ·try simp only [decide_eq_true_eq,Bool.not_eq_false',Bool.and_eq_false_iff] at h20
      try simp only [zds] at h20
      exact absurd (h20.resolve_left (fun e=>by cases e)) hn
   ·try simp only [decide_eq_false_iff_not,Int.not_lt] at h8
    try simp only [zds] at h8
    exact absurd h8 (by decide)
end Q
end Ab
end Go.Proofs.YtehmiepjeffloaaGreatDoor
namespace Go.Proofs.YtehmiepjeffloaaGreatDoor
open Go.RowKit
namespace Ab
set_option maxRecDepth 100000
namespace Q
def LinesOk (l : List ByteArray) : Prop:=l.length ≤ 1000000 ∧ (l.map (·.size)).sum ≤ 100000000
theorem sum_mem {l : List ByteArray} {s : ByteArray} (h : s ∈ l) : s.size ≤ (l.map (·.size)).sum:=by
  induction l with
  | nil=>cases h
  | cons a r ih =>
    rw [List.map_cons,List.sum_cons];rcases List.mem_cons.1 h with rfl|h
    · omega
    · have:=ih h;omega
def unfA (l : List ByteArray) : A:=if (yG (l.map ls)).2 = 0 then .tup [(true,[.lit (.string (bytes (yG (l.map ls)).1.1)),.lit (.string (bytes (yG (l.map ls)).1.2))]),(false,[.lit .nilIface])]
  else .tup [(true,[.lit (.string ⟨#[]⟩),.lit (.string ⟨#[]⟩)]),(false,[errN (yG (l.map ls)).2])]
theorem unfA_bad {l : List ByteArray} {n : Int} (h : (yG (l.map ls)).2 = n) (hn : n ≠ 0) : unfA l = .tup [(true,[.lit (.string ⟨#[]⟩),.lit (.string ⟨#[]⟩)]),(false,[errN n])]:=by
  unfold unfA;rw [if_neg (by rw [h];exact hn),h]
theorem unfA_ok {l : List ByteArray} {k v : List UInt8} (h : yG (l.map ls) = ((k,v),0)) : unfA l = .tup [(true,[.lit (.string (bytes k)),.lit (.string (bytes v))]),(false,[.lit .nilIface])]:=by
  unfold unfA;rw [if_pos (by rw [h]),h]
theorem trimP_len (s p : List UInt8) : (Lib.trimPrefix s p).length ≤ s.length:=by
  unfold Lib.trimPrefix;split
  · rw [List.length_drop];omega
  · exact Nat.le_refl _
theorem joinL_len (c : UInt8) : ∀ l : List (List UInt8),(Lib.join l [c]).length ≤ (l.map (·.length)).sum + l.length
  | []=>by simp [Lib.join]
  | [a]=>by rw [Lib.join_one];simp
  | a :: b :: r=>by
    have:=joinL_len c (b :: r);rw [join_two];simp only [List.length_append,List.length_cons,List.length_nil,List.map_cons,List.sum_cons] at this ⊢;omega
theorem map_sum_le {α : Type} (f g : α → Nat) : ∀ l : List α,(∀ x ∈ l,f x ≤ g x) → (l.map f).sum ≤ (l.map g).sum
  | [],_=>Nat.le_refl _
  | a :: r,h=>by
    simp only [List.map_cons,List.sum_cons];have:=h a (by simp);have:=map_sum_le f g r fun x hx=>h x (by simp [hx])
    omega
def moreB (s : ByteArray) : ByteArray:=bytes (Lib.trimPrefix (s.data.toList.drop 1) [46])
def firstB (s : ByteArray) : ByteArray:=bytes (Lib.trimPrefix (Lib.cut s.data.toList [58]).2.1 [32])
theorem value_join (s : ByteArray) (r : List ByteArray) : Lib.join ((firstB s :: r.map moreB).map (·.data.toList)) [10] = valueL (ls s) (r.map ls):=by
  unfold valueL firstB moreB;rw [List.map_cons,qT,List.map_map,List.map_map]
  congr 2
theorem value_len (s : ByteArray) (r : List ByteArray) : (valueL (ls s) (r.map ls)).length ≤ s.size + (r.map (·.size)).sum + r.length + 1:=by
  unfold valueL;refine Nat.le_trans (joinL_len 10 _) ?_;rw [List.map_cons,List.sum_cons,List.length_cons,List.map_map,List.map_map,List.length_map,List.length_map];have h1:=trimP_len (Lib.cut (ls s) [58]).2.1 [32];have h2:=(cut_len (ls s) [58]).2;have h3 : s.size = (ls s).length:=qW s;have h4:=map_sum_le (((fun l : List UInt8=>l.length) ∘ (fun s : List UInt8=>Lib.trimPrefix (s.drop 1) [46])) ∘ ls) (fun s : ByteArray=>s.size) r fun x _=>by
    have h5:=trimP_len ((ls x).drop 1) [46];have h6 : x.size = (ls x).length:=qW x;simp only [Function.comp];rw [List.length_drop] at h5;omega
  omega
theorem cutL_ok {l : List UInt8} (h : (cutL l).2.2 = true) : yS l = 4 ∧ cutL l = Lib.cut l [58] ∧ keyOk (Lib.cut l [58]).1 = true:=by
  unfold cutL at h ⊢;split
  · rename_i h4;refine ⟨h4,rfl,?_⟩;have:=h4;unfold yS at this;split at this
    · cases this
    · split at this
      · cases this
      · split at this
        · cases this
        · split at this
          · cases this
          · split at this
            · rename_i h5;rw [Bool.and_eq_true] at h5;exact h5.2
            · cases this
  · rename_i h4;rw [if_neg h4] at h;cases h
theorem cutL_no {l : List UInt8} (h : (cutL l).2.2 = false) : yS l ≠ 4:=fun h4=>by
  unfold cutL at h;rw [if_pos h4] at h;unfold yS at h4;split at h4
  · cases h4
  · split at h4
    · cases h4
    · split at h4
      · cases h4
      · split at h4
        · cases h4
        · split at h4
          · rename_i h5;rw [Bool.and_eq_true] at h5;rw [h] at h5;cases h5.1
          · cases h4
theorem kind3_pos {l : List UInt8} (h : yS l = 3) : 1 ≤ l.length:=by
  cases l with
  | nil=>cases h
  | cons a r=>simp
theorem unf_form {s : ByteArray} {r : List ByteArray} (h : yS (ls s) ≠ 4 ∨ ∃ x ∈ r,yS (ls x) ≠ 3) : (yG ((s :: r).map ls)).2 = 2:=by
  rw [List.map_cons,yG,if_pos];rcases h with h|⟨x,hx,h⟩
  · exact .inl h
  · exact .inr (List.any_eq_true.2 ⟨ls x,List.mem_map.2 ⟨x,hx,rfl⟩,by rw [decide_eq_false h];rfl⟩)
theorem unf_good {s : ByteArray} {r : List ByteArray} (h : yS (ls s) = 4) (hr : ∀ x ∈ r,yS (ls x) = 3) : yG ((s :: r).map ls) = if 1000 < (valueL (ls s) (r.map ls)).length then (([],[]),6) else (((Lib.cut (ls s) [58]).1,valueL (ls s) (r.map ls)),0):=by
  rw [List.map_cons,yG,if_neg]
  rintro (h1|h1)
  · exact h1 h
  · obtain ⟨x,hx,h2⟩:=List.any_eq_true.1 h1;obtain ⟨y,hy,rfl⟩:=List.mem_map.1 hx;rw [hr y hy] at h2;exact absurd h2 (by decide)
theorem lcut_v (s : ByteArray) (c : List UInt8 × List UInt8 × Bool) (hc : cutL s.data.toList = c) (hs : s.size ≤ 1000000000) : qQ Tryz.prog 125 [is s] (cutA c):=by
  subst hc;exact lcut_c s hs
theorem drop_size (s : ByteArray) (n : Nat) : (s.extract n s.size).data.toList = s.data.toList.drop n:=by
  rw [extract_ls,List.take_of_length_le (by rw [List.length_drop,qW];omega)]
theorem more_eq (s : ByteArray) : (⟨(Lib.trimPrefix (s.extract (Int.toNat 1) (s.size : Int).toNat).data.toList ({ data:=#[46] } : ByteArray).data.toList).toArray⟩ : ByteArray) = moreB s:=by
  rw [Int.toNat_natCast,show Int.toNat 1 = 1 from rfl,drop_size];rfl
theorem join_v (s : ByteArray) (r : List ByteArray) (h : LinesOk (s :: r)) : qQ Tryz.prog 78 [.one (.sl .str (firstB s :: r.map moreB)),is ⟨#[10]⟩] (is (bytes (valueL (ls s) (r.map ls)))):=by
  have h1:=h.1;have h2:=h.2;simp only [List.length_cons,List.map_cons,List.sum_cons] at h1 h2;have hv:=value_len s r;have:=join_c (firstB s :: r.map moreB) ⟨#[10]⟩ (by simp only [List.length_cons,List.length_map];omega) (by rw [show (⟨#[10]⟩ : ByteArray).data.toList = [10] from rfl,value_join];omega);rw [show (⟨#[10]⟩ : ByteArray).data.toList = [10] from rfl,value_join] at this;exact this
theorem check_kv (k v : List UInt8) (hk : keyOk k = true) : yV (bytes k,bytes v) = if 1000 < v.length then 6 else 0:=by
  unfold yV;rw [if_pos (by rw [qT];exact hk),qX]
theorem unfold_c (s0 : ByteArray) (r : List ByteArray) (hl : LinesOk (s0 :: r)) : qQ Tryz.prog 106 [.one (.sl .str (s0 :: r))] (unfA (s0 :: r)):=by
  obtain ⟨l,hl0⟩ : ∃ l,s0 :: r = l:=⟨_,rfl⟩;rw [hl0] at hl ⊢;have hsz : ∀ x ∈ l,x.size ≤ 100000000:=fun x hx=>Nat.le_trans (sum_mem hx) hl.2
  have hll:=hl.1;have hd : l.drop 1 = r:=by rw [← hl0];rfl
  have h0 : l.getD 0 ByteArray.empty = s0:=by rw [← hl0];rfl
  have hs0 : s0.size ≤ 100000000:=hsz _ (by rw [← hl0];simp);obtain ⟨c,hc⟩ : ∃ c,cutL s0.data.toList = c:=⟨_,rfl⟩;have hlen : l.length = r.length + 1:=by rw [← hl0];rfl
  have hdl : (l.drop 1).length = l.length - 1:=List.length_drop;refine acall_ofc (rs:=[.cell 2 66,.tmp 3]) Tryz.func106 rfl rfl rfl teOk rfl ?_;refine qC ?_;refine qB ?_;refine qC ?_;refine qC ?_;refine qB ?_;intro l1_1
  try simp only [zds] at l1_1
  refine qK rfl (fun h14=>?_) (fun h14=>?_)
  ·try simp only [decide_eq_true_eq] at h14
   try simp only [zds] at h14
   exfalso;omega
  ·try simp only [decide_eq_false_iff_not] at h14
   try simp only [zds] at h14
   refine qM ?_;refine qC ?_;refine qB ?_;refine zai (by first|omega|assumption|decide|(simp only [zds];omega)|(simp <;> omega)) ?_;refine Or.inl ?_;refine zai (rfl) ?_;refine zei _ (zai ((lcut_v (l.getD 0 ByteArray.empty) c (by rw [h0];exact hc) (by rw [h0];omega))) ?_);refine qC ?_;refine qC ?_;refine qB ?_;refine qK rfl (fun h26=>?_) (fun h26=>?_)
   ·try simp only [Bool.not_eq_true'] at h26
    try simp only [zds] at h26
    refine qC ?_;refine qB ?_;refine qL ?_;rw [unfA_bad (n:=2) (by rw [← hl0];exact unf_form (.inl (cutL_no (by rw [show ls s0 = s0.data.toList from rfl,hc];exact h26)))) (by decide)];rfl
   ·try simp only [Bool.not_eq_false'] at h26
    try simp only [zds] at h26
    have hco : (cutL s0.data.toList).2.2 = true:=by rw [hc];exact h26
    obtain ⟨hk4,hcc,hko⟩:=cutL_ok hco;have hcl : c = Lib.cut s0.data.toList [58]:=by rw [← hc,hcc]
    refine qM ?_;refine qC ?_;refine qB ?_;refine Or.inl ?_;refine zai (rfl) ?_;refine zei _ (zai (trimPrefix_c _ _) ?_);refine qC ?_;refine qC ?_;refine qB ?_;refine zai (by first|omega|assumption|decide|(simp only [zds];omega)|(simp <;> omega)) ?_;intro l7_2
    try simp only [zds] at l7_2
    refine qN ?_;refine qU (fun (i : Nat)=>i ≤ (l.drop 1).length ∧ ∀ x ∈ (l.drop 1).take i,yS (ls x) = 3) (fun (i : Nat)=>[(2,.one (.own 0 0)),(4,is (bytes c.1)),(7,.one (.vec 1)),(33,.one (.sl .str (l.drop 1))),(34,ii .i64 (l.drop 1).length),(35,ii .i64 i)]) (fun (i : Nat)=>[(0,.box 66 [.lit (.string ⟨#[]⟩),.lit (.string ⟨#[]⟩)]),(1,.vec 9 .str (firstB s0 :: ((l.drop 1).take i).map moreB))]) 2 (fun (i : Nat)=>(l.drop 1).length - i) 0 (⟨Nat.zero_le _,by simp⟩) (qP ⟨rfl,rfl,rfl,rfl,rfl,rfl⟩ ⟨rfl,(yA (by rw [List.take_zero,List.map_nil,qT,hcl];rfl))⟩ rfl) ?_;intro i hI0;obtain ⟨hi,hall⟩:=hI0;refine qC ?_;refine qB ?_;refine qC ?_;refine qK rfl (fun h36=>?_) (fun h36=>?_)
    ·try simp only [decide_eq_true_eq] at h36
     try simp only [zds] at h36
     have hlt : i < (l.drop 1).length:=by omega
     have hm:=List.mem_of_mem_drop (yL hlt ByteArray.empty);have hms:=hsz _ hm;refine qM ?_;refine qC ?_;refine qN ?_;refine qC ?_;refine qB ?_;refine zai (by first|omega|assumption|decide|(simp only [zds];omega)|(simp <;> omega)) ?_;refine qC ?_;refine qC ?_;refine qB ?_;refine Or.inl ?_;refine zai (rfl) ?_;refine zei _ (zai (kind_c ((l.drop 1).getD i ByteArray.empty) (by omega)) ?_);refine qK rfl (fun h41=>?_) (fun h41=>?_)
     ·try simp only [decide_eq_false_iff_not,Bool.not_eq_true'] at h41
      try simp only [zds] at h41
      refine qC ?_;refine qB ?_;refine qL ?_;rw [unfA_bad (n:=2) (by rw [← hl0];exact unf_form (.inr ⟨_,by rw [← hd];exact yL hlt ByteArray.empty,h41⟩)) (by decide)];rfl
     ·try simp only [decide_eq_true_eq,Bool.not_eq_false'] at h41
      try simp only [zds] at h41
      have h1:=kind3_pos h41;have hz:=qW ((l.drop 1).getD i ByteArray.empty);refine qM ?_;refine qB ?_;refine zai (by first|omega|assumption|decide|(simp only [Int.toNat_natCast,qE];omega)|(simp <;> omega)) ?_;refine Or.inl ?_;refine zai (rfl) ?_;refine zei _ (zai (trimPrefix_c _ _) ?_);refine zai (by first|exact qS (by first|omega|(simp only [List.length_cons,List.length_nil,List.length_map,List.length_take,List.length_drop];omega)|(simp;omega)) (by decide)|omega|assumption|decide|(simp only [zds];omega)|(simp <;> omega)) ?_;refine qB ?_;refine zai (by first|omega|assumption|decide|(simp only [zds];omega)|(simp <;> omega)) ?_;exact ⟨i + 1,⟨by omega,by rw [← yT ByteArray.empty hlt];intro f hf;rcases List.mem_append.1 hf with h|h;exact hall f h;rw [List.mem_singleton.1 h];exact h41⟩,by first|omega|(simp <;> omega),qP ⟨rfl,rfl,rfl,rfl,rfl,(yM (by omega))⟩ ⟨rfl,(yA (map_next moreB ByteArray.empty hlt _ (more_eq _) [_]))⟩ rfl⟩
    ·try simp only [decide_eq_false_iff_not,Int.not_lt] at h36
     try simp only [zds] at h36
     rw [List.take_of_length_le (by omega)] at hall ⊢;rw [hd] at hall ⊢;refine yC ?_;refine qC ?_;refine qB ?_;refine Or.inl ?_;refine zai (rfl) ?_;refine zei _ (zai (join_v s0 r (by rw [hl0];exact hl)) ?_);refine qC ?_;refine qC ?_
     by_cases hv : 1000 < (valueL (ls s0) (r.map ls)).length
     ·refine qB ?_;refine Or.inl ?_;refine zai (rfl) ?_;refine zei _ (zai ((check_v (bytes c.1,bytes (valueL (ls s0) (r.map ls))) 6 (by rw [qX];have:=(cut_len s0.data.toList [58]).1;rw [hcl];rw [qW] at hs0;omega) (by rw [check_kv _ _ (by rw [hcl];exact hko),if_pos hv]) : qQ _ _ _ (.one (errN 6)))) ?_);refine qC ?_;refine qB ?_;refine qK rfl (fun h58=>?_) (fun h58=>?_)
      ·skip
       refine qC ?_;refine qB ?_;refine qL ?_;rw [unfA_bad (n:=6) (by rw [← hl0,unf_good hk4 hall,if_pos hv]) (by decide)];rfl
      ·try simp only [zbq] at h58
       try simp only [zds] at h58
       cases h58
     ·refine qB ?_;refine Or.inl ?_;refine zai (rfl) ?_;refine zei _ (zai ((check_v (bytes c.1,bytes (valueL (ls s0) (r.map ls))) 0 (by rw [qX];have:=(cut_len s0.data.toList [58]).1;rw [hcl];rw [qW] at hs0;omega) (by rw [check_kv _ _ (by rw [hcl];exact hko),if_neg hv]) : qQ _ _ _ (.one (.lit .nilIface)))) ?_);refine qC ?_;refine qB ?_;refine qK rfl (fun h58=>?_) (fun h58=>?_)
      ·try simp only [Bool.not_eq_true'] at h58
       try simp only [zds] at h58
       cases h58
      ·try simp only [Bool.not_eq_false'] at h58
       try simp only [zds] at h58
       refine qM ?_;refine qC ?_;refine qB ?_;refine qL ?_;rw [unfA_ok (k:=c.1) (v:=valueL (ls s0) (r.map ls)) (by rw [← hl0,unf_good hk4 hall,if_neg hv,hcl])];rfl
end Q
end Ab
end Go.Proofs.YtehmiepjeffloaaGreatDoor
namespace Go.Proofs.YtehmiepjeffloaaGreatDoor
open Go.RowKit
namespace Ab
set_option maxRecDepth 100000
namespace Q
theorem unfold_e : qQ Tryz.prog 106 [.one (.sl .str [])] (unfA []):=by
  refine acall_ofc (rs:=[.cell 2 66,.tmp 3]) Tryz.func106 rfl rfl rfl teOk rfl ?_;refine qC ?_;refine qB ?_;refine qC ?_;refine qC ?_;refine qB ?_;intro l1_1
  try simp only [zds] at l1_1
  refine qK rfl (fun h14=>?_) (fun h14=>?_)
  ·try simp only [decide_eq_true_eq] at h14
   try simp only [zds] at h14
   refine qC ?_;refine qB ?_;refine qL ?_;rfl
  ·try simp only [decide_eq_false_iff_not] at h14
   try simp only [zds] at h14
   exact absurd rfl h14
theorem unfold_a (l : List ByteArray) (hl : LinesOk l) : qQ Tryz.prog 106 [.one (.sl .str l)] (unfA l):=by
  cases l with
  | nil=>exact unfold_e
  | cons s r=>exact unfold_c s r hl
theorem kind4_key {l : List UInt8} (h4 : yS l = 4) : 10 ∉ l ∧ ((Lib.cut l [58]).2.2 && keyOk (Lib.cut l [58]).1) = true:=by
  unfold yS at h4;split at h4
  · cases h4
  · rename_i h10;refine ⟨h10,?_⟩;split at h4
    · cases h4
    · split at h4
      · cases h4
      · split at h4
        · cases h4
        · split at h4
          · rename_i h5;exact h5
          · cases h4
theorem unf_cases (L : List (List UInt8)) : (∃ n,(n = 2 ∨ n = 6) ∧ yG L = (([],[]),n)) ∨ ∃ k v,yG L = ((k,v),0) ∧ keyOk k = true ∧ v.length ≤ 1000:=by
  cases L with
  | nil=>exact .inl ⟨2,.inl rfl,rfl⟩
  | cons a r =>
    rw [yG];split
    · exact .inl ⟨2,.inl rfl,rfl⟩
    · rename_i h1;split
      · exact .inl ⟨6,.inr rfl,rfl⟩
      · rename_i h2;have h4 : yS a = 4:=Classical.not_not.1 fun h=>h1 (.inl h)
        have:=(kind4_key h4).2;rw [Bool.and_eq_true] at this;exact .inr ⟨_,_,rfl,this.2,by omega⟩
theorem unfold_bad (l : List ByteArray) (hl : LinesOk l) {n : Int} (h : yG (l.map ls) = (([],[]),n)) (hn : n = 2 ∨ n = 6) : qQ Tryz.prog 106 [.one (.sl .str l)] (.tup [(true,[.lit (.string ⟨#[]⟩),.lit (.string ⟨#[]⟩)]),(false,[errN n])]):=by
  have:=unfold_a l hl;rw [unfA_bad (n:=n) (by rw [h]) (by rcases hn with rfl|rfl <;> decide)] at this;exact this
theorem unfold_ok (l : List ByteArray) (hl : LinesOk l) {k v : List UInt8} (h : yG (l.map ls) = ((k,v),0)) : qQ Tryz.prog 106 [.one (.sl .str l)] (.tup [(true,[.lit (.string (bytes k)),.lit (.string (bytes v))]),(false,[.lit .nilIface])]):=by
  have:=unfold_a l hl;rw [unfA_ok h] at this;exact this
def plainL (l : List ByteArray) : Bool:=decide ((yG (l.map ls)).2 = 0) && decide (lineB (bytes (yG (l.map ls)).1.1) (bytes (yG (l.map ls)).1.2) = l)
def refUnfA (l : List ByteArray) : A:=.tup [(true,[.lit (.string (bytes (yG (l.map ls)).1.1)),.lit (.string (bytes (yG (l.map ls)).1.2))]),(false,[.lit (.int .i64 (yG (l.map ls)).2)])]
end Q
end Ab
end Go.Proofs.YtehmiepjeffloaaGreatDoor
namespace Go.Proofs.YtehmiepjeffloaaGreatDoor
open Go.RowKit
namespace Ab
set_option maxRecDepth 100000
namespace Q
theorem index_CS (f : FuncId) (l : List ByteArray) (p : ByteArray → Bool) (hp : ∀ x ∈ l,qQ Tryz.prog f [is x] (ib (p x))) : qQ Tryz.prog 90 [.one (.sl .str l),.one (.lit (.func (.func f) #[] #[]))] (ii .i64 (ixOf p l)):=by
  refine qR (rs:=[4]) Tryz.func90 rfl rfl rfl teOk rfl ?_;refine qC ?_;refine qB ?_;refine qC ?_;refine qC ?_;refine qB ?_;intro l1_1
  try simp only [zds] at l1_1
  refine qN ?_;refine qU (fun (i : Nat)=>i ≤ l.length ∧ (l.take i).any p = false) (fun (i : Nat)=>[(0,.one (.sl .str l)),(1,.one (.lit (.func (.func f) #[] #[]))),(7,ii .i64 l.length),(8,ii .i64 i)]) (fun (i : Nat)=>[]) 0 (fun (i : Nat)=>l.length - i) 0 (⟨Nat.zero_le _,rfl⟩) (qP ⟨rfl,rfl,rfl,rfl⟩ trivial rfl) ?_;intro i hI0;obtain ⟨hi,hn⟩:=hI0;refine qC ?_;refine qB ?_;refine qC ?_;refine qK rfl (fun h9=>?_) (fun h9=>?_)
  ·try simp only [decide_eq_true_eq] at h9
   try simp only [zds] at h9
   refine qM ?_;refine qC ?_;refine qN ?_;refine qC ?_;refine qB ?_;refine qC ?_;refine qB ?_;refine zai (by first|omega|assumption|decide|(simp only [zds];omega)|(simp <;> omega)) ?_;refine Or.inl ?_;refine zai (rfl) ?_;refine zei _ (zai (hp _ (yL (show i < l.length by omega) _)) ?_);refine qK rfl (fun h16=>?_) (fun h16=>?_)
   ·try simp only [zbq] at h16
    try simp only [Int.toNat_natCast,qE] at h16
    refine qC ?_;refine qB ?_;refine qL ?_;exact yM (ixOf_at Rd.str.dflt (by omega) hn h16).symm
   ·try simp only [zbq] at h16
    try simp only [Int.toNat_natCast,qE] at h16
    refine qM ?_;refine qB ?_;refine zai (by first|omega|assumption|decide|(simp only [zds];omega)|(simp <;> omega)) ?_;exact ⟨i + 1,⟨by omega,by rw [take_any l p Rd.str.dflt i (by omega),hn];exact h16⟩,by first|omega|(simp <;> omega),qP ⟨rfl,rfl,rfl,rfl⟩ trivial rfl⟩
  ·try simp only [decide_eq_false_iff_not,Int.not_lt] at h9
   try simp only [zds] at h9
   refine yC ?_;refine qC ?_;refine qB ?_;refine qL ?_;have e : i = l.length:=by omega
   subst e;rw [List.take_length] at hn;exact yM (ixOf_none hn).symm
theorem contains_CS (f : FuncId) (l : List ByteArray) (p : ByteArray → Bool) (hp : ∀ x ∈ l,qQ Tryz.prog f [is x] (ib (p x))) : qQ Tryz.prog 59 [.one (.sl .str l),.one (.lit (.func (.func f) #[] #[]))] (ib (l.any p)):=by
  refine qR (rs:=[4]) Tryz.func59 rfl rfl rfl teOk rfl ?_;refine qC ?_;refine qB ?_;refine qC ?_;refine qB ?_;refine Or.inl ?_;refine zai (rfl) ?_;refine zei _ (zai (index_CS f l p hp) ?_);refine qL ?_;exact xH (ixOf_ge p l)
def keysOk (keys : List ByteArray) : Bool:=keys.all fun k=>keyOk (ls k)
theorem shgood1_c (k : ByteArray) (hk : k.size ≤ 1000000000) : qQ Tryz.prog 60 [is k] (ib (!keyOk (ls k))):=by
  refine qR (rs:=[2]) Tryz.func60 rfl rfl rfl teOk rfl ?_;refine qC ?_;refine qB ?_;refine qC ?_;refine qB ?_;refine Or.inl ?_;refine zai (rfl) ?_;refine zei _ (zai (key_c k hk) ?_);refine qL ?_;rfl
theorem keys_any (keys : List ByteArray) : (keys.any fun k=>!keyOk (ls k)) = !keysOk keys:=by
  unfold keysOk;rw [List.all_eq_not_any_not,Bool.not_not]
theorem shgood_yes (keys : List ByteArray) (hz : ∀ k ∈ keys,k.size ≤ 1000000000) (h : keysOk keys = true) : qQ Tryz.prog 30 [.one (.sl .str keys)] (.one (.lit .nilIface)):=by
  refine qR (rs:=[2]) Tryz.func30 rfl rfl rfl teOk rfl ?_;refine qC ?_;refine qB ?_;refine qC ?_;refine qC ?_;refine qB ?_;refine Or.inl ?_;refine zai (rfl) ?_;refine zei _ (zai (contains_CS _ _ (fun k=>!keyOk (ls k)) (fun x hx=>shgood1_c x (hz x hx))) ?_);refine qK rfl (fun h4=>?_) (fun h4=>?_)
  ·try simp only [zbq] at h4
   try simp only [zds] at h4
   rw [keys_any,h] at h4;cases h4
  ·try simp only [zbq] at h4
   try simp only [zds] at h4
   refine qM ?_;refine qC ?_;refine qB ?_;refine qL ?_;rfl
theorem shgood_not (keys : List ByteArray) (hz : ∀ k ∈ keys,k.size ≤ 1000000000) (h : keysOk keys = false) : qQ Tryz.prog 30 [.one (.sl .str keys)] (.one (errN 5)):=by
  refine qR (rs:=[2]) Tryz.func30 rfl rfl rfl teOk rfl ?_;refine qC ?_;refine qB ?_;refine qC ?_;refine qC ?_;refine qB ?_;refine Or.inl ?_;refine zai (rfl) ?_;refine zei _ (zai (contains_CS _ _ (fun k=>!keyOk (ls k)) (fun x hx=>shgood1_c x (hz x hx))) ?_);refine qK rfl (fun h4=>?_) (fun h4=>?_)
  ·try simp only [zbq] at h4
   try simp only [zds] at h4
   refine qC ?_;refine qB ?_;refine qL ?_;rfl
  ·try simp only [zbq] at h4
   try simp only [zds] at h4
   rw [keys_any,h] at h4;cases h4
theorem refGoods_c (keys : List ByteArray) (hz : ∀ k ∈ keys,k.size ≤ 1000000000) : qQ Tryz.prog 34 [.one (.sl .str keys)] (ib (keysOk keys)):=by
  refine qR (rs:=[2]) Tryz.func34 rfl rfl rfl teOk rfl ?_;refine qC ?_;refine qB ?_;refine qC ?_;refine qC ?_;refine qB ?_;refine qN ?_;refine qU (fun (i : Nat)=>i ≤ keys.length ∧ (keys.take i).any (fun k=>!keyOk (ls k)) = false) (fun (i : Nat)=>[(0,.one (.sl .str keys)),(3,ii .i64 i)]) (fun (i : Nat)=>[]) 0 (fun (i : Nat)=>keys.length - i) 0 (⟨Nat.zero_le _,rfl⟩) (qP ⟨rfl,rfl⟩ trivial rfl) ?_;intro i hI0;obtain ⟨hi,hn⟩:=hI0;refine qC ?_;refine qC ?_;refine qB ?_;intro l2_2
  try simp only [zds] at l2_2
  refine qK rfl (fun h7=>?_) (fun h7=>?_)
  ·try simp only [decide_eq_true_eq] at h7
   try simp only [zds] at h7
   have hil : i < keys.length:=by omega
   refine qM ?_;refine qC ?_;refine qN ?_;refine qC ?_;refine qB ?_;refine zai (by first|omega|assumption|decide|(simp only [zds];omega)|(simp <;> omega)) ?_;refine Or.inl ?_;refine zai (rfl) ?_;refine zei _ (zai (refKey_c _ (hz _ (yL hil _))) ?_);refine qK rfl (fun h15=>?_) (fun h15=>?_)
   ·try simp only [Bool.not_eq_true'] at h15
    try simp only [Int.toNat_natCast,qE] at h15
    refine qC ?_;refine qB ?_;refine qL ?_;refine xH ?_;have h2:=any_at (p:=fun k=>!keyOk (ls k)) ByteArray.empty (show i < keys.length by omega) (by show (!keyOk (ls (keys.getD i ByteArray.empty))) = true;rw [show keyOk (ls (keys.getD i ByteArray.empty)) = false from h15];rfl);rw [keys_any] at h2
    simpa using h2.symm
   ·try simp only [Bool.not_eq_false'] at h15
    try simp only [Int.toNat_natCast,qE] at h15
    refine qM ?_;refine qB ?_;refine zai (by first|omega|assumption|decide|(simp only [zds];omega)|(simp <;> omega)) ?_;exact ⟨i + 1,⟨by omega,by rw [take_any keys _ ByteArray.empty i (by omega),hn];show (!keyOk (ls (keys.getD i ByteArray.empty))) = false;rw [show keyOk (ls (keys.getD i ByteArray.empty)) = true from h15];rfl⟩,by first|omega|(simp <;> omega),qP ⟨rfl,(yM (by omega))⟩ trivial rfl⟩
  ·try simp only [decide_eq_false_iff_not,Int.not_lt] at h7
   try simp only [zds] at h7
   refine yC ?_;refine qC ?_;refine qB ?_;refine qL ?_;refine xH ?_;have e : i = keys.length:=by omega
   subst e;rw [List.take_length,keys_any] at hn
   simpa using hn.symm
def fldsU (keys row : List ByteArray) (j : Nat) : List Fld:=((List.range j).map fun i=>(keys.getD i ByteArray.empty,row.getD i ByteArray.empty)).filter fun f=>!decide (f.2 = ⟨#[]⟩)
def fldsS (keys row : List ByteArray) : List Fld:=fldsU keys row row.length
theorem flds_yes (keys row : List ByteArray) (j : Nat) (h : ¬ row.getD j ByteArray.empty = ⟨#[]⟩) : fldsU keys row j ++ [(keys.getD j ByteArray.empty,row.getD j ByteArray.empty)] = fldsU keys row (j + 1):=by
  unfold fldsU;rw [List.range_succ,List.map_append,List.filter_append]
  congr 1
  rw [List.map_cons,List.map_nil,List.filter_cons,if_pos (by rw [decide_eq_false h];rfl)];rfl
theorem flds_not (keys row : List ByteArray) (j : Nat) (h : row.getD j ByteArray.empty = ⟨#[]⟩) : fldsU keys row j = fldsU keys row (j + 1):=by
  unfold fldsU;rw [List.range_succ,List.map_append,List.filter_append,List.map_cons,List.map_nil,List.filter_cons,if_neg (by rw [decide_eq_true h];decide),List.filter_nil,List.append_nil]
theorem flds_len (keys row : List ByteArray) (j : Nat) : (fldsU keys row j).length ≤ j:=by
  unfold fldsU;exact Nat.le_trans (List.length_filter_le _ _) (by simp)
theorem fieldsS_c (keys row : List ByteArray) (hl : row.length ≤ keys.length) (hr : row.length ≤ 1000000) : qQ Tryz.prog 45 [.one (.sl .str keys),.one (.sl .str row)] (.one (.sl rFld (fldsS keys row))):=by
  refine qR (rs:=[4]) Tryz.func45 rfl rfl rfl teOk rfl ?_;refine qC ?_;refine qB ?_;refine qC ?_;refine qB ?_;refine qC ?_;refine qC ?_;refine qV 5 66 rFld rfl ?_;refine qB ?_;intro l2_1
  try simp only [zds] at l2_1
  refine qN ?_;refine qU (fun (i : Nat)=>i ≤ row.length) (fun (i : Nat)=>[(0,.one (.sl .str keys)),(5,.one (.vec 0)),(8,.one (.sl .str row)),(9,ii .i64 row.length),(10,ii .i64 i)]) (fun (i : Nat)=>[(0,.vec 66 rFld (fldsU keys row i))]) 1 (fun (i : Nat)=>row.length - i) 0 (Nat.zero_le _) (qP ⟨rfl,rfl,rfl,rfl,rfl⟩ rfl rfl) ?_;intro i hI0;have hi:=hI0;have hfl:=flds_len keys row i;refine qC ?_;refine qB ?_;refine qC ?_;refine qK rfl (fun h11=>?_) (fun h11=>?_)
  ·try simp only [decide_eq_true_eq] at h11
   try simp only [zds] at h11
   have hil : i < row.length:=by omega
   refine qM ?_;refine qC ?_;refine qN ?_;refine qC ?_;refine qB ?_;refine zai (by first|omega|assumption|decide|(simp only [zds];omega)|(simp <;> omega)) ?_;refine qC ?_;refine qB ?_;refine qK rfl (fun h16=>?_) (fun h16=>?_)
   ·try simp only [decide_eq_false_iff_not,Bool.not_eq_true'] at h16
    try simp only [Int.toNat_natCast,qE] at h16
    refine qB ?_;refine zai (by first|omega|assumption|decide|(simp only [zds];omega)|(simp <;> omega)) ?_;refine zai (by first|exact qS (by first|omega|(simp only [List.length_cons,List.length_nil];omega)|(simp;omega)) (by decide)|omega|assumption|decide|(simp only [zds];omega)|(simp <;> omega)) ?_;refine qB ?_;refine zai (by first|omega|assumption|decide|(simp only [zds];omega)|(simp <;> omega)) ?_;exact ⟨i + 1,by omega,by first|omega|(simp <;> omega),qP ⟨rfl,rfl,rfl,rfl,(yM (by omega))⟩ (yA (flds_yes keys row i h16)) rfl⟩
   ·try simp only [decide_eq_true_eq,Bool.not_eq_false'] at h16
    try simp only [Int.toNat_natCast,qE] at h16
    refine qM ?_;refine qB ?_;refine zai (by first|omega|assumption|decide|(simp only [zds];omega)|(simp <;> omega)) ?_;exact ⟨i + 1,by omega,by first|omega|(simp <;> omega),qP ⟨rfl,rfl,rfl,rfl,(yM (by omega))⟩ (yA (flds_not keys row i h16)) rfl⟩
  ·try simp only [decide_eq_false_iff_not,Int.not_lt] at h11
   try simp only [zds] at h11
   refine yC ?_;refine qC ?_;refine qB ?_;refine qL ?_;refine sl_eq ?_;rw [show i = row.length by omega];rfl
end Q
end Ab
end Go.Proofs.YtehmiepjeffloaaGreatDoor
namespace Go.Proofs.YtehmiepjeffloaaGreatDoor
open Go.RowKit
namespace Ab
set_option maxRecDepth 100000
namespace Q
end Q
end Ab
end Go.Proofs.YtehmiepjeffloaaGreatDoor
namespace Go.Proofs.YtehmiepjeffloaaGreatDoor
open Go.RowKit
namespace Ab
set_option maxRecDepth 100000
abbrev Itm:=Int × ByteArray × List Fld
abbrev rItm : Rd Itm:=.st (.int .i64) (.st .str (.sl rFld))
abbrev Lne:=Int × Int × ByteArray × Bool
abbrev rLne : Rd Lne:=.st (.int .i64) (.st (.int .i64) (.st .str .bool))
namespace Q
structure PSt where
  lns : List ByteArray
  frm : Int
  full : Bool
  its : List Itm
  blk : List ByteArray
  flds : List Fld
  recs : Int
def xK (p : PSt) : (Int × Int) ⊕ PSt :=
  if p.lns = [] then .inr p
  else if (yG (p.lns.map ls)).2 ≠ 0 then .inl (p.frm,(yG (p.lns.map ls)).2)
  else if p.full = true then .inl (p.frm,11)
  else .inr { p with flds:=p.flds ++ [(bytes (yG (p.lns.map ls)).1.1,bytes (yG (p.lns.map ls)).1.2)],lns:=[] }
def rawB (blk : List ByteArray) : ByteArray:=bytes (Lib.join (blk.map (·.data.toList)) [10]) ++ ⟨#[10]⟩
def closeS (q : PSt) : PSt :=
  if q.blk = [] then { q with blk:=[],flds:=[] }
  else { q with its:=q.its ++ [((if q.flds = [] then 2 else 3 : Int),rawB q.blk,q.flds)],recs:=if q.flds = [] then q.recs else q.recs + 1,blk:=[],flds:=[] }
def endS (p : PSt) : (Int × Int) ⊕ PSt:=match xK p with
  | .inl e=>.inl e
  | .inr q=>.inr (closeS q)
def beginS (p : PSt) (l : Lne) : PSt:={ p with lns:=[l.2.2.1],frm:=l.1,full:=decide ((p.flds.length : Int) = 40) || (decide ((p.flds.length : Int) = 0) && decide (p.recs = 400)) }
def xO (p : PSt) (l : Lne) (kind : Int) : (Int × Int) ⊕ PSt :=
  if kind = 3 then
    if p.lns = [] then .inl (l.1,2)
    else if l.2.2.2 = true then .inr { p with lns:=p.lns ++ [l.2.2.1] }
    else xK { p with lns:=p.lns ++ [l.2.2.1] }
  else if kind = 1 then endS p
  else xK p
def lineS (q : PSt) (l : Lne) (kind : Int) : (Int × Int) ⊕ PSt :=
  if kind = 5 ∨ l.2.2.2 = false then .inl (l.1,2)
  else if kind = 1 then .inr { q with its:=q.its ++ [(1,l.2.2.1 ++ ⟨#[10]⟩,[])] }
  else if kind = 4 then .inr { beginS q l with blk:=q.blk ++ [l.2.2.1] }
  else .inr { q with blk:=q.blk ++ [l.2.2.1] }
def xF (p : PSt) (l : Lne) : (Int × Int) ⊕ PSt:=match xO p l (yS (ls l.2.2.1)) with
  | .inl e=>.inl e
  | .inr q=>lineS q l (yS (ls l.2.2.1))
structure PB (p : PSt) (B : Nat) : Prop where
  lns : p.lns.length ≤ B
  lnb : (p.lns.map (·.size)).sum ≤ B
  its : p.its.length ≤ B
  blk : p.blk.length ≤ B
  blb : (p.blk.map (·.size)).sum ≤ B
  flds : p.flds.length ≤ B
  rec0 : 0 ≤ p.recs
  recB : p.recs ≤ B
theorem PB.mono {p : PSt} {B B' : Nat} (h : PB p B) (hB : B ≤ B') : PB p B' :=
  ⟨by have:=h.lns;omega,by have:=h.lnb;omega,by have:=h.its;omega,by have:=h.blk;omega,by have:=h.blb;omega,by have:=h.flds;omega,h.rec0,by have:=h.recB;omega⟩
theorem flushS_B {p q : PSt} {B : Nat} (h : PB p B) (hf : xK p = .inr q) : PB q (B + 1):=by
  unfold xK at hf;split at hf
  · cases hf;exact h.mono (by omega)
  · split at hf
    · cases hf
    · split at hf
      · cases hf
      · cases hf;have:=h.flds;exact ⟨by simp,by simp,by have:=h.its;simp only;omega,by have:=h.blk;simp only;omega,by have:=h.blb;simp only;omega,by simp;omega,h.rec0,by have:=h.recB;simp only;omega⟩
theorem closeS_B {p : PSt} {B : Nat} (h : PB p B) : PB (closeS p) (B + 1):=by
  have h1:=h.lns;have h2:=h.lnb;have h3:=h.its;have h4:=h.rec0;have h5:=h.recB;unfold closeS;split
  · exact ⟨by simp only;omega,by simp only;omega,by simp only;omega,by simp,by simp,by simp,h4,by simp only;omega⟩
  · refine ⟨by simp only;omega,by simp only;omega,by simp;omega,by simp,by simp,by simp,?_,?_⟩
    · simp only;split <;> omega
    · simp only;split <;> omega
theorem endS_B {p q : PSt} {B : Nat} (h : PB p B) (hf : endS p = .inr q) : PB q (B + 2):=by
  unfold endS at hf;split at hf
  · cases hf
  · rename_i r e;cases hf;exact closeS_B (flushS_B h e)
theorem more_B {p : PSt} {B : Nat} (s : ByteArray) (h : PB p B) : PB { p with lns:=p.lns ++ [s] } (B + 1 + s.size):=by
  have h1:=h.lns;have h2:=h.lnb;have h3:=h.its;have h5:=h.recB;have h6:=h.blk;have h7:=h.blb;have h8:=h.flds;exact ⟨by simp;omega,by simp;omega,by simp only;omega,by simp only;omega,by simp only;omega,by simp only;omega,h.rec0,by simp only;omega⟩
theorem aheadS_B {p q : PSt} {B : Nat} {l : Lne} {k : Int} (h : PB p B) (hf : xO p l k = .inr q) : PB q (B + 2 + l.2.2.1.size):=by
  unfold xO at hf;split at hf
  · split at hf
    · cases hf
    · split at hf
      · cases hf;exact (more_B _ h).mono (by omega)
      · exact (flushS_B (more_B _ h) hf).mono (by omega)
  · split at hf
    · exact (endS_B h hf).mono (by omega)
    · exact (flushS_B h hf).mono (by omega)
theorem lineS_B {p q : PSt} {B : Nat} {l : Lne} {k : Int} (h : PB p B) (hs : l.2.2.1.size ≤ B) (_hB : 1 ≤ B) (hf : lineS p l k = .inr q) : PB q (B + 1 + l.2.2.1.size):=by
  have h1:=h.lns;have h2:=h.lnb;have h3:=h.its;have h5:=h.recB;have h6:=h.blk;have h7:=h.blb;have h8:=h.flds;unfold lineS at hf;split at hf
  · cases hf
  · split at hf
    · cases hf;exact ⟨by simp only;omega,by simp only;omega,by simp;omega,by simp only;omega,by simp only;omega,by simp only;omega,h.rec0,by simp only;omega⟩
    · split at hf
      · cases hf;exact ⟨by simp [beginS];omega,by simp [beginS],by simp only [beginS];omega,by simp;omega,by simp;omega,by simp only [beginS];omega,h.rec0,by simp only [beginS];omega⟩
      · cases hf;exact ⟨by simp only;omega,by simp only;omega,by simp only;omega,by simp;omega,by simp;omega,by simp only;omega,h.rec0,by simp only;omega⟩
theorem takeS_B {p q : PSt} {B : Nat} {l : Lne} (h : PB p B) (hf : xF p l = .inr q) : PB q (B + 3 + 2 * l.2.2.1.size):=by
  unfold xF at hf;split at hf
  · cases hf
  · rename_i r e;exact (lineS_B (aheadS_B h e) (by omega) (by omega) hf).mono (by omega)
def pst0 : PSt:=⟨[],0,false,[],[],[],0⟩
end Q
end Ab
end Go.Proofs.YtehmiepjeffloaaGreatDoor
namespace Go.Proofs.YtehmiepjeffloaaGreatDoor
open Go.RowKit
namespace Ab
set_option maxRecDepth 100000
namespace Q
theorem fault_c (at_ n : Int) : qQ Tryz.prog 84 [ii .i64 at_,.one (errN n)] (.one (errF at_ n)):=by
  refine qR (rs:=[4]) Tryz.func84 rfl rfl rfl teOk rfl ?_;refine qC ?_;refine qB ?_;refine qC ?_;refine qB ?_;refine qL ?_;rfl
def psO (p : PSt) : Obs:=[(0,.box 129 [.vec 1,.lit (.int .i64 p.frm),.lit (.bool p.full),.vec 2,.vec 3,.vec 4,.lit (.int .i64 p.recs)]),(1,.vec 9 .str p.lns),(2,.vec 81 rItm p.its),(3,.vec 9 .str p.blk),(4,.vec 66 rFld p.flds)]
theorem flush_nil (p : PSt) (h : p.lns = []) : yI Tryz.prog 86 [.one (.own 0 0)] (psO p) 5 (.one (.lit .nilIface)) (psO p) 5:=by
  refine yF (rs:=[2]) Tryz.func86 rfl rfl rfl teOk (by decide) rfl ?_;refine qC ?_;refine qB ?_;refine qC ?_;refine qC ?_;refine qB ?_;intro l1_5
  try simp only [zds] at l1_5
  refine qK rfl (fun h11=>?_) (fun h11=>?_)
  ·try simp only [decide_eq_true_eq] at h11
   try simp only [zds] at h11
   refine qC ?_;refine qB ?_;refine qL ?_;exact ⟨rfl,⟨rfl,rfl,rfl,rfl,rfl⟩,rfl⟩
  ·try simp only [decide_eq_false_iff_not] at h11
   try simp only [zds] at h11
   exact absurd (by rw [h];rfl) h11
theorem flush_good (p : PSt) {k v : List UInt8} (h0 : p.lns ≠ []) (hu : yG (p.lns.map ls) = ((k,v),0)) (hf : p.full = false) (hb : PB p 1000000) : yI Tryz.prog 86 [.one (.own 0 0)] (psO p) 5 (.one (.lit .nilIface)) (psO { p with flds:=p.flds ++ [(bytes k,bytes v)],lns:=[] }) 5:=by
  have hfl:=hb.flds;refine yF (rs:=[2]) Tryz.func86 rfl rfl rfl teOk (by decide) rfl ?_;refine qC ?_;refine qB ?_;refine qC ?_;refine qC ?_;refine qB ?_;intro l1_5
  try simp only [zds] at l1_5
  refine qK rfl (fun h11=>?_) (fun h11=>?_)
  ·try simp only [decide_eq_true_eq] at h11
   try simp only [zds] at h11
   exact absurd (List.eq_nil_of_length_eq_zero (by omega)) h0
  ·try simp only [decide_eq_false_iff_not] at h11
   try simp only [zds] at h11
   refine qM ?_;refine qC ?_;refine acode_renew 1 rfl ?_;refine qB ?_;refine Or.inl ?_;refine zai (rfl) ?_;refine zei _ (zai (unfold_ok p.lns ⟨hb.lns,Nat.le_trans hb.lnb (by decide)⟩ hu) ?_);refine qC ?_;refine qN ?_;refine qC ?_;refine qB ?_;refine qK rfl (fun h21=>?_) (fun h21=>?_)
   ·try simp only [Bool.not_eq_true'] at h21
    try simp only [zds] at h21
    cases h21
   ·try simp only [Bool.not_eq_false'] at h21
    try simp only [zds] at h21
    refine qC ?_;refine qB ?_;refine qK rfl (fun h31=>?_) (fun h31=>?_)
    ·try simp only [zbq] at h31
     try simp only [zds] at h31
     exact absurd h31 (by rw [hf];decide)
    ·try simp only [zbq] at h31
     try simp only [zds] at h31
     refine qM ?_;refine qC ?_;refine xM rfl ?_;refine qJ 0 rfl rfl rfl (by kernel_rfl) ?_;refine qJ 1 rfl rfl rfl (by kernel_rfl) ?_;refine qJ 2 rfl rfl rfl (by kernel_rfl) ?_;refine qJ 3 rfl rfl rfl (by kernel_rfl) ?_;refine qJ 4 rfl rfl rfl (by kernel_rfl) ?_;refine qI [5,6] (by kernel_rfl) rfl ?_;refine zai ?_ ?_
     ·refine qI [6] (by kernel_rfl) rfl ?_;refine qI [7] (by kernel_rfl) rfl ?_;refine qI [8] (by kernel_rfl) rfl ?_;refine zai (by first|exact qS (by first|omega|(simp only [List.length_cons,List.length_nil];omega)|(simp;omega)) (by decide)|omega|assumption|decide|(simp only [zds];omega)|(simp <;> omega)) ?_;refine qJ 9 rfl rfl rfl (by kernel_rfl) ?_;refine qJ 10 rfl rfl rfl (by kernel_rfl) ?_;refine qI [11] (by kernel_rfl) rfl ?_;refine qJ 12 rfl rfl rfl (by kernel_rfl) ?_;refine qJ 13 rfl rfl rfl (by kernel_rfl) ?_;refine qJ 14 rfl rfl rfl (by kernel_rfl) ?_;refine qI [15] (by kernel_rfl) rfl ?_;refine qO (by kernel_rfl) ?_;refine qC ?_;refine yJ 0 0 9 .str rfl rfl rfl ?_;refine acode_swap 1 7 rfl rfl ?_;refine qB ?_;refine qL ?_;exact ⟨rfl,⟨rfl,rfl,rfl,rfl,rfl⟩,rfl⟩
     ·refine qI [5,7] (by kernel_rfl) rfl ?_;refine zai ?_ ?_
      ·refine qI [7] (by kernel_rfl) rfl ?_;refine qI [8] (by kernel_rfl) rfl ?_;refine zai (by first|exact qS (by first|omega|(simp only [List.length_cons,List.length_nil];omega)|(simp;omega)) (by decide)|omega|assumption|decide|(simp only [zds];omega)|(simp <;> omega)) ?_;refine qJ 9 rfl rfl rfl (by kernel_rfl) ?_;refine qJ 10 rfl rfl rfl (by kernel_rfl) ?_;refine qI [11] (by kernel_rfl) rfl ?_;refine qJ 12 rfl rfl rfl (by kernel_rfl) ?_;refine qJ 13 rfl rfl rfl (by kernel_rfl) ?_;refine qJ 14 rfl rfl rfl (by kernel_rfl) ?_;refine qI [15] (by kernel_rfl) rfl ?_;refine qO (by kernel_rfl) ?_;refine qC ?_;refine yJ 0 0 9 .str rfl rfl rfl ?_;refine acode_swap 1 7 rfl rfl ?_;refine qB ?_;refine qL ?_;exact ⟨rfl,⟨rfl,rfl,rfl,rfl,rfl⟩,rfl⟩
      ·refine qI [5] (by kernel_rfl) rfl ?_;refine qI [8] (by kernel_rfl) rfl ?_;refine zai (by first|exact qS (by first|omega|(simp only [List.length_cons,List.length_nil];omega)|(simp;omega)) (by decide)|omega|assumption|decide|(simp only [zds];omega)|(simp <;> omega)) ?_;refine qJ 9 rfl rfl rfl (by kernel_rfl) ?_;refine qJ 10 rfl rfl rfl (by kernel_rfl) ?_;refine qI [11] (by kernel_rfl) rfl ?_;refine qJ 12 rfl rfl rfl (by kernel_rfl) ?_;refine qJ 13 rfl rfl rfl (by kernel_rfl) ?_;refine qJ 14 rfl rfl rfl (by kernel_rfl) ?_;refine qI [15] (by kernel_rfl) rfl ?_;refine qO (by kernel_rfl) ?_;refine qC ?_;refine yJ 0 0 9 .str rfl rfl rfl ?_;refine acode_swap 1 7 rfl rfl ?_;refine qB ?_;refine qL ?_;exact ⟨rfl,⟨rfl,rfl,rfl,rfl,rfl⟩,rfl⟩
theorem flush_bad (p : PSt) {n : Int} (h0 : p.lns ≠ []) (hu : yG (p.lns.map ls) = (([],[]),n)) (hn : n = 2 ∨ n = 6) (hb : PB p 1000000) : yI Tryz.prog 86 [.one (.own 0 0)] (psO p) 5 (.one (errF p.frm n)) [] 5:=by
  refine yF (rs:=[2]) Tryz.func86 rfl rfl rfl teOk (by decide) rfl ?_;refine qC ?_;refine qB ?_;refine qC ?_;refine qC ?_;refine qB ?_;intro l1_5
  try simp only [zds] at l1_5
  refine qK rfl (fun h11=>?_) (fun h11=>?_)
  ·try simp only [decide_eq_true_eq] at h11
   try simp only [zds] at h11
   exact absurd (List.eq_nil_of_length_eq_zero (by omega)) h0
  ·try simp only [decide_eq_false_iff_not] at h11
   try simp only [zds] at h11
   refine qM ?_;refine qC ?_;refine acode_renew 1 rfl ?_;refine qB ?_;refine Or.inl ?_;refine zai (rfl) ?_;refine zei _ (zai (unfold_bad p.lns ⟨hb.lns,Nat.le_trans hb.lnb (by decide)⟩ hu hn) ?_);refine qC ?_;refine qN ?_;refine qC ?_;refine qB ?_;refine qK rfl (fun h21=>?_) (fun h21=>?_)
   ·skip
    refine qC ?_;refine qB ?_;refine Or.inl ?_;refine zai (rfl) ?_;refine zei _ (zai (fault_c p.frm n) ?_);refine qL ?_;exact ⟨rfl,trivial,rfl⟩
   ·try simp only [zbq] at h21
    try simp only [zds] at h21
    cases h21
theorem flush_full (p : PSt) {k v : List UInt8} (h0 : p.lns ≠ []) (hu : yG (p.lns.map ls) = ((k,v),0)) (hf : p.full = true) (hb : PB p 1000000) : yI Tryz.prog 86 [.one (.own 0 0)] (psO p) 5 (.one (errF p.frm 11)) [] 5:=by
  refine yF (rs:=[2]) Tryz.func86 rfl rfl rfl teOk (by decide) rfl ?_;refine qC ?_;refine qB ?_;refine qC ?_;refine qC ?_;refine qB ?_;intro l1_5
  try simp only [zds] at l1_5
  refine qK rfl (fun h11=>?_) (fun h11=>?_)
  ·try simp only [decide_eq_true_eq] at h11
   try simp only [zds] at h11
   exact absurd (List.eq_nil_of_length_eq_zero (by omega)) h0
  ·try simp only [decide_eq_false_iff_not] at h11
   try simp only [zds] at h11
   refine qM ?_;refine qC ?_;refine acode_renew 1 rfl ?_;refine qB ?_;refine Or.inl ?_;refine zai (rfl) ?_;refine zei _ (zai (unfold_ok p.lns ⟨hb.lns,Nat.le_trans hb.lnb (by decide)⟩ hu) ?_);refine qC ?_;refine qN ?_;refine qC ?_;refine qB ?_;refine qK rfl (fun h21=>?_) (fun h21=>?_)
   ·try simp only [Bool.not_eq_true'] at h21
    try simp only [zds] at h21
    cases h21
   ·try simp only [Bool.not_eq_false'] at h21
    try simp only [zds] at h21
    refine qC ?_;refine qB ?_;refine qK rfl (fun h31=>?_) (fun h31=>?_)
    ·try simp only [zbq] at h31
     try simp only [zds] at h31
     refine qC ?_;refine qB ?_;refine Or.inl ?_;refine zai (rfl) ?_;refine zei _ (zai (fault_c p.frm 11) ?_);refine qL ?_;exact ⟨rfl,trivial,rfl⟩
    ·try simp only [zbq] at h31
     try simp only [zds] at h31
     exact absurd h31 (by rw [hf];decide)
theorem flush_ok {p q : PSt} (h : xK p = .inr q) (hb : PB p 1000000) : yI Tryz.prog 86 [.one (.own 0 0)] (psO p) 5 (.one (.lit .nilIface)) (psO q) 5:=by
  unfold xK at h;split at h
  · rename_i h0;cases h;exact flush_nil p h0
  · rename_i h0;rcases unf_cases (p.lns.map ls) with ⟨n,hn,hu⟩|⟨k,v,hu,_,_⟩
    · rw [hu,if_pos (by rcases hn with rfl|rfl <;> decide)] at h;cases h
    · rw [hu,if_neg (by simp)] at h;split at h
      · cases h
      · rename_i hf;cases h;exact flush_good p h0 hu (by simpa using hf) hb
theorem flush_err {p : PSt} {at_ n : Int} (h : xK p = .inl (at_,n)) (hb : PB p 1000000) : yI Tryz.prog 86 [.one (.own 0 0)] (psO p) 5 (.one (errF at_ n)) [] 5:=by
  unfold xK at h;split at h
  · cases h
  · rename_i h0;rcases unf_cases (p.lns.map ls) with ⟨m,hn,hu⟩|⟨k,v,hu,_,_⟩
    · rw [hu,if_pos (by rcases hn with rfl|rfl <;> decide)] at h;cases h;exact flush_bad p h0 hu hn hb
    · rw [hu,if_neg (by simp)] at h;split at h
      · rename_i hf;cases h;exact flush_full p h0 hu hf hb
      · cases h
end Q
end Ab
end Go.Proofs.YtehmiepjeffloaaGreatDoor
namespace Go.Proofs.YtehmiepjeffloaaGreatDoor
open Go.RowKit
namespace Ab
set_option maxRecDepth 100000
set_option maxHeartbeats 4000000
namespace Q
theorem join_sz (l : List ByteArray) : (Lib.join (l.map (·.data.toList)) [10]).length ≤ (l.map (·.size)).sum + l.length:=by
  refine Nat.le_trans (joinL_len 10 _) ?_;rw [List.map_map,List.length_map];refine Nat.add_le_add_right (Nat.le_of_eq ?_) _;exact congrArg _ (List.map_congr_left fun s _=>(qW s).symm)
theorem raw_sz {l : List ByteArray} (h1 : l.length ≤ 2000000) (h2 : (l.map (·.size)).sum ≤ 2000000) : ByteArray.size { data:=(Lib.join (l.map (fun x=>x.data.toList)) [10]).toArray } ≤ 4000000:=by
  have:=join_sz l;show Array.size _ ≤ _;rw [List.size_toArray];omega
theorem end_nil {p q : PSt} (h : xK p = .inr q) (hq : q.blk = []) (hb : PB p 1000000) : yI Tryz.prog 53 [.one (.own 0 0)] (psO p) 5 (.one (.lit .nilIface)) (psO { q with blk:=[],flds:=[] }) 5:=by
  refine yF (rs:=[2]) Tryz.func53 rfl rfl rfl teOk (by decide) rfl ?_;refine qC ?_;refine qB ?_;refine qC ?_;refine qC ?_;refine qB ?_;refine Or.inr (Or.inl (zei [] (zei [0,1,2,3,4] (zei _ (zei _ (zei _ (zei _ (zei _ (zai (flush_ok h hb) (zai rfl (zai (zai (zai rfl rfl) (zai (zai rfl rfl) (zai (zai rfl rfl) (zai (zai rfl rfl) (zai (zai rfl rfl) True.intro))))) (zai rfl ?_))))))))))));refine qC ?_;refine qB ?_;refine qK rfl (fun h8=>?_) (fun h8=>?_)
  ·try simp only [Bool.not_eq_true'] at h8
   try simp only [zds] at h8
   cases h8
  ·try simp only [Bool.not_eq_false'] at h8
   try simp only [zds] at h8
   refine qM ?_;refine qC ?_;refine qC ?_;refine acode_renew 3 rfl ?_;refine acode_renew 4 rfl ?_;refine qB ?_;intro l4_4
   try simp only [zds] at l4_4
   refine qK rfl (fun h15=>?_) (fun h15=>?_)
   ·try simp only [decide_eq_true_eq] at h15
    try simp only [zds] at h15
    exact absurd (by rw [hq];rfl : (q.blk.length : Int) = 0) (by omega)
   ·try simp only [decide_eq_false_iff_not,Int.not_lt] at h15
    try simp only [zds] at h15
    refine qM ?_;refine qC ?_;refine qB ?_;refine qC ?_;refine yJ 0 4 9 .str rfl rfl rfl ?_;refine acode_swap 3 5 rfl rfl ?_;refine yJ 0 5 66 rFld rfl rfl rfl ?_;refine acode_swap 4 6 rfl rfl ?_;refine qB ?_;refine qL ?_;exact ⟨rfl,⟨rfl,rfl,rfl,rfl,rfl⟩,rfl⟩
theorem end_blk {p q : PSt} (h : xK p = .inr q) (hq : q.blk ≠ []) (hb : PB p 1000000) (hb2 : PB q 2000000) : yI Tryz.prog 53 [.one (.own 0 0)] (psO p) 5 (.one (.lit .nilIface)) (psO { q with its:=q.its ++ [((if q.flds = [] then 2 else 3 : Int),rawB q.blk,q.flds)],recs:=(if q.flds = [] then q.recs else q.recs + 1),blk:=[],flds:=[] }) 5:=by
  have hi:=hb2.its;have hjs:=raw_sz hb2.blk hb2.blb;have hr0:=hb2.rec0;have hrB:=hb2.recB;refine yF (rs:=[2]) Tryz.func53 rfl rfl rfl teOk (by decide) rfl ?_;refine qC ?_;refine qB ?_;refine qC ?_;refine qC ?_;refine qB ?_;refine Or.inr (Or.inl (zei [] (zei [0,1,2,3,4] (zei _ (zei _ (zei _ (zei _ (zei _ (zai (flush_ok h hb) (zai rfl (zai (zai (zai rfl rfl) (zai (zai rfl rfl) (zai (zai rfl rfl) (zai (zai rfl rfl) (zai (zai rfl rfl) True.intro))))) (zai rfl ?_))))))))))));refine qC ?_;refine qB ?_;refine qK rfl (fun h8=>?_) (fun h8=>?_)
  ·try simp only [Bool.not_eq_true'] at h8
   try simp only [zds] at h8
   cases h8
  ·try simp only [Bool.not_eq_false'] at h8
   try simp only [zds] at h8
   refine qM ?_;refine acode_cut (fun (u : Unit)=>True) (fun (u : Unit)=>[(0,.one (.own 0 0))]) (fun (u : Unit)=>[(0,.box 129 [.vec 1,.lit (.int .i64 q.frm),.lit (.bool q.full),.vec 2,.sl .str q.blk,.sl rFld q.flds,.lit (.int .i64 (if q.flds = [] then q.recs else q.recs + 1))]),(1,.vec 9 .str q.lns),(2,.vec 81 rItm (q.its ++ [((if q.flds = [] then 2 else 3 : Int),rawB q.blk,q.flds)])),(3,.vec 9 .str []),(4,.vec 66 rFld [])]) 5 ?_ ?_
   ·refine qC ?_;refine acode_renew 3 rfl ?_;refine acode_renew 4 rfl ?_;refine qB ?_;intro l4_4
    try simp only [zds] at l4_4
    refine qK rfl (fun h15=>?_) (fun h15=>?_)
    ·try simp only [decide_eq_true_eq] at h15
     try simp only [zds] at h15
     refine qC ?_;refine qB ?_;refine acode_cut (fun (u : Int × Int)=>u = ((if q.flds = [] then 2 else 3 : Int),(if q.flds = [] then q.recs else q.recs + 1))) (fun (u : Int × Int)=>[(0,.one (.own 0 0)),(4,ii .i64 u.1)]) (fun (u : Int × Int)=>[(0,.box 129 [.vec 1,.lit (.int .i64 q.frm),.lit (.bool q.full),.vec 2,.sl .str q.blk,.sl rFld q.flds,.lit (.int .i64 u.2)]),(1,.vec 9 .str q.lns),(2,.vec 81 rItm q.its),(3,.vec 9 .str []),(4,.vec 66 rFld [])]) 5 ?_ ?_
     ·refine qC ?_;refine qB ?_;intro l6_4
      try simp only [zds] at l6_4
      refine qK rfl (fun h21=>?_) (fun h21=>?_)
      ·try simp only [decide_eq_true_eq] at h21
       try simp only [zds] at h21
       refine qC ?_;refine qB ?_;refine qB ?_;refine zai (by first|omega|assumption|decide|(simp only [zds];omega)|(simp <;> omega)) ?_;exact ⟨(3,q.recs + 1),by have hf : q.flds ≠ []:=(fun e=>by rw [e] at h21;simp at h21);simp only [if_neg hf],qP ⟨rfl,rfl⟩ ⟨rfl,rfl,rfl,rfl,rfl⟩ rfl⟩
      ·try simp only [decide_eq_false_iff_not,Int.not_lt] at h21
       try simp only [zds] at h21
       refine qM ?_;exact ⟨(2,q.recs),by have hf : q.flds = []:=List.eq_nil_of_length_eq_zero (by omega);simp only [if_pos hf],qP ⟨rfl,rfl⟩ ⟨rfl,rfl,rfl,rfl,rfl⟩ rfl⟩
     ·intro u hcut9;obtain ⟨k,rc⟩:=u;obtain ⟨rfl,rfl⟩:=Prod.mk.inj hcut9;refine xM rfl ?_;refine qJ 0 rfl rfl rfl (by kernel_rfl) ?_;refine qJ 1 rfl rfl rfl (by kernel_rfl) ?_;refine qJ 2 rfl rfl rfl (by kernel_rfl) ?_;refine qJ 3 rfl rfl rfl (by kernel_rfl) ?_;refine qJ 5 rfl rfl rfl (by kernel_rfl) ?_;refine qJ 6 rfl rfl rfl (by kernel_rfl) ?_;refine qJ 7 rfl rfl rfl (by kernel_rfl) ?_;refine qJ 8 rfl rfl rfl (by kernel_rfl) ?_;refine qJ 12 rfl rfl rfl (by kernel_rfl) ?_;refine qJ 13 rfl rfl rfl (by kernel_rfl) ?_;refine qJ 14 rfl rfl rfl (by kernel_rfl) ?_;refine qI [4,9,15] (by kernel_rfl) rfl ?_;refine zai ?_ ?_
      ·refine qI [9,15] (by kernel_rfl) rfl ?_;refine zai ?_ ?_
       ·refine qI [10,15] (by kernel_rfl) rfl ?_;refine zai ?_ ?_
        ·refine Or.inl ?_;refine zai (rfl) ?_;refine zei _ (zai (join_c q.blk ⟨#[10]⟩ (Nat.le_trans hb2.blk (by decide)) (Nat.le_trans (join_sz q.blk) (by have:=hb2.blk;have:=hb2.blb;omega))) ?_);refine qJ 11 rfl rfl rfl (by kernel_rfl) ?_;refine zai (by (have hk0 : ByteArray.size { data:=#[10] } = 1:=rfl;first|(unfold maxLen;omega)|(simp only [];omega)|(unfold maxLen;(try simp only []);omega))) ?_;refine qI [15] (by kernel_rfl) rfl ?_;refine qI [16] (by kernel_rfl) rfl ?_;refine qI [17] (by kernel_rfl) rfl ?_;refine qI [18] (by kernel_rfl) rfl ?_;refine zai (by first|exact qS (by first|omega|(simp only [List.length_cons,List.length_nil];omega)|(simp;omega)) (by decide)|omega|assumption|decide|(simp only [zds];omega)|(simp <;> omega)) ?_;refine qJ 19 rfl rfl rfl (by kernel_rfl) ?_;refine qJ 20 rfl rfl rfl (by kernel_rfl) ?_;refine qI [21] (by kernel_rfl) rfl ?_;refine qO (by kernel_rfl) ?_;exact ⟨(),trivial,qP rfl ⟨rfl,rfl,rfl,rfl,rfl⟩ rfl⟩
        ·refine qI [10] (by kernel_rfl) rfl ?_;refine Or.inl ?_;refine zai (rfl) ?_;refine zei _ (zai (join_c q.blk ⟨#[10]⟩ (Nat.le_trans hb2.blk (by decide)) (Nat.le_trans (join_sz q.blk) (by have:=hb2.blk;have:=hb2.blb;omega))) ?_);refine qJ 11 rfl rfl rfl (by kernel_rfl) ?_;refine zai (by (have hk0 : ByteArray.size { data:=#[10] } = 1:=rfl;first|(unfold maxLen;omega)|(simp only [];omega)|(unfold maxLen;(try simp only []);omega))) ?_;refine qI [16] (by kernel_rfl) rfl ?_;refine qI [17] (by kernel_rfl) rfl ?_;refine qI [18] (by kernel_rfl) rfl ?_;refine zai (by first|exact qS (by first|omega|(simp only [List.length_cons,List.length_nil];omega)|(simp;omega)) (by decide)|omega|assumption|decide|(simp only [zds];omega)|(simp <;> omega)) ?_;refine qJ 19 rfl rfl rfl (by kernel_rfl) ?_;refine qJ 20 rfl rfl rfl (by kernel_rfl) ?_;refine qI [21] (by kernel_rfl) rfl ?_;refine qO (by kernel_rfl) ?_;exact ⟨(),trivial,qP rfl ⟨rfl,rfl,rfl,rfl,rfl⟩ rfl⟩
       ·refine qI [9] (by kernel_rfl) rfl ?_;refine qI [10] (by kernel_rfl) rfl ?_;refine Or.inl ?_;refine zai (rfl) ?_;refine zei _ (zai (join_c q.blk ⟨#[10]⟩ (Nat.le_trans hb2.blk (by decide)) (Nat.le_trans (join_sz q.blk) (by have:=hb2.blk;have:=hb2.blb;omega))) ?_);refine qJ 11 rfl rfl rfl (by kernel_rfl) ?_;refine zai (by (have hk0 : ByteArray.size { data:=#[10] } = 1:=rfl;first|(unfold maxLen;omega)|(simp only [];omega)|(unfold maxLen;(try simp only []);omega))) ?_;refine qI [16] (by kernel_rfl) rfl ?_;refine qI [17] (by kernel_rfl) rfl ?_;refine qI [18] (by kernel_rfl) rfl ?_;refine zai (by first|exact qS (by first|omega|(simp only [List.length_cons,List.length_nil];omega)|(simp;omega)) (by decide)|omega|assumption|decide|(simp only [zds];omega)|(simp <;> omega)) ?_;refine qJ 19 rfl rfl rfl (by kernel_rfl) ?_;refine qJ 20 rfl rfl rfl (by kernel_rfl) ?_;refine qI [21] (by kernel_rfl) rfl ?_;refine qO (by kernel_rfl) ?_;exact ⟨(),trivial,qP rfl ⟨rfl,rfl,rfl,rfl,rfl⟩ rfl⟩
      refine zai ?_ ?_
      ·refine qI [4,10,15] (by kernel_rfl) rfl ?_;refine zai ?_ ?_
       ·refine qI [10,15] (by kernel_rfl) rfl ?_;refine zai ?_ ?_
        ·refine Or.inl ?_;refine zai (rfl) ?_;refine zei _ (zai (join_c q.blk ⟨#[10]⟩ (Nat.le_trans hb2.blk (by decide)) (Nat.le_trans (join_sz q.blk) (by have:=hb2.blk;have:=hb2.blb;omega))) ?_);refine qJ 11 rfl rfl rfl (by kernel_rfl) ?_;refine zai (by (have hk0 : ByteArray.size { data:=#[10] } = 1:=rfl;first|(unfold maxLen;omega)|(simp only [];omega)|(unfold maxLen;(try simp only []);omega))) ?_;refine qI [15] (by kernel_rfl) rfl ?_;refine qI [16] (by kernel_rfl) rfl ?_;refine qI [17] (by kernel_rfl) rfl ?_;refine qI [18] (by kernel_rfl) rfl ?_;refine zai (by first|exact qS (by first|omega|(simp only [List.length_cons,List.length_nil];omega)|(simp;omega)) (by decide)|omega|assumption|decide|(simp only [zds];omega)|(simp <;> omega)) ?_;refine qJ 19 rfl rfl rfl (by kernel_rfl) ?_;refine qJ 20 rfl rfl rfl (by kernel_rfl) ?_;refine qI [21] (by kernel_rfl) rfl ?_;refine qO (by kernel_rfl) ?_;exact ⟨(),trivial,qP rfl ⟨rfl,rfl,rfl,rfl,rfl⟩ rfl⟩
        ·refine qI [10] (by kernel_rfl) rfl ?_;refine Or.inl ?_;refine zai (rfl) ?_;refine zei _ (zai (join_c q.blk ⟨#[10]⟩ (Nat.le_trans hb2.blk (by decide)) (Nat.le_trans (join_sz q.blk) (by have:=hb2.blk;have:=hb2.blb;omega))) ?_);refine qJ 11 rfl rfl rfl (by kernel_rfl) ?_;refine zai (by (have hk0 : ByteArray.size { data:=#[10] } = 1:=rfl;first|(unfold maxLen;omega)|(simp only [];omega)|(unfold maxLen;(try simp only []);omega))) ?_;refine qI [16] (by kernel_rfl) rfl ?_;refine qI [17] (by kernel_rfl) rfl ?_;refine qI [18] (by kernel_rfl) rfl ?_;refine zai (by first|exact qS (by first|omega|(simp only [List.length_cons,List.length_nil];omega)|(simp;omega)) (by decide)|omega|assumption|decide|(simp only [zds];omega)|(simp <;> omega)) ?_;refine qJ 19 rfl rfl rfl (by kernel_rfl) ?_;refine qJ 20 rfl rfl rfl (by kernel_rfl) ?_;refine qI [21] (by kernel_rfl) rfl ?_;refine qO (by kernel_rfl) ?_;exact ⟨(),trivial,qP rfl ⟨rfl,rfl,rfl,rfl,rfl⟩ rfl⟩
       refine zai ?_ ?_
       ·refine Or.inl ?_;refine zai (rfl) ?_;refine zei _ (zai (join_c q.blk ⟨#[10]⟩ (Nat.le_trans hb2.blk (by decide)) (Nat.le_trans (join_sz q.blk) (by have:=hb2.blk;have:=hb2.blb;omega))) ?_);refine qJ 11 rfl rfl rfl (by kernel_rfl) ?_;refine zai (by (have hk0 : ByteArray.size { data:=#[10] } = 1:=rfl;first|(unfold maxLen;omega)|(simp only [];omega)|(unfold maxLen;(try simp only []);omega))) ?_;refine qI [4,15] (by kernel_rfl) rfl ?_;refine zai ?_ ?_
        ·refine qI [15] (by kernel_rfl) rfl ?_;refine qI [16] (by kernel_rfl) rfl ?_;refine qI [17] (by kernel_rfl) rfl ?_;refine qI [18] (by kernel_rfl) rfl ?_;refine zai (by first|exact qS (by first|omega|(simp only [List.length_cons,List.length_nil];omega)|(simp;omega)) (by decide)|omega|assumption|decide|(simp only [zds];omega)|(simp <;> omega)) ?_;refine qJ 19 rfl rfl rfl (by kernel_rfl) ?_;refine qJ 20 rfl rfl rfl (by kernel_rfl) ?_;refine qI [21] (by kernel_rfl) rfl ?_;refine qO (by kernel_rfl) ?_;exact ⟨(),trivial,qP rfl ⟨rfl,rfl,rfl,rfl,rfl⟩ rfl⟩
        ·refine qI [4,16] (by kernel_rfl) rfl ?_;refine zai ?_ ?_
         ·refine qI [16] (by kernel_rfl) rfl ?_;refine qI [17] (by kernel_rfl) rfl ?_;refine qI [18] (by kernel_rfl) rfl ?_;refine zai (by first|exact qS (by first|omega|(simp only [List.length_cons,List.length_nil];omega)|(simp;omega)) (by decide)|omega|assumption|decide|(simp only [zds];omega)|(simp <;> omega)) ?_;refine qJ 19 rfl rfl rfl (by kernel_rfl) ?_;refine qJ 20 rfl rfl rfl (by kernel_rfl) ?_;refine qI [21] (by kernel_rfl) rfl ?_;refine qO (by kernel_rfl) ?_;exact ⟨(),trivial,qP rfl ⟨rfl,rfl,rfl,rfl,rfl⟩ rfl⟩
         ·refine qI [4,17] (by kernel_rfl) rfl ?_;refine zai ?_ ?_
          ·refine qI [17] (by kernel_rfl) rfl ?_;refine qI [18] (by kernel_rfl) rfl ?_;refine zai (by first|exact qS (by first|omega|(simp only [List.length_cons,List.length_nil];omega)|(simp;omega)) (by decide)|omega|assumption|decide|(simp only [zds];omega)|(simp <;> omega)) ?_;refine qJ 19 rfl rfl rfl (by kernel_rfl) ?_;refine qJ 20 rfl rfl rfl (by kernel_rfl) ?_;refine qI [21] (by kernel_rfl) rfl ?_;refine qO (by kernel_rfl) ?_;exact ⟨(),trivial,qP rfl ⟨rfl,rfl,rfl,rfl,rfl⟩ rfl⟩
          ·refine qI [4] (by kernel_rfl) rfl ?_;refine qI [18] (by kernel_rfl) rfl ?_;refine zai (by first|exact qS (by first|omega|(simp only [List.length_cons,List.length_nil];omega)|(simp;omega)) (by decide)|omega|assumption|decide|(simp only [zds];omega)|(simp <;> omega)) ?_;refine qJ 19 rfl rfl rfl (by kernel_rfl) ?_;refine qJ 20 rfl rfl rfl (by kernel_rfl) ?_;refine qI [21] (by kernel_rfl) rfl ?_;refine qO (by kernel_rfl) ?_;exact ⟨(),trivial,qP rfl ⟨rfl,rfl,rfl,rfl,rfl⟩ rfl⟩
       ·refine qI [4,10] (by kernel_rfl) rfl ?_;refine zai ?_ ?_
        ·refine qI [10] (by kernel_rfl) rfl ?_;refine Or.inl ?_;refine zai (rfl) ?_;refine zei _ (zai (join_c q.blk ⟨#[10]⟩ (Nat.le_trans hb2.blk (by decide)) (Nat.le_trans (join_sz q.blk) (by have:=hb2.blk;have:=hb2.blb;omega))) ?_);refine qJ 11 rfl rfl rfl (by kernel_rfl) ?_;refine zai (by (have hk0 : ByteArray.size { data:=#[10] } = 1:=rfl;first|(unfold maxLen;omega)|(simp only [];omega)|(unfold maxLen;(try simp only []);omega))) ?_;refine qI [16] (by kernel_rfl) rfl ?_;refine qI [17] (by kernel_rfl) rfl ?_;refine qI [18] (by kernel_rfl) rfl ?_;refine zai (by first|exact qS (by first|omega|(simp only [List.length_cons,List.length_nil];omega)|(simp;omega)) (by decide)|omega|assumption|decide|(simp only [zds];omega)|(simp <;> omega)) ?_;refine qJ 19 rfl rfl rfl (by kernel_rfl) ?_;refine qJ 20 rfl rfl rfl (by kernel_rfl) ?_;refine qI [21] (by kernel_rfl) rfl ?_;refine qO (by kernel_rfl) ?_;exact ⟨(),trivial,qP rfl ⟨rfl,rfl,rfl,rfl,rfl⟩ rfl⟩
        ·refine Or.inl ?_;refine zai (rfl) ?_;refine zei _ (zai (join_c q.blk ⟨#[10]⟩ (Nat.le_trans hb2.blk (by decide)) (Nat.le_trans (join_sz q.blk) (by have:=hb2.blk;have:=hb2.blb;omega))) ?_);refine qJ 11 rfl rfl rfl (by kernel_rfl) ?_;refine zai (by (have hk0 : ByteArray.size { data:=#[10] } = 1:=rfl;first|(unfold maxLen;omega)|(simp only [];omega)|(unfold maxLen;(try simp only []);omega))) ?_;refine qI [4,16] (by kernel_rfl) rfl ?_;refine zai ?_ ?_
         ·refine qI [16] (by kernel_rfl) rfl ?_;refine qI [17] (by kernel_rfl) rfl ?_;refine qI [18] (by kernel_rfl) rfl ?_;refine zai (by first|exact qS (by first|omega|(simp only [List.length_cons,List.length_nil];omega)|(simp;omega)) (by decide)|omega|assumption|decide|(simp only [zds];omega)|(simp <;> omega)) ?_;refine qJ 19 rfl rfl rfl (by kernel_rfl) ?_;refine qJ 20 rfl rfl rfl (by kernel_rfl) ?_;refine qI [21] (by kernel_rfl) rfl ?_;refine qO (by kernel_rfl) ?_;exact ⟨(),trivial,qP rfl ⟨rfl,rfl,rfl,rfl,rfl⟩ rfl⟩
         ·refine qI [4,17] (by kernel_rfl) rfl ?_;refine zai ?_ ?_
          ·refine qI [17] (by kernel_rfl) rfl ?_;refine qI [18] (by kernel_rfl) rfl ?_;refine zai (by first|exact qS (by first|omega|(simp only [List.length_cons,List.length_nil];omega)|(simp;omega)) (by decide)|omega|assumption|decide|(simp only [zds];omega)|(simp <;> omega)) ?_;refine qJ 19 rfl rfl rfl (by kernel_rfl) ?_;refine qJ 20 rfl rfl rfl (by kernel_rfl) ?_;refine qI [21] (by kernel_rfl) rfl ?_;refine qO (by kernel_rfl) ?_;exact ⟨(),trivial,qP rfl ⟨rfl,rfl,rfl,rfl,rfl⟩ rfl⟩
          ·refine qI [4] (by kernel_rfl) rfl ?_;refine qI [18] (by kernel_rfl) rfl ?_;refine zai (by first|exact qS (by first|omega|(simp only [List.length_cons,List.length_nil];omega)|(simp;omega)) (by decide)|omega|assumption|decide|(simp only [zds];omega)|(simp <;> omega)) ?_;refine qJ 19 rfl rfl rfl (by kernel_rfl) ?_;refine qJ 20 rfl rfl rfl (by kernel_rfl) ?_;refine qI [21] (by kernel_rfl) rfl ?_;refine qO (by kernel_rfl) ?_;exact ⟨(),trivial,qP rfl ⟨rfl,rfl,rfl,rfl,rfl⟩ rfl⟩
      ·refine qI [4,9] (by kernel_rfl) rfl ?_;refine zai ?_ ?_
       ·refine qI [9] (by kernel_rfl) rfl ?_;refine qI [10] (by kernel_rfl) rfl ?_;refine Or.inl ?_;refine zai (rfl) ?_;refine zei _ (zai (join_c q.blk ⟨#[10]⟩ (Nat.le_trans hb2.blk (by decide)) (Nat.le_trans (join_sz q.blk) (by have:=hb2.blk;have:=hb2.blb;omega))) ?_);refine qJ 11 rfl rfl rfl (by kernel_rfl) ?_;refine zai (by (have hk0 : ByteArray.size { data:=#[10] } = 1:=rfl;first|(unfold maxLen;omega)|(simp only [];omega)|(unfold maxLen;(try simp only []);omega))) ?_;refine qI [16] (by kernel_rfl) rfl ?_;refine qI [17] (by kernel_rfl) rfl ?_;refine qI [18] (by kernel_rfl) rfl ?_;refine zai (by first|exact qS (by first|omega|(simp only [List.length_cons,List.length_nil];omega)|(simp;omega)) (by decide)|omega|assumption|decide|(simp only [zds];omega)|(simp <;> omega)) ?_;refine qJ 19 rfl rfl rfl (by kernel_rfl) ?_;refine qJ 20 rfl rfl rfl (by kernel_rfl) ?_;refine qI [21] (by kernel_rfl) rfl ?_;refine qO (by kernel_rfl) ?_;exact ⟨(),trivial,qP rfl ⟨rfl,rfl,rfl,rfl,rfl⟩ rfl⟩
       ·refine qI [4,10] (by kernel_rfl) rfl ?_;refine zai ?_ ?_
        ·refine qI [10] (by kernel_rfl) rfl ?_;refine Or.inl ?_;refine zai (rfl) ?_;refine zei _ (zai (join_c q.blk ⟨#[10]⟩ (Nat.le_trans hb2.blk (by decide)) (Nat.le_trans (join_sz q.blk) (by have:=hb2.blk;have:=hb2.blb;omega))) ?_);refine qJ 11 rfl rfl rfl (by kernel_rfl) ?_;refine zai (by (have hk0 : ByteArray.size { data:=#[10] } = 1:=rfl;first|(unfold maxLen;omega)|(simp only [];omega)|(unfold maxLen;(try simp only []);omega))) ?_;refine qI [16] (by kernel_rfl) rfl ?_;refine qI [17] (by kernel_rfl) rfl ?_;refine qI [18] (by kernel_rfl) rfl ?_;refine zai (by first|exact qS (by first|omega|(simp only [List.length_cons,List.length_nil];omega)|(simp;omega)) (by decide)|omega|assumption|decide|(simp only [zds];omega)|(simp <;> omega)) ?_;refine qJ 19 rfl rfl rfl (by kernel_rfl) ?_;refine qJ 20 rfl rfl rfl (by kernel_rfl) ?_;refine qI [21] (by kernel_rfl) rfl ?_;refine qO (by kernel_rfl) ?_;exact ⟨(),trivial,qP rfl ⟨rfl,rfl,rfl,rfl,rfl⟩ rfl⟩
        ·refine Or.inl ?_;refine zai (rfl) ?_;refine zei _ (zai (join_c q.blk ⟨#[10]⟩ (Nat.le_trans hb2.blk (by decide)) (Nat.le_trans (join_sz q.blk) (by have:=hb2.blk;have:=hb2.blb;omega))) ?_);refine qJ 11 rfl rfl rfl (by kernel_rfl) ?_;refine zai (by (have hk0 : ByteArray.size { data:=#[10] } = 1:=rfl;first|(unfold maxLen;omega)|(simp only [];omega)|(unfold maxLen;(try simp only []);omega))) ?_;refine qI [4,16] (by kernel_rfl) rfl ?_;refine zai ?_ ?_
         ·refine qI [16] (by kernel_rfl) rfl ?_;refine qI [17] (by kernel_rfl) rfl ?_;refine qI [18] (by kernel_rfl) rfl ?_;refine zai (by first|exact qS (by first|omega|(simp only [List.length_cons,List.length_nil];omega)|(simp;omega)) (by decide)|omega|assumption|decide|(simp only [zds];omega)|(simp <;> omega)) ?_;refine qJ 19 rfl rfl rfl (by kernel_rfl) ?_;refine qJ 20 rfl rfl rfl (by kernel_rfl) ?_;refine qI [21] (by kernel_rfl) rfl ?_;refine qO (by kernel_rfl) ?_;exact ⟨(),trivial,qP rfl ⟨rfl,rfl,rfl,rfl,rfl⟩ rfl⟩
         ·refine qI [4,17] (by kernel_rfl) rfl ?_;refine zai ?_ ?_
          ·refine qI [17] (by kernel_rfl) rfl ?_;refine qI [18] (by kernel_rfl) rfl ?_;refine zai (by first|exact qS (by first|omega|(simp only [List.length_cons,List.length_nil];omega)|(simp;omega)) (by decide)|omega|assumption|decide|(simp only [zds];omega)|(simp <;> omega)) ?_;refine qJ 19 rfl rfl rfl (by kernel_rfl) ?_;refine qJ 20 rfl rfl rfl (by kernel_rfl) ?_;refine qI [21] (by kernel_rfl) rfl ?_;refine qO (by kernel_rfl) ?_;exact ⟨(),trivial,qP rfl ⟨rfl,rfl,rfl,rfl,rfl⟩ rfl⟩
          ·refine qI [4] (by kernel_rfl) rfl ?_;refine qI [18] (by kernel_rfl) rfl ?_;refine zai (by first|exact qS (by first|omega|(simp only [List.length_cons,List.length_nil];omega)|(simp;omega)) (by decide)|omega|assumption|decide|(simp only [zds];omega)|(simp <;> omega)) ?_;refine qJ 19 rfl rfl rfl (by kernel_rfl) ?_;refine qJ 20 rfl rfl rfl (by kernel_rfl) ?_;refine qI [21] (by kernel_rfl) rfl ?_;refine qO (by kernel_rfl) ?_;exact ⟨(),trivial,qP rfl ⟨rfl,rfl,rfl,rfl,rfl⟩ rfl⟩
    ·try simp only [decide_eq_false_iff_not,Int.not_lt] at h15
     try simp only [zds] at h15
     exact absurd (List.eq_nil_of_length_eq_zero (by omega)) hq
   ·intro u hcut10;refine qC ?_;refine qB ?_;refine qC ?_;refine yJ 0 4 9 .str rfl rfl rfl ?_;refine acode_swap 3 5 rfl rfl ?_;refine yJ 0 5 66 rFld rfl rfl rfl ?_;refine acode_swap 4 6 rfl rfl ?_;refine qB ?_;refine qL ?_;exact ⟨rfl,⟨rfl,rfl,rfl,rfl,rfl⟩,rfl⟩
theorem end_ok {p q : PSt} (h : endS p = .inr q) (hb : PB p 1000000) : yI Tryz.prog 53 [.one (.own 0 0)] (psO p) 5 (.one (.lit .nilIface)) (psO q) 5:=by
  unfold endS at h;split at h
  · cases h
  · rename_i r e;cases h;have hb2 : PB r 2000000:=(flushS_B hb e).mono (by decide);unfold closeS;split
    · rename_i h0;exact end_nil e h0 hb
    · rename_i h0;exact end_blk e h0 hb hb2
theorem end_err {p : PSt} {at_ n : Int} (h : endS p = .inl (at_,n)) (hb : PB p 1000000) : yI Tryz.prog 53 [.one (.own 0 0)] (psO p) 5 (.one (errF at_ n)) [] 5:=by
  have h : xK p = .inl (at_,n):=by
    unfold endS at h;split at h
    · rename_i e;cases h;exact e
    · cases h
  refine yF (rs:=[2]) Tryz.func53 rfl rfl rfl teOk (by decide) rfl ?_;refine qC ?_;refine qB ?_;refine qC ?_;refine qC ?_;refine qB ?_;refine Or.inr (Or.inl (zei [] (zei [0,1,2,3,4] (zei _ (zei _ (zei _ (zei _ (zei _ (zai (flush_err h hb) (zai rfl (zai (zai (zai rfl rfl) (zai (zai rfl rfl) (zai (zai rfl rfl) (zai (zai rfl rfl) (zai (zai rfl rfl) True.intro))))) (zai rfl ?_))))))))))));refine qC ?_;refine qB ?_;refine qK rfl (fun h8=>?_) (fun h8=>?_)
  ·skip
   refine qC ?_;refine qB ?_;refine qL ?_;exact ⟨rfl,trivial,rfl⟩
  ·try simp only [zbq] at h8
   try simp only [zds] at h8
   cases h8
end Q
end Ab
end Go.Proofs.YtehmiepjeffloaaGreatDoor
namespace Go.Proofs.YtehmiepjeffloaaGreatDoor
open Go.RowKit
namespace Ab
set_option maxRecDepth 100000
namespace Q
theorem begin_c (p : PSt) (l : Lne) (_hb : PB p 1000000) : yI Tryz.prog 85 [.one (.own 0 0),.agg (toL rLne l)] (psO p) 5 (.tup []) (psO (beginS p l)) 5:=by
  refine yF (rs:=[]) Tryz.func85 rfl rfl rfl teOk (by decide) rfl ?_;refine qC ?_;refine qB ?_;refine qC ?_;refine qB ?_;intro l1_4
  try simp only [zds] at l1_4
  refine zai (fun h=>trivial) ?_;refine zai (fun h=>⟨⟨h,trivial⟩,trivial⟩) ?_;refine zai (fun h=>⟨⟨h,trivial⟩,trivial⟩) ?_;refine zai (fun h=>⟨⟨h,trivial⟩,trivial⟩) ?_;refine zai (fun h=>⟨⟨h,trivial⟩,trivial⟩) ?_;refine zai (fun h=>⟨⟨h,trivial⟩,trivial⟩) ?_;refine zai (fun h=>⟨⟨h,trivial⟩,trivial⟩) ?_;refine zai (fun h=>trivial) ?_;refine zai (fun h=>⟨⟨h,trivial⟩,trivial⟩) ?_;refine zai (fun h=>⟨⟨h,trivial⟩,trivial⟩) ?_;refine zai (fun h=>⟨⟨h,trivial⟩,trivial⟩) ?_;refine zai (fun h=>⟨⟨h,trivial⟩,trivial⟩) ?_;refine zai (fun h=>⟨⟨⟨h,trivial⟩,trivial⟩,by first|exact fun h2=>h2|(intro h2;rw [h,h2];rfl)|(intro h2;cases h2)|(intro h2;simp_all [gq])⟩) ?_;refine zai (by first|(intro h;rw [h];rfl)|(intro h;cases h)) ?_;refine acode_mend 1 6 ?_;refine qB ?_;exact ⟨rfl,rfl,rfl,⟨rfl,rfl,rfl,rfl,rfl⟩,rfl⟩
theorem ahead_none {p : PSt} (l : Lne) (h : p.lns = []) : yI Tryz.prog 83 [.one (.own 0 0),.agg (toL rLne l),ii .i64 3] (psO p) 5 (.one (errF l.1 2)) [] 5:=by
  refine yF (rs:=[6]) Tryz.func83 rfl rfl rfl teOk (by decide) rfl ?_;refine qC ?_;refine qB ?_;refine qC ?_;refine qC ?_;refine qB ?_;refine qN ?_;refine qC ?_;refine qB ?_;refine qK rfl (fun h8=>?_) (fun h8=>?_)
  ·try simp only [decide_eq_true_eq] at h8
   try simp only [zds] at h8
   refine qC ?_;refine qC ?_;refine qB ?_;intro l3_5
   try simp only [zds] at l3_5
   refine qK rfl (fun h16=>?_) (fun h16=>?_)
   ·try simp only [decide_eq_true_eq] at h16
    try simp only [zds] at h16
    refine qC ?_;refine qB ?_;refine Or.inl ?_;refine zai (rfl) ?_;refine zei _ (zai (fault_c l.1 2) ?_);refine qL ?_;exact ⟨rfl,trivial,rfl⟩
   ·try simp only [decide_eq_false_iff_not] at h16
    try simp only [zds] at h16
    exact absurd (by rw [h];rfl) h16
  ·try simp only [decide_eq_false_iff_not] at h8
   try simp only [zds] at h8
   exact absurd trivial h8
theorem ahead_more {p : PSt} {l : Lne} (h : p.lns ≠ []) (he : l.2.2.2 = true) (hb : PB p 1000000) : yI Tryz.prog 83 [.one (.own 0 0),.agg (toL rLne l),ii .i64 3] (psO p) 5 (.one (.lit .nilIface)) (psO { p with lns:=p.lns ++ [l.2.2.1] }) 5:=by
  have hl:=hb.lns;refine yF (rs:=[6]) Tryz.func83 rfl rfl rfl teOk (by decide) rfl ?_;refine qC ?_;refine qB ?_;refine qC ?_;refine qC ?_;refine qB ?_;refine qN ?_;refine qC ?_;refine qB ?_;refine qK rfl (fun h8=>?_) (fun h8=>?_)
  ·try simp only [decide_eq_true_eq] at h8
   try simp only [zds] at h8
   refine qC ?_;refine qC ?_;refine qB ?_;intro l3_5
   try simp only [zds] at l3_5
   refine qK rfl (fun h16=>?_) (fun h16=>?_)
   ·try simp only [decide_eq_true_eq] at h16
    try simp only [zds] at h16
    exact absurd (List.eq_nil_of_length_eq_zero (by omega)) h
   ·try simp only [decide_eq_false_iff_not] at h16
    try simp only [zds] at h16
    refine qM ?_;refine qC ?_;refine xM rfl ?_;refine qJ 0 rfl rfl rfl (by kernel_rfl) ?_;refine qJ 1 rfl rfl rfl (by kernel_rfl) ?_;refine qJ 2 rfl rfl rfl (by kernel_rfl) ?_;refine qJ 3 rfl rfl rfl (by kernel_rfl) ?_;refine qJ 4 rfl rfl rfl (by kernel_rfl) ?_;refine qJ 6 rfl rfl rfl (by kernel_rfl) ?_;refine qI [5,7] (by kernel_rfl) rfl ?_;refine zai ?_ ?_
    ·refine qI [7] (by kernel_rfl) rfl ?_;refine qI [8] (by kernel_rfl) rfl ?_;refine qI [9] (by kernel_rfl) rfl ?_;refine zai (by first|exact qS (by first|omega|(simp only [List.length_cons,List.length_nil];omega)|(simp;omega)) (by decide)|omega|assumption|decide|(simp only [zds];omega)|(simp <;> omega)) ?_;refine qJ 10 rfl rfl rfl (by kernel_rfl) ?_;refine qJ 11 rfl rfl rfl (by kernel_rfl) ?_;refine qJ 12 rfl rfl rfl (by kernel_rfl) ?_;refine qI [13] (by kernel_rfl) rfl ?_;refine qO (by kernel_rfl) ?_;refine qC ?_;refine qC ?_;refine qB ?_;refine qK rfl (fun h35=>?_) (fun h35=>?_)
     ·try simp only [zbq] at h35
      try simp only [zds] at h35
      refine qC ?_;refine qB ?_;refine qL ?_;exact ⟨rfl,⟨rfl,rfl,rfl,rfl,rfl⟩,rfl⟩
     ·try simp only [zbq] at h35
      try simp only [zds] at h35
      exact absurd h35 (by rw [he];decide)
    ·refine qI [5,8] (by kernel_rfl) rfl ?_;refine zai ?_ ?_
     ·refine qI [8] (by kernel_rfl) rfl ?_;refine qI [9] (by kernel_rfl) rfl ?_;refine zai (by first|exact qS (by first|omega|(simp only [List.length_cons,List.length_nil];omega)|(simp;omega)) (by decide)|omega|assumption|decide|(simp only [zds];omega)|(simp <;> omega)) ?_;refine qJ 10 rfl rfl rfl (by kernel_rfl) ?_;refine qJ 11 rfl rfl rfl (by kernel_rfl) ?_;refine qJ 12 rfl rfl rfl (by kernel_rfl) ?_;refine qI [13] (by kernel_rfl) rfl ?_;refine qO (by kernel_rfl) ?_;refine qC ?_;refine qC ?_;refine qB ?_;refine qK rfl (fun h35=>?_) (fun h35=>?_)
      ·try simp only [zbq] at h35
       try simp only [zds] at h35
       refine qC ?_;refine qB ?_;refine qL ?_;exact ⟨rfl,⟨rfl,rfl,rfl,rfl,rfl⟩,rfl⟩
      ·try simp only [zbq] at h35
       try simp only [zds] at h35
       exact absurd h35 (by rw [he];decide)
     ·refine qI [5] (by kernel_rfl) rfl ?_;refine qI [9] (by kernel_rfl) rfl ?_;refine zai (by first|exact qS (by first|omega|(simp only [List.length_cons,List.length_nil];omega)|(simp;omega)) (by decide)|omega|assumption|decide|(simp only [zds];omega)|(simp <;> omega)) ?_;refine qJ 10 rfl rfl rfl (by kernel_rfl) ?_;refine qJ 11 rfl rfl rfl (by kernel_rfl) ?_;refine qJ 12 rfl rfl rfl (by kernel_rfl) ?_;refine qI [13] (by kernel_rfl) rfl ?_;refine qO (by kernel_rfl) ?_;refine qC ?_;refine qC ?_;refine qB ?_;refine qK rfl (fun h35=>?_) (fun h35=>?_)
      ·try simp only [zbq] at h35
       try simp only [zds] at h35
       refine qC ?_;refine qB ?_;refine qL ?_;exact ⟨rfl,⟨rfl,rfl,rfl,rfl,rfl⟩,rfl⟩
      ·try simp only [zbq] at h35
       try simp only [zds] at h35
       exact absurd h35 (by rw [he];decide)
  ·try simp only [decide_eq_false_iff_not] at h8
   try simp only [zds] at h8
   exact absurd trivial h8
theorem ahead_last {p q : PSt} {l : Lne} (h : p.lns ≠ []) (he : l.2.2.2 = false) (hb : PB p 900000) (hs : l.2.2.1.size ≤ 90000) (hf : xK { p with lns:=p.lns ++ [l.2.2.1] } = .inr q) : yI Tryz.prog 83 [.one (.own 0 0),.agg (toL rLne l),ii .i64 3] (psO p) 5 (.one (.lit .nilIface)) (psO q) 5:=by
  have hl:=hb.lns;refine yF (rs:=[6]) Tryz.func83 rfl rfl rfl teOk (by decide) rfl ?_;refine qC ?_;refine qB ?_;refine qC ?_;refine qC ?_;refine qB ?_;refine qN ?_;refine qC ?_;refine qB ?_;refine qK rfl (fun h8=>?_) (fun h8=>?_)
  ·try simp only [decide_eq_true_eq] at h8
   try simp only [zds] at h8
   refine qC ?_;refine qC ?_;refine qB ?_;intro l3_5
   try simp only [zds] at l3_5
   refine qK rfl (fun h16=>?_) (fun h16=>?_)
   ·try simp only [decide_eq_true_eq] at h16
    try simp only [zds] at h16
    exact absurd (List.eq_nil_of_length_eq_zero (by omega)) h
   ·try simp only [decide_eq_false_iff_not] at h16
    try simp only [zds] at h16
    refine qM ?_;refine qC ?_;refine xM rfl ?_;refine qJ 0 rfl rfl rfl (by kernel_rfl) ?_;refine qJ 1 rfl rfl rfl (by kernel_rfl) ?_;refine qJ 2 rfl rfl rfl (by kernel_rfl) ?_;refine qJ 3 rfl rfl rfl (by kernel_rfl) ?_;refine qJ 4 rfl rfl rfl (by kernel_rfl) ?_;refine qJ 6 rfl rfl rfl (by kernel_rfl) ?_;refine qI [5,7] (by kernel_rfl) rfl ?_;refine zai ?_ ?_
    ·refine qI [7] (by kernel_rfl) rfl ?_;refine qI [8] (by kernel_rfl) rfl ?_;refine qI [9] (by kernel_rfl) rfl ?_;refine zai (by first|exact qS (by first|omega|(simp only [List.length_cons,List.length_nil];omega)|(simp;omega)) (by decide)|omega|assumption|decide|(simp only [zds];omega)|(simp <;> omega)) ?_;refine qJ 10 rfl rfl rfl (by kernel_rfl) ?_;refine qJ 11 rfl rfl rfl (by kernel_rfl) ?_;refine qJ 12 rfl rfl rfl (by kernel_rfl) ?_;refine qI [13] (by kernel_rfl) rfl ?_;refine qO (by kernel_rfl) ?_;refine qC ?_;refine qC ?_;refine qB ?_;refine qK rfl (fun h35=>?_) (fun h35=>?_)
     ·try simp only [zbq] at h35
      try simp only [zds] at h35
      exact absurd h35 (by rw [he];decide)
     ·try simp only [zbq] at h35
      try simp only [zds] at h35
      refine qM ?_;refine qC ?_;refine qB ?_;refine Or.inr (Or.inl (zei [] (zei [0,1,2,3,4] (zei _ (zei _ (zei _ (zei _ (zei _ (zai (flush_ok hf ((more_B _ hb).mono (by omega))) (zai rfl (zai (zai (zai rfl rfl) (zai (zai rfl rfl) (zai (zai rfl rfl) (zai (zai rfl rfl) (zai (zai rfl rfl) True.intro))))) (zai rfl ?_))))))))))));refine qL ?_;exact ⟨rfl,⟨rfl,rfl,rfl,rfl,rfl⟩,rfl⟩
    ·refine qI [5,8] (by kernel_rfl) rfl ?_;refine zai ?_ ?_
     ·refine qI [8] (by kernel_rfl) rfl ?_;refine qI [9] (by kernel_rfl) rfl ?_;refine zai (by first|exact qS (by first|omega|(simp only [List.length_cons,List.length_nil];omega)|(simp;omega)) (by decide)|omega|assumption|decide|(simp only [zds];omega)|(simp <;> omega)) ?_;refine qJ 10 rfl rfl rfl (by kernel_rfl) ?_;refine qJ 11 rfl rfl rfl (by kernel_rfl) ?_;refine qJ 12 rfl rfl rfl (by kernel_rfl) ?_;refine qI [13] (by kernel_rfl) rfl ?_;refine qO (by kernel_rfl) ?_;refine qC ?_;refine qC ?_;refine qB ?_;refine qK rfl (fun h35=>?_) (fun h35=>?_)
      ·try simp only [zbq] at h35
       try simp only [zds] at h35
       exact absurd h35 (by rw [he];decide)
      ·try simp only [zbq] at h35
       try simp only [zds] at h35
       refine qM ?_;refine qC ?_;refine qB ?_;refine Or.inr (Or.inl (zei [] (zei [0,1,2,3,4] (zei _ (zei _ (zei _ (zei _ (zei _ (zai (flush_ok hf ((more_B _ hb).mono (by omega))) (zai rfl (zai (zai (zai rfl rfl) (zai (zai rfl rfl) (zai (zai rfl rfl) (zai (zai rfl rfl) (zai (zai rfl rfl) True.intro))))) (zai rfl ?_))))))))))));refine qL ?_;exact ⟨rfl,⟨rfl,rfl,rfl,rfl,rfl⟩,rfl⟩
     ·refine qI [5] (by kernel_rfl) rfl ?_;refine qI [9] (by kernel_rfl) rfl ?_;refine zai (by first|exact qS (by first|omega|(simp only [List.length_cons,List.length_nil];omega)|(simp;omega)) (by decide)|omega|assumption|decide|(simp only [zds];omega)|(simp <;> omega)) ?_;refine qJ 10 rfl rfl rfl (by kernel_rfl) ?_;refine qJ 11 rfl rfl rfl (by kernel_rfl) ?_;refine qJ 12 rfl rfl rfl (by kernel_rfl) ?_;refine qI [13] (by kernel_rfl) rfl ?_;refine qO (by kernel_rfl) ?_;refine qC ?_;refine qC ?_;refine qB ?_;refine qK rfl (fun h35=>?_) (fun h35=>?_)
      ·try simp only [zbq] at h35
       try simp only [zds] at h35
       exact absurd h35 (by rw [he];decide)
      ·try simp only [zbq] at h35
       try simp only [zds] at h35
       refine qM ?_;refine qC ?_;refine qB ?_;refine Or.inr (Or.inl (zei [] (zei [0,1,2,3,4] (zei _ (zei _ (zei _ (zei _ (zei _ (zai (flush_ok hf ((more_B _ hb).mono (by omega))) (zai rfl (zai (zai (zai rfl rfl) (zai (zai rfl rfl) (zai (zai rfl rfl) (zai (zai rfl rfl) (zai (zai rfl rfl) True.intro))))) (zai rfl ?_))))))))))));refine qL ?_;exact ⟨rfl,⟨rfl,rfl,rfl,rfl,rfl⟩,rfl⟩
  ·try simp only [decide_eq_false_iff_not] at h8
   try simp only [zds] at h8
   exact absurd trivial h8
theorem ahead_fail {p : PSt} {l : Lne} {at_ n : Int} (h : p.lns ≠ []) (he : l.2.2.2 = false) (hb : PB p 900000) (hs : l.2.2.1.size ≤ 90000) (hf : xK { p with lns:=p.lns ++ [l.2.2.1] } = .inl (at_,n)) : yI Tryz.prog 83 [.one (.own 0 0),.agg (toL rLne l),ii .i64 3] (psO p) 5 (.one (errF at_ n)) [] 5:=by
  have hl:=hb.lns;refine yF (rs:=[6]) Tryz.func83 rfl rfl rfl teOk (by decide) rfl ?_;refine qC ?_;refine qB ?_;refine qC ?_;refine qC ?_;refine qB ?_;refine qN ?_;refine qC ?_;refine qB ?_;refine qK rfl (fun h8=>?_) (fun h8=>?_)
  ·try simp only [decide_eq_true_eq] at h8
   try simp only [zds] at h8
   refine qC ?_;refine qC ?_;refine qB ?_;intro l3_5
   try simp only [zds] at l3_5
   refine qK rfl (fun h16=>?_) (fun h16=>?_)
   ·try simp only [decide_eq_true_eq] at h16
    try simp only [zds] at h16
    exact absurd (List.eq_nil_of_length_eq_zero (by omega)) h
   ·try simp only [decide_eq_false_iff_not] at h16
    try simp only [zds] at h16
    refine qM ?_;refine qC ?_;refine xM rfl ?_;refine qJ 0 rfl rfl rfl (by kernel_rfl) ?_;refine qJ 1 rfl rfl rfl (by kernel_rfl) ?_;refine qJ 2 rfl rfl rfl (by kernel_rfl) ?_;refine qJ 3 rfl rfl rfl (by kernel_rfl) ?_;refine qJ 4 rfl rfl rfl (by kernel_rfl) ?_;refine qJ 6 rfl rfl rfl (by kernel_rfl) ?_;refine qI [5,7] (by kernel_rfl) rfl ?_;refine zai ?_ ?_
    ·refine qI [7] (by kernel_rfl) rfl ?_;refine qI [8] (by kernel_rfl) rfl ?_;refine qI [9] (by kernel_rfl) rfl ?_;refine zai (by first|exact qS (by first|omega|(simp only [List.length_cons,List.length_nil];omega)|(simp;omega)) (by decide)|omega|assumption|decide|(simp only [zds];omega)|(simp <;> omega)) ?_;refine qJ 10 rfl rfl rfl (by kernel_rfl) ?_;refine qJ 11 rfl rfl rfl (by kernel_rfl) ?_;refine qJ 12 rfl rfl rfl (by kernel_rfl) ?_;refine qI [13] (by kernel_rfl) rfl ?_;refine qO (by kernel_rfl) ?_;refine qC ?_;refine qC ?_;refine qB ?_;refine qK rfl (fun h35=>?_) (fun h35=>?_)
     ·try simp only [zbq] at h35
      try simp only [zds] at h35
      exact absurd h35 (by rw [he];decide)
     ·try simp only [zbq] at h35
      try simp only [zds] at h35
      refine qM ?_;refine qC ?_;refine qB ?_;refine Or.inr (Or.inl (zei [] (zei [0,1,2,3,4] (zei _ (zei _ (zei _ (zei _ (zei _ (zai (flush_err hf ((more_B _ hb).mono (by omega))) (zai rfl (zai (zai (zai rfl rfl) (zai (zai rfl rfl) (zai (zai rfl rfl) (zai (zai rfl rfl) (zai (zai rfl rfl) True.intro))))) (zai rfl ?_))))))))))));refine qL ?_;exact ⟨rfl,trivial,rfl⟩
    ·refine qI [5,8] (by kernel_rfl) rfl ?_;refine zai ?_ ?_
     ·refine qI [8] (by kernel_rfl) rfl ?_;refine qI [9] (by kernel_rfl) rfl ?_;refine zai (by first|exact qS (by first|omega|(simp only [List.length_cons,List.length_nil];omega)|(simp;omega)) (by decide)|omega|assumption|decide|(simp only [zds];omega)|(simp <;> omega)) ?_;refine qJ 10 rfl rfl rfl (by kernel_rfl) ?_;refine qJ 11 rfl rfl rfl (by kernel_rfl) ?_;refine qJ 12 rfl rfl rfl (by kernel_rfl) ?_;refine qI [13] (by kernel_rfl) rfl ?_;refine qO (by kernel_rfl) ?_;refine qC ?_;refine qC ?_;refine qB ?_;refine qK rfl (fun h35=>?_) (fun h35=>?_)
      ·try simp only [zbq] at h35
       try simp only [zds] at h35
       exact absurd h35 (by rw [he];decide)
      ·try simp only [zbq] at h35
       try simp only [zds] at h35
       refine qM ?_;refine qC ?_;refine qB ?_;refine Or.inr (Or.inl (zei [] (zei [0,1,2,3,4] (zei _ (zei _ (zei _ (zei _ (zei _ (zai (flush_err hf ((more_B _ hb).mono (by omega))) (zai rfl (zai (zai (zai rfl rfl) (zai (zai rfl rfl) (zai (zai rfl rfl) (zai (zai rfl rfl) (zai (zai rfl rfl) True.intro))))) (zai rfl ?_))))))))))));refine qL ?_;exact ⟨rfl,trivial,rfl⟩
     ·refine qI [5] (by kernel_rfl) rfl ?_;refine qI [9] (by kernel_rfl) rfl ?_;refine zai (by first|exact qS (by first|omega|(simp only [List.length_cons,List.length_nil];omega)|(simp;omega)) (by decide)|omega|assumption|decide|(simp only [zds];omega)|(simp <;> omega)) ?_;refine qJ 10 rfl rfl rfl (by kernel_rfl) ?_;refine qJ 11 rfl rfl rfl (by kernel_rfl) ?_;refine qJ 12 rfl rfl rfl (by kernel_rfl) ?_;refine qI [13] (by kernel_rfl) rfl ?_;refine qO (by kernel_rfl) ?_;refine qC ?_;refine qC ?_;refine qB ?_;refine qK rfl (fun h35=>?_) (fun h35=>?_)
      ·try simp only [zbq] at h35
       try simp only [zds] at h35
       exact absurd h35 (by rw [he];decide)
      ·try simp only [zbq] at h35
       try simp only [zds] at h35
       refine qM ?_;refine qC ?_;refine qB ?_;refine Or.inr (Or.inl (zei [] (zei [0,1,2,3,4] (zei _ (zei _ (zei _ (zei _ (zei _ (zai (flush_err hf ((more_B _ hb).mono (by omega))) (zai rfl (zai (zai (zai rfl rfl) (zai (zai rfl rfl) (zai (zai rfl rfl) (zai (zai rfl rfl) (zai (zai rfl rfl) True.intro))))) (zai rfl ?_))))))))))));refine qL ?_;exact ⟨rfl,trivial,rfl⟩
  ·try simp only [decide_eq_false_iff_not] at h8
   try simp only [zds] at h8
   exact absurd trivial h8
theorem ahead_end {p q : PSt} {l : Lne} (hb : PB p 900000) (hf : endS p = .inr q) : yI Tryz.prog 83 [.one (.own 0 0),.agg (toL rLne l),ii .i64 1] (psO p) 5 (.one (.lit .nilIface)) (psO q) 5:=by
  refine yF (rs:=[6]) Tryz.func83 rfl rfl rfl teOk (by decide) rfl ?_;refine qC ?_;refine qB ?_;refine qC ?_;refine qC ?_;refine qB ?_;refine qN ?_;refine qC ?_;refine qB ?_;refine qK rfl (fun h8=>?_) (fun h8=>?_)
  ·try simp only [decide_eq_true_eq] at h8
   try simp only [zds] at h8
   exact absurd h8 (by decide)
  ·try simp only [decide_eq_false_iff_not] at h8
   try simp only [zds] at h8
   refine qC ?_;refine qB ?_;refine qK rfl (fun h38=>?_) (fun h38=>?_)
   ·try simp only [decide_eq_true_eq] at h38
    try simp only [zds] at h38
    refine qC ?_;refine qB ?_;refine Or.inr (Or.inl (zei [] (zei [0,1,2,3,4] (zei _ (zei _ (zei _ (zei _ (zei _ (zai (end_ok hf (hb.mono (by decide))) (zai rfl (zai (zai (zai rfl rfl) (zai (zai rfl rfl) (zai (zai rfl rfl) (zai (zai rfl rfl) (zai (zai rfl rfl) True.intro))))) (zai rfl ?_))))))))))));refine qL ?_;exact ⟨rfl,⟨rfl,rfl,rfl,rfl,rfl⟩,rfl⟩
   ·try simp only [decide_eq_false_iff_not] at h38
    try simp only [zds] at h38
    exact absurd trivial h38
theorem ahead_endf {p : PSt} {l : Lne} {at_ n : Int} (hb : PB p 900000) (hf : endS p = .inl (at_,n)) : yI Tryz.prog 83 [.one (.own 0 0),.agg (toL rLne l),ii .i64 1] (psO p) 5 (.one (errF at_ n)) [] 5:=by
  refine yF (rs:=[6]) Tryz.func83 rfl rfl rfl teOk (by decide) rfl ?_;refine qC ?_;refine qB ?_;refine qC ?_;refine qC ?_;refine qB ?_;refine qN ?_;refine qC ?_;refine qB ?_;refine qK rfl (fun h8=>?_) (fun h8=>?_)
  ·try simp only [decide_eq_true_eq] at h8
   try simp only [zds] at h8
   exact absurd h8 (by decide)
  ·try simp only [decide_eq_false_iff_not] at h8
   try simp only [zds] at h8
   refine qC ?_;refine qB ?_;refine qK rfl (fun h38=>?_) (fun h38=>?_)
   ·try simp only [decide_eq_true_eq] at h38
    try simp only [zds] at h38
    refine qC ?_;refine qB ?_;refine Or.inr (Or.inl (zei [] (zei [0,1,2,3,4] (zei _ (zei _ (zei _ (zei _ (zei _ (zai (end_err hf (hb.mono (by decide))) (zai rfl (zai (zai (zai rfl rfl) (zai (zai rfl rfl) (zai (zai rfl rfl) (zai (zai rfl rfl) (zai (zai rfl rfl) True.intro))))) (zai rfl ?_))))))))))));refine qL ?_;exact ⟨rfl,trivial,rfl⟩
   ·try simp only [decide_eq_false_iff_not] at h38
    try simp only [zds] at h38
    exact absurd trivial h38
theorem ahead_flush {p q : PSt} {l : Lne} {k : Int} (h3 : k ≠ 3) (h1 : k ≠ 1) (hb : PB p 900000) (hf : xK p = .inr q) : yI Tryz.prog 83 [.one (.own 0 0),.agg (toL rLne l),ii .i64 k] (psO p) 5 (.one (.lit .nilIface)) (psO q) 5:=by
  refine yF (rs:=[6]) Tryz.func83 rfl rfl rfl teOk (by decide) rfl ?_;refine qC ?_;refine qB ?_;refine qC ?_;refine qC ?_;refine qB ?_;refine qN ?_;refine qC ?_;refine qB ?_;refine qK rfl (fun h8=>?_) (fun h8=>?_)
  ·try simp only [decide_eq_true_eq] at h8
   try simp only [zds] at h8
   exact absurd h8 h3
  ·try simp only [decide_eq_false_iff_not] at h8
   try simp only [zds] at h8
   refine qC ?_;refine qB ?_;refine qK rfl (fun h38=>?_) (fun h38=>?_)
   ·try simp only [decide_eq_true_eq] at h38
    try simp only [zds] at h38
    exact absurd h38 h1
   ·try simp only [decide_eq_false_iff_not] at h38
    try simp only [zds] at h38
    refine qM ?_;refine qC ?_;refine qB ?_;refine Or.inr (Or.inl (zei [] (zei [0,1,2,3,4] (zei _ (zei _ (zei _ (zei _ (zei _ (zai (flush_ok hf (hb.mono (by decide))) (zai rfl (zai (zai (zai rfl rfl) (zai (zai rfl rfl) (zai (zai rfl rfl) (zai (zai rfl rfl) (zai (zai rfl rfl) True.intro))))) (zai rfl ?_))))))))))));refine qL ?_;exact ⟨rfl,⟨rfl,rfl,rfl,rfl,rfl⟩,rfl⟩
theorem ahead_flushf {p : PSt} {l : Lne} {k at_ n : Int} (h3 : k ≠ 3) (h1 : k ≠ 1) (hb : PB p 900000) (hf : xK p = .inl (at_,n)) : yI Tryz.prog 83 [.one (.own 0 0),.agg (toL rLne l),ii .i64 k] (psO p) 5 (.one (errF at_ n)) [] 5:=by
  refine yF (rs:=[6]) Tryz.func83 rfl rfl rfl teOk (by decide) rfl ?_;refine qC ?_;refine qB ?_;refine qC ?_;refine qC ?_;refine qB ?_;refine qN ?_;refine qC ?_;refine qB ?_;refine qK rfl (fun h8=>?_) (fun h8=>?_)
  ·try simp only [decide_eq_true_eq] at h8
   try simp only [zds] at h8
   exact absurd h8 h3
  ·try simp only [decide_eq_false_iff_not] at h8
   try simp only [zds] at h8
   refine qC ?_;refine qB ?_;refine qK rfl (fun h38=>?_) (fun h38=>?_)
   ·try simp only [decide_eq_true_eq] at h38
    try simp only [zds] at h38
    exact absurd h38 h1
   ·try simp only [decide_eq_false_iff_not] at h38
    try simp only [zds] at h38
    refine qM ?_;refine qC ?_;refine qB ?_;refine Or.inr (Or.inl (zei [] (zei [0,1,2,3,4] (zei _ (zei _ (zei _ (zei _ (zei _ (zai (flush_err hf (hb.mono (by decide))) (zai rfl (zai (zai (zai rfl rfl) (zai (zai rfl rfl) (zai (zai rfl rfl) (zai (zai rfl rfl) (zai (zai rfl rfl) True.intro))))) (zai rfl ?_))))))))))));refine qL ?_;exact ⟨rfl,trivial,rfl⟩
theorem ahead_ok {p q : PSt} {l : Lne} {k : Int} (h : xO p l k = .inr q) (hb : PB p 900000) (hs : l.2.2.1.size ≤ 90000) : yI Tryz.prog 83 [.one (.own 0 0),.agg (toL rLne l),ii .i64 k] (psO p) 5 (.one (.lit .nilIface)) (psO q) 5:=by
  unfold xO at h;split at h
  · rename_i e;subst e;split at h
    · cases h
    · rename_i h0;split at h
      · rename_i he;cases h;exact ahead_more h0 he (hb.mono (by decide))
      · rename_i he;exact ahead_last h0 (by simpa using he) hb hs h
  · rename_i h3;split at h
    · rename_i e;subst e;exact ahead_end hb h
    · rename_i h1;exact ahead_flush h3 h1 hb h
theorem ahead_err {p : PSt} {l : Lne} {k at_ n : Int} (h : xO p l k = .inl (at_,n)) (hb : PB p 900000) (hs : l.2.2.1.size ≤ 90000) : yI Tryz.prog 83 [.one (.own 0 0),.agg (toL rLne l),ii .i64 k] (psO p) 5 (.one (errF at_ n)) [] 5:=by
  unfold xO at h;split at h
  · rename_i e;subst e;split at h
    · rename_i h0;cases h;exact ahead_none l h0
    · rename_i h0;split at h
      · cases h
      · rename_i he;exact ahead_fail h0 (by simpa using he) hb hs h
  · rename_i h3;split at h
    · rename_i e;subst e;exact ahead_endf hb h
    · rename_i h1;exact ahead_flushf h3 h1 hb h
theorem take_err1 {p : PSt} {l : Lne} {at_ n : Int} (h : xO p l (yS (ls l.2.2.1)) = .inl (at_,n)) (hb : PB p 900000) (hs : l.2.2.1.size ≤ 90000) : yI Tryz.prog 52 [.one (.own 0 0),.agg (toL rLne l)] (psO p) 5 (.one (errF at_ n)) [] 5:=by
  refine yF (rs:=[4]) Tryz.func52 rfl rfl rfl teOk (by decide) rfl ?_;refine qC ?_;refine qB ?_;refine qC ?_;refine qB ?_;refine Or.inl ?_;refine zai (rfl) ?_;refine zei _ (zai (kind_c l.2.2.1 (Nat.le_trans hs (by decide))) ?_);refine qC ?_;refine qC ?_;refine qB ?_;refine Or.inr (Or.inl (zei [] (zei [0,1,2,3,4] (zei _ (zei _ (zei _ (zei _ (zei _ (zai (ahead_err h hb hs) (zai rfl (zai (zai (zai rfl rfl) (zai (zai rfl rfl) (zai (zai rfl rfl) (zai (zai rfl rfl) (zai (zai rfl rfl) True.intro))))) (zai rfl ?_))))))))))));refine qC ?_;refine qB ?_;refine qK rfl (fun h15=>?_) (fun h15=>?_)
  ·skip
   refine qC ?_;refine qB ?_;refine qL ?_;exact ⟨rfl,trivial,rfl⟩
  ·try simp only [zbq] at h15
   try simp only [zds] at h15
   cases h15
theorem take_odd {p q : PSt} {l : Lne} (h : xO p l (yS (ls l.2.2.1)) = .inr q) (hk : yS (ls l.2.2.1) = 5 ∨ l.2.2.2 = false) (hb : PB p 900000) (hs : l.2.2.1.size ≤ 90000) : yI Tryz.prog 52 [.one (.own 0 0),.agg (toL rLne l)] (psO p) 5 (.one (errF l.1 2)) [] 5:=by
  refine yF (rs:=[4]) Tryz.func52 rfl rfl rfl teOk (by decide) rfl ?_;refine qC ?_;refine qB ?_;refine qC ?_;refine qB ?_;refine Or.inl ?_;refine zai (rfl) ?_;refine zei _ (zai (kind_c l.2.2.1 (Nat.le_trans hs (by decide))) ?_);refine qC ?_;refine qC ?_;refine qB ?_;refine Or.inr (Or.inl (zei [] (zei [0,1,2,3,4] (zei _ (zei _ (zei _ (zei _ (zei _ (zai (ahead_ok h hb hs) (zai rfl (zai (zai (zai rfl rfl) (zai (zai rfl rfl) (zai (zai rfl rfl) (zai (zai rfl rfl) (zai (zai rfl rfl) True.intro))))) (zai rfl ?_))))))))))));refine qC ?_;refine qB ?_;refine qK rfl (fun h15=>?_) (fun h15=>?_)
  ·try simp only [Bool.not_eq_true'] at h15
   try simp only [zds] at h15
   cases h15
  ·try simp only [Bool.not_eq_false'] at h15
   try simp only [zds] at h15
   refine qM ?_;refine qC ?_;refine qN ?_;refine qC ?_;refine qB ?_;refine zai (fun h=>trivial) ?_;refine zai (fun h=>⟨⟨h,trivial⟩,trivial⟩) ?_;refine zai (fun h=>⟨⟨h,trivial⟩,trivial⟩) ?_;refine zai (by first|(intro h;rw [h];rfl)|(intro h;cases h)) ?_;refine qK rfl (fun h17=>?_) (fun h17=>?_)
   ·try simp only [decide_eq_true_eq,Bool.not_eq_true',Bool.or_eq_true] at h17
    try simp only [zds] at h17
    refine qC ?_;refine qB ?_;refine Or.inl ?_;refine zai (rfl) ?_;refine zei _ (zai (fault_c l.1 2) ?_);refine qL ?_;exact ⟨rfl,trivial,rfl⟩
   ·try simp only [decide_eq_false_iff_not,Bool.not_eq_false',Bool.or_eq_false_iff] at h17
    try simp only [zds] at h17
    exact absurd h17 (by rcases hk with hk|hk <;> simp [hk])
theorem take_blank {p q : PSt} {l : Lne} (h : xO p l (yS (ls l.2.2.1)) = .inr q) (hk : yS (ls l.2.2.1) = 1) (he : l.2.2.2 = true) (hb : PB p 900000) (hq : PB q 2000000) (hs : l.2.2.1.size ≤ 90000) : yI Tryz.prog 52 [.one (.own 0 0),.agg (toL rLne l)] (psO p) 5 (.one (.lit .nilIface)) (psO { q with its:=q.its ++ [(1,l.2.2.1 ++ ⟨#[10]⟩,[])] }) 5:=by
  have hi:=hq.its;refine yF (rs:=[4]) Tryz.func52 rfl rfl rfl teOk (by decide) rfl ?_;refine qC ?_;refine qB ?_;refine qC ?_;refine qB ?_;refine Or.inl ?_;refine zai (rfl) ?_;refine zei _ (zai (kind_c l.2.2.1 (Nat.le_trans hs (by decide))) ?_);refine qC ?_;refine qC ?_;refine qB ?_;refine Or.inr (Or.inl (zei [] (zei [0,1,2,3,4] (zei _ (zei _ (zei _ (zei _ (zei _ (zai (ahead_ok h hb hs) (zai rfl (zai (zai (zai rfl rfl) (zai (zai rfl rfl) (zai (zai rfl rfl) (zai (zai rfl rfl) (zai (zai rfl rfl) True.intro))))) (zai rfl ?_))))))))))));refine qC ?_;refine qB ?_;refine qK rfl (fun h15=>?_) (fun h15=>?_)
  ·try simp only [Bool.not_eq_true'] at h15
   try simp only [zds] at h15
   cases h15
  ·try simp only [Bool.not_eq_false'] at h15
   try simp only [zds] at h15
   refine qM ?_;refine qC ?_;refine qN ?_;refine qC ?_;refine qB ?_;refine zai (fun h=>trivial) ?_;refine zai (fun h=>⟨⟨h,trivial⟩,trivial⟩) ?_;refine zai (fun h=>⟨⟨h,trivial⟩,trivial⟩) ?_;refine zai (by first|(intro h;rw [h];rfl)|(intro h;cases h)) ?_;refine qK rfl (fun h17=>?_) (fun h17=>?_)
   ·try simp only [decide_eq_true_eq,Bool.not_eq_true',Bool.or_eq_true] at h17
    try simp only [zds] at h17
    exact absurd h17 (by simp [hk,he])
   ·try simp only [decide_eq_false_iff_not,Bool.not_eq_false',Bool.or_eq_false_iff] at h17
    try simp only [zds] at h17
    refine qC ?_;refine qB ?_;refine qK rfl (fun h29=>?_) (fun h29=>?_)
    ·try simp only [decide_eq_true_eq] at h29
     try simp only [zds] at h29
     refine qC ?_;refine xM rfl ?_;refine qJ 0 rfl rfl rfl (by kernel_rfl) ?_;refine qJ 1 rfl rfl rfl (by kernel_rfl) ?_;refine qJ 2 rfl rfl rfl (by kernel_rfl) ?_;refine qJ 3 rfl rfl rfl (by kernel_rfl) ?_;refine qJ 5 rfl rfl rfl (by kernel_rfl) ?_;refine qI [4,6] (by kernel_rfl) rfl ?_;refine zai ?_ ?_
     ·refine qI [6] (by kernel_rfl) rfl ?_;refine qJ 7 rfl rfl rfl (by kernel_rfl) ?_;refine zai (by (have hk0 : ByteArray.size { data:=#[10] } = 1:=rfl;first|(unfold maxLen;omega)|(simp only [ByteArray.size_append];omega)|(unfold maxLen;(try simp only [ByteArray.size_append]);omega))) ?_;refine qI [8] (by kernel_rfl) rfl ?_;refine qI [9] (by kernel_rfl) rfl ?_;refine qI [10] (by kernel_rfl) rfl ?_;refine zai (by first|exact qS (by first|omega|(simp only [List.length_cons,List.length_nil];omega)|(simp;omega)) (by decide)|omega|assumption|decide|(simp only [zds];omega)|(simp <;> omega)) ?_;refine qJ 11 rfl rfl rfl (by kernel_rfl) ?_;refine qJ 12 rfl rfl rfl (by kernel_rfl) ?_;refine qI [13] (by kernel_rfl) rfl ?_;refine qO (by kernel_rfl) ?_;refine qC ?_;refine qB ?_;refine qL ?_;exact ⟨rfl,⟨rfl,rfl,rfl,rfl,rfl⟩,rfl⟩
     ·refine qJ 7 rfl rfl rfl (by kernel_rfl) ?_;refine zai (by (have hk0 : ByteArray.size { data:=#[10] } = 1:=rfl;first|(unfold maxLen;omega)|(simp only [ByteArray.size_append];omega)|(unfold maxLen;(try simp only [ByteArray.size_append]);omega))) ?_;refine qI [4,8] (by kernel_rfl) rfl ?_;refine zai ?_ ?_
      ·refine qI [8] (by kernel_rfl) rfl ?_;refine qI [9] (by kernel_rfl) rfl ?_;refine qI [10] (by kernel_rfl) rfl ?_;refine zai (by first|exact qS (by first|omega|(simp only [List.length_cons,List.length_nil];omega)|(simp;omega)) (by decide)|omega|assumption|decide|(simp only [zds];omega)|(simp <;> omega)) ?_;refine qJ 11 rfl rfl rfl (by kernel_rfl) ?_;refine qJ 12 rfl rfl rfl (by kernel_rfl) ?_;refine qI [13] (by kernel_rfl) rfl ?_;refine qO (by kernel_rfl) ?_;refine qC ?_;refine qB ?_;refine qL ?_;exact ⟨rfl,⟨rfl,rfl,rfl,rfl,rfl⟩,rfl⟩
      ·refine qI [4,9] (by kernel_rfl) rfl ?_;refine zai ?_ ?_
       ·refine qI [9] (by kernel_rfl) rfl ?_;refine qI [10] (by kernel_rfl) rfl ?_;refine zai (by first|exact qS (by first|omega|(simp only [List.length_cons,List.length_nil];omega)|(simp;omega)) (by decide)|omega|assumption|decide|(simp only [zds];omega)|(simp <;> omega)) ?_;refine qJ 11 rfl rfl rfl (by kernel_rfl) ?_;refine qJ 12 rfl rfl rfl (by kernel_rfl) ?_;refine qI [13] (by kernel_rfl) rfl ?_;refine qO (by kernel_rfl) ?_;refine qC ?_;refine qB ?_;refine qL ?_;exact ⟨rfl,⟨rfl,rfl,rfl,rfl,rfl⟩,rfl⟩
       ·refine qI [4] (by kernel_rfl) rfl ?_;refine qI [10] (by kernel_rfl) rfl ?_;refine zai (by first|exact qS (by first|omega|(simp only [List.length_cons,List.length_nil];omega)|(simp;omega)) (by decide)|omega|assumption|decide|(simp only [zds];omega)|(simp <;> omega)) ?_;refine qJ 11 rfl rfl rfl (by kernel_rfl) ?_;refine qJ 12 rfl rfl rfl (by kernel_rfl) ?_;refine qI [13] (by kernel_rfl) rfl ?_;refine qO (by kernel_rfl) ?_;refine qC ?_;refine qB ?_;refine qL ?_;exact ⟨rfl,⟨rfl,rfl,rfl,rfl,rfl⟩,rfl⟩
    ·try simp only [decide_eq_false_iff_not] at h29
     try simp only [zds] at h29
     exact absurd hk h29
theorem take_pair {p q : PSt} {l : Lne} (h : xO p l (yS (ls l.2.2.1)) = .inr q) (hk : yS (ls l.2.2.1) = 4) (he : l.2.2.2 = true) (hb : PB p 900000) (hq : PB q 1000000) (hs : l.2.2.1.size ≤ 90000) : yI Tryz.prog 52 [.one (.own 0 0),.agg (toL rLne l)] (psO p) 5 (.one (.lit .nilIface)) (psO { beginS q l with blk:=q.blk ++ [l.2.2.1] }) 5:=by
  have hi : (beginS q l).blk.length ≤ 1000000:=hq.blk;refine yF (rs:=[4]) Tryz.func52 rfl rfl rfl teOk (by decide) rfl ?_;refine qC ?_;refine qB ?_;refine qC ?_;refine qB ?_;refine Or.inl ?_;refine zai (rfl) ?_;refine zei _ (zai (kind_c l.2.2.1 (Nat.le_trans hs (by decide))) ?_);refine qC ?_;refine qC ?_;refine qB ?_;refine Or.inr (Or.inl (zei [] (zei [0,1,2,3,4] (zei _ (zei _ (zei _ (zei _ (zei _ (zai (ahead_ok h hb hs) (zai rfl (zai (zai (zai rfl rfl) (zai (zai rfl rfl) (zai (zai rfl rfl) (zai (zai rfl rfl) (zai (zai rfl rfl) True.intro))))) (zai rfl ?_))))))))))));refine qC ?_;refine qB ?_;refine qK rfl (fun h15=>?_) (fun h15=>?_)
  ·try simp only [Bool.not_eq_true'] at h15
   try simp only [zds] at h15
   cases h15
  ·try simp only [Bool.not_eq_false'] at h15
   try simp only [zds] at h15
   refine qM ?_;refine qC ?_;refine qN ?_;refine qC ?_;refine qB ?_;refine zai (fun h=>trivial) ?_;refine zai (fun h=>⟨⟨h,trivial⟩,trivial⟩) ?_;refine zai (fun h=>⟨⟨h,trivial⟩,trivial⟩) ?_;refine zai (by first|(intro h;rw [h];rfl)|(intro h;cases h)) ?_;refine qK rfl (fun h17=>?_) (fun h17=>?_)
   ·try simp only [decide_eq_true_eq,Bool.not_eq_true',Bool.or_eq_true] at h17
    try simp only [zds] at h17
    exact absurd h17 (by simp [hk,he])
   ·try simp only [decide_eq_false_iff_not,Bool.not_eq_false',Bool.or_eq_false_iff] at h17
    try simp only [zds] at h17
    refine qC ?_;refine qB ?_;refine qK rfl (fun h29=>?_) (fun h29=>?_)
    ·try simp only [decide_eq_true_eq] at h29
     try simp only [zds] at h29
     exact absurd h29 (by rw [hk];decide)
    ·try simp only [decide_eq_false_iff_not] at h29
     try simp only [zds] at h29
     refine qC ?_;refine qB ?_;refine qK rfl (fun h45=>?_) (fun h45=>?_)
     ·try simp only [decide_eq_true_eq] at h45
      try simp only [zds] at h45
      refine qB ?_;refine Or.inr (Or.inl (zei [] (zei [0,1,2,3,4] (zei _ (zei _ (zei _ (zei _ (zei _ (zai (begin_c q l hq) (zai rfl (zai (zai (zai rfl rfl) (zai (zai rfl rfl) (zai (zai rfl rfl) (zai (zai rfl rfl) (zai (zai rfl rfl) True.intro))))) (zai rfl ?_))))))))))));refine qC ?_;refine xM rfl ?_;refine qJ 0 rfl rfl rfl (by kernel_rfl) ?_;refine qJ 1 rfl rfl rfl (by kernel_rfl) ?_;refine qJ 2 rfl rfl rfl (by kernel_rfl) ?_;refine qJ 3 rfl rfl rfl (by kernel_rfl) ?_;refine qJ 5 rfl rfl rfl (by kernel_rfl) ?_;refine qI [4,6] (by kernel_rfl) rfl ?_;refine zai ?_ ?_
      ·refine qI [6] (by kernel_rfl) rfl ?_;refine qI [7] (by kernel_rfl) rfl ?_;refine qI [8] (by kernel_rfl) rfl ?_;refine zai (by first|exact qS (by first|omega|(simp only [List.length_cons,List.length_nil];omega)|(simp;omega)) (by decide)|omega|assumption|decide|(simp only [zds];omega)|(simp <;> omega)) ?_;refine qJ 9 rfl rfl rfl (by kernel_rfl) ?_;refine qJ 10 rfl rfl rfl (by kernel_rfl) ?_;refine qI [11] (by kernel_rfl) rfl ?_;refine qO (by kernel_rfl) ?_;refine qC ?_;refine qB ?_;refine qL ?_;exact ⟨rfl,⟨rfl,rfl,rfl,rfl,rfl⟩,rfl⟩
      ·refine qI [4,7] (by kernel_rfl) rfl ?_;refine zai ?_ ?_
       ·refine qI [7] (by kernel_rfl) rfl ?_;refine qI [8] (by kernel_rfl) rfl ?_;refine zai (by first|exact qS (by first|omega|(simp only [List.length_cons,List.length_nil];omega)|(simp;omega)) (by decide)|omega|assumption|decide|(simp only [zds];omega)|(simp <;> omega)) ?_;refine qJ 9 rfl rfl rfl (by kernel_rfl) ?_;refine qJ 10 rfl rfl rfl (by kernel_rfl) ?_;refine qI [11] (by kernel_rfl) rfl ?_;refine qO (by kernel_rfl) ?_;refine qC ?_;refine qB ?_;refine qL ?_;exact ⟨rfl,⟨rfl,rfl,rfl,rfl,rfl⟩,rfl⟩
       ·refine qI [4] (by kernel_rfl) rfl ?_;refine qI [8] (by kernel_rfl) rfl ?_;refine zai (by first|exact qS (by first|omega|(simp only [List.length_cons,List.length_nil];omega)|(simp;omega)) (by decide)|omega|assumption|decide|(simp only [zds];omega)|(simp <;> omega)) ?_;refine qJ 9 rfl rfl rfl (by kernel_rfl) ?_;refine qJ 10 rfl rfl rfl (by kernel_rfl) ?_;refine qI [11] (by kernel_rfl) rfl ?_;refine qO (by kernel_rfl) ?_;refine qC ?_;refine qB ?_;refine qL ?_;exact ⟨rfl,⟨rfl,rfl,rfl,rfl,rfl⟩,rfl⟩
     ·try simp only [decide_eq_false_iff_not] at h45
      try simp only [zds] at h45
      exact absurd hk h45
theorem take_more {p q : PSt} {l : Lne} (h : xO p l (yS (ls l.2.2.1)) = .inr q) (h5 : yS (ls l.2.2.1) ≠ 5) (h1 : yS (ls l.2.2.1) ≠ 1) (h4 : yS (ls l.2.2.1) ≠ 4) (he : l.2.2.2 = true) (hb : PB p 900000) (hq : PB q 1000000) (hs : l.2.2.1.size ≤ 90000) : yI Tryz.prog 52 [.one (.own 0 0),.agg (toL rLne l)] (psO p) 5 (.one (.lit .nilIface)) (psO { q with blk:=q.blk ++ [l.2.2.1] }) 5:=by
  have hi:=hq.blk;refine yF (rs:=[4]) Tryz.func52 rfl rfl rfl teOk (by decide) rfl ?_;refine qC ?_;refine qB ?_;refine qC ?_;refine qB ?_;refine Or.inl ?_;refine zai (rfl) ?_;refine zei _ (zai (kind_c l.2.2.1 (Nat.le_trans hs (by decide))) ?_);refine qC ?_;refine qC ?_;refine qB ?_;refine Or.inr (Or.inl (zei [] (zei [0,1,2,3,4] (zei _ (zei _ (zei _ (zei _ (zei _ (zai (ahead_ok h hb hs) (zai rfl (zai (zai (zai rfl rfl) (zai (zai rfl rfl) (zai (zai rfl rfl) (zai (zai rfl rfl) (zai (zai rfl rfl) True.intro))))) (zai rfl ?_))))))))))));refine qC ?_;refine qB ?_;refine qK rfl (fun h15=>?_) (fun h15=>?_)
  ·try simp only [Bool.not_eq_true'] at h15
   try simp only [zds] at h15
   cases h15
  ·try simp only [Bool.not_eq_false'] at h15
   try simp only [zds] at h15
   refine qM ?_;refine qC ?_;refine qN ?_;refine qC ?_;refine qB ?_;refine zai (fun h=>trivial) ?_;refine zai (fun h=>⟨⟨h,trivial⟩,trivial⟩) ?_;refine zai (fun h=>⟨⟨h,trivial⟩,trivial⟩) ?_;refine zai (by first|(intro h;rw [h];rfl)|(intro h;cases h)) ?_;refine qK rfl (fun h17=>?_) (fun h17=>?_)
   ·try simp only [decide_eq_true_eq,Bool.not_eq_true',Bool.or_eq_true] at h17
    try simp only [zds] at h17
    exact absurd h17 (by simp [h5,he])
   ·try simp only [decide_eq_false_iff_not,Bool.not_eq_false',Bool.or_eq_false_iff] at h17
    try simp only [zds] at h17
    refine qC ?_;refine qB ?_;refine qK rfl (fun h29=>?_) (fun h29=>?_)
    ·try simp only [decide_eq_true_eq] at h29
     try simp only [zds] at h29
     exact absurd h29 h1
    ·try simp only [decide_eq_false_iff_not] at h29
     try simp only [zds] at h29
     refine qC ?_;refine qB ?_;refine qK rfl (fun h45=>?_) (fun h45=>?_)
     ·try simp only [decide_eq_true_eq] at h45
      try simp only [zds] at h45
      exact absurd h45 h4
     ·try simp only [decide_eq_false_iff_not] at h45
      try simp only [zds] at h45
      refine qM ?_;refine qC ?_;refine xM rfl ?_;refine qJ 0 rfl rfl rfl (by kernel_rfl) ?_;refine qJ 1 rfl rfl rfl (by kernel_rfl) ?_;refine qJ 2 rfl rfl rfl (by kernel_rfl) ?_;refine qJ 3 rfl rfl rfl (by kernel_rfl) ?_;refine qJ 5 rfl rfl rfl (by kernel_rfl) ?_;refine qI [4,6] (by kernel_rfl) rfl ?_;refine zai ?_ ?_
      ·refine qI [6] (by kernel_rfl) rfl ?_;refine qI [7] (by kernel_rfl) rfl ?_;refine qI [8] (by kernel_rfl) rfl ?_;refine zai (by first|exact qS (by first|omega|(simp only [List.length_cons,List.length_nil];omega)|(simp;omega)) (by decide)|omega|assumption|decide|(simp only [zds];omega)|(simp <;> omega)) ?_;refine qJ 9 rfl rfl rfl (by kernel_rfl) ?_;refine qJ 10 rfl rfl rfl (by kernel_rfl) ?_;refine qI [11] (by kernel_rfl) rfl ?_;refine qO (by kernel_rfl) ?_;refine qC ?_;refine qB ?_;refine qL ?_;exact ⟨rfl,⟨rfl,rfl,rfl,rfl,rfl⟩,rfl⟩
      ·refine qI [4,7] (by kernel_rfl) rfl ?_;refine zai ?_ ?_
       ·refine qI [7] (by kernel_rfl) rfl ?_;refine qI [8] (by kernel_rfl) rfl ?_;refine zai (by first|exact qS (by first|omega|(simp only [List.length_cons,List.length_nil];omega)|(simp;omega)) (by decide)|omega|assumption|decide|(simp only [zds];omega)|(simp <;> omega)) ?_;refine qJ 9 rfl rfl rfl (by kernel_rfl) ?_;refine qJ 10 rfl rfl rfl (by kernel_rfl) ?_;refine qI [11] (by kernel_rfl) rfl ?_;refine qO (by kernel_rfl) ?_;refine qC ?_;refine qB ?_;refine qL ?_;exact ⟨rfl,⟨rfl,rfl,rfl,rfl,rfl⟩,rfl⟩
       ·refine qI [4] (by kernel_rfl) rfl ?_;refine qI [8] (by kernel_rfl) rfl ?_;refine zai (by first|exact qS (by first|omega|(simp only [List.length_cons,List.length_nil];omega)|(simp;omega)) (by decide)|omega|assumption|decide|(simp only [zds];omega)|(simp <;> omega)) ?_;refine qJ 9 rfl rfl rfl (by kernel_rfl) ?_;refine qJ 10 rfl rfl rfl (by kernel_rfl) ?_;refine qI [11] (by kernel_rfl) rfl ?_;refine qO (by kernel_rfl) ?_;refine qC ?_;refine qB ?_;refine qL ?_;exact ⟨rfl,⟨rfl,rfl,rfl,rfl,rfl⟩,rfl⟩
theorem take_ok {p q : PSt} {l : Lne} (h : xF p l = .inr q) (hb : PB p 800000) (hs : l.2.2.1.size ≤ 90000) : yI Tryz.prog 52 [.one (.own 0 0),.agg (toL rLne l)] (psO p) 5 (.one (.lit .nilIface)) (psO q) 5:=by
  unfold xF at h;split at h
  · cases h
  · rename_i r e;have hb' : PB p 900000:=hb.mono (by decide);have hr : PB r 1000000:=(aheadS_B hb e).mono (by omega);unfold lineS at h;split at h
    · cases h
    · rename_i h0;have h5 : yS (ls l.2.2.1) ≠ 5:=fun e=>h0 (.inl e)
      have he : l.2.2.2 = true:=by
        cases e : l.2.2.2
        · exact absurd (.inr e) h0
        · rfl
      split at h
      · rename_i h1;cases h;exact take_blank e h1 he hb' (hr.mono (by decide)) hs
      · rename_i h1;split at h
        · rename_i h4;cases h;exact take_pair e h4 he hb' hr hs
        · rename_i h4;cases h;exact take_more e h5 h1 h4 he hb' hr hs
theorem take_err {p : PSt} {l : Lne} {at_ n : Int} (h : xF p l = .inl (at_,n)) (hb : PB p 800000) (hs : l.2.2.1.size ≤ 90000) : yI Tryz.prog 52 [.one (.own 0 0),.agg (toL rLne l)] (psO p) 5 (.one (errF at_ n)) [] 5:=by
  unfold xF at h;split at h
  · rename_i e;cases h;exact take_err1 e (hb.mono (by decide)) hs
  · rename_i r e;unfold lineS at h;split at h
    · rename_i h0;cases h;exact take_odd e h0 (hb.mono (by decide)) hs
    · split at h
      · cases h
      · split at h
        · cases h
        · cases h
end Q
end Ab
end Go.Proofs.YtehmiepjeffloaaGreatDoor
namespace Go.Proofs.YtehmiepjeffloaaGreatDoor
open Go.RowKit
namespace Ab
set_option maxRecDepth 100000
namespace Q
def linesR : Nat → Int → Int → List UInt8 → List Lne
  | 0,_,_,_=>[]
  | f + 1,tot,no,s=>match s with
    | []=>[]
    | s=>(no,tot - s.length,bytes (Lib.cut s [10]).1,(Lib.cut s [10]).2.2) :: linesR f tot (no + 1) (Lib.cut s [10]).2.1
def xI (s : ByteArray) : List Lne:=linesR s.size s.size 0 (ls s)
def itLs (s : ByteArray) : List (List A):=(xI s).map fun l=>[A.agg (toL rLne l)]
theorem cut_less {r : List UInt8} {c : UInt8} (h : r ≠ []) : (Lib.cut r [c]).2.1.length < r.length:=by
  by_cases hm : c ∈ r
  · obtain ⟨a,b,rfl,hn⟩:=List.eq_append_cons_of_mem hm;rw [cut_at hn,List.length_append,List.length_cons];show b.length < _;omega
  · rw [cut_none hm];exact List.length_pos_iff.2 h
theorem le_refl {nx0 : Nat} {tm : Tm} {ob : Obs} {nx : Nat} : Le nx0 tm ob nx tm ob nx:=⟨fun _ _ ρ _ _ hs=>⟨ρ,hs⟩⟩
theorem split_iter (s : ByteArray) (hs : s.size ≤ 1000000) : AIter Tryz.prog 80 [.one (.addr .str s)] (itLs s):=by
  refine aiter_of Tryz.func80 rfl rfl rfl teOk rfl ?_;intro l ι Pr J U n0 hU hab hy;refine yP ?_;refine xC hab hU rfl ?_;refine qB ?_;refine ⟨_,_,_,le_refl,?_⟩;refine yP ?_;refine xC hab hU rfl ?_;refine qB ?_;refine ⟨_,_,_,le_refl,?_⟩;refine acodeY_block ?_;refine acodeY_loop (κ:=Nat × Nat × List UInt8 × ByteArray × Bool) (fun i=>i.2.2.1.length ≤ i.1 ∧ i.2.1 + i.1 ≤ s.size ∧ i.2.1 ≤ (xI s).length ∧ (xI s).drop i.2.1 = linesR i.1 s.size i.2.1 i.2.2.1) (fun i=>i.2.1) (fun i=>[(0,.one (.lit (.func (.yield l) #[] #[]))),(1,.one (.addr .str s)),(3,.one (.own 0 0)),(4,is (bytes i.2.2.1))]) (fun i=>[(0,.box 134 [.lit (.int .i64 i.2.1),.lit (.int .i64 (s.size - i.2.2.1.length)),.lit (.string i.2.2.2.1),.lit (.bool i.2.2.2.2)])]) 1 (fun i=>i.1) (s.size,0,ls s,ByteArray.empty,false) ⟨by rw [show (ls s).length = s.size from (qW s).symm];exact Nat.le_refl _,by simp,Nat.zero_le _,rfl⟩ hab hU (qP ⟨rfl,rfl,rfl,by rw [xQ];rfl⟩ ?_ rfl) rfl ?_
  ·show leO _ [(0,Ob.box 134 [_,C.lit (.int .i64 ((s.size : Int) - ((ls s).length : Nat))),_,_])];rw [show (ls s).length = s.size from (qW s).symm,Int.sub_self];exact rfl
  intro i hi;obtain ⟨f,k,r,t0,e0⟩:=i;obtain ⟨h1,h2,h3,h4⟩:=hi;simp only at h1 h2 h3 h4;have hrs : r.length ≤ s.size:=Nat.le_trans h1 (by omega);refine yP ?_;refine yP ?_;refine xC hab hU rfl ?_;refine qB ?_;refine ⟨_,_,_,le_refl,?_⟩;refine acodeY_cond rfl (fun hc=>?_) (fun hc=>?_)
  ·simp only at hc;have hne : r ≠ []:=fun e=>by
    have e' : bytes r = ⟨#[]⟩:=by rw [e];rfl
    rw [e'] at hc;simp at hc
   obtain ⟨f',hf⟩ : ∃ f',f = f' + 1:=⟨f - 1,by have:=List.length_pos_iff.2 hne;omega⟩;subst hf;have hd : (xI s).drop k = ((k : Int),(s.size : Int) - r.length,bytes (Lib.cut r [10]).1,(Lib.cut r [10]).2.2) :: linesR f' s.size (k + 1 : Nat) (Lib.cut r [10]).2.1:=by
    rw [h4];cases r with
    | nil=>exact absurd rfl hne
    | cons a r=>rfl
   have hk : k < (xI s).length:=by
    rcases Nat.lt_or_ge k (xI s).length with h|h
    ·exact h
    ·rw [List.drop_eq_nil_of_le h] at hd;cases hd
   have hget : (xI s)[k] = ((k : Int),(s.size : Int) - r.length,bytes (Lib.cut r [10]).1,(Lib.cut r [10]).2.2):=by
    rw [List.drop_eq_getElem_cons hk] at hd;exact (List.cons.inj hd).1
   have hdrop : (xI s).drop (k + 1) = linesR f' s.size (k + 1 : Nat) (Lib.cut r [10]).2.1:=by
    rw [List.drop_eq_getElem_cons hk] at hd;exact (List.cons.inj hd).2
   have hkx : k < (itLs s).length:=by unfold itLs;rw [List.length_map];exact hk
   have hx : (itLs s)[k] = [A.agg (toL rLne ((k : Int),(s.size : Int) - r.length,bytes (Lib.cut r [10]).1,(Lib.cut r [10]).2.2))]:=by
    simp only [itLs,List.getElem_map,hget]
   have hcl : (Lib.cut r [10]).2.1.length < r.length:=cut_less hne;have hcc : qQ Tryz.prog 81 [is (bytes r),is ⟨#[10]⟩] (.tup [(false,[.lit (.string (bytes (Lib.cut r [10]).1))]),(false,[.lit (.string (bytes (Lib.cut r [10]).2.1))]),(false,[.lit (.bool (Lib.cut r [10]).2.2)])]):=by
    have:=cut_c (bytes r) ⟨#[10]⟩ (by rw [qX];omega);rw [qT] at this;exact this
   generalize Lib.cut r [10] = c at *
   refine acodeY_skip ?_;refine acodeY_block ?_;refine yP ?_;refine xC hab hU rfl ?_;refine qB ?_;refine Or.inl ?_;refine zai (rfl) ?_;refine zei _ (zai hcc ?_);refine ⟨_,_,_,le_refl,?_⟩;refine yP ?_;refine yP ?_;refine acodeY_yield (pre:=[_,_]) (post:=[_]) _ rfl rfl rfl hab hU hy hkx ?_;refine ⟨_,_,_,le_refl,rfl,?_,by rw [hx];rfl,?_⟩
   ·rw [hx];rfl
   ·intro st;refine ⟨_,_,_,le_refl,?_⟩;refine acodeY_cond rfl (fun ht=>?_) (fun ht=>?_)
    ·refine acodeY_ret ?_;rw [Bool.not_not] at ht;subst ht;exact ⟨.inl rfl,fun e=>by cases e⟩
    ·rw [Bool.not_not] at ht;subst ht;refine acodeY_skip ?_;refine yP ?_;refine xC hab hU rfl ?_;refine qB ?_;refine zai (by simp only;omega) ?_;refine ⟨_,_,_,le_refl,?_⟩;refine xC hab hU rfl ?_;refine qB ?_;refine zai (by rw [qX];omega) ?_;refine ⟨_,_,_,?_,⟨(f',k + 1,c.2.1,bytes c.1,c.2.2),⟨by simp only;omega,by simp only;omega,hk,hdrop⟩,Nat.lt_succ_self _,rfl,rfl,rfl,rfl,rfl⟩⟩;refine qP ⟨rfl,rfl,rfl,rfl⟩ ?_ rfl;show leO _ [(0,Ob.box 134 [C.lit (.int .i64 ((k + 1 : Nat) : Int)),C.lit (.int .i64 ((s.size : Int) - (c.2.1.length : Nat))),C.lit (.string (bytes c.1)),C.lit (.bool c.2.2)])];rw [← qX c.2.1];exact rfl
  ·have hr : r = []:=by
    simp only at hc;have : bytes r = ⟨#[]⟩:=by simpa using hc
    have:=congrArg (fun b=>b.data.toList) this
    simpa [qT] using this
   refine acodeY_exit ?_;rw [hr] at h4;have h5 : (xI s).drop k = []:=by rw [h4];cases f <;> rfl
   have h6:=List.drop_eq_nil_iff.1 h5;exact ⟨.inr rfl,fun _=>by simp only [itLs,List.length_map];omega⟩
end Q
end Ab
end Go.Proofs.YtehmiepjeffloaaGreatDoor
namespace Go.Proofs.YtehmiepjeffloaaGreatDoor
open Go.RowKit
namespace Ab
set_option maxRecDepth 100000
namespace Q
def itB (l : List (List Fld)) : List (List A):=(List.range l.length).map fun j=>[ii .i64 ((l.length - 1 - j : Nat) : Int),.one (.sl rFld (l.getD (l.length - 1 - j) ([] : List Fld)))]
theorem itB_len (l : List (List Fld)) : (itB l).length = l.length:=by unfold itB;rw [List.length_map,List.length_range]
theorem itB_at (l : List (List Fld)) {p : Nat} (h : p < l.length) : ∃ hk : l.length - (p + 1) < (itB l).length,(itB l)[l.length - (p + 1)] = [ii .i64 (p : Int),.one (.sl rFld (l.getD p ([] : List Fld)))]:=by
  refine ⟨by rw [itB_len];omega,?_⟩;simp only [itB,List.getElem_map,List.getElem_range];rw [show l.length - 1 - (l.length - (p + 1)) = p by omega]
theorem back_iter (l : List (List Fld)) : AIter Tryz.prog 66 [.one (.addr (.sl (.sl rFld)) l)] (itB l):=by
  refine aiter_of Tryz.func66 rfl rfl rfl teOk rfl ?_;intro ll ι Pr J U n0 hU hab hy;refine yP ?_;refine xC hab hU rfl ?_;refine qB ?_;intro hln;have hln : l.length ≤ 9223372036854775807:=hln;refine zai (by omega) ?_;refine ⟨_,_,_,le_refl,?_⟩;refine acodeY_block ?_;refine acodeY_loop (κ:=Nat) (fun i=>i ≤ l.length) (fun i=>l.length - i) (fun i=>[(0,.one (.lit (.func (.yield ll) #[] #[]))),(1,.one (.addr (.sl (.sl rFld)) l)),(3,ii .i64 ((i : Int) - 1))]) (fun _=>[]) 0 (fun i=>i) l.length (Nat.le_refl _) hab hU (qP ⟨rfl,rfl,rfl⟩ trivial rfl) (Nat.sub_self _) ?_;intro i hi;have hi : i ≤ l.length:=hi;refine yP ?_;refine yP ?_;refine xC hab hU rfl ?_;refine qB ?_;refine ⟨_,_,_,le_refl,?_⟩;refine acodeY_cond rfl (fun hc=>?_) (fun hc=>?_)
  ·have hc : (0 : Int) ≤ (i : Int) - 1:=of_decide_eq_true hc;obtain ⟨p,rfl⟩ : ∃ p,i = p + 1:=⟨i - 1,by omega⟩;have hpl : p < l.length:=by omega
   obtain ⟨hk,hx⟩:=itB_at l hpl;rw [show ((p + 1 : Nat) : Int) - 1 = (p : Int) by omega];refine acodeY_skip ?_;refine yP ?_;refine acodeY_block ?_;refine yP ?_;refine acodeY_yield (pre:=[_,_,_,_,_,_]) (post:=[_]) _ rfl rfl rfl hab hU hy hk ?_;refine zai (by first|omega|(simp only [Int.toNat_natCast];omega)) ?_;refine ⟨_,_,_,le_refl,rfl,?_,by rw [hx];rfl,?_⟩
   ·rw [hx];rfl
   ·intro st;refine ⟨_,_,_,le_refl,?_⟩;refine acodeY_cond rfl (fun ht=>?_) (fun ht=>?_)
    ·refine acodeY_ret ?_;rw [Bool.not_not] at ht;subst ht;exact ⟨.inl rfl,fun e=>by cases e⟩
    ·rw [Bool.not_not] at ht;subst ht;refine acodeY_skip ?_;refine xC hab hU rfl ?_;refine qB ?_;refine zai (by omega) ?_;refine ⟨_,_,_,?_,⟨p,by omega,Nat.lt_succ_self _,rfl,by omega,rfl,rfl,rfl⟩⟩;exact qP ⟨rfl,rfl,rfl⟩ trivial rfl
  ·have hc : ¬ (0 : Int) ≤ (i : Int) - 1:=of_decide_eq_false hc;refine acodeY_exit ?_;exact ⟨.inr rfl,fun _=>by rw [itB_len];omega⟩
theorem back_c (l : List (List Fld)) : qQ Tryz.prog 38 [.one (.sl (.sl rFld) l)] (.one (.clo 66 (.addr (.sl (.sl rFld)) l))):=by
  refine qR (rs:=[2]) Tryz.func38 rfl rfl rfl teOk rfl ?_;refine qC ?_;refine qB ?_;refine qC ?_;refine qB ?_;refine acode_frz [0] ?_;refine qL ?_;rfl
end Q
end Ab
end Go.Proofs.YtehmiepjeffloaaGreatDoor
namespace Go.Proofs.YtehmiepjeffloaaGreatDoor
open Go.RowKit
namespace Ab
set_option maxRecDepth 100000
namespace Q
def impT (rows : List (List ByteArray)) : List (List Fld) × Int × Int :=
  if rows = [] then ([],-9,2)
  else if keysOk (rows.getD 0 []) = false then ([],-9,5)
  else if ((rows.drop 1).any fun r=>decide ((rows.getD 0 []).length < r.length)) = true then ([],ixOf (fun r=>decide ((rows.getD 0 []).length < r.length)) (rows.drop 1) + 1,2)
  else ((rows.drop 1).map (fldsS (rows.getD 0 [])),-9,0)
def impO (o : Option (List (List (List UInt8)))) : List (List Fld) × Int × Int:=match o with
  | none=>([],-9,2)
  | some rows=>impT (unt rows)
def impA (r : List (List Fld) × Int × Int) : A :=
  if r.2.2 = 0 then .tup [(false,[.sl (.sl rFld) r.1]),(false,[.lit .nilIface])]
  else if r.2.1 = -9 then .tup [(false,[.sl (.sl rFld) []]),(false,[errN r.2.2])]
  else .tup [(false,[.sl (.sl rFld) []]),(false,[errF r.2.1 r.2.2])]
theorem read_none {s : ByteArray} (hs : s.size ≤ 60000) (h : xD (ls s) = none) : qQ Tryz.prog 27 [is s] (.tup [(false,[.sl (.sl .str) []]),(false,[errN 2])]):=by
  have:=Read_c s hs
  rwa [h] at this
theorem read_some {s : ByteArray} {rows : List (List (List UInt8))} (hs : s.size ≤ 60000) (h : xD (ls s) = some rows) : qQ Tryz.prog 27 [is s] (.tup [(false,[.sl (.sl .str) (unt rows)]),(false,[.lit .nilIface])]):=by
  have:=Read_c s hs
  rwa [h] at this
theorem refread_none {s : ByteArray} (hs : s.size ≤ 60000) (h : xD (ls s) = none) : qQ Tryz.prog 39 [is s] (.tup [(false,[.sl (.sl .str) []]),(false,[.lit (.bool false)])]):=by
  have:=refReadS_c s hs
  rwa [← shread_same,h] at this
theorem refread_some {s : ByteArray} {rows : List (List (List UInt8))} (hs : s.size ≤ 60000) (h : xD (ls s) = some rows) : qQ Tryz.prog 39 [is s] (.tup [(false,[.sl (.sl .str) (unt rows)]),(false,[.lit (.bool true)])]):=by
  have:=refReadS_c s hs
  rwa [← shread_same,h] at this
theorem dbl_ge : ∀ s : List UInt8,s.length ≤ (dblL s).length
  | []=>Nat.le_refl _
  | c :: r=>by
    have:=dbl_ge r;unfold dblL;split <;> simp <;> omega
theorem cell_ge (s : List UInt8) (al : Bool) : s.length ≤ (yN s al).length:=by
  have:=dbl_ge s;unfold yN;split
  · simp [quoL];omega
  · exact Nat.le_refl _
theorem join_ge (al : Bool) : ∀ row : List (List UInt8),row ≠ [] → mL row ≤ (Lib.join (row.map fun s=>yN s al) [44]).length + 1
  | [],h=>absurd rfl h
  | [s],_=>by
    have:=cell_ge s al;simp [Lib.join,List.intercalate,mL];omega
  | s :: t :: l,_=>by
    have:=cell_ge s al;have ih:=join_ge al (t :: l) (by simp);have e : mL (s :: t :: l) = s.length + 1 + mL (t :: l):=by simp [mL]
    simp only [List.map_cons] at ih ⊢;rw [join_cons2,e,List.length_append,List.length_cons];omega
theorem mT_ge : ∀ rows : List (List (List UInt8)),yY rows = true → mT (unt rows) ≤ (yH rows).length ∧ rows.length ≤ (yH rows).length
  | [],_=>⟨Nat.le_refl _,Nat.le_refl _⟩
  | r :: rows,h=>by
    simp only [yY,List.all_cons,Bool.and_eq_true,Bool.not_eq_true',List.isEmpty_eq_false_iff] at h;have ih:=mT_ge rows (by simpa [yY] using h.2);have hj:=join_ge (decide (r.length = 1)) r h.1;have e : mT (unt (r :: rows)) = mL r + mT (unt rows):=by rw [← mR_uns];simp [mT]
    have e2 : yH (r :: rows) = shLine r ++ yH rows:=rfl;rw [e,e2,List.length_append,List.length_cons];unfold shLine;rw [List.length_append,List.length_singleton];omega
theorem readP_good {t : List UInt8} {rows : List (List (List UInt8))} (h : xD t = some rows) : yY rows = true ∧ yH rows = t:=by
  unfold xD at h;split at h
  · cases h
  · split at h
    · rename_i hc;cases h;exact hc
    · cases h
theorem readP_size {s : ByteArray} {rows : List (List (List UInt8))} (h : xD (ls s) = some rows) : mT (unt rows) ≤ s.size ∧ rows.length ≤ s.size:=by
  obtain ⟨h1,h2⟩:=readP_good h;have:=mT_ge rows h1;rw [h2] at this
  rwa [show s.size = (ls s).length from qW s]
end Q
end Ab
end Go.Proofs.YtehmiepjeffloaaGreatDoor
namespace Go.Proofs.YtehmiepjeffloaaGreatDoor
open Go.RowKit
namespace Ab
set_option maxRecDepth 100000
namespace Q
theorem imp_none (s : ByteArray) (hs : s.size ≤ 60000) (hrd : xD (ls s) = none) : qQ Tryz.prog 24 [is s] (.tup [(false,[.sl (.sl rFld) []]),(false,[errN 2])]):=by
  refine qR (rs:=[2,3]) Tryz.func24 rfl rfl rfl teOk rfl ?_;refine qC ?_;refine qB ?_;refine qC ?_;refine qB ?_;refine Or.inl ?_;refine zai (rfl) ?_;refine zei _ (zai (read_none hs hrd) ?_);refine qC ?_;refine qN ?_;refine qC ?_;refine qB ?_;refine qK rfl (fun h16=>?_) (fun h16=>?_)
  ·skip
   refine qC ?_;refine qB ?_;refine qV 2 53 (.sl rFld) rfl ?_;refine qL ?_;rfl
  ·try simp only [zbq] at h16
   try simp only [zds] at h16
   cases h16
theorem imp_some (s : ByteArray) (hs : s.size ≤ 60000) (rows : List (List (List UInt8))) (hrd : xD (ls s) = some rows) : qQ Tryz.prog 24 [is s] (impA (impT (unt rows))):=by
  obtain ⟨hsz1,hsz2⟩:=readP_size hrd;have hread:=read_some hs hrd;have hlen : (unt rows).length = rows.length:=List.length_map _
  generalize unt rows = R at hsz1 hread hlen
  have hks : ∀ k ∈ R.getD 0 [],k.size ≤ 1000000000:=fun k hk=>by
    have h1:=mR_mem hk
    by_cases h0 : 0 < R.length
    · have h2:=mT_mem (yL h0 ([] : List ByteArray));omega
    · rw [show R = [] from List.length_eq_zero_iff.1 (by omega)] at hk;simp at hk
  refine qR (rs:=[2,3]) Tryz.func24 rfl rfl rfl teOk rfl ?_;refine qC ?_;refine qB ?_;refine qC ?_;refine qB ?_;refine Or.inl ?_;refine zai (rfl) ?_;refine zei _ (zai (hread) ?_);refine qC ?_;refine qN ?_;refine qC ?_;refine qB ?_;refine qK rfl (fun h16=>?_) (fun h16=>?_)
  ·try simp only [Bool.not_eq_true'] at h16
   try simp only [zds] at h16
   cases h16
  ·try simp only [Bool.not_eq_false'] at h16
   try simp only [zds] at h16
   refine qC ?_;refine qB ?_;intro l4_1
   try simp only [zds] at l4_1
   refine qK rfl (fun h20=>?_) (fun h20=>?_)
   ·try simp only [decide_eq_true_eq] at h20
    try simp only [zds] at h20
    refine qC ?_;refine qB ?_;refine qV 2 53 (.sl rFld) rfl ?_;refine qL ?_;have e : impT R = ([],-9,2):=by (unfold impT;rw [if_pos (List.length_eq_zero_iff.1 (by omega))])
    rw [e];rfl
   ·try simp only [decide_eq_false_iff_not] at h20
    try simp only [zds] at h20
    have h0 : 0 < R.length:=by omega
    have hne : ¬ R = []:=fun e=>by rw [e] at h0;cases h0
    have hkl : (R.getD 0 []).length ≤ 60000:=by have h1:=mR_len (R.getD 0 []);have h2:=mT_mem (yL h0 ([] : List ByteArray));omega
    refine qM ?_;refine qC ?_;refine qB ?_;refine zai (by first|omega|assumption|decide|(simp only [zds];omega)|(simp <;> omega)) ?_;refine qC ?_;refine qC ?_;cases hko : keysOk (R.getD 0 [])
    ·refine qB ?_;refine Or.inl ?_;refine zai (rfl) ?_;refine zei _ (zai (shgood_not _ hks hko) ?_);refine qC ?_;refine qB ?_;refine qK rfl (fun h31=>?_) (fun h31=>?_)
     ·skip
      refine qC ?_;refine qB ?_;refine qV 2 53 (.sl rFld) rfl ?_;refine qL ?_;have e : impT R = ([],-9,5):=by (unfold impT;rw [if_neg hne,if_pos hko])
      rw [e];rfl
     ·try simp only [zbq] at h31
      try simp only [zds] at h31
      cases h31
    ·refine qB ?_;refine Or.inl ?_;refine zai (rfl) ?_;refine zei _ (zai (shgood_yes _ hks hko) ?_);refine qC ?_;refine qB ?_;refine qK rfl (fun h31=>?_) (fun h31=>?_)
     ·try simp only [Bool.not_eq_true'] at h31
      try simp only [zds] at h31
      cases h31
     ·try simp only [Bool.not_eq_false'] at h31
      try simp only [zds] at h31
      refine qM ?_;refine qC ?_;refine qB ?_;refine qV 8 53 (.sl rFld) rfl ?_;refine qC ?_;refine qC ?_;refine qB ?_;refine zai (by first|omega|assumption|decide|(simp only [zds];omega)|(simp <;> omega)) ?_;intro l11_2
      try simp only [zds] at l11_2
      refine qN ?_;refine qU (fun (i : Nat)=>i ≤ (R.drop 1).length ∧ ((R.drop 1).take i).any (fun r=>decide ((R.getD 0 []).length < r.length)) = false) (fun (i : Nat)=>[(6,.one (.sl .str (R.getD 0 []))),(8,.one (.vec 0)),(34,.one (.sl (.sl .str) (R.drop 1))),(35,ii .i64 (R.drop 1).length),(36,ii .i64 i)]) (fun (i : Nat)=>[(0,.vec 53 (.sl rFld) (((R.drop 1).take i).map (fldsS (R.getD 0 []))))]) 1 (fun (i : Nat)=>(R.drop 1).length - i) 0 (⟨Nat.zero_le _,rfl⟩) (qP ⟨rfl,rfl,rfl,rfl,rfl⟩ rfl rfl) ?_;intro i hI1;obtain ⟨hi,hn⟩:=hI1;have hdl : (R.drop 1).length ≤ 60000:=by rw [List.length_drop];omega
      refine qC ?_;refine qB ?_;refine qC ?_;refine qK rfl (fun h37=>?_) (fun h37=>?_)
      ·try simp only [decide_eq_true_eq] at h37
       try simp only [zds] at h37
       have hil : i < (R.drop 1).length:=by omega
       refine qM ?_;refine qC ?_;refine qN ?_;refine qC ?_;refine qB ?_;refine zai (by first|omega|assumption|decide|(simp only [zds];omega)|(simp <;> omega)) ?_;refine qC ?_;refine qC ?_;refine qB ?_;intro l14_1
       try simp only [Int.toNat_natCast,qG] at l14_1
       intro l14_3
       try simp only [zds] at l14_3
       refine qK rfl (fun h45=>?_) (fun h45=>?_)
       ·try simp only [decide_eq_true_eq] at h45
        try simp only [Int.toNat_natCast,qG] at h45
        refine qC ?_;refine qB ?_;refine zai (by first|omega|assumption|decide|(simp only [zds];omega)|(simp <;> omega)) ?_;refine qV 2 53 (.sl rFld) rfl ?_;refine qL ?_;have e : impT R = ([],(i : Int) + 1,2):=by (unfold impT;rw [if_neg hne,if_neg (by rw [hko];decide),if_pos (any_at (p:=fun r=>decide ((R.getD 0 []).length < r.length)) [] hil (decide_eq_true (by omega))),ixOf_at [] hil hn (decide_eq_true (by omega))])
        rw [e];unfold impA;rw [if_neg (by show ¬ ((2 : Int) = 0);decide),if_neg (by show ¬ ((i : Int) + 1 = -9);omega)];rfl
       ·try simp only [decide_eq_false_iff_not,Int.not_lt] at h45
        try simp only [Int.toNat_natCast,qG] at h45
        refine qM ?_;refine qB ?_;refine Or.inl ?_;refine zai (rfl) ?_;refine zei _ (zai (fieldsS_c _ _ (by show ((R.drop 1).getD i []).length ≤ _;omega) (by show ((R.drop 1).getD i []).length ≤ _;omega)) ?_);refine zai (by first|exact qS (by first|omega|(simp only [List.length_cons,List.length_nil,List.length_map,List.length_take,List.length_drop];omega)|(simp;omega)) (by decide)|omega|assumption|decide|(simp only [zds];omega)|(simp <;> omega)) ?_;refine qB ?_;refine zai (by first|omega|assumption|decide|(simp only [zds];omega)|(simp <;> omega)) ?_;exact ⟨i + 1,⟨by omega,by rw [take_any _ _ [] i hil,hn,decide_eq_false (by omega)];rfl⟩,by first|omega|(simp <;> omega),qP ⟨rfl,rfl,rfl,rfl,(yM (by omega))⟩ (yA (map_take_succ (fldsS (R.getD 0 [])) (R.drop 1) [] i hil).symm) rfl⟩
      ·try simp only [decide_eq_false_iff_not,Int.not_lt] at h37
       try simp only [zds] at h37
       refine yC ?_;refine qC ?_;refine qB ?_;refine qL ?_;rw [List.take_of_length_le (by omega)] at hn;have e : impT R = ((R.drop 1).map (fldsS (R.getD 0 [])),-9,0):=by (unfold impT;rw [if_neg hne,if_neg (by rw [hko];decide),if_neg (by rw [hn];decide)])
       rw [e,List.take_of_length_le (by omega)];rfl
end Q
end Ab
end Go.Proofs.YtehmiepjeffloaaGreatDoor
namespace Go.Proofs.YtehmiepjeffloaaGreatDoor
open Go.RowKit
namespace Ab
set_option maxRecDepth 100000
namespace Q
def refImpA (r : List (List Fld) × Int × Int) : A:=.tup [(false,[.sl (.sl rFld) r.1]),(false,[.lit (.int .i64 r.2.1)]),(false,[.lit (.int .i64 r.2.2)])]
theorem refimp_none (s : ByteArray) (hs : s.size ≤ 60000) (hrd : xD (ls s) = none) : qQ Tryz.prog 17 [is s] (refImpA ([],-9,2)):=by
  refine qR (rs:=[2,3,4]) Tryz.func17 rfl rfl rfl teOk rfl ?_;refine qC ?_;refine qB ?_;refine qC ?_;refine qC ?_;refine qB ?_;refine qK rfl (fun h13=>?_) (fun h13=>?_)
  ·try simp only [decide_eq_true_eq] at h13
   try simp only [zds] at h13
   omega
  ·try simp only [decide_eq_false_iff_not,Int.not_lt] at h13
   try simp only [zds] at h13
   refine qM ?_;refine qC ?_;refine qB ?_;refine Or.inl ?_;refine zai (rfl) ?_;refine zei _ (zai (refread_none hs hrd) ?_);refine qC ?_;refine qC ?_;refine qB ?_;refine zai (fun h=>trivial) ?_;refine zai (fun h=>⟨⟨h,trivial⟩,trivial⟩) ?_;refine zai (fun h=>⟨⟨h,trivial⟩,trivial⟩) ?_;refine zai (by first|(intro h;rw [h];rfl)|(intro h;cases h)) ?_;refine qK rfl (fun h25=>?_) (fun h25=>?_)
   ·try simp only [decide_eq_true_eq,Bool.not_eq_true',Bool.or_eq_true] at h25
    try simp only [zds] at h25
    refine qC ?_;refine qB ?_;refine qV 2 53 (.sl rFld) rfl ?_;refine qL ?_;rfl
   ·try simp only [decide_eq_false_iff_not,Bool.not_eq_false',Bool.or_eq_false_iff] at h25
    try simp only [zds] at h25
    simp at h25
theorem refimp_some (s : ByteArray) (hs : s.size ≤ 60000) (rows : List (List (List UInt8))) (hrd : xD (ls s) = some rows) : qQ Tryz.prog 17 [is s] (refImpA (impT (unt rows))):=by
  obtain ⟨hsz1,hsz2⟩:=readP_size hrd;have hread:=refread_some hs hrd;have hlen : (unt rows).length = rows.length:=List.length_map _
  generalize unt rows = R at hsz1 hread hlen
  have hks : ∀ k ∈ R.getD 0 [],k.size ≤ 1000000000:=fun k hk=>by
    have h1:=mR_mem hk
    by_cases h0 : 0 < R.length
    · have h2:=mT_mem (yL h0 ([] : List ByteArray));omega
    · rw [show R = [] from List.length_eq_zero_iff.1 (by omega)] at hk;simp at hk
  refine qR (rs:=[2,3,4]) Tryz.func17 rfl rfl rfl teOk rfl ?_;refine qC ?_;refine qB ?_;refine qC ?_;refine qC ?_;refine qB ?_;refine qK rfl (fun h13=>?_) (fun h13=>?_)
  ·try simp only [decide_eq_true_eq] at h13
   try simp only [zds] at h13
   omega
  ·try simp only [decide_eq_false_iff_not,Int.not_lt] at h13
   try simp only [zds] at h13
   refine qM ?_;refine qC ?_;refine qB ?_;refine Or.inl ?_;refine zai (rfl) ?_;refine zei _ (zai (hread) ?_);refine qC ?_;refine qC ?_;refine qB ?_;refine zai (fun h=>trivial) ?_;refine zai (fun h=>⟨⟨h,trivial⟩,trivial⟩) ?_;refine zai (fun h=>⟨⟨h,trivial⟩,trivial⟩) ?_;refine zai (by first|(intro h;rw [h];rfl)|(intro h;cases h)) ?_;refine qK rfl (fun h25=>?_) (fun h25=>?_)
   ·try simp only [decide_eq_true_eq,Bool.not_eq_true',Bool.or_eq_true] at h25
    try simp only [zds] at h25
    refine qC ?_;refine qB ?_;refine qV 2 53 (.sl rFld) rfl ?_;refine qL ?_;have e : impT R = ([],-9,2):=by (unfold impT;rw [if_pos (List.length_eq_zero_iff.1 (by rcases h25 with h|h;cases h;omega))])
    rw [e];rfl
   ·try simp only [decide_eq_false_iff_not,Bool.not_eq_false',Bool.or_eq_false_iff] at h25
    try simp only [zds] at h25
    have h0 : 0 < R.length:=by have:=h25;simp at this;exact List.length_pos_iff.2 this
    have hne : ¬ R = []:=fun e=>by rw [e] at h0;cases h0
    have hkl : (R.getD 0 []).length ≤ 60000:=by have h1:=mR_len (R.getD 0 []);have h2:=mT_mem (yL h0 ([] : List ByteArray));omega
    refine qM ?_;refine qC ?_;refine qC ?_;refine qB ?_;refine zai (by first|omega|assumption|decide|(simp only [zds];omega)|(simp <;> omega)) ?_;refine Or.inl ?_;refine zai (rfl) ?_;refine zei _ (zai (refGoods_c _ hks) ?_);refine qK rfl (fun h30=>?_) (fun h30=>?_)
    ·try simp only [Bool.not_eq_true'] at h30
     try simp only [qG] at h30
     refine qC ?_;refine qB ?_;refine qV 2 53 (.sl rFld) rfl ?_;refine qL ?_;have e : impT R = ([],-9,5):=by (unfold impT;rw [if_neg hne,if_pos (show keysOk (R.getD 0 []) = false from h30)])
     rw [e];rfl
    ·try simp only [Bool.not_eq_false'] at h30
     try simp only [qG] at h30
     refine qM ?_;refine qC ?_;refine qB ?_;refine qV 7 53 (.sl rFld) rfl ?_;refine qC ?_;refine qC ?_;refine qB ?_;refine qN ?_;refine qU (fun (k : Nat)=>1 ≤ k ∧ k ≤ R.length ∧ ((R.drop 1).take (k - 1)).any (fun r=>decide ((R.getD 0 []).length < r.length)) = false) (fun (k : Nat)=>[(5,.one (.sl (.sl .str) R)),(7,.one (.vec 0)),(8,ii .i64 k)]) (fun (k : Nat)=>[(0,.vec 53 (.sl rFld) (((R.drop 1).take (k - 1)).map (fldsS (R.getD 0 []))))]) 1 (fun (k : Nat)=>R.length - k) 1 (⟨Nat.le_refl _,h0,rfl⟩) (qP ⟨rfl,rfl,rfl⟩ rfl rfl) ?_;intro k hI0;obtain ⟨hk1,hk,hn⟩:=hI0;refine qC ?_;refine qC ?_;refine qB ?_;intro l10_2
     try simp only [zds] at l10_2
     refine qK rfl (fun h34=>?_) (fun h34=>?_)
     ·try simp only [decide_eq_true_eq] at h34
      try simp only [zds] at h34
      have hkl2 : k < R.length:=by omega
      have hdg : (R.drop 1).getD (k - 1) [] = R.getD k []:=by rw [drop_getD,Nat.sub_add_cancel hk1]
      have hkd : k - 1 < (R.drop 1).length:=by rw [List.length_drop];omega
      refine qM ?_;refine qC ?_;refine qN ?_;refine qC ?_;refine qC ?_;refine acode_draw rfl (by kernel_rfl) ?_;refine zai (by first|omega|assumption|decide|(simp only [zds];omega)|(simp <;> omega)) ?_;refine zai (by first|omega|assumption|decide|(simp only [zds];omega)|(simp <;> omega)) ?_;refine qK rfl (fun h46=>?_) (fun h46=>?_)
      ·try simp only [decide_eq_true_eq] at h46
       try simp only [Int.toNat_natCast,qG] at h46
       refine qC ?_;refine qB ?_;refine qV 2 53 (.sl rFld) rfl ?_;refine qL ?_;have h46p : decide ((R.getD 0 []).length < ((R.drop 1).getD (k - 1) []).length) = true:=by (rw [hdg];exact decide_eq_true (by have h : ((R.getD 0 []).length : Int) < ((R.getD k []).length : Int):=h46;omega))
       have e : impT R = ([],(k : Int),2):=by (unfold impT;rw [if_neg hne,if_neg (by rw [show keysOk (R.getD 0 []) = true from h30];decide),if_pos (any_at (p:=fun r=>decide ((R.getD 0 []).length < r.length)) [] hkd h46p),ixOf_at [] hkd hn h46p,show ((k - 1 : Nat) : Int) + 1 = k by omega])
       rw [e];rfl
      ·try simp only [decide_eq_false_iff_not,Int.not_lt] at h46
       try simp only [Int.toNat_natCast,qG] at h46
       have h46n : (R.getD k []).length ≤ (R.getD 0 []).length:=by have h : ((R.getD k []).length : Int) ≤ ((R.getD 0 []).length : Int):=h46;omega
       refine qM ?_;refine qC ?_;refine qB ?_;refine qV 9 66 rFld rfl ?_;refine qC ?_;refine qC ?_;refine qB ?_;refine qN ?_;refine qU (fun (j : Nat)=>j ≤ (R.getD k []).length) (fun (j : Nat)=>[(5,.one (.sl (.sl .str) R)),(7,.one (.vec 0)),(8,ii .i64 k),(9,.one (.vec 1)),(10,ii .i64 j)]) (fun (j : Nat)=>[(0,.vec 53 (.sl rFld) (((R.drop 1).take (k - 1)).map (fldsS (R.getD 0 [])))),(1,.vec 66 rFld (fldsU (R.getD 0 []) (R.getD k []) j))]) 2 (fun (j : Nat)=>(R.getD k []).length - j) 0 (Nat.zero_le _) (qP ⟨rfl,rfl,rfl,rfl,rfl⟩ ⟨rfl,rfl⟩ rfl) ?_;intro j hI2;have hj:=hI2;have hfl:=flds_len (R.getD 0 []) (R.getD k []) j;refine qC ?_;refine qC ?_;refine qB ?_;refine zai (by first|omega|assumption|decide|(simp only [zds];omega)|(simp <;> omega)) ?_;intro l16_5
       try simp only [Int.toNat_natCast,qG] at l16_5
       refine qK rfl (fun h54=>?_) (fun h54=>?_)
       ·try simp only [decide_eq_true_eq] at h54
        try simp only [Int.toNat_natCast,qG] at h54
        refine qM ?_;refine qC ?_;refine qN ?_;refine qC ?_;refine qB ?_;refine zai (by first|omega|assumption|decide|(simp only [zds];omega)|(simp <;> omega)) ?_;refine zai (by first|omega|assumption|decide|(simp only [Int.toNat_natCast,qG];omega)|(simp <;> omega)) ?_;refine qK rfl (fun h64=>?_) (fun h64=>?_)
        ·try simp only [decide_eq_false_iff_not,Bool.not_eq_true'] at h64
         try simp only [Int.toNat_natCast,qG,qE] at h64
         refine xM rfl ?_;refine qJ 0 rfl rfl rfl (by kernel_rfl) ?_;refine qJ 1 rfl rfl rfl (by kernel_rfl) ?_;refine qJ 2 rfl rfl rfl (by kernel_rfl) ?_;refine zai (by first|omega|assumption|decide|(simp only [zds];omega)|(simp <;> omega)) ?_;refine qJ 4 rfl rfl rfl (by kernel_rfl) ?_;refine qJ 7 rfl rfl rfl (by kernel_rfl) ?_;refine qJ 8 rfl rfl rfl (by kernel_rfl) ?_;refine qJ 9 rfl rfl rfl (by kernel_rfl) ?_;refine zai (by first|omega|assumption|decide|(simp only [zds];omega)|(simp <;> omega)) ?_;refine qJ 11 rfl rfl rfl (by kernel_rfl) ?_;refine qI [3,10] (by kernel_rfl) rfl ?_;refine zai ?_ ?_
         ·refine qJ 5 rfl rfl rfl (by kernel_rfl) ?_;refine zai (by first|omega|assumption|decide|(simp only [qG];omega)|(simp <;> omega)) ?_;refine qI [6,10] (by kernel_rfl) rfl ?_;refine zai ?_ ?_
          ·refine qI [10] (by kernel_rfl) rfl ?_;refine qJ 12 rfl rfl rfl (by kernel_rfl) ?_;refine zai (by first|omega|assumption|decide|(simp only [Int.toNat_natCast,qG];omega)|(simp <;> omega)) ?_;refine qI [13] (by kernel_rfl) rfl ?_;refine qI [14] (by kernel_rfl) rfl ?_;refine qI [15] (by kernel_rfl) rfl ?_;refine qI [16] (by kernel_rfl) rfl ?_;refine zai (by show (_ + 1) * 32 ≤ 140737488355328;omega) ?_;refine qJ 17 rfl rfl rfl (by kernel_rfl) ?_;refine qO (by kernel_rfl) ?_;refine qB ?_;refine zai (by first|omega|assumption|decide|(simp only [zds];omega)|(simp <;> omega)) ?_;exact ⟨j + 1,by omega,by first|omega|(simp <;> omega),qP ⟨rfl,rfl,rfl,rfl,(yM (by omega))⟩ ⟨rfl,(yA (by first |exact flds_yes _ _ _ h64 |exact flds_not _ _ _ h64))⟩ rfl⟩
          ·refine qJ 12 rfl rfl rfl (by kernel_rfl) ?_;refine zai (by first|omega|assumption|decide|(simp only [Int.toNat_natCast,qG];omega)|(simp <;> omega)) ?_;refine qI [6,13] (by kernel_rfl) rfl ?_;refine zai ?_ ?_
           ·refine qI [13] (by kernel_rfl) rfl ?_;refine qI [14] (by kernel_rfl) rfl ?_;refine qI [15] (by kernel_rfl) rfl ?_;refine qI [16] (by kernel_rfl) rfl ?_;refine zai (by show (_ + 1) * 32 ≤ 140737488355328;omega) ?_;refine qJ 17 rfl rfl rfl (by kernel_rfl) ?_;refine qO (by kernel_rfl) ?_;refine qB ?_;refine zai (by first|omega|assumption|decide|(simp only [zds];omega)|(simp <;> omega)) ?_;exact ⟨j + 1,by omega,by first|omega|(simp <;> omega),qP ⟨rfl,rfl,rfl,rfl,(yM (by omega))⟩ ⟨rfl,(yA (by first |exact flds_yes _ _ _ h64 |exact flds_not _ _ _ h64))⟩ rfl⟩
           ·refine qI [6] (by kernel_rfl) rfl ?_;refine qI [14] (by kernel_rfl) rfl ?_;refine qI [15] (by kernel_rfl) rfl ?_;refine qI [16] (by kernel_rfl) rfl ?_;refine zai (by show (_ + 1) * 32 ≤ 140737488355328;omega) ?_;refine qJ 17 rfl rfl rfl (by kernel_rfl) ?_;refine qO (by kernel_rfl) ?_;refine qB ?_;refine zai (by first|omega|assumption|decide|(simp only [zds];omega)|(simp <;> omega)) ?_;exact ⟨j + 1,by omega,by first|omega|(simp <;> omega),qP ⟨rfl,rfl,rfl,rfl,(yM (by omega))⟩ ⟨rfl,(yA (by first |exact flds_yes _ _ _ h64 |exact flds_not _ _ _ h64))⟩ rfl⟩
         ·refine qJ 12 rfl rfl rfl (by kernel_rfl) ?_;refine zai (by first|omega|assumption|decide|(simp only [Int.toNat_natCast,qG];omega)|(simp <;> omega)) ?_;refine qI [3,13] (by kernel_rfl) rfl ?_;refine zai ?_ ?_
          ·refine qJ 5 rfl rfl rfl (by kernel_rfl) ?_;refine zai (by first|omega|assumption|decide|(simp only [qG];omega)|(simp <;> omega)) ?_;refine qI [6,13] (by kernel_rfl) rfl ?_;refine zai ?_ ?_
           ·refine qI [13] (by kernel_rfl) rfl ?_;refine qI [14] (by kernel_rfl) rfl ?_;refine qI [15] (by kernel_rfl) rfl ?_;refine qI [16] (by kernel_rfl) rfl ?_;refine zai (by show (_ + 1) * 32 ≤ 140737488355328;omega) ?_;refine qJ 17 rfl rfl rfl (by kernel_rfl) ?_;refine qO (by kernel_rfl) ?_;refine qB ?_;refine zai (by first|omega|assumption|decide|(simp only [zds];omega)|(simp <;> omega)) ?_;exact ⟨j + 1,by omega,by first|omega|(simp <;> omega),qP ⟨rfl,rfl,rfl,rfl,(yM (by omega))⟩ ⟨rfl,(yA (by first |exact flds_yes _ _ _ h64 |exact flds_not _ _ _ h64))⟩ rfl⟩
           ·refine qI [6] (by kernel_rfl) rfl ?_;refine qI [14] (by kernel_rfl) rfl ?_;refine qI [15] (by kernel_rfl) rfl ?_;refine qI [16] (by kernel_rfl) rfl ?_;refine zai (by show (_ + 1) * 32 ≤ 140737488355328;omega) ?_;refine qJ 17 rfl rfl rfl (by kernel_rfl) ?_;refine qO (by kernel_rfl) ?_;refine qB ?_;refine zai (by first|omega|assumption|decide|(simp only [zds];omega)|(simp <;> omega)) ?_;exact ⟨j + 1,by omega,by first|omega|(simp <;> omega),qP ⟨rfl,rfl,rfl,rfl,(yM (by omega))⟩ ⟨rfl,(yA (by first |exact flds_yes _ _ _ h64 |exact flds_not _ _ _ h64))⟩ rfl⟩
          ·refine qI [3] (by kernel_rfl) rfl ?_;refine qJ 5 rfl rfl rfl (by kernel_rfl) ?_;refine zai (by first|omega|assumption|decide|(simp only [qG];omega)|(simp <;> omega)) ?_;refine qI [6] (by kernel_rfl) rfl ?_;refine qI [14] (by kernel_rfl) rfl ?_;refine qI [15] (by kernel_rfl) rfl ?_;refine qI [16] (by kernel_rfl) rfl ?_;refine zai (by show (_ + 1) * 32 ≤ 140737488355328;omega) ?_;refine qJ 17 rfl rfl rfl (by kernel_rfl) ?_;refine qO (by kernel_rfl) ?_;refine qB ?_;refine zai (by first|omega|assumption|decide|(simp only [zds];omega)|(simp <;> omega)) ?_;exact ⟨j + 1,by omega,by first|omega|(simp <;> omega),qP ⟨rfl,rfl,rfl,rfl,(yM (by omega))⟩ ⟨rfl,(yA (by first |exact flds_yes _ _ _ h64 |exact flds_not _ _ _ h64))⟩ rfl⟩
        ·try simp only [decide_eq_true_eq,Bool.not_eq_false'] at h64
         try simp only [Int.toNat_natCast,qG,qE] at h64
         refine qM ?_;refine qB ?_;refine zai (by first|omega|assumption|decide|(simp only [zds];omega)|(simp <;> omega)) ?_;exact ⟨j + 1,by omega,by first|omega|(simp <;> omega),qP ⟨rfl,rfl,rfl,rfl,(yM (by omega))⟩ ⟨rfl,(yA (by first |exact flds_yes _ _ _ h64 |exact flds_not _ _ _ h64))⟩ rfl⟩
       ·try simp only [decide_eq_false_iff_not,Int.not_lt] at h54
        try simp only [Int.toNat_natCast,qG] at h54
        have hje : j = (R.getD k []).length:=by omega
        refine yC ?_;refine qB ?_;refine zai (by show (_ + 1) * 24 ≤ 140737488355328;rw [List.length_map,List.length_take];omega) ?_;refine qB ?_;refine zai (by first|omega|assumption|decide|(simp only [zds];omega)|(simp <;> omega)) ?_;exact ⟨k + 1,⟨by omega,by omega,by rw [show k + 1 - 1 = (k - 1) + 1 by omega,take_any _ _ [] (k - 1) hkd,hn,hdg,decide_eq_false (by omega)];rfl⟩,by first|omega|(simp <;> omega),qP ⟨rfl,rfl,(yM (by omega))⟩ (yA (by rw [show k + 1 - 1 = (k - 1) + 1 by omega,map_take_succ (fldsS (R.getD 0 [])) (R.drop 1) [] (k - 1) hkd,hdg,hje];rfl)) rfl⟩
     ·try simp only [decide_eq_false_iff_not,Int.not_lt] at h34
      try simp only [zds] at h34
      refine yC ?_;refine qC ?_;refine qB ?_;refine qL ?_;rw [List.take_of_length_le (by rw [List.length_drop];omega)] at hn;have e : impT R = ((R.drop 1).map (fldsS (R.getD 0 [])),-9,0):=by (unfold impT;rw [if_neg hne,if_neg (by rw [show keysOk (R.getD 0 []) = true from h30];decide),if_neg (by rw [hn];decide)])
      rw [e,List.take_of_length_le (by rw [List.length_drop];omega)];rfl
end Q
end Ab
end Go.Proofs.YtehmiepjeffloaaGreatDoor
namespace Go.Proofs.YtehmiepjeffloaaGreatDoor
open Go.RowKit
namespace Ab
set_option maxRecDepth 100000
namespace Q
theorem fieldsEq_c (a b : List Fld) : qQ Tryz.prog 23 [.one (.sl rFld a),.one (.sl rFld b)] (ib (decide (a = b))):=by
  refine qR (rs:=[4]) Tryz.func23 rfl rfl rfl teOk rfl ?_;refine qC ?_;refine qB ?_;refine qC ?_;refine qC ?_;refine qB ?_;intro l1_1
  try simp only [zds] at l1_1
  intro l1_3
  try simp only [zds] at l1_3
  refine qK rfl (fun h10=>?_) (fun h10=>?_)
  ·try simp only [decide_eq_false_iff_not,Bool.not_eq_true'] at h10
   try simp only [zds] at h10
   refine qC ?_;refine qB ?_;refine qL ?_;exact xH (decide_eq_false (fun e=>by rw [e] at h10;omega)).symm
  ·try simp only [decide_eq_true_eq,Bool.not_eq_false'] at h10
   try simp only [zds] at h10
   refine qM ?_;refine qC ?_;refine qC ?_;refine qB ?_;intro l3_1
   try simp only [zds] at l3_1
   refine qN ?_;refine qU (fun (i : Nat)=>i ≤ a.length ∧ a.take i = b.take i) (fun (i : Nat)=>[(0,.one (.sl rFld a)),(1,.one (.sl rFld b)),(12,ii .i64 a.length),(13,ii .i64 i)]) (fun (i : Nat)=>[]) 0 (fun (i : Nat)=>a.length - i) 0 (⟨Nat.zero_le _,by simp⟩) (qP ⟨rfl,rfl,rfl,rfl⟩ trivial rfl) ?_;intro i hI0;obtain ⟨hi,ht⟩:=hI0;refine qC ?_;refine qB ?_;refine qC ?_;refine qK rfl (fun h14=>?_) (fun h14=>?_)
   ·try simp only [decide_eq_true_eq] at h14
    try simp only [zds] at h14
    have hla : i < a.length:=by omega
    have hlb : i < b.length:=by omega
    refine qM ?_;refine qC ?_;refine qN ?_;refine qC ?_;refine qB ?_;refine qC ?_;refine acode_draw rfl (by kernel_rfl) ?_;refine zai (by first|omega|assumption|decide|(simp only [zds];omega)|(simp <;> omega)) ?_;refine zai (by first|omega|assumption|decide|(simp only [zds];omega)|(simp <;> omega)) ?_;refine zai (by rfl) ?_;refine qK rfl (fun h24=>?_) (fun h24=>?_)
    ·try simp only [decide_eq_false_iff_not,Bool.not_eq_true',Bool.and_eq_false_iff] at h24
     try simp only [Int.toNat_natCast,qH,qE] at h24
     refine qC ?_;refine qB ?_;refine qL ?_;exact xH (decide_eq_false (ne_at (i:=i) (ByteArray.empty,ByteArray.empty) (fun e=>h24.elim (fun h=>h (congrArg Prod.fst e)) (fun h=>h (congrArg Prod.snd e))))).symm
    ·try simp only [decide_eq_true_eq,Bool.and_eq_true,Bool.not_eq_false'] at h24
     try simp only [Int.toNat_natCast,qH,qE] at h24
     refine qM ?_;refine qB ?_;refine zai (by first|omega|assumption|decide|(simp only [zds];omega)|(simp <;> omega)) ?_;exact ⟨i + 1,⟨by omega,list_ext_take (ByteArray.empty,ByteArray.empty) hla hlb ht (Prod.ext h24.1 h24.2)⟩,by first|omega|(simp <;> omega),qP ⟨rfl,rfl,rfl,(yM (by omega))⟩ trivial rfl⟩
   ·try simp only [decide_eq_false_iff_not,Int.not_lt] at h14
    try simp only [zds] at h14
    refine yC ?_;refine qC ?_;refine qB ?_;refine qL ?_;exact xH (decide_eq_true (by rw [List.take_of_length_le (by omega),List.take_of_length_le (by omega)] at ht;exact ht)).symm
end Q
end Ab
end Go.Proofs.YtehmiepjeffloaaGreatDoor
namespace Go.Proofs.YtehmiepjeffloaaGreatDoor
open Go.RowKit
namespace Ab
set_option maxRecDepth 100000
namespace Q
theorem split_c (s : ByteArray) : qQ Tryz.prog 51 [is s] (.one (.clo 80 (.addr .str s))):=by
  refine qR (rs:=[2]) Tryz.func51 rfl rfl rfl teOk rfl ?_;refine qC ?_;refine qB ?_;refine qC ?_;refine qB ?_;refine acode_frz [0] ?_;refine qL ?_;rfl
def runS (p : PSt) : List Lne → (Int × Int) ⊕ PSt
  | []=>.inr p
  | l :: r=>match xF p l with
    | .inl e=>.inl e
    | .inr q=>runS q r
def parseS (s : ByteArray) : (Int × Int) ⊕ List Itm:=match runS pst0 (xI s) with
  | .inl e=>.inl e
  | .inr p=>match endS p with
    | .inl e=>.inl e
    | .inr q=>.inr q.its
def resP : (Int × Int) ⊕ List Itm → A
  | .inl e=>.tup [(false,[.sl rItm []]),(false,[errF e.1 e.2])]
  | .inr l=>.tup [(false,[.sl rItm l]),(false,[.lit .nilIface])]
theorem linesR_len : ∀ (f : Nat) (tot no : Int) (s : List UInt8),(linesR f tot no s).length ≤ s.length ∧ ((linesR f tot no s).map (·.2.2.1.size)).sum ≤ s.length
  | 0,_,_,_=>by simp [linesR]
  | f + 1,tot,no,[]=>by simp [linesR]
  | f + 1,tot,no,a :: r=>by
    obtain ⟨h1,h2⟩:=linesR_len f tot (no + 1) (Lib.cut (a :: r) [10]).2.1;have h3 : (Lib.cut (a :: r) [10]).2.1.length < (a :: r).length:=cut_less (by simp);have h4 : (Lib.cut (a :: r) [10]).1.length + (Lib.cut (a :: r) [10]).2.1.length ≤ (a :: r).length:=by
      by_cases hm : (10 : UInt8) ∈ a :: r
      · obtain ⟨x,b,e,hn⟩:=List.eq_append_cons_of_mem hm;rw [e,cut_at hn,List.length_append,List.length_cons];show x.length + b.length ≤ _;omega
      · rw [cut_none hm];exact Nat.le_refl _
    unfold linesR;simp only [List.length_cons,List.map_cons,List.sum_cons,qX] at h3 h4 ⊢;exact ⟨by omega,by omega⟩
theorem linesT_len (s : ByteArray) : (xI s).length ≤ s.size ∧ ((xI s).map (·.2.2.1.size)).sum ≤ s.size:=by
  have:=linesR_len s.size s.size 0 (ls s);rw [show (ls s).length = s.size from (qW s).symm] at this;exact this
def prP (L : List Lne) : Bool → Nat → PSt ⊕ (Int × Int) → Prop
  | false,k,.inl p=>runS pst0 L = runS p (L.drop k) ∧ ∃ B,PB p B ∧ B + 3 * (L.drop k).length + 2 * ((L.drop k).map (·.2.2.1.size)).sum ≤ 600000
  | true,_,.inr e=>runS pst0 L = .inl e
  | _,_,_=>False
def obP : PSt ⊕ (Int × Int) → Obs
  | .inl p=>[(0,.box 74 [.lit (.slice none 0 0)]),(1,.box 26 [.lit .nilIface]),(2,.box 129 [.vec 4,.lit (.int .i64 p.frm),.lit (.bool p.full),.vec 5,.vec 6,.vec 7,.lit (.int .i64 p.recs)]),(3,.box 125 [.own 2 0]),(4,.vec 9 .str p.lns),(5,.vec 81 rItm p.its),(6,.vec 9 .str p.blk),(7,.vec 66 rFld p.flds)]
  | .inr e=>[(0,.box 74 [.lit (.slice none 0 0)]),(1,.box 26 [errF e.1 e.2])]
theorem prP_next {L : List Lne} {k : Nat} {p q : PSt} {l : Lne} (hk : k < L.length) (hl : L[k] = l) (h : prP L false k (.inl p)) (ht : xF p l = .inr q) : prP L false (k + 1) (.inl q):=by
  obtain ⟨h1,B,h2,h3⟩:=h;rw [List.drop_eq_getElem_cons hk,hl] at h1 h3;simp only [runS,ht] at h1;simp only [List.length_cons,List.map_cons,List.sum_cons] at h3;exact ⟨h1,_,takeS_B h2 ht,by omega⟩
theorem prP_stop {L : List Lne} {k : Nat} {p : PSt} {e : Int × Int} {l : Lne} (hk : k < L.length) (hl : L[k] = l) (h : prP L false k (.inl p)) (ht : xF p l = .inl e) : prP L true (k + 1) (.inr e):=by
  obtain ⟨h1,B,h2,h3⟩:=h;rw [List.drop_eq_getElem_cons hk,hl] at h1;simp only [runS,ht] at h1;exact h1
theorem prP_B {L : List Lne} {k : Nat} {p : PSt} {l : Lne} (hk : k < L.length) (hl : L[k] = l) (h : prP L false k (.inl p)) : PB p 800000 ∧ l.2.2.1.size ≤ 300000:=by
  obtain ⟨h1,B,h2,h3⟩:=h;rw [List.drop_eq_getElem_cons hk,hl] at h3;simp only [List.length_cons,List.map_cons,List.sum_cons] at h3;exact ⟨h2.mono (by omega),by omega⟩
theorem prP_end {L : List Lne} {p : PSt} (h : prP L false L.length (.inl p)) : runS pst0 L = .inr p ∧ PB p 1000000:=by
  obtain ⟨h1,B,h2,h3⟩:=h;rw [List.drop_length] at h1;exact ⟨h1,h2.mono (by omega)⟩
theorem linesT_sz {s : ByteArray} {k : Nat} (hk : k < (xI s).length) : ((xI s)[k]).2.2.1.size ≤ s.size:=by
  have h:=(linesT_len s).2;have h1 : (xI s) = (xI s).take k ++ (xI s)[k] :: (xI s).drop (k + 1):=by rw [← List.drop_eq_getElem_cons hk,List.take_append_drop]
  rw [h1,List.map_append,List.sum_append,List.map_cons,List.sum_cons] at h;omega
theorem parse_a (s : ByteArray) (hs : s.size ≤ 60000) : qQ Tryz.prog 28 [is s] (resP (parseS s)):=by
  have hlen:=linesT_len s;refine acall_ofc (rs:=[.cell 2 74,.cell 3 26]) Tryz.func28 rfl rfl rfl teOk rfl ?_;refine qC ?_;refine qB ?_;refine qC ?_;refine qC ?_;refine qB ?_;refine qK rfl (fun h10=>?_) (fun h10=>?_)
  ·try simp only [decide_eq_true_eq] at h10
   try simp only [zds] at h10
   omega
  ·try simp only [decide_eq_false_iff_not,Int.not_lt] at h10
   try simp only [zds] at h10
   refine qM ?_;refine qC ?_;refine qB ?_;refine qC ?_;refine qC ?_;refine yJ 2 0 9 .str rfl rfl rfl ?_;refine yJ 2 3 81 rItm rfl rfl rfl ?_;refine yJ 2 4 9 .str rfl rfl rfl ?_;refine yJ 2 5 66 rFld rfl rfl rfl ?_;refine qB ?_;refine Or.inl ?_;refine zai (rfl) ?_;refine zei _ (zai (split_c s) ?_);refine qN ?_;refine acode_range (caps:=[.one (.addr .str s)]) (xs:=itLs s) [(2,.one (.own 0 0)),(3,.one (.own 1 0)),(4,.one (.own 3 0)),(15,.one (.clo 80 (.addr .str s)))] 8 (prP (xI s)) obP (fun _=>.ret) (.inl pst0) rfl rfl (split_iter s (by omega)) (qP ⟨rfl,rfl,rfl,rfl⟩ ⟨rfl,rfl,rfl,rfl,rfl,rfl,rfl,rfl⟩ rfl) ⟨rfl,0,⟨Nat.le_refl _,Nat.le_refl _,Nat.le_refl _,Nat.le_refl _,Nat.le_refl _,Nat.le_refl _,Int.le_refl _,Int.le_refl _⟩,by rw [List.drop_zero];omega⟩ (fun k hk=>by simp [itLs]) rfl rfl rfl (fun k i h=>by cases i with|inl p=>rfl|inr e=>exact h.elim) rfl ?_ ?_ ?_
   ·intro k i hk hp;have hk2 : k < (xI s).length:=(by have:=hk;unfold itLs at this;rwa [List.length_map] at this);rw [show (itLs s)[k] = [A.agg (toL rLne ((xI s)[k]))] from by simp [itLs]];obtain ⟨l,hl⟩ : ∃ l,(xI s)[k] = l:=⟨_,rfl⟩;rw [hl];cases i with|inr e=>exact hp.elim|inl p=>?_
    obtain ⟨hB,hz⟩:=prP_B hk2 hl hp;have hz2 : l.2.2.1.size ≤ 90000:=(by have h1:=linesT_sz hk2;rw [hl] at h1;omega);refine qB ?_;refine qN ?_;refine qC ?_;rcases ht : xF p l with ⟨at_,n⟩|q
    ·refine qB ?_;refine Or.inr (Or.inl (zei [] (zei [2,4,5,6,7] (zei _ (zei _ (zei _ (zei _ (zei _ (zai (take_err ht hB hz2) (zai rfl (zai (zai (zai rfl rfl) (zai (zai rfl rfl) (zai (zai rfl rfl) (zai (zai rfl rfl) (zai (zai rfl rfl) True.intro))))) (zai rfl ?_))))))))))));refine qC ?_;refine qB ?_;refine qK rfl (fun h21=>?_) (fun h21=>?_)
     ·skip
      refine qC ?_;refine qB ?_;refine qL ?_;exact ⟨.inr (at_,n),prP_stop hk2 hl hp ht,rfl,qP trivial ⟨rfl,rfl⟩ rfl⟩
     ·try simp only [zbq] at h21
      try simp only [zds] at h21
      cases h21
    ·refine qB ?_;refine Or.inr (Or.inl (zei [] (zei [2,4,5,6,7] (zei _ (zei _ (zei _ (zei _ (zei _ (zai (take_ok ht hB hz2) (zai rfl (zai (zai (zai rfl rfl) (zai (zai rfl rfl) (zai (zai rfl rfl) (zai (zai rfl rfl) (zai (zai rfl rfl) True.intro))))) (zai rfl ?_))))))))))));refine qC ?_;refine qB ?_;refine qK rfl (fun h21=>?_) (fun h21=>?_)
     ·try simp only [Bool.not_eq_true'] at h21
      try simp only [zds] at h21
      cases h21
     ·try simp only [Bool.not_eq_false'] at h21
      try simp only [zds] at h21
      refine qM ?_;exact ⟨.inl q,prP_next hk2 hl hp ht,qP trivial ⟨rfl,rfl,rfl,rfl,rfl,rfl,rfl,rfl⟩ rfl⟩
   ·intro i hp;cases i with|inr e=>exact hp.elim|inl p=>?_
    rw [show (itLs s).length = (xI s).length from by simp [itLs]] at hp;obtain ⟨hr,hB⟩:=prP_end hp;refine qC ?_;refine qC ?_;rcases he : endS p with ⟨at_,n⟩|q
    ·refine qB ?_;refine Or.inr (Or.inl (zei [] (zei [2,4,5,6,7] (zei _ (zei _ (zei _ (zei _ (zei _ (zai (end_err he hB) (zai rfl (zai (zai (zai rfl rfl) (zai (zai rfl rfl) (zai (zai rfl rfl) (zai (zai rfl rfl) (zai (zai rfl rfl) True.intro))))) (zai rfl ?_))))))))))));refine qC ?_;refine qB ?_;refine qK rfl (fun h26=>?_) (fun h26=>?_)
     ·skip
      refine qC ?_;refine qB ?_;refine yJ 0 0 81 rItm rfl rfl rfl ?_;refine qL ?_;rw [show parseS s = .inl (at_,n) from by unfold parseS;rw [hr];simp only [he]];exact rfl
     ·try simp only [zbq] at h26
      try simp only [zds] at h26
      cases h26
    ·refine qB ?_;refine Or.inr (Or.inl (zei [] (zei [2,4,5,6,7] (zei _ (zei _ (zei _ (zei _ (zei _ (zai (end_ok he hB) (zai rfl (zai (zai (zai rfl rfl) (zai (zai rfl rfl) (zai (zai rfl rfl) (zai (zai rfl rfl) (zai (zai rfl rfl) True.intro))))) (zai rfl ?_))))))))))));refine qC ?_;refine qB ?_;refine qK rfl (fun h26=>?_) (fun h26=>?_)
     ·try simp only [Bool.not_eq_true'] at h26
      try simp only [zds] at h26
      cases h26
     ·try simp only [Bool.not_eq_false'] at h26
      try simp only [zds] at h26
      refine qM ?_;refine qC ?_;refine qB ?_;refine qL ?_;rw [show parseS s = .inr q.its from by unfold parseS;rw [hr];simp only [he]];exact rfl
   ·intro k i hp;cases i with|inl p=>exact hp.elim|inr e=>?_
    have hp : runS pst0 (xI s) = .inl e:=hp;refine yJ 0 0 81 rItm rfl rfl rfl ?_;refine qL ?_;rw [show parseS s = .inl e from by unfold parseS;rw [hp]];exact rfl
end Q
end Ab
end Go.Proofs.YtehmiepjeffloaaGreatDoor
namespace Go.Proofs.YtehmiepjeffloaaGreatDoor
open Go.RowKit
namespace Ab
set_option maxRecDepth 100000
namespace Q
end Q
end Ab
end Go.Proofs.YtehmiepjeffloaaGreatDoor
namespace Go.Proofs.YtehmiepjeffloaaGreatDoor
open Go.RowKit
namespace Ab
set_option maxRecDepth 100000
namespace Q
end Q
end Ab
end Go.Proofs.YtehmiepjeffloaaGreatDoor
namespace Go.Proofs.YtehmiepjeffloaaGreatDoor
open Go.RowKit
namespace Ab
set_option maxRecDepth 100000
namespace Q
def oneL (k : Nat) : List UInt8:=(List.replicate k [65,58,10]).flatten
def manyL (k : Nat) : List UInt8:=(List.replicate k [65,58,10,10]).flatten
def PClean (p : PSt) (r : Int) : Prop:=p.lns = [] ∧ p.blk = [] ∧ p.flds = [] ∧ p.recs = r
theorem linesR_cons (f : Nat) (tot no : Int) (a : UInt8) (r : List UInt8) : linesR (f + 1) tot no (a :: r) = (no,tot - ((a :: r).length : Nat),bytes (Lib.cut (a :: r) [10]).1,(Lib.cut (a :: r) [10]).2.2) :: linesR f tot (no + 1) (Lib.cut (a :: r) [10]).2.1:=rfl
end Q
end Ab
end Go.Proofs.YtehmiepjeffloaaGreatDoor
namespace Go.Proofs.YtehmiepjeffloaaGreatDoor
open Go.RowKit
namespace Ab
set_option maxRecDepth 100000
namespace Q
def linesB : Nat → List UInt8 → List (ByteArray × Bool)
  | 0,_=>[]
  | f + 1,s=>match s with
    | []=>[]
    | s=>(bytes (Lib.cut s [10]).1,(Lib.cut s [10]).2.2) :: linesB f (Lib.cut s [10]).2.1
def glue : List (ByteArray × Bool) → List UInt8
  | []=>[]
  | l :: r=>ls l.1 ++ ((if l.2 then [10] else []) ++ glue r)
theorem cut_cases {a : UInt8} {s : List UInt8} {c : UInt8} : (∃ x b,a :: s = x ++ c :: b ∧ c ∉ x ∧ Lib.cut (a :: s) [c] = (x,b,true)) ∨ (c ∉ a :: s ∧ Lib.cut (a :: s) [c] = (a :: s,[],false)):=by
  by_cases hm : c ∈ a :: s
  · obtain ⟨x,b,e,hn⟩:=List.eq_append_cons_of_mem hm;exact .inl ⟨x,b,e,hn,by rw [e];exact cut_at hn⟩
  · exact .inr ⟨hm,cut_none hm⟩
structure Rel (I : List Itm) (c : Int) (p q : PSt) : Prop where
  lns : p.lns = q.lns
  full : q.full = true → p.full = true
  its : p.its = I ++ q.its
  blk : p.blk = q.blk
  flds : p.flds = q.flds
  recs : p.recs = q.recs + c
  c0 : 0 ≤ c
  r4 : p.recs ≤ 400
  rf : p.flds ≠ [] → p.recs < 400
  rl : p.lns ≠ [] → p.full = false → p.recs < 400
section
variable {I : List Itm} {c : Int} {p q p1 : PSt}
end
end Q
end Ab
end Go.Proofs.YtehmiepjeffloaaGreatDoor
namespace Go.Proofs.YtehmiepjeffloaaGreatDoor
open Go.RowKit
namespace Ab
set_option maxRecDepth 100000
namespace Q
def szI (l : List Itm) : Nat:=(l.map (·.2.1.size)).sum
def szB (l : List ByteArray) : Nat:=(l.map (fun b=>b.size + 1)).sum
def rawN (p : PSt) : Nat:=szI p.its + szB p.blk
def Idle (p : PSt) : Prop:=p.lns = [] ∧ p.blk = [] ∧ p.flds = []
def szL (L : List Lne) : Nat:=(L.map (fun l=>l.2.2.1.size + 1)).sum
theorem run_app : ∀ (L M : List Lne) (p q : PSt),runS p L = .inr q → runS p (L ++ M) = runS q M
  | [],M,p,q,h=>by cases h;rfl
  | l :: r,M,p,q,h=>by
    simp only [runS,List.cons_append] at h ⊢;cases e : xF p l with
    | inl x=>rw [e] at h;cases h
    | inr p1 =>
      rw [e] at h;exact run_app r M p1 q h
end Q
end Ab
end Go.Proofs.YtehmiepjeffloaaGreatDoor
namespace Go.Proofs.YtehmiepjeffloaaGreatDoor
open Go.RowKit
namespace Ab
set_option maxRecDepth 100000
namespace Q
def more (l : Lne) : Bool:=decide (yS (ls l.2.2.1) = 3)
def saidL (l : Lne) (r : List Lne) : List ByteArray:=l.2.2.1 :: (r.takeWhile more).map (·.2.2.1)
def wrongL (bh : Bool) (l : Lne) (r : List Lne) (fields recs : Int) : Int :=
  if yS (ls l.2.2.1) = 5 ∨ (yS (ls l.2.2.1) = 3 ∧ bh = false) ∨ l.2.2.2 = false then 2
  else if yS (ls l.2.2.1) ≠ 4 then 0
  else if (yG ((saidL l r).map ls)).2 ≠ 0 then (yG ((saidL l r).map ls)).2
  else if 40 ≤ fields ∨ (fields = 0 ∧ 400 ≤ recs) then 11
  else 0
structure RSt where
  kind : Int
  raw : ByteArray
  flds : List Fld
  out : List Itm
  recs : Int
def fldOf (L : List ByteArray) : Fld:=(bytes (yG (L.map ls)).1.1,bytes (yG (L.map ls)).1.2)
def stepR (t : RSt) (l : Lne) (r : List Lne) : RSt :=
  if yS (ls l.2.2.1) = 1 then ⟨2,ByteArray.empty,[],(if t.raw = ByteArray.empty then t.out else t.out ++ [(t.kind,t.raw,t.flds)]) ++ [(1,l.2.2.1 ++ ⟨#[10]⟩,[])],t.recs⟩
  else if yS (ls l.2.2.1) = 4 then ⟨3,t.raw ++ l.2.2.1 ++ ⟨#[10]⟩,t.flds ++ [fldOf (saidL l r)],t.out,if t.kind = 2 then t.recs + 1 else t.recs⟩
  else { t with raw:=t.raw ++ l.2.2.1 ++ ⟨#[10]⟩ }
def runR (bh : Bool) (t : RSt) : List Lne → (Int × Int) ⊕ List Itm
  | []=>.inr (if t.raw = ByteArray.empty then t.out else t.out ++ [(t.kind,t.raw,t.flds)])
  | l :: r=>if wrongL bh l r t.flds.length t.recs ≠ 0 then .inl (l.1,wrongL bh l r t.flds.length t.recs)
    else runR (decide (yS (ls l.2.2.1) = 4) || decide (yS (ls l.2.2.1) = 3)) (stepR t l r) r
def rst0 : RSt:=⟨2,ByteArray.empty,[],[],0⟩
def outP (p : PSt) (L : List Lne) : (Int × Int) ⊕ List Itm:=match runS p L with
  | .inl e=>.inl e
  | .inr q=>match endS q with
    | .inl e=>.inl e
    | .inr q=>.inr q.its
theorem outP_cons (p : PSt) (l : Lne) (r : List Lne) : outP p (l :: r) = match xF p l with
    | .inl e=>.inl e
    | .inr q=>outP q r:=by
  unfold outP;simp only [runS];cases xF p l <;> rfl
theorem parse_out (s : ByteArray) : parseS s = outP pst0 (xI s):=rfl
def Ends : List Lne → Prop
  | []=>True
  | l :: r=>(l.2.2.2 = false → r = []) ∧ Ends r
theorem ends_linesR : ∀ (f : Nat) (tot no : Int) (s : List UInt8),Ends (linesR f tot no s)
  | 0,_,_,_=>trivial
  | f + 1,_,_,[]=>trivial
  | f + 1,tot,no,a :: r=>by
    rw [linesR_cons];refine ⟨fun h=>?_,ends_linesR f _ _ _⟩;rcases cut_cases (a:=a) (s:=r) (c:=10) with ⟨x,b,e,_,hc⟩|⟨_,hc⟩
    · rw [hc] at h;cases h
    · rw [hc];cases f <;> rfl
theorem not_more {l : Lne} (h : yS (ls l.2.2.1) ≠ 3) (r : List Lne) : (l :: r).takeWhile more = []:=by
  rw [List.takeWhile_cons_of_neg (by unfold more;simp [h])]
theorem is_more {l : Lne} (h : yS (ls l.2.2.1) = 3) (r : List Lne) : (l :: r).takeWhile more = l :: r.takeWhile more:=by
  rw [List.takeWhile_cons_of_pos (by unfold more;simp [h])]
theorem pend_err : ∀ (r : List Lne) (p : PSt) (at_ n : Int),Ends r → p.lns ≠ [] → (∀ q : PSt,q.lns = p.lns ++ (r.takeWhile more).map (·.2.2.1) → q.full = p.full → q.frm = p.frm → xK q = .inl (at_,n)) → outP p r = .inl (at_,n)
  | [],p,at_,n,_,h0,hf=>by
    have:=hf p (by simp) rfl rfl;unfold outP;simp only [runS,endS,this]
  | l :: r,p,at_,n,hE,h0,hf=>by
    rw [outP_cons]
    by_cases hm : yS (ls l.2.2.1) = 3
    · rw [is_more hm] at hf
      by_cases he : l.2.2.2 = true
      · have ht : xF p l = .inr { p with lns:=p.lns ++ [l.2.2.1],blk:=p.blk ++ [l.2.2.1] }:=by
          unfold xF;simp only [hm];simp [xO,lineS,h0,he]
        rw [ht];exact pend_err r _ at_ n hE.2 (by simp) (fun q h1 h2 h3=>hf q (by rw [h1];simp) h2 h3)
      · obtain rfl:=hE.1 (by simpa using he);have hfp:=hf { p with lns:=p.lns ++ [l.2.2.1] } (by simp) rfl rfl;have ht : xF p l = .inl (at_,n):=by
          unfold xF xO;rw [if_pos hm,if_neg h0,if_neg he,hfp]
        rw [ht]
    · rw [not_more hm] at hf;have hfp:=hf p (by simp) rfl rfl;have ht : xF p l = .inl (at_,n):=by
        unfold xF xO;rw [if_neg hm];unfold endS;rw [hfp];simp
      rw [ht]
def rawC (b : List ByteArray) : ByteArray:=bytes (endL (b.map ls))
theorem rawC_snoc (b : List ByteArray) (x : ByteArray) : rawC (b ++ [x]) = rawC b ++ x ++ ⟨#[10]⟩:=by
  unfold rawC endL;rw [List.map_append,List.flatMap_append,yR,ByteArray.append_assoc]
  congr 1
  simp only [List.map_cons,List.map_nil,List.flatMap_cons,List.flatMap_nil,List.append_nil];rw [yR,xQ];rfl
theorem join_endL (c : UInt8) : ∀ (l : List (List UInt8)),l ≠ [] → Lib.join l [c] ++ [c] = l.flatMap fun s=>s ++ [c]
  | [],h=>absurd rfl h
  | [a],_=>by rw [Lib.join_one];simp
  | a :: b :: r,_=>by
    have:=join_endL c (b :: r) (by simp);rw [join_two,List.flatMap_cons,← this];simp
theorem rawB_C {b : List ByteArray} (h : b ≠ []) : rawB b = rawC b:=by
  unfold rawB rawC endL;rw [show b.map ls = b.map (·.data.toList) from rfl,← join_endL 10 (b.map (·.data.toList)) (by simpa using h),yR];rfl
theorem rawC_nil {b : List ByteArray} : rawC b = ByteArray.empty ↔ b = []:=by
  refine ⟨fun h=>?_,fun h=>by rw [h];rfl⟩;cases b with
  | nil=>rfl
  | cons x r =>
    have:=congrArg ByteArray.size h;unfold rawC endL at this;rw [qX] at this;simp at this
structure Alike (p : PSt) (t : RSt) (bh : Bool) (L : List Lne) : Prop where
  its : t.out = p.its
  raw : t.raw = rawC p.blk
  bh : bh = true ↔ p.lns ≠ []
  flds : t.flds = p.flds ++ (if p.lns = [] then [] else [fldOf (p.lns ++ (L.takeWhile more).map (·.2.2.1))])
  kind : t.kind = if t.flds = [] then 2 else 3
  recs : t.recs = p.recs + (if t.flds = [] then 0 else 1)
  pend : p.lns ≠ [] → p.full = false ∧ (yG ((p.lns ++ (L.takeWhile more).map (·.2.2.1)).map ls)).2 = 0
  blk0 : p.blk = [] → t.flds = []
  r4 : p.recs ≤ 400
  rf : t.flds ≠ [] → p.recs < 400
  f40 : t.flds.length ≤ 40
section
variable {p : PSt} {t : RSt} {bh : Bool} {L : List Lne}
theorem alike_flush (h : Alike p t bh L) (hL : L.takeWhile more = []) : ∃ q,xK p = .inr q ∧ q.lns = [] ∧ q.flds = t.flds ∧ q.its = p.its ∧ q.blk = p.blk ∧ q.recs = p.recs:=by
  by_cases h0 : p.lns = []
  · refine ⟨p,by unfold xK;rw [if_pos h0],h0,?_,rfl,rfl,rfl⟩;rw [h.flds,if_pos h0,List.append_nil]
  · obtain ⟨h1,h2⟩:=h.pend h0;rw [hL,List.map_nil,List.append_nil] at h2;refine ⟨{ p with flds:=p.flds ++ [(bytes (yG (p.lns.map ls)).1.1,bytes (yG (p.lns.map ls)).1.2)],lns:=[] },?_,rfl,?_,rfl,rfl,rfl⟩
    · unfold xK;rw [if_neg h0,if_neg (by rw [h2];simp),if_neg (by rw [h1];simp)]
    · rw [h.flds,if_neg h0,hL];simp [fldOf]
theorem alike_end (h : Alike p t bh L) (hL : L.takeWhile more = []) : ∃ q,endS p = .inr q ∧ q.lns = [] ∧ q.flds = [] ∧ q.blk = [] ∧ q.its = (if t.raw = ByteArray.empty then t.out else t.out ++ [(t.kind,t.raw,t.flds)]) ∧ q.recs = t.recs:=by
  obtain ⟨q,f1,f2,f3,f4,f5,f6⟩:=alike_flush h hL;refine ⟨closeS q,by unfold endS;rw [f1],?_⟩;unfold closeS
  by_cases hb : p.blk = []
  · have hraw : t.raw = ByteArray.empty:=by rw [h.raw];exact rawC_nil.2 hb
    rw [if_pos (f5.trans hb),if_pos hraw];refine ⟨f2,rfl,rfl,by rw [h.its];exact f4,?_⟩;rw [h.recs,if_pos (h.blk0 hb),Int.add_zero];exact f6
  · have hraw : ¬ t.raw = ByteArray.empty:=fun e=>hb (rawC_nil.1 (by rw [← h.raw];exact e))
    rw [if_neg (by rw [f5];exact hb),if_neg hraw];refine ⟨f2,rfl,rfl,?_,?_⟩
    · simp only [h.its,h.kind,h.raw,rawB_C hb,f3,f4,f5]
    · simp only [f3,f6];rw [h.recs]
      by_cases hf : t.flds = []
      · simp [hf]
      · simp [hf]
end
theorem run_eq : ∀ (L : List Lne) (p : PSt) (t : RSt) (bh : Bool),Ends L → Alike p t bh L → outP p L = runR bh t L
  | [],p,t,bh,_,h=>by
    obtain ⟨q,e,_,_,_,h1,_⟩:=alike_end h rfl;unfold outP;simp only [runS,e,h1];rfl
  | l :: r,p,t,bh,hE,h=>by
    rw [outP_cons];unfold runR
    by_cases h3 : yS (ls l.2.2.1) = 3
    · by_cases hb : p.lns = []
      · have hbh : bh = false:=by
          cases bh
          · rfl
          · exact absurd hb (h.bh.1 rfl)
        have hw : wrongL bh l r t.flds.length t.recs = 2:=by
          unfold wrongL;rw [if_pos (.inr (.inl ⟨h3,hbh⟩))]
        have ht : xF p l = .inl (l.1,2):=by
          unfold xF xO;rw [if_pos h3,if_pos hb]
        rw [hw,ht];rfl
      · have hbh : bh = true:=h.bh.2 hb;obtain ⟨h5,h6⟩:=h.pend hb;rw [is_more h3] at h6
        by_cases he : l.2.2.2 = true
        · have hw : wrongL bh l r t.flds.length t.recs = 0:=by
            unfold wrongL;rw [if_neg (by simp [h3,hbh,he]),if_pos (by rw [h3];decide)]
          have ht : xF p l = .inr { p with lns:=p.lns ++ [l.2.2.1],blk:=p.blk ++ [l.2.2.1] }:=by
            unfold xF;simp only [h3];simp [xO,lineS,hb,he]
          rw [hw,ht,if_neg (by decide)];refine run_eq r _ _ _ hE.2 ?_;have hfl:=h.flds;rw [if_neg hb,is_more h3] at hfl;have hne : t.flds ≠ []:=by rw [hfl];simp
          unfold stepR;rw [if_neg (by rw [h3];decide),if_neg (by rw [h3];decide)];exact ⟨h.its,by simp only [h.raw,rawC_snoc],by simp [h3],by simp only;rw [hfl,if_neg (by simp)];simp,h.kind,h.recs,fun _=>⟨h5,by simpa using h6⟩,fun e=>by simp at e,h.r4,h.rf,h.f40⟩
        · have he' : l.2.2.2 = false:=by simpa using he
          obtain rfl:=hE.1 he';have hw : wrongL bh l [] t.flds.length t.recs = 2:=by
            unfold wrongL;rw [if_pos (.inr (.inr he'))]
          have ht : xF p l = .inl (l.1,2):=by
            have : xO p l 3 = .inr { p with flds:=p.flds ++ [(bytes (yG ((p.lns ++ [l.2.2.1]).map ls)).1.1,bytes (yG ((p.lns ++ [l.2.2.1]).map ls)).1.2)],lns:=[] }:=by
              unfold xO;rw [if_pos rfl,if_neg hb,if_neg he];unfold xK;simp only [List.takeWhile_nil,List.map_cons,List.map_nil] at h6;rw [if_neg (by simp),if_neg (by simp only [ne_eq,h6];simp),if_neg (by simp [h5])]
            unfold xF;rw [h3,this];simp [lineS,he']
          rw [hw,ht];rfl
    · have hno:=not_more h3 r
      by_cases h1 : yS (ls l.2.2.1) = 1
      · obtain ⟨q,e,e1,e2,e3,e4,e5⟩:=alike_end h hno
        by_cases he : l.2.2.2 = true
        · have hw : wrongL bh l r t.flds.length t.recs = 0:=by
            unfold wrongL;rw [if_neg (by simp [h1,he]),if_pos (by rw [h1];decide)]
          have ht : xF p l = .inr { q with its:=q.its ++ [(1,l.2.2.1 ++ ⟨#[10]⟩,[])] }:=by
            unfold xF xO;rw [if_neg h3,if_pos h1,e];simp [lineS,h1,he]
          rw [hw,ht,if_neg (by decide)];refine run_eq r _ _ _ hE.2 ?_;unfold stepR;rw [if_pos h1];refine ⟨by simp only [e4],by rw [e3];rfl,by simp [h1,e1],by simp [e1,e2],rfl,by simp [e5],fun h=>absurd e1 h,fun _=>rfl,?_,fun e=>absurd rfl e,by simp⟩;simp only [e5,h.recs];split
          · have:=h.r4;omega
          · rename_i hf;have:=h.rf hf;omega
        · have he' : l.2.2.2 = false:=by simpa using he
          have hw : wrongL bh l r t.flds.length t.recs = 2:=by
            unfold wrongL;rw [if_pos (.inr (.inr he'))]
          have ht : xF p l = .inl (l.1,2):=by
            unfold xF xO;rw [if_neg h3,if_pos h1,e];simp [lineS,he']
          rw [hw,ht];rfl
      · obtain ⟨q,f1,f2,f3,f4,f5,f6⟩:=alike_flush h hno;have hah : xO p l (yS (ls l.2.2.1)) = .inr q:=by
          unfold xO;rw [if_neg h3,if_neg h1,f1]
        by_cases hbad : yS (ls l.2.2.1) = 5 ∨ l.2.2.2 = false
        · have hw : wrongL bh l r t.flds.length t.recs = 2:=by
            unfold wrongL;rw [if_pos (hbad.elim .inl (fun h=>.inr (.inr h)))]
          have ht : xF p l = .inl (l.1,2):=by
            unfold xF lineS;rw [hah];simp only;rw [if_pos hbad]
          rw [hw,ht];rfl
        · have hb5 : yS (ls l.2.2.1) ≠ 5:=fun e=>hbad (.inl e)
          have he : l.2.2.2 = true:=by
            cases e : l.2.2.2
            · exact absurd (.inr e) hbad
            · rfl
          by_cases h4 : yS (ls l.2.2.1) = 4
          · have ht : xF p l = .inr { beginS q l with blk:=q.blk ++ [l.2.2.1] }:=by
              unfold xF lineS;rw [hah];simp only;rw [if_neg hbad,if_neg h1,if_pos h4]
            have hfull : ((decide ((q.flds.length : Int) = 40) || (decide ((q.flds.length : Int) = 0) && decide (q.recs = 400))) = true) ↔ (40 ≤ (t.flds.length : Int) ∨ ((t.flds.length : Int) = 0 ∧ 400 ≤ t.recs)):=by
              have g1:=h.f40;have g2:=h.r4;have g3:=h.recs;rw [f3,f6];simp only [Bool.or_eq_true,Bool.and_eq_true,decide_eq_true_eq]
              constructor
              · rintro (g|⟨g,g'⟩)
                · exact .inl (by omega)
                · refine .inr ⟨g,?_⟩;rw [if_pos (List.eq_nil_of_length_eq_zero (by omega))] at g3;omega
              · rintro (g|⟨g,g'⟩)
                · exact .inl (by omega)
                · refine .inr ⟨g,?_⟩;rw [if_pos (List.eq_nil_of_length_eq_zero (by omega))] at g3;omega
            rw [ht]
            by_cases hu : (yG ((saidL l r).map ls)).2 = 0
            · by_cases hfu : 40 ≤ (t.flds.length : Int) ∨ ((t.flds.length : Int) = 0 ∧ 400 ≤ t.recs)
              · have hw : wrongL bh l r t.flds.length t.recs = 11:=by
                  unfold wrongL;rw [if_neg (by simp [h4,he]),if_neg (by simp [h4]),if_neg (by simp [hu]),if_pos hfu]
                rw [hw,if_pos (by decide)];refine pend_err r _ l.1 11 hE.2 (by simp [beginS]) (fun q' g1 g2 g3=>?_);have g1' : q'.lns = saidL l r:=g1;have g2' : q'.full = true:=g2.trans (hfull.2 hfu);have g3' : q'.frm = l.1:=g3;unfold xK;rw [g1',if_neg (by unfold saidL;simp),if_neg (by simp [hu]),if_pos g2',g3']
              · have hw : wrongL bh l r t.flds.length t.recs = 0:=by
                  unfold wrongL;rw [if_neg (by simp [h4,he]),if_neg (by simp [h4]),if_neg (by simp [hu]),if_neg hfu]
                rw [hw,if_neg (by decide)];refine run_eq r _ _ _ hE.2 ?_;have hff : (decide ((q.flds.length : Int) = 40) || (decide ((q.flds.length : Int) = 0) && decide (q.recs = 400))) = false:=by
                  cases e : (decide ((q.flds.length : Int) = 40) || (decide ((q.flds.length : Int) = 0) && decide (q.recs = 400)))
                  · rfl
                  · exact absurd (hfull.1 e) hfu
                unfold stepR;rw [if_neg h1,if_pos h4];refine ⟨by simp only [beginS,h.its,f4],by simp only [h.raw,rawC_snoc,f5],by simp [h4,beginS],?_,by simp,?_,fun _=>⟨hff,hu⟩,fun e=>by simp at e,?_,fun _=>?_,?_⟩
                · simp only [beginS,f3];rw [if_neg (by simp)];rfl
                · simp only [beginS,f6];have g3:=h.recs;have g4:=h.kind
                  by_cases hf : t.flds = []
                  · rw [if_pos hf] at g3 g4;rw [if_pos g4,if_neg (by simp),g3];omega
                  · rw [if_neg hf] at g3 g4;rw [if_neg (by rw [g4];decide),if_neg (by simp),g3]
                · simp only [beginS,f6];exact h.r4
                · simp only [beginS,f6]
                  by_cases hf : t.flds = []
                  · have g3:=h.recs;rw [if_pos hf] at g3;have : ¬ 400 ≤ t.recs:=fun e=>hfu (.inr ⟨by rw [hf];rfl,e⟩)
                    omega
                  · exact h.rf hf
                · rw [List.length_append,List.length_singleton];have : ¬ 40 ≤ (t.flds.length : Int):=fun e=>hfu (.inl e)
                  omega
            · have hw : wrongL bh l r t.flds.length t.recs = (yG ((saidL l r).map ls)).2:=by
                unfold wrongL;rw [if_neg (by simp [h4,he]),if_neg (by simp [h4]),if_pos hu]
              rw [hw,if_pos hu];refine pend_err r _ l.1 _ hE.2 (by simp [beginS]) (fun q' g1 g2 g3=>?_);have g1' : q'.lns = saidL l r:=g1;have g3' : q'.frm = l.1:=g3;unfold xK;rw [g1',if_neg (by unfold saidL;simp),if_pos hu,g3']
          · have hw : wrongL bh l r t.flds.length t.recs = 0:=by
              unfold wrongL;rw [if_neg (by simp [h3,hb5,he]),if_pos h4]
            have ht : xF p l = .inr { q with blk:=q.blk ++ [l.2.2.1] }:=by
              unfold xF lineS;rw [hah];simp only;rw [if_neg hbad,if_neg h1,if_neg h4]
            rw [hw,ht,if_neg (by decide)];refine run_eq r _ _ _ hE.2 ?_;unfold stepR;rw [if_neg h1,if_neg h4];exact ⟨by simp only [h.its,f4],by simp only [h.raw,rawC_snoc,f5],by simp [h3,h4,f2],by simp [f2,f3],h.kind,by simp only [f6];exact h.recs,fun e=>absurd f2 e,fun e=>by simp at e,by simp only [f6];exact h.r4,by simp only [f6];exact h.rf,h.f40⟩
theorem parse_ref (s : ByteArray) : parseS s = runR false rst0 (xI s):=by
  rw [parse_out];exact run_eq _ _ _ _ (ends_linesR _ _ _ _) ⟨rfl,rfl,by simp [pst0],by simp [rst0,pst0],rfl,rfl,fun e=>absurd rfl e,fun _=>rfl,by decide,fun e=>absurd rfl e,by simp [rst0]⟩
end Q
end Ab
end Go.Proofs.YtehmiepjeffloaaGreatDoor
namespace Go.Proofs.YtehmiepjeffloaaGreatDoor
open Go.RowKit
namespace Ab
set_option maxRecDepth 100000
namespace Q
def mkL (t : ByteArray) : Lne:=(0,0,t,true)
def Ready (p : PSt) (F : List Fld) : Prop:=∃ q,xK p = .inr q ∧ q.lns = [] ∧ q.flds = F ∧ q.its = p.its ∧ q.recs = p.recs ∧ q.blk = p.blk
def foldsL (a b : List Fld) (n : List UInt8) : List ByteArray:=bytes (35 :: n) :: ((a.flatMap fun f=>lineB f.1 f.2) ++ (⟨#[]⟩ :: ((b.flatMap fun f=>lineB f.1 f.2) ++ [bytes (35 :: n)])))
end Q
end Ab
end Go.Proofs.YtehmiepjeffloaaGreatDoor
namespace Go.Proofs.YtehmiepjeffloaaGreatDoor
open Go.RowKit
namespace Ab
set_option maxRecDepth 100000
namespace Q
end Q
end Ab
end Go.Proofs.YtehmiepjeffloaaGreatDoor
namespace Go.Proofs.YtehmiepjeffloaaGreatDoor
open Go.RowKit
namespace Ab
set_option maxRecDepth 100000
namespace Q
end Q
end Ab
end Go.Proofs.YtehmiepjeffloaaGreatDoor
namespace Go.Proofs.YtehmiepjeffloaaGreatDoor
open Go.RowKit
namespace Ab
set_option maxRecDepth 100000
namespace Q
end Q
end Ab
end Go.Proofs.YtehmiepjeffloaaGreatDoor
namespace Go.Proofs.YtehmiepjeffloaaGreatDoor
open Go.RowKit
namespace Ab
set_option maxRecDepth 100000
namespace Q
structure SpI (s : ByteArray) (i at_ : Nat) (out : List Lne) : Prop where
  ai : at_ ≤ i
  is : i ≤ s.size
  no : (10 : UInt8) ∉ ((ls s).drop at_).take (i - at_)
  ol : out.length ≤ at_
  eq : ∃ f,((ls s).drop at_).length ≤ f ∧ out ++ linesR f s.size out.length ((ls s).drop at_) = xI s
def rawsL (l : List Itm) : List UInt8:=l.flatMap fun x=>ls x.2.1
theorem getD_get {α : Type} {l : List α} {i : Nat} (h : i < l.length) (d : α) : l[i] = l.getD i d:=by
  rw [List.getD_eq_getElem?_getD,List.getElem?_eq_getElem h];rfl
end Q
end Ab
end Go.Proofs.YtehmiepjeffloaaGreatDoor
namespace Go.Proofs.YtehmiepjeffloaaGreatDoor
open Go.RowKit
namespace Ab
set_option maxRecDepth 100000
namespace Q
def bhI (k : List Int) (i : Nat) : Bool:=decide (0 < i) && (decide (k.getD (i - 1) 0 = 4) || decide (k.getD (i - 1) 0 = 3))
structure RI (L : List Lne) (k : List Int) (i : Nat) (t : RSt) : Prop where
  il : i ≤ L.length
  eq : runR false rst0 L = runR (bhI k i) t (L.drop i)
  r0 : 0 ≤ t.recs
  ri : t.recs ≤ i
  oi : t.out.length ≤ 2 * i
  fi : t.flds.length ≤ i
  rw_ : t.raw.size ≤ ((L.take i).map (fun l=>l.2.2.1.size + 1)).sum
  rd : t.raw = ByteArray.empty ↔ t.raw.size = 0
def resR : (Int × Int) ⊕ List Itm → A
  | .inl e=>.tup [(false,[.sl rItm []]),(false,[.lit (.int .i64 e.1)]),(false,[.lit (.int .i64 e.2)])]
  | .inr l=>.tup [(false,[.sl rItm l]),(false,[.lit (.int .i64 (-9))]),(false,[.lit (.int .i64 0)])]
end Q
end Ab
end Go.Proofs.YtehmiepjeffloaaGreatDoor
namespace Go.Proofs.YtehmiepjeffloaaGreatDoor
open Go.RowKit
namespace Ab
set_option maxRecDepth 100000
namespace Q
abbrev rRow : Rd (List Fld):=.sl rFld
def recsL (l : List Itm) : List (List Fld):=(l.filter fun x=>decide (x.1 = 3)).map (·.2.2)
def contP (p : PSt) : List UInt8:=rawsL p.its ++ endL (p.blk.map ls)
theorem items_flds {s : ByteArray} {l : List Itm} (hs : s.size ≤ 60000) (hp : parseS s = .inr l) : l.length ≤ 1000000 ∧ ∀ x ∈ l,x.2.2.length ≤ 1000000:=by
  have h0:=parse_ref s;rw [hp] at h0;obtain ⟨h1,_⟩:=linesT_len s;have key : ∀ (L : List Lne) (t : RSt) (bh : Bool) (l : List Itm),runR bh t L = .inr l → l.length ≤ t.out.length + 1 + 2 * L.length ∧ ∀ (B : Nat),t.flds.length + L.length ≤ B → (∀ x ∈ t.out,x.2.2.length ≤ B) → ∀ x ∈ l,x.2.2.length ≤ B:=by
    intro L
    induction L with
    | nil =>
      intro t bh l h;unfold runR at h;cases h;refine ⟨by split <;> simp,fun B hB ho x hx=>?_⟩;split at hx
      · exact ho x hx
      · rcases List.mem_append.1 hx with hx|hx
        · exact ho x hx
        · rw [List.mem_singleton.1 hx];simpa using hB
    | cons a r ih =>
      intro t bh l h;unfold runR at h;split at h
      · cases h
      · obtain ⟨i1,i2⟩:=ih _ _ _ h;have so : (stepR t a r).out.length ≤ t.out.length + 2:=by
          unfold stepR;split
          · simp only;split <;> simp
          · split <;> simp
        have sf : (stepR t a r).flds.length ≤ t.flds.length + 1:=by
          unfold stepR;split
          · simp
          · split <;> simp
        refine ⟨by rw [List.length_cons];omega,fun B hB ho=>i2 B (by rw [List.length_cons] at hB;omega) (fun x hx=>?_)⟩;have hB2 : t.flds.length ≤ B:=by omega
        unfold stepR at hx;split at hx
        · simp only at hx;rcases List.mem_append.1 hx with hx|hx
          · split at hx
            · exact ho x hx
            · rcases List.mem_append.1 hx with hx|hx
              · exact ho x hx
              · rw [List.mem_singleton.1 hx];exact hB2
          · rw [List.mem_singleton.1 hx];exact Nat.zero_le _
        · split at hx
          · exact ho x hx
          · exact ho x hx
  obtain ⟨k1,k2⟩:=key _ _ _ _ h0.symm;refine ⟨by simp only [rst0,List.length_nil] at k1;omega,k2 1000000 (by simp only [rst0,List.length_nil];omega) (fun x hx=>by cases hx)⟩
end Q
end Ab
end Go.Proofs.YtehmiepjeffloaaGreatDoor
namespace Go.Proofs.YtehmiepjeffloaaGreatDoor
open Go.RowKit
namespace Ab
set_option maxRecDepth 100000
namespace Q
def apartK (k : Int) : List Itm → List Itm
  | []=>[]
  | x :: r=>if k ≠ 1 ∧ x.1 ≠ 1 then (1,⟨#[10]⟩,[]) :: x :: apartK x.1 r else x :: apartK x.1 r
def apartL (l : List Itm) : List Itm:=apartK 1 l
def altK (k : Int) : List Itm → Prop
  | []=>True
  | x :: r=>(k = 1 ∨ x.1 = 1) ∧ altK x.1 r
def lastK (k : Int) : List Itm → Int
  | []=>k
  | x :: r=>lastK x.1 r
def AltP (p : PSt) : Prop:=altK 1 p.its ∧ lastK 1 p.its = 1
end Q
end Ab
end Go.Proofs.YtehmiepjeffloaaGreatDoor
namespace Go.Proofs.YtehmiepjeffloaaGreatDoor
open Go.RowKit
namespace Ab
set_option maxRecDepth 100000
namespace Q
structure Fwd (I : List Itm) (c : Int) (p q : PSt) : Prop where
  lns : p.lns = q.lns
  full : q.lns ≠ [] → q.full = false → p.full = false
  its : p.its = I ++ q.its
  blk : p.blk = q.blk
  flds : p.flds = q.flds
  recs : p.recs = q.recs + c
  c0 : 0 ≤ c
section
variable {I : List Itm} {c : Int} {p q q1 : PSt}
end
def Blk (x : Itm) : Prop:=∃ (L : List Lne) (q qe : PSt),(∀ l ∈ L,l.2.2.2 = true ∧ (10 : UInt8) ∉ ls l.2.2.1) ∧ runS pst0 L = .inr q ∧ q.its = [] ∧ q.recs = 0 ∧ endS q = .inr qe ∧ qe.its = [x] ∧ glue (L.map (·.2.2)) = ls x.2.1
def Par (p : PSt) : Prop:=∃ (I : List Itm) (c : Int) (L : List Lne) (q : PSt),Rel I c p q ∧ runS pst0 L = .inr q ∧ q.its = [] ∧ q.recs = 0 ∧ (∀ l ∈ L,l.2.2.2 = true ∧ (10 : UInt8) ∉ ls l.2.2.1) ∧ ∀ x ∈ I,x.1 ≠ 1 → Blk x
theorem filter_at {α : Type} (p : α → Bool) (d : α) : ∀ (l : List α) (j : Nat),j < l.length → p (l.getD j d) = true → ((l.take j).filter p).length < (l.filter p).length ∧ (l.filter p).getD ((l.take j).filter p).length d = l.getD j d
  | [],j,h,_=>by simp at h
  | x :: r,0,h,hp=>by
    have hp : p x = true:=by simpa using hp
    simp [hp]
  | x :: r,j + 1,h,hp=>by
    obtain ⟨h1,h2⟩:=filter_at p d r j (by simpa using h) (by simpa using hp);rw [List.take_succ_cons,List.filter_cons,List.filter_cons]
    by_cases hx : p x = true
    · simp only [hx,if_true,List.length_cons,List.getD_cons_succ];exact ⟨by omega,h2⟩
    · simp only [hx,List.getD_cons_succ];exact ⟨h1,h2⟩
def mix1 (l : List Itm) (k : Nat) : List Itm:=if k < l.length ∧ (l.getD k ((0 : Int),ByteArray.empty,([] : List Fld))).1 ≠ 1 then [l.getD k ((0 : Int),ByteArray.empty,([] : List Fld))] else []
def mixL (turn : Bool) (l m : List Itm) (i : Nat) : List Itm:=(List.range i).flatMap fun k=>mix1 l k ++ if turn then mix1 m k else []
end Q
end Ab
end Go.Proofs.YtehmiepjeffloaaGreatDoor
namespace Go.Proofs.YtehmiepjeffloaaGreatDoor
open Go.RowKit
namespace Ab
set_option maxRecDepth 100000
namespace Q
abbrev Ent:=Itm × Int
abbrev rEnt : Rd Ent:=.st rItm (.int .i64)
abbrev Lst:=List Ent × Int × Int
abbrev rLst (k : Nat) : Rd Lst:=.st (.slk k rEnt) (.st (.int .i64) (.int .i64))
abbrev Stz:=Int × List Fld
abbrev rStz : Rd Stz:=.st (.int .i64) (.sl rFld)
def isRec (x : Itm) : Bool:=decide (x.1 = 3)
def cntR (l : List Itm) : Nat:=(l.filter isRec).length
def numI (n : Int) : List Itm → List Ent
  | []=>[]
  | x :: r=>match isRec x with
    | true=>(x,n) :: numI (n + 1) r
    | false=>(x,0) :: numI n r
theorem cntR_app (a b : List Itm) : cntR (a ++ b) = cntR a + cntR b:=by simp [cntR]
theorem numI_snoc : ∀ (l : List Itm) (n : Int) (x : Itm),numI n (l ++ [x]) = numI n l ++ [(x,if isRec x then n + cntR l else 0)]
  | [],n,x=>by
    cases h : isRec x <;> simp [numI,h,cntR]
  | y :: r,n,x=>by
    have ih:=fun m=>numI_snoc r m x
    cases h : isRec y with
    | true =>
      have e : n + 1 + (cntR r : Int) = n + (cntR (y :: r) : Int):=by simp [cntR,h];omega
      simp only [List.cons_append,numI,h,ih,e]
    | false =>
      have e : (cntR r : Int) = (cntR (y :: r) : Int):=by simp [cntR,h]
      simp only [List.cons_append,numI,h,ih,e]
theorem numI_len : ∀ (l : List Itm) (n : Int),(numI n l).length = l.length
  | [],_=>rfl
  | x :: r,n=>by
    unfold numI;split <;> simp [numI_len r]
theorem numI_items : ∀ (l : List Itm) (n : Int),(numI n l).map (·.1) = l
  | [],_=>rfl
  | x :: r,n=>by
    unfold numI;split <;> simp [numI_items r]
def ofT (l : List Itm) : Lst:=(numI 1 l,1 + (cntR l : Int),(cntR l : Int))
def hasId (id : Int) (e : Ent) : Bool:=decide (e.2 = id)
def atE (es : List Ent) (id : Int) : Int:=if id < 1 then -1 else ixOf (hasId id) es
theorem at_cases (es : List Ent) (id : Int) : (atE es id = -1 ∧ ∀ e ∈ es,0 < id → e.2 ≠ id) ∨ ∃ i : Nat,i < es.length ∧ atE es id = i ∧ 0 < id ∧ (es.getD i (((0 : Int),ByteArray.empty,([] : List Fld)),(0 : Int))).2 = id ∧ ∀ e ∈ es.take i,e.2 ≠ id:=by
  unfold atE
  by_cases h : id < 1
  · exact .inl ⟨if_pos h,fun e _ h0=>by omega⟩
  · rw [if_neg h];rcases ixOf_cases (hasId id) es (((0 : Int),ByteArray.empty,([] : List Fld)),(0 : Int)) with ⟨h1,h2⟩|⟨i,h1,h2,h3,h4⟩
    · refine .inl ⟨h1,fun e he _=>?_⟩;have:=List.any_eq_false.1 h2 e he
      simpa [hasId] using this
    · refine .inr ⟨i,h1,h2,by omega,by simpa [hasId] using h4,fun e he=>?_⟩;have:=List.any_eq_false.1 h3 e he
      simpa [hasId] using this
def replE (es : List Ent) (i : Nat) (x : Itm) : List Ent:=es.set i (x,(es.getD i (((0 : Int),ByteArray.empty,([] : List Fld)),(0 : Int))).2)
def delE (es : List Ent) (i : Nat) : List Ent:=es.take i ++ es.drop (i + 1)
def insE (es : List Ent) (i : Nat) (e : Ent) : List Ent:=es.take i ++ e :: es.drop i
def live (e : Ent) : Bool:=decide (0 < e.2)
def stzOf (e : Ent) : Stz:=(e.2,e.1.2.2)
def stzL (es : List Ent) : List Stz:=(es.filter live).map stzOf
def itmL (es : List Ent) : List Itm:=es.map (·.1)
def plcL (es : List Ent) (id : Int) : Int:=ixOf (hasId id) (es.filter live)
def rowsL (es : List Ent) : List (List Fld):=(stzL es).map (·.2)
def getL (es : List Ent) (id : Int) : List Fld:=(es.getD (atE es id).toNat (((0 : Int),ByteArray.empty,([] : List Fld)),(0 : Int))).1.2.2
def rawL (es : List Ent) (id : Int) : ByteArray:=(es.getD (atE es id).toNat (((0 : Int),ByteArray.empty,([] : List Fld)),(0 : Int))).1.2.1
def txtL (es : List Ent) : List UInt8:=rawsL (apartL (itmL es))
end Q
end Ab
end Go.Proofs.YtehmiepjeffloaaGreatDoor
namespace Go.Proofs.YtehmiepjeffloaaGreatDoor
open Go.RowKit
namespace Ab
set_option maxRecDepth 100000
namespace Q
def recsT (l : List Itm) : List (List Fld):=(l.filter fun x=>decide (x.1 = 3)).map (·.2.2)
def fldL (a : List Fld) : List ByteArray:=a.flatMap fun f=>lineB f.1 f.2
def textT : List (List Fld) → List ByteArray
  | []=>[]
  | [a]=>fldL a
  | a :: b :: r=>fldL a ++ (⟨#[]⟩ :: textT (b :: r))
def GoodS (a : List Fld) : Prop:=a ≠ [] ∧ a.length ≤ 40 ∧ ∀ f ∈ a,yV f = 0
end Q
end Ab
end Go.Proofs.YtehmiepjeffloaaGreatDoor
namespace Go.Proofs.YtehmiepjeffloaaGreatDoor
open Go.RowKit
namespace Ab
set_option maxRecDepth 100000
namespace Q
def badAt : Int → List Fld → Int × Int
  | _,[]=>(-9,0)
  | i,f :: r=>if yV f ≠ 0 then (i,yV f) else badAt (i + 1) r
def chkR (l : List Fld) : Int × Int:=if l = [] then (-9,2) else if 40 < l.length then (-9,11) else badAt 0 l
def chkA (l : List Fld) : C:=if (chkR l).2 = 0 then .lit .nilIface else if (chkR l).1 = -9 then errN (chkR l).2 else errF (chkR l).1 (chkR l).2
theorem badAt_hit : ∀ (l : List Fld) (i : Nat) (k : Int),i < l.length → (∀ f ∈ l.take i,yV f = 0) → yV (l.getD i (ByteArray.empty,ByteArray.empty)) ≠ 0 → badAt k l = (k + i,yV (l.getD i (ByteArray.empty,ByteArray.empty)))
  | [],i,k,h,_,_=>by simp at h
  | f :: r,0,k,_,_,hb=>by
    unfold badAt;rw [if_pos (by simpa using hb)];simp
  | f :: r,i + 1,k,h,ht,hb=>by
    unfold badAt;rw [if_neg (by simpa using ht f (by simp))];rw [badAt_hit r i (k + 1) (by simpa using h) (fun g hg=>ht g (by simp [hg])) (by simpa using hb)];simp only [List.getD_cons_succ]
    congr 1
    omega
theorem badAt_no : ∀ (l : List Fld) (k : Int),(∀ f ∈ l,yV f = 0) → badAt k l = (-9,0)
  | [],_,_=>rfl
  | f :: r,k,h=>by
    unfold badAt;rw [if_neg (by simpa using h f (by simp))];exact badAt_no r (k + 1) (fun g hg=>h g (by simp [hg]))
theorem chkA_nil {l : List Fld} (h : chkR l = (-9,0)) : chkA l = .lit .nilIface:=by unfold chkA;rw [h];rfl
theorem chkA_no {l : List Fld} {n : Int} (h : chkR l = (-9,n)) (hn : n ≠ 0) : chkA l = errN n:=by unfold chkA;rw [h,if_neg hn,if_pos rfl]
theorem chkA_at {l : List Fld} {i n : Int} (h : chkR l = (i,n)) (hn : n ≠ 0) (hi : 0 ≤ i) : chkA l = errF i n:=by unfold chkA;rw [h,if_neg hn,if_neg (by show ¬ i = -9;omega)]
theorem pcheck_c {κ : Nat} (l : List Fld) (hl : FldsOk l) : qQ Tryz.prog 94 [.one (.slk κ rFld l)] (.one (chkA l)):=by
  have hln:=hl.1;refine qR (rs:=[2]) Tryz.func94 rfl rfl rfl teOk rfl ?_;refine qC ?_;refine qB ?_;refine qC ?_;refine qN ?_;refine qC ?_;refine qB ?_;intro l1_1
  try simp only [zds] at l1_1
  refine qK rfl (fun h6=>?_) (fun h6=>?_)
  ·try simp only [decide_eq_true_eq] at h6
   try simp only [zds] at h6
   refine qC ?_;refine qB ?_;refine qL ?_;rw [chkA_no (l:=l) (n:=2) (by unfold chkR;rw [if_pos (List.eq_nil_of_length_eq_zero (by omega))]) (by decide)];rfl
  ·try simp only [decide_eq_false_iff_not] at h6
   try simp only [zds] at h6
   refine qC ?_;refine qB ?_;intro l3_1
   try simp only [zds] at l3_1
   refine qK rfl (fun h11=>?_) (fun h11=>?_)
   ·try simp only [decide_eq_true_eq] at h11
    try simp only [zds] at h11
    refine qC ?_;refine qB ?_;refine qL ?_;rw [chkA_no (l:=l) (n:=11) (by unfold chkR;rw [if_neg (fun e=>h6 (by rw [e];rfl)),if_pos (by omega)]) (by decide)];rfl
   ·try simp only [decide_eq_false_iff_not,Int.not_lt] at h11
    try simp only [zds] at h11
    refine qM ?_;refine qC ?_;refine qC ?_;refine qB ?_;intro l5_1
    try simp only [zds] at l5_1
    refine qN ?_;refine qU (fun (i : Nat)=>i ≤ l.length ∧ ∀ f ∈ l.take i,yV f = 0) (fun (i : Nat)=>[(16,.one (.slk κ rFld l)),(17,ii .i64 l.length),(18,ii .i64 i)]) (fun (i : Nat)=>[]) 0 (fun (i : Nat)=>l.length - i) 0 (⟨Nat.zero_le _,by simp⟩) (qP ⟨rfl,rfl,rfl⟩ trivial rfl) ?_;intro i hI1;obtain ⟨hi,hall⟩:=hI1;refine qC ?_;refine qB ?_;refine qC ?_;refine qK rfl (fun h19=>?_) (fun h19=>?_)
    ·try simp only [decide_eq_true_eq] at h19
     try simp only [zds] at h19
     have hlt : i < l.length:=(by omega);have hm:=hl.2 _ (yL hlt (ByteArray.empty,ByteArray.empty));have hne : l ≠ []:=(fun e=>by rw [e] at hlt;simp at hlt);refine qM ?_;refine qC ?_;refine qN ?_;refine qC ?_;refine qB ?_;refine zai (by first|omega|assumption|decide|(simp only [zds];omega)|(simp <;> omega)) ?_;refine qC ?_;rcases check_cases (l.getD i (ByteArray.empty,ByteArray.empty)) with hc|hc|hc
     ·refine qB ?_;refine Or.inl ?_;refine zai (rfl) ?_;refine zei _ (zai (check_v (l.getD i (ByteArray.empty,ByteArray.empty)) _ (by omega) hc) ?_);refine qC ?_;refine qB ?_;refine qK rfl (fun h26=>?_) (fun h26=>?_)
      ·skip
       refine qC ?_;refine qB ?_;refine qL ?_;rw [chkA_at (l:=l) (i:=i) (n:=5) (by unfold chkR;rw [if_neg hne,if_neg (by omega),badAt_hit l i 0 hlt hall (by rw [hc];decide),hc];simp) (by decide) (by omega)];rfl
      ·try simp only [zbq] at h26
       try simp only [zds] at h26
       cases h26
     ·refine qB ?_;refine Or.inl ?_;refine zai (rfl) ?_;refine zei _ (zai (check_v (l.getD i (ByteArray.empty,ByteArray.empty)) _ (by omega) hc) ?_);refine qC ?_;refine qB ?_;refine qK rfl (fun h26=>?_) (fun h26=>?_)
      ·skip
       refine qC ?_;refine qB ?_;refine qL ?_;rw [chkA_at (l:=l) (i:=i) (n:=6) (by unfold chkR;rw [if_neg hne,if_neg (by omega),badAt_hit l i 0 hlt hall (by rw [hc];decide),hc];simp) (by decide) (by omega)];rfl
      ·try simp only [zbq] at h26
       try simp only [zds] at h26
       cases h26
     ·refine qB ?_;refine Or.inl ?_;refine zai (rfl) ?_;refine zei _ (zai (check_v (l.getD i (ByteArray.empty,ByteArray.empty)) _ (by omega) hc) ?_);refine qC ?_;refine qB ?_;refine qK rfl (fun h26=>?_) (fun h26=>?_)
      ·try simp only [Bool.not_eq_true'] at h26
       try simp only [zds] at h26
       cases h26
      ·try simp only [Bool.not_eq_false'] at h26
       try simp only [zds] at h26
       refine qM ?_;refine qB ?_;refine zai (by first|omega|assumption|decide|(simp only [zds];omega)|(simp <;> omega)) ?_;exact ⟨i + 1,⟨by omega,by rw [← yT (ByteArray.empty,ByteArray.empty) hlt];intro f hf;rcases List.mem_append.1 hf with h|h;exact hall f h;rw [List.mem_singleton.1 h];exact hc⟩,by first|omega|(simp <;> omega),qP ⟨rfl,rfl,(yM (by omega))⟩ trivial rfl⟩
    ·try simp only [decide_eq_false_iff_not,Int.not_lt] at h19
     try simp only [zds] at h19
     refine yC ?_;refine qC ?_;refine qB ?_;refine qL ?_;rw [List.take_of_length_le (by omega)] at hall;rw [chkA_nil (by unfold chkR;rw [if_neg (fun e=>h6 (by rw [e];rfl)),if_neg (by omega)];exact badAt_no l 0 hall)];rfl
theorem badAt_zero : ∀ (l : List Fld) (k : Int),(badAt k l).2 = 0 → (∀ f ∈ l,yV f = 0)
  | [],_,_,f,hf=>by cases hf
  | g :: r,k,h,f,hf=>by
    unfold badAt at h;split at h
    · rename_i hg;exact absurd h hg
    · rename_i hg;rcases List.mem_cons.1 hf with rfl|hf
      · exact Classical.not_not.1 hg
      · exact badAt_zero r (k + 1) h f hf
theorem chk_good {l : List Fld} (h : (chkR l).2 = 0) : GoodS l ∧ badF l = 0 ∧ chkA l = .lit .nilIface:=by
  have hA : chkA l = .lit .nilIface:=by unfold chkA;rw [if_pos h]
  unfold chkR at h;split at h
  · cases h
  · rename_i h0;split at h
    · cases h
    · rename_i h4;have:=badAt_zero l 0 h;exact ⟨⟨h0,by omega,this⟩,badF_ok this,hA⟩
theorem chk_bad {l : List Fld} (h : (chkR l).2 ≠ 0) : ∃ e,chkA l = e ∧ ((∃ n,n ≠ 0 ∧ e = errN n ∧ chkR l = (-9,n)) ∨ ∃ i n,n ≠ 0 ∧ e = errF i n ∧ chkR l = (i,n)):=by
  refine ⟨_,rfl,?_⟩;unfold chkA;rw [if_neg h]
  by_cases h9 : (chkR l).1 = -9
  · rw [if_pos h9];exact .inl ⟨_,h,rfl,Prod.ext h9 rfl⟩
  · rw [if_neg h9];exact .inr ⟨_,_,h,rfl,rfl⟩
theorem pstanza_ok {κ : Nat} {l : List Fld} (hl : FldsOk l) (h : (chkR l).2 = 0) : qQ Tryz.prog 69 [.one (.slk κ rFld l)] (.tup [(false,[.lit (.string (bytes (foldL l)))]),(false,[.lit .nilIface])]):=by
  obtain ⟨h1,h2,h3⟩:=chk_good h;have hc:=pcheck_c (κ:=κ) l hl;rw [h3] at hc;refine qR (rs:=[2,3]) Tryz.func69 rfl rfl rfl teOk rfl ?_;refine qC ?_;refine qB ?_;refine qC ?_;refine qC ?_;refine qB ?_;refine Or.inl ?_;refine zai (rfl) ?_;refine zei _ (zai (hc) ?_);refine qC ?_;refine qB ?_;refine qK rfl (fun h8=>?_) (fun h8=>?_)
  ·try simp only [Bool.not_eq_true'] at h8
   try simp only [zds] at h8
   cases h8
  ·try simp only [Bool.not_eq_false'] at h8
   try simp only [zds] at h8
   refine qM ?_;refine qC ?_;refine qB ?_;refine Or.inl ?_;refine zai (rfl) ?_;refine zei _ (zai (fold_yes hl h2) ?_);refine qL ?_;rfl
theorem pstanza_err {κ : Nat} {l : List Fld} (hl : FldsOk l) (h : (chkR l).2 ≠ 0) : qQ Tryz.prog 69 [.one (.slk κ rFld l)] (.tup [(false,[.lit (.string ⟨#[]⟩)]),(false,[chkA l])]):=by
  have hc:=pcheck_c (κ:=κ) l hl;obtain ⟨e,he,hs⟩:=chk_bad h;rw [he] at hc ⊢;rcases hs with ⟨n,hn,rfl,_⟩|⟨i,n,hn,rfl,_⟩
  ·
    refine qR (rs:=[2,3]) Tryz.func69 rfl rfl rfl teOk rfl ?_;refine qC ?_;refine qB ?_;refine qC ?_;refine qC ?_;refine qB ?_;refine Or.inl ?_;refine zai (rfl) ?_;refine zei _ (zai (hc) ?_);refine qC ?_;refine qB ?_;refine qK rfl (fun h8=>?_) (fun h8=>?_)
    ·skip
     refine qC ?_;refine qB ?_;refine qL ?_;rfl
    ·try simp only [zbq] at h8
     try simp only [zds] at h8
     cases h8
  ·
    refine qR (rs:=[2,3]) Tryz.func69 rfl rfl rfl teOk rfl ?_;refine qC ?_;refine qB ?_;refine qC ?_;refine qC ?_;refine qB ?_;refine Or.inl ?_;refine zai (rfl) ?_;refine zei _ (zai (hc) ?_);refine qC ?_;refine qB ?_;refine qK rfl (fun h8=>?_) (fun h8=>?_)
    ·skip
     refine qC ?_;refine qB ?_;refine qL ?_;rfl
    ·try simp only [zbq] at h8
     try simp only [zds] at h8
     cases h8
end Q
end Ab
end Go.Proofs.YtehmiepjeffloaaGreatDoor
namespace Go.Proofs.YtehmiepjeffloaaGreatDoor
open Go.RowKit
namespace Ab
set_option maxRecDepth 100000
namespace Q
theorem clone_c {k : Nat} (l : List Fld) (hl : l.length ≤ 1000000) : qQ Tryz.prog 44 [.one (.slk k rFld l)] (.one (.sl rFld l)):=by
  refine qR (rs:=[2]) Tryz.func44 rfl rfl rfl teOk rfl ?_;refine qC ?_;refine qB ?_;refine qC ?_;refine qC ?_;refine acode_isnil (q:=k) [_] _ (R:=rFld) (xs:=l) rfl rfl rfl rfl (e:=66) rfl rfl ?_;refine ⟨rfl,fun b hb=>?_⟩;refine qK rfl (fun h4=>?_) (fun h4=>?_)
  ·have hl0:=hb h4;subst hl0;refine qC ?_;refine qB ?_;refine qV 2 66 rFld rfl ?_;refine qL ?_;rfl
  ·refine qM ?_;refine qC ?_;refine qB ?_;refine zai (by first|exact qS (show l.length ≤ 1000000000 by omega) (by decide)|exact qS (show 0 + l.length ≤ 1000000000 by omega) (by decide)) ?_;refine qL ?_;rfl
def al6 : List (List Fld):=[[(⟨#[65]⟩,⟨#[49]⟩)],[(⟨#[66]⟩,⟨#[50]⟩)]]
end Q
end Ab
end Go.Proofs.YtehmiepjeffloaaGreatDoor
namespace Go.Proofs.YtehmiepjeffloaaGreatDoor
open Go.RowKit
namespace Ab
set_option maxRecDepth 100000
abbrev Edt:=Int × Int × List Fld
abbrev rEdt : Rd Edt:=.st (.int .i64) (.st (.int .i64) (.sl rFld))
namespace Q
def heavyB (l : List Edt) : Bool:=decide (51 < l.length) || l.any fun e=>muchB e.2.2
def spF : Fld:=(⟨#[115,112,111,105,108,116]⟩,⟨#[115,112,111,105,108,116]⟩)
end Q
end Ab
end Go.Proofs.YtehmiepjeffloaaGreatDoor
namespace Go.Proofs.YtehmiepjeffloaaGreatDoor
open Go.RowKit
namespace Ab
set_option maxRecDepth 100000
namespace Q
def full1 (f : List Fld) : Bool:=decide (0 < f.length)
def edB (b : Int) (l : List (List Fld)) : List Edt:=((l.filter full1).reverse).map fun f=>(3,b,f)
theorem edB_len (b : Int) (l : List (List Fld)) : (edB b l).length ≤ l.length:=by
  unfold edB;rw [List.length_map,List.length_reverse];exact List.length_filter_le _ _
theorem edB_cons (b : Int) (l : List (List Fld)) {p : Nat} (h : p < l.length) : edB b (l.drop p) = edB b (l.drop (p + 1)) ++ if 0 < (l.getD p ([] : List Fld)).length then [((3 : Int),b,l.getD p ([] : List Fld))] else []:=by
  rw [List.drop_eq_getElem_cons h,getD_get h ([] : List Fld)];unfold edB;rw [List.filter_cons]
  by_cases hf : 0 < (l.getD p ([] : List Fld)).length
  · rw [if_pos (show full1 (l.getD p ([] : List Fld)) = true from decide_eq_true hf),if_pos hf,List.reverse_cons,List.map_append];rfl
  · rw [if_neg (by rw [show full1 (l.getD p ([] : List Fld)) = false from decide_eq_false hf];decide),if_neg hf,List.append_nil]
theorem edB_back (b : Int) (l : List (List Fld)) {i : Nat} (h : i < l.length) : edB b (l.drop (l.length - (i + 1))) = edB b (l.drop (l.length - i)) ++ if 0 < (l.getD (l.length - 1 - i) ([] : List Fld)).length then [((3 : Int),b,l.getD (l.length - 1 - i) ([] : List Fld))] else []:=by
  have:=edB_cons b l (p:=l.length - 1 - i) (by omega);rw [show l.length - (i + 1) = l.length - 1 - i by omega,this,show l.length - 1 - i + 1 = l.length - i by omega]
theorem itB_get (l : List (List Fld)) {i : Nat} (h : i < (itB l).length) : (itB l)[i] = [ii .i64 ((l.length - 1 - i : Nat) : Int),.one (.sl rFld (l.getD (l.length - 1 - i) ([] : List Fld)))]:=by
  simp only [itB,List.getElem_map,List.getElem_range]
theorem refEditsS_c (l : List (List Fld)) (b : Int) (hl : l.length ≤ 1000000) : qQ Tryz.prog 19 [.one (.sl (.sl rFld) l),ii .i64 b] (.one (.sl rEdt (edB b l))):=by
  refine qR (rs:=[4]) Tryz.func19 rfl rfl rfl teOk rfl ?_;refine qC ?_;refine qB ?_;refine qC ?_;refine qB ?_;refine qC ?_;refine qC ?_;refine qV 5 55 rEdt rfl ?_;refine qB ?_;intro l2_1
  try simp only [zds] at l2_1
  refine zai (by first|omega|assumption|decide|(simp only [zds];omega)|(simp <;> omega)) ?_;refine qN ?_;refine qU (fun (q : Nat)=>q ≤ l.length) (fun (q : Nat)=>[(0,.one (.sl (.sl rFld) l)),(1,ii .i64 b),(5,.one (.vec 0)),(6,ii .i64 ((q : Int) - 1))]) (fun (q : Nat)=>[(0,.vec 55 rEdt (edB b (l.drop q)))]) 1 (fun (q : Nat)=>q) l.length (Nat.le_refl _) (qP ⟨rfl,rfl,rfl,rfl⟩ (yA (by rw [List.drop_length];rfl)) rfl) ?_;intro q hI0;refine qC ?_;refine qC ?_;refine qB ?_;refine qK rfl (fun h11=>?_) (fun h11=>?_)
  ·try simp only [decide_eq_true_eq] at h11
   try simp only [zds] at h11
   obtain ⟨p,rfl⟩ : ∃ p,q = p + 1:=⟨q - 1,by omega⟩;rw [show ((p + 1 : Nat) : Int) - 1 = (p : Int) by omega];have hpl : p < l.length:=(by omega);have hsn:=edB_cons b l hpl;have hel:=edB_len b (l.drop (p + 1));rw [List.length_drop] at hel;refine qM ?_;refine qC ?_;refine qN ?_;refine qC ?_;refine qB ?_;refine zai (by first|omega|assumption|decide|(simp only [zds];omega)|(simp <;> omega)) ?_;intro l5_4
   try simp only [Int.toNat_natCast,qG] at l5_4
   refine qK rfl (fun h19=>?_) (fun h19=>?_)
   ·try simp only [decide_eq_true_eq] at h19
    try simp only [Int.toNat_natCast,qG] at h19
    have hf : 0 < (l.getD p ([] : List Fld)).length:=(by omega);rw [if_pos hf] at hsn;refine qB ?_;refine zai (by first|omega|assumption|decide|(simp only [zds];omega)|(simp <;> omega)) ?_;refine zai (by exact qS (show (edB b (l.drop (p + 1))).length + 1 ≤ 1000000000 by omega) (by decide)) ?_;refine qB ?_;refine zai (by first|omega|assumption|decide|(simp only [zds];omega)|(simp <;> omega)) ?_;exact ⟨p,by omega,by first|omega|(simp <;> omega),qP ⟨rfl,rfl,rfl,(yM (by omega))⟩ (yA (by rw [hsn];try exact rfl)) rfl⟩
   ·try simp only [decide_eq_false_iff_not,Int.not_lt] at h19
    try simp only [Int.toNat_natCast,qG] at h19
    have hf : ¬ 0 < (l.getD p ([] : List Fld)).length:=(by omega);rw [if_neg hf,List.append_nil] at hsn;refine qM ?_;refine qB ?_;refine zai (by first|omega|assumption|decide|(simp only [zds];omega)|(simp <;> omega)) ?_;exact ⟨p,by omega,by first|omega|(simp <;> omega),qP ⟨rfl,rfl,rfl,(yM (by omega))⟩ (yA (by rw [hsn];try exact rfl)) rfl⟩
  ·try simp only [decide_eq_false_iff_not,Int.not_le] at h11
   try simp only [zds] at h11
   refine yC ?_;refine qC ?_;refine qB ?_;refine qL ?_;have hq : q = 0:=(by omega);subst hq;exact rfl
theorem shed_errN (s : ByteArray) (b n : Int) (hi : qQ Tryz.prog 24 [is s] (.tup [(false,[.sl (.sl rFld) []]),(false,[errN n])])) : qQ Tryz.prog 16 [is s,ii .i64 b] (.tup [(false,[.lit (.slice none 0 0)]),(false,[errN n])]):=by
  refine qR (rs:=[4,5]) Tryz.func16 rfl rfl rfl teOk rfl ?_;refine qC ?_;refine qB ?_;refine qC ?_;refine qB ?_;refine Or.inl ?_;refine zai (rfl) ?_;refine zei _ (zai (hi) ?_);refine qC ?_;refine qC ?_;refine qB ?_;refine qK rfl (fun h17=>?_) (fun h17=>?_)
  ·skip
   refine qC ?_;refine qB ?_;refine qL ?_;rfl
  ·try simp only [zbq] at h17
   try simp only [zds] at h17
   simp at h17
theorem shed_errF (s : ByteArray) (b a n : Int) (hi : qQ Tryz.prog 24 [is s] (.tup [(false,[.sl (.sl rFld) []]),(false,[errF a n])])) : qQ Tryz.prog 16 [is s,ii .i64 b] (.tup [(false,[.lit (.slice none 0 0)]),(false,[errF a n])]):=by
  refine qR (rs:=[4,5]) Tryz.func16 rfl rfl rfl teOk rfl ?_;refine qC ?_;refine qB ?_;refine qC ?_;refine qB ?_;refine Or.inl ?_;refine zai (rfl) ?_;refine zei _ (zai (hi) ?_);refine qC ?_;refine qC ?_;refine qB ?_;refine qK rfl (fun h17=>?_) (fun h17=>?_)
  ·skip
   refine qC ?_;refine qB ?_;refine qL ?_;rfl
  ·try simp only [zbq] at h17
   try simp only [zds] at h17
   simp at h17
theorem shed_ok (s : ByteArray) (b : Int) (F : List (List Fld)) (hl : F.length ≤ 1000000) (hi : qQ Tryz.prog 24 [is s] (.tup [(false,[.sl (.sl rFld) F]),(false,[.lit .nilIface])])) : qQ Tryz.prog 16 [is s,ii .i64 b] (if 40 < (edB b F).length then .tup [(false,[.lit (.slice none 0 0)]),(false,[errN 1])] else .tup [(false,[.sl rEdt (edB b F)]),(false,[.lit .nilIface])]):=by
  have hbc:=back_c F;refine qR (rs:=[4,5]) Tryz.func16 rfl rfl rfl teOk rfl ?_;refine qC ?_;refine qB ?_;refine qC ?_;refine qB ?_;refine Or.inl ?_;refine zai (rfl) ?_;refine zei _ (zai (hi) ?_);refine qC ?_;refine qC ?_;refine qB ?_;refine qK rfl (fun h17=>?_) (fun h17=>?_)
  ·try simp only [Bool.not_eq_true'] at h17
   try simp only [zds] at h17
   simp at h17
  ·try simp only [Bool.not_eq_false'] at h17
   try simp only [zds] at h17
   refine qM ?_;refine qC ?_;refine qB ?_;refine qC ?_;refine qC ?_;refine qB ?_;refine Or.inl ?_;refine zai (rfl) ?_;refine zei _ (zai (hbc) ?_);refine qN ?_;refine yJ 1 0 55 rEdt rfl rfl rfl ?_;refine acode_range (caps:=[.one (.addr (.sl (.sl rFld)) F)]) (xs:=itB F) [(3,.one (.own 0 0)),(8,.one (.own 1 0)),(20,.one (.clo 66 (.addr (.sl (.sl rFld)) F)))] 3 (fun st j (i : Nat)=>st = false ∧ i = j) (fun i=>[(0,.box 3 [.lit (.int .i64 b)]),(1,.box 45 [.vec 2]),(2,.vec 55 rEdt (edB b (F.drop (F.length - i))))]) (fun _=>.ret) 0 rfl rfl (back_iter F) (qP ⟨rfl,rfl,rfl⟩ ⟨rfl,rfl,yA (by rw [Nat.sub_zero,List.drop_length];rfl)⟩ rfl) ⟨rfl,rfl⟩ (fun j hj=>by simp [itB]) rfl rfl rfl (fun _ _ _=>rfl) rfl ?_ ?_ ?_
   ·intro j i hk hp;obtain ⟨_,rfl⟩:=hp;have hx:=itB_get F hk;rw [itB_len] at hk;rw [hx];have hsn:=edB_back b F hk;have hel:=edB_len b (F.drop (F.length - i));rw [List.length_drop] at hel;refine qB ?_;refine qN ?_;refine qC ?_;refine qB ?_;intro l7_1
    try simp only [zds] at l7_1
    refine qK rfl (fun h25=>?_) (fun h25=>?_)
    ·try simp only [decide_eq_true_eq] at h25
     try simp only [zds] at h25
     have hf : 0 < (F.getD (F.length - 1 - i) ([] : List Fld)).length:=(by omega);rw [if_pos hf] at hsn;refine qB ?_;refine zai (by exact qS (show (edB b (F.drop (F.length - i))).length + 1 ≤ 1000000000 by omega) (by decide)) ?_;exact ⟨i + 1,⟨rfl,rfl⟩,qP trivial ⟨rfl,rfl,yA (by rw [hsn];try exact rfl)⟩ rfl⟩
    ·try simp only [decide_eq_false_iff_not,Int.not_lt] at h25
     try simp only [zds] at h25
     have hf : ¬ 0 < (F.getD (F.length - 1 - i) ([] : List Fld)).length:=(by omega);rw [if_neg hf,List.append_nil] at hsn;refine qM ?_;exact ⟨i + 1,⟨rfl,rfl⟩,qP trivial ⟨rfl,rfl,yA (by rw [hsn];try exact rfl)⟩ rfl⟩
   ·intro i hp;obtain ⟨_,rfl⟩:=hp;rw [itB_len,Nat.sub_self,List.drop_zero];refine qC ?_;refine qC ?_;refine qB ?_;intro l9_1
    try simp only [zds] at l9_1
    refine qK rfl (fun h34=>?_) (fun h34=>?_)
    ·try simp only [decide_eq_true_eq] at h34
     try simp only [zds] at h34
     rw [if_pos (by omega)];refine qC ?_;refine qB ?_;refine qL ?_;rfl
    ·try simp only [decide_eq_false_iff_not,Int.not_lt] at h34
     try simp only [zds] at h34
     rw [if_neg (by omega)];refine qM ?_;refine qC ?_;refine qB ?_;refine qL ?_;rfl
   ·intro j i hp;exact absurd hp.1 (by decide)
theorem editsEq_c (a b : List Edt) : qQ Tryz.prog 20 [.one (.sl rEdt a),.one (.sl rEdt b)] (ib (decide (a = b))):=by
  refine qR (rs:=[4]) Tryz.func20 rfl rfl rfl teOk rfl ?_;refine qC ?_;refine qB ?_;refine qC ?_;refine qC ?_;refine qB ?_;intro l1_1
  try simp only [zds] at l1_1
  intro l1_3
  try simp only [zds] at l1_3
  refine qK rfl (fun h10=>?_) (fun h10=>?_)
  ·try simp only [decide_eq_false_iff_not,Bool.not_eq_true'] at h10
   try simp only [zds] at h10
   refine qC ?_;refine qB ?_;refine qL ?_;exact xH (decide_eq_false (fun e=>by rw [e] at h10;omega)).symm
  ·try simp only [decide_eq_true_eq,Bool.not_eq_false'] at h10
   try simp only [zds] at h10
   refine qM ?_;refine qC ?_;refine qC ?_;refine qB ?_;intro l3_1
   try simp only [zds] at l3_1
   refine qN ?_;refine qU (fun (i : Nat)=>i ≤ a.length ∧ a.take i = b.take i) (fun (i : Nat)=>[(0,.one (.sl rEdt a)),(1,.one (.sl rEdt b)),(12,ii .i64 a.length),(13,ii .i64 i)]) (fun (i : Nat)=>[]) 0 (fun (i : Nat)=>a.length - i) 0 (⟨Nat.zero_le _,by simp⟩) (qP ⟨rfl,rfl,rfl,rfl⟩ trivial rfl) ?_;intro i hI0;obtain ⟨hi,ht⟩:=hI0;refine qC ?_;refine qB ?_;refine qC ?_;refine qK rfl (fun h14=>?_) (fun h14=>?_)
   ·try simp only [decide_eq_true_eq] at h14
    try simp only [zds] at h14
    have hla : i < a.length:=(by omega);have hlb : i < b.length:=(by omega);refine qM ?_;refine qC ?_;refine qN ?_;refine qC ?_;refine qB ?_;refine qC ?_;refine acode_draw rfl (by kernel_rfl) ?_;refine zai (by first|omega|assumption|decide|(simp only [zds];omega)|(simp <;> omega)) ?_;refine zai (by first|omega|assumption|decide|(simp only [zds];omega)|(simp <;> omega)) ?_;refine zai (fun h=>trivial) ?_;refine zai (fun h=>trivial) ?_;refine zai (fun h=>⟨⟨⟨h,trivial⟩,⟨h,trivial⟩,trivial⟩,by first|omega|decide|(simp only [zds];omega)|(have h9:=of_decide_eq_true h;omega)|(simp [gq] at h;omega)⟩) ?_;refine zai (fun h=>⟨⟨h,trivial⟩,trivial⟩) ?_;refine zai (fun h=>⟨⟨h,trivial⟩,trivial⟩) ?_;refine zai (fun h=>trivial) ?_;refine zai (fun h=>trivial) ?_;refine zai (fun h=>⟨⟨⟨h,trivial⟩,⟨h,trivial⟩,trivial⟩,by first|omega|decide|(simp only [zds];omega)|(have h9:=of_decide_eq_true h;omega)|(simp [gq] at h;omega)⟩) ?_;refine zai (fun h=>⟨⟨h,trivial⟩,trivial⟩) ?_;refine zai (fun h=>⟨⟨h,trivial⟩,trivial⟩) ?_;refine zai (fun h=>⟨⟨h,trivial⟩,⟨h,trivial⟩,trivial⟩) ?_;refine zai (by first|(intro h;rw [h];rfl)|(intro h;cases h)) ?_;refine zai (fun h=>trivial) ?_;refine zai (fun h=>trivial) ?_;refine zai (fun h=>⟨⟨⟨h,trivial⟩,⟨h,trivial⟩,trivial⟩,by first|omega|decide|(simp only [zds];omega)|(have h9:=of_decide_eq_true h;omega)|(simp [gq] at h;omega)⟩) ?_;refine zai (fun h=>⟨⟨h,trivial⟩,trivial⟩) ?_;refine zai (fun h=>⟨⟨h,trivial⟩,trivial⟩) ?_;refine zai (fun h=>trivial) ?_;refine zai (fun h=>trivial) ?_;refine zai (fun h=>⟨⟨⟨h,trivial⟩,⟨h,trivial⟩,trivial⟩,by first|omega|decide|(simp only [zds];omega)|(have h9:=of_decide_eq_true h;omega)|(simp [gq] at h;omega)⟩) ?_;refine zai (fun h=>⟨⟨h,trivial⟩,trivial⟩) ?_;refine zai (fun h=>⟨⟨h,trivial⟩,trivial⟩) ?_;refine zai (rfl) ?_;refine zei _ (zai (fun h=>⟨⟨⟨h,trivial⟩,⟨h,trivial⟩,trivial⟩,fieldsEq_c _ _⟩) ?_);refine zai (fun h=>⟨⟨h,trivial⟩,trivial⟩) ?_;refine zai (by first|(intro h;rw [h];rfl)|(intro h;cases h)) ?_;refine qK rfl (fun h53=>?_) (fun h53=>?_)
    ·try simp only [decide_eq_false_iff_not,Bool.not_eq_true',Bool.or_eq_true] at h53
     try simp only [Int.toNat_natCast,qG,qH,qF] at h53
     refine qC ?_;refine qB ?_;refine qL ?_;exact xH (decide_eq_false (fun e=>by subst e;simp at h53)).symm
    ·try simp only [decide_eq_true_eq,Bool.not_eq_false',Bool.or_eq_false_iff] at h53
     try simp only [Int.toNat_natCast,qG,qH,qF] at h53
     refine qM ?_;refine qB ?_;refine zai (by first|omega|assumption|decide|(simp only [zds];omega)|(simp <;> omega)) ?_;exact ⟨i + 1,⟨by omega,list_ext_take ((0 : Int),(0 : Int),([] : List Fld)) hla hlb ht (by obtain ⟨⟨h1,h2⟩,h3⟩:=h53;exact Prod.ext h1 (Prod.ext h2 h3))⟩,by first|omega|(simp <;> omega),qP ⟨rfl,rfl,rfl,(yM (by omega))⟩ trivial rfl⟩
   ·try simp only [decide_eq_false_iff_not,Int.not_lt] at h14
    try simp only [zds] at h14
    refine yC ?_;refine qC ?_;refine qB ?_;refine qL ?_;exact xH (decide_eq_true (by rw [List.take_of_length_le (by omega),List.take_of_length_le (by omega)] at ht;exact ht)).symm
end Q
end Ab
end Go.Proofs.YtehmiepjeffloaaGreatDoor
namespace Go.Proofs.YtehmiepjeffloaaGreatDoor
open Go.RowKit
namespace Ab
set_option maxRecDepth 100000
namespace Q
theorem shat_fault (at_ n : Int) : qQ Tryz.prog 18 [.one (errF at_ n)] (ii .i64 at_):=by
  refine qR (rs:=[2]) Tryz.func18 rfl rfl rfl teOk rfl ?_;refine qC ?_;refine qB ?_;refine qC ?_;refine qC ?_;refine qB ?_;refine qC ?_;refine qB ?_;refine zai (fun h=>trivial) ?_;refine zai (fun h=>⟨⟨h,trivial⟩,trivial⟩) ?_;refine zai (by exact fun h=>h) ?_;refine qK rfl (fun h14=>?_) (fun h14=>?_)
  ·try simp only [Bool.and_eq_true] at h14
   try simp only [zds] at h14
   refine qC ?_;refine qB ?_;refine qL ?_;rfl
  ·try simp only [Bool.and_eq_false_iff] at h14
   try simp only [zds] at h14
   simp at h14
theorem shat_errno (n : Int) : qQ Tryz.prog 18 [.one (errN n)] (ii .i64 (-9)):=by
  refine qR (rs:=[2]) Tryz.func18 rfl rfl rfl teOk rfl ?_;refine qC ?_;refine qB ?_;refine qC ?_;refine qC ?_;refine qB ?_;refine qC ?_;refine qB ?_;refine zai (fun h=>trivial) ?_;refine zai (fun h=>⟨⟨h,trivial⟩,trivial⟩) ?_;refine zai (by exact fun h=>h) ?_;refine qK rfl (fun h14=>?_) (fun h14=>?_)
  ·try simp only [Bool.and_eq_true,Bool.not_eq_true'] at h14
   try simp only [zds] at h14
   simp at h14
  ·try simp only [Bool.not_eq_false',Bool.and_eq_false_iff] at h14
   try simp only [zds] at h14
   refine qM ?_;refine qC ?_;refine qB ?_;refine qL ?_;rfl
theorem isRange_c : qQ Tryz.prog 13 [.one (errN 1),ii .i64 1] (ib true):=by
  refine qR (rs:=[4]) Tryz.func13 rfl rfl rfl teOk rfl ?_;refine qC ?_;refine qB ?_;refine qC ?_;refine qB ?_;refine Or.inl ?_;refine zai (rfl) ?_;refine zei _ (zai (num_errno 1 (by decide)) ?_);refine qL ?_;rfl
end Q
end Ab
end Go.Proofs.YtehmiepjeffloaaGreatDoor
namespace Go.Proofs.YtehmiepjeffloaaGreatDoor
open Go.RowKit
namespace Ab
set_option maxRecDepth 100000
namespace Q
theorem aText : bytes (yH (lst ([[⟨#[97]⟩,⟨#[98,34,99]⟩]] : List (List ByteArray)))) = ⟨#[97,44,34,98,34,34,99,34,10]⟩:=by decide +kernel
theorem read_of (rows : List (List ByteArray)) (hg : yY rows = true) (s : ByteArray) (hs : s = bytes (yH (lst rows))) (hz : s.size ≤ 60000) : qQ Tryz.prog 27 [is s] (.tup [(false,[.sl (.sl .str) rows]),(false,[.lit .nilIface])]):=by
  have h1 : yY (lst rows) = true:=by
    rw [← hg];simp only [yY,lst,List.all_map];congr 1;funext r;simp [lss]
  have h2:=Read_c s hz;rw [hs,show ls (bytes (yH (lst rows))) = yH (lst rows) from qT _,shread_write h1] at h2;have h3 : unt (lst rows) = rows:=by
    simp only [unt,lst,List.map_map]
    conv=>rhs;rw [← List.map_id rows]
    refine List.map_congr_left fun x _=>?_
    simp only [Function.comp,uns,lss,List.map_map]
    conv=>rhs;rw [id,← List.map_id x]
    exact List.map_congr_left fun y _=>xQ y
  rw [hs];have h4 : shReadA (some (lst rows)) = .tup [(false,[.sl (.sl .str) rows]),(false,[.lit .nilIface])]:=by show A.tup [(false,[.sl (.sl .str) (unt (lst rows))]),(false,[.lit .nilIface])] = _;rw [h3]
  rw [← h4];exact h2
theorem alive28_c : qQ Tryz.prog 6 [] (ib true):=by
  have hw:=write_yes [[⟨#[97]⟩,⟨#[98,34,99]⟩]] (by decide) (by decide) (by decide);rw [aText] at hw;have hr:=read_of [[⟨#[97]⟩,⟨#[98,34,99]⟩]] (by decide) ⟨#[97,44,34,98,34,34,99,34,10]⟩ aText.symm (by decide);refine qR (rs:=[0]) Tryz.func6 rfl rfl rfl teOk rfl ?_;refine qC ?_;refine qB ?_;refine qC ?_;refine qB ?_;refine Or.inl ?_;refine zai (rfl) ?_;refine zei _ (zai (hw) ?_);refine qC ?_;refine qB ?_;refine Or.inl ?_;refine zai (rfl) ?_;refine zei _ (zai (hr) ?_);refine qC ?_;refine qB ?_;refine zai (fun h=>trivial) ?_;refine zai (fun h=>⟨⟨h,trivial⟩,trivial⟩) ?_;refine zai (by exact fun h=>h) ?_;refine zai (fun h=>trivial) ?_;refine zai (fun h=>⟨⟨h,trivial⟩,trivial⟩) ?_;refine zai (by exact fun h=>h) ?_;refine zai (fun h=>trivial) ?_;refine zai (fun h=>⟨⟨h,trivial⟩,trivial⟩) ?_;refine zai (fun h=>⟨⟨h,trivial⟩,trivial⟩) ?_;refine zai (by exact fun h=>h) ?_;refine zai (fun h=>trivial) ?_;refine zai (fun h=>⟨⟨⟨h,trivial⟩,trivial⟩,by first|omega|decide|(simp only [zds];omega)|(have h9:=of_decide_eq_true h;omega)|(simp [gq] at h;omega)⟩) ?_;refine zai (fun h=>⟨⟨h,trivial⟩,trivial⟩) ?_;refine zai (fun h=>⟨⟨h,trivial⟩,trivial⟩) ?_;refine zai (fun h=>⟨⟨h,trivial⟩,trivial⟩) ?_;refine zai (by exact fun h=>h) ?_;refine zai (fun h=>trivial) ?_;refine zai (fun h=>⟨⟨⟨h,trivial⟩,trivial⟩,by first|omega|decide|(simp only [zds];omega)|(have h9:=of_decide_eq_true h;omega)|(simp [gq] at h;omega)⟩) ?_;refine zai (fun h=>⟨⟨h,trivial⟩,trivial⟩) ?_;refine zai (fun h=>⟨⟨⟨h,trivial⟩,trivial⟩,by first|omega|decide|(simp only [zds];omega)|(have h9:=of_decide_eq_true h;omega)|(simp [gq] at h;omega)⟩) ?_;refine zai (fun h=>⟨⟨h,trivial⟩,trivial⟩) ?_;refine zai (fun h=>⟨⟨h,trivial⟩,trivial⟩) ?_;refine zai (by exact fun h=>h) ?_;refine qL ?_;exact xH (by decide)
def minR (r : List ByteArray) : Nat:=(r.map fun c=>min c.size 9999).sum
def minT (t : List (List ByteArray)) : Nat:=(t.map minR).sum
end Q
end Ab
end Go.Proofs.YtehmiepjeffloaaGreatDoor
namespace Go.Proofs.YtehmiepjeffloaaGreatDoor
open Go.RowKit
namespace Ab
set_option maxRecDepth 100000
namespace Q
theorem cntR_at {l : List Itm} {i : Nat} (h : i < l.length) : cntR (l.take (i + 1)) = cntR (l.take i) + if isRec (l.getD i ((0 : Int),ByteArray.empty,([] : List Fld))) then 1 else 0:=by
  rw [← yT ((0 : Int),ByteArray.empty,([] : List Fld)) h,cntR_app]
  generalize l.getD i ((0 : Int),ByteArray.empty,([] : List Fld)) = x
  cases hk : isRec x
  · simp [cntR,hk]
  · simp [cntR,hk]
theorem numI_at {l : List Itm} {i : Nat} (h : i < l.length) : numI 1 (l.take (i + 1)) = numI 1 (l.take i) ++ [(l.getD i ((0 : Int),ByteArray.empty,([] : List Fld)),if isRec (l.getD i ((0 : Int),ByteArray.empty,([] : List Fld))) then 1 + (cntR (l.take i) : Int) else 0)]:=by
  rw [← yT ((0 : Int),ByteArray.empty,([] : List Fld)) h];exact numI_snoc (l.take i) 1 _
theorem cntR_le (l : List Itm) : cntR l ≤ l.length:=List.length_filter_le _ _
def lsO (l : Lst) : Obs:=[(0,.box 79 [.vec 1,.lit (.int .i64 l.2.1),.lit (.int .i64 l.2.2)]),(1,.vec 83 rEnt l.1)]
theorem lbox_eq {a b c d : Int} (h1 : a = c) (h2 : b = d) : some (Ob.box 79 [.vec 1,.lit (.int .i64 a),.lit (.int .i64 b)]) = some (Ob.box 79 [.vec 1,.lit (.int .i64 c),.lit (.int .i64 d)]):=by rw [h1,h2]
theorem of_ok (s : ByteArray) (hs : s.size ≤ 60000) {l : List Itm} (hp : parseS s = .inr l) : yI Tryz.prog 7 [is s] [] 0 (.tup [(false,[.own 0 0]),(false,[.lit .nilIface])]) (lsO (ofT l)) 2:=by
  have hpa:=parse_a s hs;rw [hp] at hpa;obtain ⟨hl1,hl2⟩:=items_flds hs hp;refine yF (rs:=[2,3]) Tryz.func7 rfl rfl rfl teOk (by decide) rfl ?_;refine qC ?_;refine qB ?_;refine qC ?_;refine qB ?_;refine Or.inl ?_;refine zai (rfl) ?_;refine zei _ (zai (hpa) ?_);refine qC ?_;refine qC ?_;refine qB ?_;refine qK rfl (fun h16=>?_) (fun h16=>?_)
  ·try simp only [Bool.not_eq_true'] at h16
   try simp only [zds] at h16
   cases h16
  ·try simp only [Bool.not_eq_false'] at h16
   try simp only [zds] at h16
   refine qM ?_;refine qC ?_;refine qB ?_;refine qC ?_;refine qC ?_;refine yJ 0 0 83 rEnt rfl rfl rfl ?_;refine qB ?_;intro l5_1
   try simp only [zds] at l5_1
   refine qN ?_;refine qU (fun (i : Nat)=>i ≤ l.length) (fun (i : Nat)=>[(0,is s),(6,.one (.own 0 0)),(20,.one (.sl rItm l)),(21,ii .i64 l.length),(22,ii .i64 i)]) (fun (i : Nat)=>[(0,.box 79 [.vec 1,.lit (.int .i64 (1 + (cntR (l.take i) : Int))),.lit (.int .i64 (cntR (l.take i)))]),(1,.vec 83 rEnt (numI 1 (l.take i)))]) 2 (fun (i : Nat)=>l.length - i) 0 (Nat.zero_le _) (qP ⟨rfl,rfl,rfl,rfl,rfl⟩ ⟨rfl,rfl⟩ rfl) ?_;intro i hI0;refine qC ?_;refine qB ?_;refine qC ?_;refine qK rfl (fun h23=>?_) (fun h23=>?_)
   ·try simp only [decide_eq_true_eq] at h23
    try simp only [zds] at h23
    have hil : i < l.length:=(by omega);have hsn:=numI_at hil;have hcn:=cntR_at hil;have hcl:=cntR_le (l.take i);rw [List.length_take] at hcl;refine qM ?_;refine qC ?_;refine qN ?_;refine qC ?_;refine qB ?_;refine zai (by first|omega|assumption|decide|(simp only [zds];omega)|(simp <;> omega)) ?_;refine qC ?_;refine qB ?_;refine qC ?_;refine qC ?_;refine qB ?_;refine qK rfl (fun h30=>?_) (fun h30=>?_)
    ·try simp only [decide_eq_true_eq] at h30
     try simp only [Int.toNat_natCast,qG,qH,qE,qF] at h30
     have hk : isRec (l.getD i ((0 : Int),ByteArray.empty,([] : List Fld))) = true:=decide_eq_true h30;rw [hk,if_pos rfl] at hsn hcn;refine qC ?_;refine qB ?_;refine qC ?_;refine qB ?_;refine zai (by first|omega|assumption|decide|(simp only [zds];omega)|(simp <;> omega)) ?_;refine qB ?_;refine zai (by first|omega|assumption|decide|(simp only [zds];omega)|(simp <;> omega)) ?_;refine xM rfl ?_;refine qJ 0 rfl rfl rfl (by kernel_rfl) ?_;refine qJ 1 rfl rfl rfl (by kernel_rfl) ?_;refine qJ 2 rfl rfl rfl (by kernel_rfl) ?_;refine qJ 3 rfl rfl rfl (by kernel_rfl) ?_;refine qI [4,5] (by kernel_rfl) rfl ?_;refine zai ?_ ?_
     ·refine qI [5] (by kernel_rfl) rfl ?_;refine qI [6] (by kernel_rfl) rfl ?_;refine qI [7] (by kernel_rfl) rfl ?_;refine zai (by exact qS (show (numI 1 (l.take i)).length + 1 ≤ 1000000000 by rw [numI_len,List.length_take];omega) (by decide)) ?_;refine qJ 8 rfl rfl rfl (by kernel_rfl) ?_;refine qJ 9 rfl rfl rfl (by kernel_rfl) ?_;refine qI [10] (by kernel_rfl) rfl ?_;refine qO (by kernel_rfl) ?_;refine qB ?_;refine zai (by first|omega|assumption|decide|(simp only [zds];omega)|(simp <;> omega)) ?_;exact ⟨i + 1,by omega,by first|omega|(simp <;> omega),qP ⟨rfl,rfl,rfl,rfl,rfl⟩ ⟨(lbox_eq (by omega) (by omega)),(yA (by rw [hsn];exact rfl))⟩ rfl⟩
     ·refine qI [4,6] (by kernel_rfl) rfl ?_;refine zai ?_ ?_
      ·refine qI [6] (by kernel_rfl) rfl ?_;refine qI [7] (by kernel_rfl) rfl ?_;refine zai (by exact qS (show (numI 1 (l.take i)).length + 1 ≤ 1000000000 by rw [numI_len,List.length_take];omega) (by decide)) ?_;refine qJ 8 rfl rfl rfl (by kernel_rfl) ?_;refine qJ 9 rfl rfl rfl (by kernel_rfl) ?_;refine qI [10] (by kernel_rfl) rfl ?_;refine qO (by kernel_rfl) ?_;refine qB ?_;refine zai (by first|omega|assumption|decide|(simp only [zds];omega)|(simp <;> omega)) ?_;exact ⟨i + 1,by omega,by first|omega|(simp <;> omega),qP ⟨rfl,rfl,rfl,rfl,rfl⟩ ⟨(lbox_eq (by omega) (by omega)),(yA (by rw [hsn];exact rfl))⟩ rfl⟩
      ·refine qI [4] (by kernel_rfl) rfl ?_;refine qI [7] (by kernel_rfl) rfl ?_;refine zai (by exact qS (show (numI 1 (l.take i)).length + 1 ≤ 1000000000 by rw [numI_len,List.length_take];omega) (by decide)) ?_;refine qJ 8 rfl rfl rfl (by kernel_rfl) ?_;refine qJ 9 rfl rfl rfl (by kernel_rfl) ?_;refine qI [10] (by kernel_rfl) rfl ?_;refine qO (by kernel_rfl) ?_;refine qB ?_;refine zai (by first|omega|assumption|decide|(simp only [zds];omega)|(simp <;> omega)) ?_;exact ⟨i + 1,by omega,by first|omega|(simp <;> omega),qP ⟨rfl,rfl,rfl,rfl,rfl⟩ ⟨(lbox_eq (by omega) (by omega)),(yA (by rw [hsn];exact rfl))⟩ rfl⟩
    ·try simp only [decide_eq_false_iff_not] at h30
     try simp only [Int.toNat_natCast,qG,qH,qE,qF] at h30
     have hk : isRec (l.getD i ((0 : Int),ByteArray.empty,([] : List Fld))) = false:=decide_eq_false h30;rw [hk,if_neg Bool.false_ne_true] at hsn hcn;refine qM ?_;refine xM rfl ?_;refine qJ 0 rfl rfl rfl (by kernel_rfl) ?_;refine qJ 1 rfl rfl rfl (by kernel_rfl) ?_;refine qJ 2 rfl rfl rfl (by kernel_rfl) ?_;refine qJ 3 rfl rfl rfl (by kernel_rfl) ?_;refine qI [4,5] (by kernel_rfl) rfl ?_;refine zai ?_ ?_
     ·refine qI [5] (by kernel_rfl) rfl ?_;refine qI [6] (by kernel_rfl) rfl ?_;refine qI [7] (by kernel_rfl) rfl ?_;refine zai (by exact qS (show (numI 1 (l.take i)).length + 1 ≤ 1000000000 by rw [numI_len,List.length_take];omega) (by decide)) ?_;refine qJ 8 rfl rfl rfl (by kernel_rfl) ?_;refine qJ 9 rfl rfl rfl (by kernel_rfl) ?_;refine qI [10] (by kernel_rfl) rfl ?_;refine qO (by kernel_rfl) ?_;refine qB ?_;refine zai (by first|omega|assumption|decide|(simp only [zds];omega)|(simp <;> omega)) ?_;exact ⟨i + 1,by omega,by first|omega|(simp <;> omega),qP ⟨rfl,rfl,rfl,rfl,rfl⟩ ⟨(lbox_eq (by omega) (by omega)),(yA (by rw [hsn];exact rfl))⟩ rfl⟩
     ·refine qI [4,6] (by kernel_rfl) rfl ?_;refine zai ?_ ?_
      ·refine qI [6] (by kernel_rfl) rfl ?_;refine qI [7] (by kernel_rfl) rfl ?_;refine zai (by exact qS (show (numI 1 (l.take i)).length + 1 ≤ 1000000000 by rw [numI_len,List.length_take];omega) (by decide)) ?_;refine qJ 8 rfl rfl rfl (by kernel_rfl) ?_;refine qJ 9 rfl rfl rfl (by kernel_rfl) ?_;refine qI [10] (by kernel_rfl) rfl ?_;refine qO (by kernel_rfl) ?_;refine qB ?_;refine zai (by first|omega|assumption|decide|(simp only [zds];omega)|(simp <;> omega)) ?_;exact ⟨i + 1,by omega,by first|omega|(simp <;> omega),qP ⟨rfl,rfl,rfl,rfl,rfl⟩ ⟨(lbox_eq (by omega) (by omega)),(yA (by rw [hsn];exact rfl))⟩ rfl⟩
      ·refine qI [4] (by kernel_rfl) rfl ?_;refine qI [7] (by kernel_rfl) rfl ?_;refine zai (by exact qS (show (numI 1 (l.take i)).length + 1 ≤ 1000000000 by rw [numI_len,List.length_take];omega) (by decide)) ?_;refine qJ 8 rfl rfl rfl (by kernel_rfl) ?_;refine qJ 9 rfl rfl rfl (by kernel_rfl) ?_;refine qI [10] (by kernel_rfl) rfl ?_;refine qO (by kernel_rfl) ?_;refine qB ?_;refine zai (by first|omega|assumption|decide|(simp only [zds];omega)|(simp <;> omega)) ?_;exact ⟨i + 1,by omega,by first|omega|(simp <;> omega),qP ⟨rfl,rfl,rfl,rfl,rfl⟩ ⟨(lbox_eq (by omega) (by omega)),(yA (by rw [hsn];exact rfl))⟩ rfl⟩
   ·try simp only [decide_eq_false_iff_not,Int.not_lt] at h23
    try simp only [zds] at h23
    refine yC ?_;refine qC ?_;refine qB ?_;refine qL ?_;rw [List.take_of_length_le (by omega)];exact ⟨rfl,⟨rfl,rfl⟩,rfl⟩
end Q
end Ab
end Go.Proofs.YtehmiepjeffloaaGreatDoor
namespace Go.Proofs.YtehmiepjeffloaaGreatDoor
open Go.RowKit
namespace Ab
set_option maxRecDepth 100000
set_option maxHeartbeats 2000000
namespace Q
abbrev z4 : List Value:=[.int .i64 0,.string ⟨#[]⟩,.slice none 0 0,.int .i64 0]
theorem zs_len {P : Program} {t : TypeId} {i : TyI} (h : TyOk P t i) (n : Nat) : (Builtin.zeroCells i.zeroV.cells n).toList.length = n * i.size:=by
  rw [Array.length_toList,size_zeroCells,h.zeroCells,List.size_toArray,h.zlen]
theorem tyEnt : TyOk Tryz.prog 83 ty83:=tyOk83
end Q
end Ab
end Go.Proofs.YtehmiepjeffloaaGreatDoor
