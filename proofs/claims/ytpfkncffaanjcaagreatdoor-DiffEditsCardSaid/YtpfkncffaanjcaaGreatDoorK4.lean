/-
  The texts of this proof, joined: abstract values, the library, the functions of the program and what they compute (part 4). No condition.
-/
import Derived.Lib.UnsafeStr
import Derived.Shelf.RegionOpenPlain
import Derived.Shelf.Spec.SlicesInsert
import Derived.Lib.AppendZerosOnto
import Derived.Laws.NewBlocks
import Derived.Test.YtpfkncffaanjcaaGreatDoorK1
import Derived.Test.YtpfkncffaanjcaaGreatDoorK2
import Derived.Test.YtpfkncffaanjcaaGreatDoorK3
namespace Go.Proofs.YtpfkncffaanjcaaGreatDoor
open Go.RowKit
namespace Ab
set_option maxRecDepth 100000
namespace Q
theorem unfold_e : qU Tryz.prog 159 [.one (.sl .str [])] (unfA []):=by
  refine acall_ofc (rs:=[.cell 2 82,.tmp 3]) Tryz.func159 rfl rfl rfl teOk rfl ?_;refine qC ?_;refine qB ?_;refine qC ?_;refine qC ?_;refine qB ?_;intro l1_1
  try simp only [zds] at l1_1
  refine qK rfl (fun h14=>?_) (fun h14=>?_)
  ·try simp only [decide_eq_true_eq] at h14
   try simp only [zds] at h14
   refine qC ?_;refine qB ?_;refine qL ?_;rfl
  ·try simp only [decide_eq_false_iff_not] at h14
   try simp only [zds] at h14
   exact absurd rfl h14
theorem unfold_a (l : List ByteArray) (hl : LinesOk l) : qU Tryz.prog 159 [.one (.sl .str l)] (unfA l):=by
  cases l with
  | nil=>exact unfold_e
  | cons s r=>exact unfold_c s r hl
theorem kind4_key {l : List UInt8} (h4 : yB l = 4) : 10 ∉ l ∧ ((Lib.cut l [58]).2.2 && keyOk (Lib.cut l [58]).1) = true:=by
  unfold yB at h4;split at h4
  · cases h4
  · rename_i h10;refine ⟨h10,?_⟩;split at h4
    · cases h4
    · split at h4
      · cases h4
      · split at h4
        · cases h4
        · split at h4
          · rename_i h5;exact h5
          · cases h4
theorem unf_cases (L : List (List UInt8)) : (∃ n,(n = 2 ∨ n = 6) ∧ yH L = (([],[]),n)) ∨ ∃ k v,yH L = ((k,v),0) ∧ keyOk k = true ∧ v.length ≤ 1000:=by
  cases L with
  | nil=>exact .inl ⟨2,.inl rfl,rfl⟩
  | cons a r =>
    rw [yH];split
    · exact .inl ⟨2,.inl rfl,rfl⟩
    · rename_i h1;split
      · exact .inl ⟨6,.inr rfl,rfl⟩
      · rename_i h2;have h4 : yB a = 4:=Classical.not_not.1 fun h=>h1 (.inl h)
        have:=(kind4_key h4).2;rw [Bool.and_eq_true] at this;exact .inr ⟨_,_,rfl,this.2,by omega⟩
theorem unfold_bad (l : List ByteArray) (hl : LinesOk l) {n : Int} (h : yH (l.map ls) = (([],[]),n)) (hn : n = 2 ∨ n = 6) : qU Tryz.prog 159 [.one (.sl .str l)] (.tup [(true,[.lit (.string ⟨#[]⟩),.lit (.string ⟨#[]⟩)]),(false,[errN n])]):=by
  have:=unfold_a l hl;rw [unfA_bad (n:=n) (by rw [h]) (by rcases hn with rfl|rfl <;> decide)] at this;exact this
theorem unfold_ok (l : List ByteArray) (hl : LinesOk l) {k v : List UInt8} (h : yH (l.map ls) = ((k,v),0)) : qU Tryz.prog 159 [.one (.sl .str l)] (.tup [(true,[.lit (.string (bytes k)),.lit (.string (bytes v))]),(false,[.lit .nilIface])]):=by
  have:=unfold_a l hl;rw [unfA_ok h] at this;exact this
def plainL (l : List ByteArray) : Bool:=decide ((yH (l.map ls)).2 = 0) && decide (lineB (bytes (yH (l.map ls)).1.1) (bytes (yH (l.map ls)).1.2) = l)
theorem kind3_two {l : List UInt8} (h : yB l = 3) : 2 ≤ l.length:=by
  match l with
  | []=>cases h
  | [a] =>
    exfalso
    unfold yB at h;split at h
    · cases h
    · split at h
      · cases h
      · rename_i h2;split at h
        · cases h
        · split at h
          · rename_i h4;unfold blankL at h4;simp at h2 h4;rw [h4] at h2;cases h2
          · split at h <;> cases h
  | a :: b :: r=>simp
theorem valueL_snoc (s : List UInt8) (r : List (List UInt8)) (x : List UInt8) : valueL s (r ++ [x]) = valueL s r ++ ([10] ++ Lib.trimPrefix (x.drop 1) [46]):=by
  unfold valueL;rw [List.map_append,List.map_cons,List.map_nil,← List.cons_append,join_snoc _ _ (by simp)]
theorem trimP_yes {c : UInt8} {l : List UInt8} (h : 0 < l.length) (hc : l.getD 0 0 = c) : Lib.trimPrefix l [c] = l.drop 1:=by
  unfold Lib.trimPrefix;rw [if_pos]
  · rfl
  · rw [hasPrefix_one];cases l with
    | nil=>cases h
    | cons a b=>simp only [List.getD_cons_zero] at hc;rw [hc];simp
theorem trimP_no {c : UInt8} {l : List UInt8} (hc : l.getD 0 0 ≠ c ∨ l = []) : Lib.trimPrefix l [c] = l:=by
  unfold Lib.trimPrefix;rw [if_neg];rw [hasPrefix_one];cases l with
  | nil=>simp
  | cons a b =>
    rcases hc with hc|hc
    · simp only [List.getD_cons_zero] at hc;simp [hc]
    · cases hc
def refUnfA (l : List ByteArray) : A:=.tup [(true,[.lit (.string (bytes (yH (l.map ls)).1.1)),.lit (.string (bytes (yH (l.map ls)).1.2))]),(false,[.lit (.int .i64 (yH (l.map ls)).2)])]
theorem refUnfA_eq {l : List ByteArray} {k v : List UInt8} {n : Int} (h : yH (l.map ls) = ((k,v),n)) : refUnfA l = .tup [(true,[.lit (.string (bytes k)),.lit (.string (bytes v))]),(false,[.lit (.int .i64 n)])]:=by
  unfold refUnfA;rw [h]
theorem unf_form2 {s : ByteArray} {r : List ByteArray} (h : yB (ls s) ≠ 4 ∨ ∃ x ∈ r,yB (ls x) ≠ 3) : yH ((s :: r).map ls) = (([],[]),2):=by
  rw [List.map_cons,yH,if_pos];rcases h with h|⟨x,hx,h⟩
  · exact .inl h
  · exact .inr (List.any_eq_true.2 ⟨ls x,List.mem_map.2 ⟨x,hx,rfl⟩,by rw [decide_eq_false h];rfl⟩)
theorem take_map_ls (r : List ByteArray) (i : Nat) (h : i < r.length) : (r.take (i + 1)).map ls = (r.take i).map ls ++ [ls (r.getD i ByteArray.empty)]:=by
  rw [← yI ByteArray.empty h,List.map_append];rfl
theorem ext1 (s : ByteArray) : s.extract (Int.toNat 1) (s.size : Int).toNat = bytes (s.data.toList.drop 1):=by
  rw [Int.toNat_natCast,show Int.toNat 1 = 1 from rfl];exact ls_inj (drop_size s 1)
theorem ext1' (s : ByteArray) : s.extract (Int.toNat 1) s.size = bytes (s.data.toList.drop 1):=ext1 s
theorem refUnfold_e : qU Tryz.prog 108 [.one (.sl .str [])] (refUnfA []):=by
  refine acall_ofc (rs:=[.cell 2 82,.tmp 3]) Tryz.func108 rfl rfl rfl teOk rfl ?_;refine qC ?_;refine qB ?_;refine qC ?_;refine qC ?_;refine qB ?_;intro l1_1
  try simp only [zds] at l1_1
  refine zai (fun h=>trivial) ?_;refine zai (fun h=>⟨⟨⟨h,trivial⟩,trivial⟩,by exact absurd h (by decide)⟩) ?_;refine zai (fun h=>⟨⟨h,trivial⟩,trivial⟩) ?_;refine Or.inl ?_;refine zai (rfl) ?_;refine zei _ (zai (fun h=>⟨⟨⟨h,trivial⟩,trivial⟩,(absurd h (by decide) : qU _ _ _ (ii .i64 0))⟩) ?_);refine zai (fun h=>⟨⟨h,trivial⟩,trivial⟩) ?_;refine zai (by first|(intro h;rw [h];rfl)|(intro h;cases h)) ?_;refine qK rfl (fun h18=>?_) (fun h18=>?_)
  ·try simp only [decide_eq_true_eq,decide_eq_false_iff_not,Bool.not_eq_true',Bool.or_eq_true] at h18
   try simp only [zds] at h18
   refine qC ?_;refine qB ?_;refine qL ?_;rfl
  ·try simp only [decide_eq_true_eq,decide_eq_false_iff_not,Bool.not_eq_false',Bool.or_eq_false_iff] at h18
   try simp only [zds] at h18
   exact absurd h18.1 (by decide)
theorem refUnfold_c (s0 : ByteArray) (r : List ByteArray) (hl : LinesOk (s0 :: r)) : qU Tryz.prog 108 [.one (.sl .str (s0 :: r))] (refUnfA (s0 :: r)):=by
  obtain ⟨l,hl0⟩ : ∃ l,s0 :: r = l:=⟨_,rfl⟩;rw [hl0] at hl ⊢;have hsz : ∀ x ∈ l,x.size ≤ 100000000:=fun x hx=>Nat.le_trans (sum_mem hx) hl.2
  have hll:=hl.1;have h0 : l.getD 0 ByteArray.empty = s0:=by rw [← hl0];rfl
  have hget : ∀ i,l.getD (i + 1) ByteArray.empty = r.getD i ByteArray.empty:=fun i=>by rw [← hl0];rfl
  have hs0 : s0.size ≤ 100000000:=hsz _ (by rw [← hl0];simp);have hz0:=yA s0;have hlen : l.length = r.length + 1:=by rw [← hl0];rfl
  obtain ⟨c,hc⟩ : ∃ c,Lib.cut s0.data.toList [58] = c:=⟨_,rfl⟩;have hcl:=(cut_len s0.data.toList [58]);rw [hc] at hcl;obtain ⟨v0,hv0⟩ : ∃ v,Lib.trimPrefix c.2.1 [32] = v:=⟨_,rfl⟩;have hval0 : valueL (ls s0) ((r.take 0).map ls) = v0:=by
    unfold valueL;rw [← hv0,← hc];simp [Lib.join_one]
  have hvl : ∀ i,i ≤ r.length → (valueL (ls s0) ((r.take i).map ls)).length ≤ 300000000:=fun i hi=>by
    have h1:=value_len s0 (r.take i);have h2:=hl.2;rw [← hl0,List.map_cons,List.sum_cons] at h2;have h3 : ((r.take i).map (·.size)).sum ≤ (r.map (·.size)).sum:=by
      conv=>rhs;rw [← List.take_append_drop i r,List.map_append,List.sum_append]
      omega
    rw [List.length_take] at h1;omega
  refine acall_ofc (rs:=[.cell 2 82,.tmp 3]) Tryz.func108 rfl rfl rfl teOk rfl ?_;refine qC ?_;refine qB ?_;refine qC ?_;refine qC ?_;refine qB ?_;intro l1_1
  try simp only [zds] at l1_1
  refine zai (fun h=>trivial) ?_;refine zai (fun h=>⟨⟨⟨h,trivial⟩,trivial⟩,by (rw [hlen];omega)⟩) ?_;refine zai (fun h=>⟨⟨h,trivial⟩,trivial⟩) ?_;refine Or.inl ?_;refine zai (rfl) ?_;refine zei _ (zai (fun h=>⟨⟨⟨h,trivial⟩,trivial⟩,refKind_c (l.getD 0 ByteArray.empty) (by rw [h0];omega)⟩) ?_);refine zai (fun h=>⟨⟨h,trivial⟩,trivial⟩) ?_;refine zai (by first|(intro h;rw [h];rfl)|(intro h;cases h)) ?_;refine qK rfl (fun h18=>?_) (fun h18=>?_)
  ·try simp only [decide_eq_true_eq,decide_eq_false_iff_not,Bool.not_eq_true',Bool.or_eq_true] at h18
   try simp only [zds] at h18
   have hk : yB (ls s0) ≠ 4:=by rcases h18 with h|h;exfalso;omega;rw [h0] at h;exact h
   refine qC ?_;refine qB ?_;refine qL ?_;rw [← hl0,refUnfA_eq (unf_form2 (.inl hk))];rfl
  ·try simp only [decide_eq_true_eq,decide_eq_false_iff_not,Bool.not_eq_false',Bool.or_eq_false_iff] at h18
   try simp only [zds] at h18
   have hk4 : yB (ls s0) = 4:=by have:=h18.2;rw [h0] at this;exact this
   obtain ⟨h10,hkk⟩:=kind4_key hk4;refine qM ?_;refine qC ?_;refine qB ?_;refine zai (by omega) ?_;refine Or.inl ?_;refine zai (rfl) ?_;refine zei _ (zai ((refCut_v (l.getD 0 ByteArray.empty) c (by rw [h0];unfold refCutL;rw [if_neg h10,if_pos (by exact hkk)];exact hc) (by rw [h0];omega))) ?_);refine acode_cut (fun (u : Unit)=>True) (fun (u : Unit)=>[(0,.one (.sl .str l)),(2,.one (.own 0 0)),(4,is (bytes c.1)),(5,is (bytes v0))]) (fun (u : Unit)=>[(0,.box 82 [.lit (.string ⟨#[]⟩),.lit (.string ⟨#[]⟩)])]) 1 ?_ ?_
   ·refine qC ?_;refine qB ?_;refine zai (fun h=>trivial) ?_;refine zai (fun h=>⟨⟨⟨h,trivial⟩,trivial⟩,by (have:=of_decide_eq_true (by simpa [gq] using h);omega)⟩) ?_;refine zai (fun h=>⟨⟨h,trivial⟩,trivial⟩) ?_;refine zai (by exact fun h=>h) ?_;refine qK rfl (fun h35=>?_) (fun h35=>?_)
    ·try simp only [decide_eq_true_eq,Bool.and_eq_true] at h35
     try simp only [zds] at h35
     refine qB ?_;refine zai (by first|omega|assumption|decide|(simp only [zds];omega)|(simp <;> omega)) ?_;exact ⟨(),trivial,qQ ⟨rfl,rfl,rfl,(is_eq (by rw [ext1,yD,← hv0,trimP_yes (by have:=h35.1;rw [yL] at this;omega) (u8_eq (b:=32) (by have:=h35.2;rw [yD] at this;exact this))]))⟩ rfl rfl⟩
    ·try simp only [decide_eq_false_iff_not,Bool.and_eq_false_iff,Int.not_lt] at h35
     try simp only [zds] at h35
     refine qM ?_;exact ⟨(),trivial,qQ ⟨rfl,rfl,rfl,(is_eq (by rw [← hv0,trimP_no (h35.elim (fun h=>.inr (List.eq_nil_of_length_eq_zero (by rw [yL] at h;omega))) (fun h=>.inl (fun e=>h (by rw [yD];rw [show c.2.1.getD (Int.toNat 0) 0 = 32 from e];rfl))))]))⟩ rfl rfl⟩
   ·intro u hcut6;refine qC ?_;refine qC ?_;refine qB ?_;refine qO ?_;refine qV (fun (i : Nat)=>i ≤ r.length ∧ ∀ x ∈ r.take i,yB (ls x) = 3) (fun (i : Nat)=>[(0,.one (.sl .str l)),(2,.one (.own 0 0)),(4,is (bytes c.1)),(5,is (bytes (valueL (ls s0) ((r.take i).map ls)))),(7,ii .i64 ((i : Int) + 1))]) (fun (i : Nat)=>[(0,.box 82 [.lit (.string ⟨#[]⟩),.lit (.string ⟨#[]⟩)])]) 1 (fun (i : Nat)=>r.length - i) 0 (⟨Nat.zero_le _,by simp⟩) (qQ ⟨rfl,rfl,rfl,(is_eq (by rw [hval0])),rfl⟩ rfl rfl) ?_;intro i hI0;obtain ⟨hi,hall⟩:=hI0;refine qC ?_;refine qC ?_;refine qB ?_;intro l7_2
    try simp only [zds] at l7_2
    refine qK rfl (fun h41=>?_) (fun h41=>?_)
    ·try simp only [decide_eq_true_eq] at h41
     try simp only [zds] at h41
     have hlt : i < r.length:=by omega
     have hgi : l.getD ((i : Int) + 1).toNat ByteArray.empty = r.getD i ByteArray.empty:=by rw [show ((i : Int) + 1).toNat = i + 1 by omega,hget]
     have hm : r.getD i ByteArray.empty ∈ l:=by rw [← hl0];exact List.mem_cons_of_mem _ (yT hlt _)
     have hms:=hsz _ hm;refine qM ?_;refine qC ?_;refine qO ?_;refine qC ?_;refine qC ?_;refine qB ?_;refine zai (by first|omega|assumption|decide|(simp only [zds];omega)|(simp <;> omega)) ?_;refine Or.inl ?_;refine zai (rfl) ?_;refine zei _ (zai (refKind_c (l.getD ((i : Int) + 1).toNat ByteArray.empty) (by rw [hgi];omega)) ?_);refine qK rfl (fun h49=>?_) (fun h49=>?_)
     ·try simp only [decide_eq_false_iff_not,Bool.not_eq_true'] at h49
      try simp only [zds] at h49
      rw [hgi] at h49;refine qC ?_;refine qB ?_;refine qL ?_;rw [← hl0,refUnfA_eq (unf_form2 (.inr ⟨_,yT hlt ByteArray.empty,h49⟩))];rfl
     ·try simp only [decide_eq_true_eq,Bool.not_eq_false'] at h49
      try simp only [zds] at h49
      rw [hgi] at h49;have h2:=kind3_two h49;have hz:=yA (r.getD i ByteArray.empty);have hgs : (l.getD ((i : Int) + 1).toNat Rd.str.dflt).size = (r.getD i ByteArray.empty).size:=congrArg ByteArray.size hgi;refine qM ?_;refine qC ?_;refine qB ?_;refine zai (by first|omega|assumption|decide|(simp only [zds];omega)|(simp <;> omega)) ?_;refine zai (by first|omega|assumption|decide|(simp only [zds];omega)|(simp <;> omega)) ?_;refine acode_cut (fun (u : Unit)=>True) (fun (u : Unit)=>[(0,.one (.sl .str l)),(2,.one (.own 0 0)),(4,is (bytes c.1)),(5,is (bytes (valueL (ls s0) ((r.take i).map ls)))),(7,ii .i64 ((i : Int) + 1)),(8,is (bytes (Lib.trimPrefix ((ls (r.getD i ByteArray.empty)).drop 1) [46])))]) (fun (u : Unit)=>[(0,.box 82 [.lit (.string ⟨#[]⟩),.lit (.string ⟨#[]⟩)])]) 1 ?_ ?_
      ·refine qC ?_;refine qB ?_;refine zai (by (rw [show l.getD ((i : Int) + 1).toNat Rd.str.dflt = r.getD i ByteArray.empty from hgi,ext1,yL,List.length_drop];omega)) ?_;refine qK rfl (fun h58=>?_) (fun h58=>?_)
       ·try simp only [decide_eq_true_eq] at h58
        try simp only [Int.toNat_natCast,qF] at h58
        refine qB ?_;refine zai (by (rw [show l.getD ((i : Int) + 1).toNat Rd.str.dflt = r.getD i ByteArray.empty from hgi,ext1,yL,List.length_drop];omega)) ?_;exact ⟨(),trivial,qQ ⟨rfl,rfl,rfl,rfl,rfl,(is_eq (by rw [show l.getD ((i : Int) + 1).toNat Rd.str.dflt = r.getD i ByteArray.empty from hgi,ext1,ext1,yD,trimP_yes (by rw [List.length_drop];exact Nat.sub_pos_of_lt h2) (u8_eq (b:=46) (by rw [hgi,ext1',yD] at h58;exact h58))]))⟩ rfl rfl⟩
       ·try simp only [decide_eq_false_iff_not] at h58
        try simp only [Int.toNat_natCast,qF] at h58
        refine qM ?_;exact ⟨(),trivial,qQ ⟨rfl,rfl,rfl,rfl,rfl,(is_eq (by rw [show l.getD ((i : Int) + 1).toNat Rd.str.dflt = r.getD i ByteArray.empty from hgi,ext1,trimP_no (.inl (fun e=>h58 (by rw [hgi,ext1',yD,show (List.drop 1 (r.getD i ByteArray.empty).data.toList).getD (Int.toNat 0) 0 = 46 from e];rfl)))]))⟩ rfl rfl⟩
      ·intro u hcut14;have hvb : (bytes (valueL (ls s0) ((r.take i).map ls))).size ≤ 300000000:=by rw [yL];exact hvl i hi
       have htb : (bytes (Lib.trimPrefix ((ls (r.getD i ByteArray.empty)).drop 1) [46])).size ≤ 100000000:=by rw [yL];have h1:=trimP_len ((ls (r.getD i ByteArray.empty)).drop 1) [46];have h3 : (ls (r.getD i ByteArray.empty)).length = (r.getD i ByteArray.empty).size:=(yA _).symm;rw [List.length_drop] at h1;omega
       have hk10 : ByteArray.size ⟨#[10]⟩ = 1:=rfl;refine qB ?_;refine zai (by (have hk0 : ByteArray.size { data:=#[10] } = 1:=rfl;first|(unfold maxLen;omega)|(simp only [ByteArray.size_append];omega)|(unfold maxLen;(try simp only [ByteArray.size_append]);omega))) ?_;refine zai (by (have hk0 : ByteArray.size { data:=#[10] } = 1:=rfl;first|(unfold maxLen;omega)|(simp only [ByteArray.size_append];omega)|(unfold maxLen;(try simp only [ByteArray.size_append]);omega))) ?_;refine qB ?_;refine zai (by first|omega|assumption|decide|(simp only [zds];omega)|(simp <;> omega)) ?_;exact ⟨i + 1,⟨by omega,by rw [← yI ByteArray.empty hlt];intro f hf;rcases List.mem_append.1 hf with h|h;exact hall f h;rw [List.mem_singleton.1 h];exact h49⟩,by first|omega|(simp <;> omega),qQ ⟨rfl,rfl,rfl,(is_eq (by rw [take_map_ls r i hlt,valueL_snoc,bytes_app,bytes_app,ByteArray.append_assoc];rfl)),(qR (by omega))⟩ rfl rfl⟩
    ·try simp only [decide_eq_false_iff_not,Int.not_lt] at h41
     try simp only [zds] at h41
     rw [List.take_of_length_le (by omega)] at hall ⊢;have hvr:=hvl r.length (Nat.le_refl _);refine qZ ?_;refine qC ?_;refine qC ?_;refine qB ?_;refine qK rfl (fun h67=>?_) (fun h67=>?_)
     ·try simp only [decide_eq_true_eq] at h67
      try simp only [zds] at h67
      refine qC ?_;refine qB ?_;refine qL ?_;rw [← hl0,refUnfA_eq (by rw [unf_good hk4 hall,if_pos (by rw [yL] at h67;omega)])];rfl
     ·try simp only [decide_eq_false_iff_not,Int.not_lt] at h67
      try simp only [zds] at h67
      refine qM ?_;refine qC ?_;refine qB ?_;refine qL ?_;rw [← hl0,refUnfA_eq (by rw [unf_good hk4 hall,if_neg (by rw [yL] at h67;omega),show Lib.cut (ls s0) [58] = c from hc])];rfl
end Q
end Ab
end Go.Proofs.YtpfkncffaanjcaaGreatDoor
namespace Go.Proofs.YtpfkncffaanjcaaGreatDoor
open Go.RowKit
namespace Ab
set_option maxRecDepth 100000
abbrev Itm:=Int × ByteArray × List Fld
abbrev rItm : Rd Itm:=.st (.int .i64) (.st .str (.sl rFld))
abbrev Lne:=Int × Int × ByteArray × Bool
abbrev rLne : Rd Lne:=.st (.int .i64) (.st (.int .i64) (.st .str .bool))
namespace Q
structure PSt where
  lns : List ByteArray
  frm : Int
  full : Bool
  its : List Itm
  blk : List ByteArray
  flds : List Fld
  recs : Int
def yP (p : PSt) : (Int × Int) ⊕ PSt :=
  if p.lns = [] then .inr p
  else if (yH (p.lns.map ls)).2 ≠ 0 then .inl (p.frm,(yH (p.lns.map ls)).2)
  else if p.full = true then .inl (p.frm,11)
  else .inr { p with flds:=p.flds ++ [(bytes (yH (p.lns.map ls)).1.1,bytes (yH (p.lns.map ls)).1.2)],lns:=[] }
def rawB (blk : List ByteArray) : ByteArray:=bytes (Lib.join (blk.map (·.data.toList)) [10]) ++ ⟨#[10]⟩
def xS (q : PSt) : PSt :=
  if q.blk = [] then { q with blk:=[],flds:=[] }
  else { q with its:=q.its ++ [((if q.flds = [] then 2 else 3 : Int),rawB q.blk,q.flds)],recs:=if q.flds = [] then q.recs else q.recs + 1,blk:=[],flds:=[] }
def endS (p : PSt) : (Int × Int) ⊕ PSt:=match yP p with
  | .inl e=>.inl e
  | .inr q=>.inr (xS q)
def xP (p : PSt) (l : Lne) : PSt:={ p with lns:=[l.2.2.1],frm:=l.1,full:=decide ((p.flds.length : Int) = 40) || (decide ((p.flds.length : Int) = 0) && decide (p.recs = 400)) }
def yR (p : PSt) (l : Lne) (kind : Int) : (Int × Int) ⊕ PSt :=
  if kind = 3 then
    if p.lns = [] then .inl (l.1,2)
    else if l.2.2.2 = true then .inr { p with lns:=p.lns ++ [l.2.2.1] }
    else yP { p with lns:=p.lns ++ [l.2.2.1] }
  else if kind = 1 then endS p
  else yP p
def lineS (q : PSt) (l : Lne) (kind : Int) : (Int × Int) ⊕ PSt :=
  if kind = 5 ∨ l.2.2.2 = false then .inl (l.1,2)
  else if kind = 1 then .inr { q with its:=q.its ++ [(1,l.2.2.1 ++ ⟨#[10]⟩,[])] }
  else if kind = 4 then .inr { xP q l with blk:=q.blk ++ [l.2.2.1] }
  else .inr { q with blk:=q.blk ++ [l.2.2.1] }
def yS (p : PSt) (l : Lne) : (Int × Int) ⊕ PSt:=match yR p l (yB (ls l.2.2.1)) with
  | .inl e=>.inl e
  | .inr q=>lineS q l (yB (ls l.2.2.1))
structure PB (p : PSt) (B : Nat) : Prop where
  lns : p.lns.length ≤ B
  lnb : (p.lns.map (·.size)).sum ≤ B
  its : p.its.length ≤ B
  blk : p.blk.length ≤ B
  blb : (p.blk.map (·.size)).sum ≤ B
  flds : p.flds.length ≤ B
  rec0 : 0 ≤ p.recs
  recB : p.recs ≤ B
theorem PB.mono {p : PSt} {B B' : Nat} (h : PB p B) (hB : B ≤ B') : PB p B' :=
  ⟨by have:=h.lns;omega,by have:=h.lnb;omega,by have:=h.its;omega,by have:=h.blk;omega,by have:=h.blb;omega,by have:=h.flds;omega,h.rec0,by have:=h.recB;omega⟩
theorem flushS_B {p q : PSt} {B : Nat} (h : PB p B) (hf : yP p = .inr q) : PB q (B + 1):=by
  unfold yP at hf;split at hf
  · cases hf;exact h.mono (by omega)
  · split at hf
    · cases hf
    · split at hf
      · cases hf
      · cases hf;have:=h.flds;exact ⟨by simp,by simp,by have:=h.its;simp only;omega,by have:=h.blk;simp only;omega,by have:=h.blb;simp only;omega,by simp;omega,h.rec0,by have:=h.recB;simp only;omega⟩
theorem closeS_B {p : PSt} {B : Nat} (h : PB p B) : PB (xS p) (B + 1):=by
  have h1:=h.lns;have h2:=h.lnb;have h3:=h.its;have h4:=h.rec0;have h5:=h.recB;unfold xS;split
  · exact ⟨by simp only;omega,by simp only;omega,by simp only;omega,by simp,by simp,by simp,h4,by simp only;omega⟩
  · refine ⟨by simp only;omega,by simp only;omega,by simp;omega,by simp,by simp,by simp,?_,?_⟩
    · simp only;split <;> omega
    · simp only;split <;> omega
theorem endS_B {p q : PSt} {B : Nat} (h : PB p B) (hf : endS p = .inr q) : PB q (B + 2):=by
  unfold endS at hf;split at hf
  · cases hf
  · rename_i r e;cases hf;exact closeS_B (flushS_B h e)
theorem more_B {p : PSt} {B : Nat} (s : ByteArray) (h : PB p B) : PB { p with lns:=p.lns ++ [s] } (B + 1 + s.size):=by
  have h1:=h.lns;have h2:=h.lnb;have h3:=h.its;have h5:=h.recB;have h6:=h.blk;have h7:=h.blb;have h8:=h.flds;exact ⟨by simp;omega,by simp;omega,by simp only;omega,by simp only;omega,by simp only;omega,by simp only;omega,h.rec0,by simp only;omega⟩
theorem aheadS_B {p q : PSt} {B : Nat} {l : Lne} {k : Int} (h : PB p B) (hf : yR p l k = .inr q) : PB q (B + 2 + l.2.2.1.size):=by
  unfold yR at hf;split at hf
  · split at hf
    · cases hf
    · split at hf
      · cases hf;exact (more_B _ h).mono (by omega)
      · exact (flushS_B (more_B _ h) hf).mono (by omega)
  · split at hf
    · exact (endS_B h hf).mono (by omega)
    · exact (flushS_B h hf).mono (by omega)
theorem lineS_B {p q : PSt} {B : Nat} {l : Lne} {k : Int} (h : PB p B) (hs : l.2.2.1.size ≤ B) (_hB : 1 ≤ B) (hf : lineS p l k = .inr q) : PB q (B + 1 + l.2.2.1.size):=by
  have h1:=h.lns;have h2:=h.lnb;have h3:=h.its;have h5:=h.recB;have h6:=h.blk;have h7:=h.blb;have h8:=h.flds;unfold lineS at hf;split at hf
  · cases hf
  · split at hf
    · cases hf;exact ⟨by simp only;omega,by simp only;omega,by simp;omega,by simp only;omega,by simp only;omega,by simp only;omega,h.rec0,by simp only;omega⟩
    · split at hf
      · cases hf;exact ⟨by simp [xP];omega,by simp [xP],by simp only [xP];omega,by simp;omega,by simp;omega,by simp only [xP];omega,h.rec0,by simp only [xP];omega⟩
      · cases hf;exact ⟨by simp only;omega,by simp only;omega,by simp only;omega,by simp;omega,by simp;omega,by simp only;omega,h.rec0,by simp only;omega⟩
theorem takeS_B {p q : PSt} {B : Nat} {l : Lne} (h : PB p B) (hf : yS p l = .inr q) : PB q (B + 3 + 2 * l.2.2.1.size):=by
  unfold yS at hf;split at hf
  · cases hf
  · rename_i r e;exact (lineS_B (aheadS_B h e) (by omega) (by omega) hf).mono (by omega)
def pst0 : PSt:=⟨[],0,false,[],[],[],0⟩
end Q
end Ab
end Go.Proofs.YtpfkncffaanjcaaGreatDoor
namespace Go.Proofs.YtpfkncffaanjcaaGreatDoor
open Go.RowKit
namespace Ab
set_option maxRecDepth 100000
namespace Q
theorem fault_c (at_ n : Int) : qU Tryz.prog 133 [ii .i64 at_,.one (errN n)] (.one (errF at_ n)):=by
  refine qW (rs:=[4]) Tryz.func133 rfl rfl rfl teOk rfl ?_;refine qC ?_;refine qB ?_;refine qC ?_;refine qB ?_;refine qL ?_;rfl
def psO (p : PSt) : Obs:=[(0,.box 161 [.vec 1,.lit (.int .i64 p.frm),.lit (.bool p.full),.vec 2,.vec 3,.vec 4,.lit (.int .i64 p.recs)]),(1,.vec 9 .str p.lns),(2,.vec 109 rItm p.its),(3,.vec 9 .str p.blk),(4,.vec 82 rFld p.flds)]
theorem flush_nil (p : PSt) (h : p.lns = []) : qX Tryz.prog 135 [.one (.own 0 0)] (psO p) 5 (.one (.lit .nilIface)) (psO p) 5:=by
  refine qT (rs:=[2]) Tryz.func135 rfl rfl rfl teOk (by decide) rfl ?_;refine qC ?_;refine qB ?_;refine qC ?_;refine qC ?_;refine qB ?_;intro l1_5
  try simp only [zds] at l1_5
  refine qK rfl (fun h11=>?_) (fun h11=>?_)
  ·try simp only [decide_eq_true_eq] at h11
   try simp only [zds] at h11
   refine qC ?_;refine qB ?_;refine qL ?_;exact ⟨rfl,⟨rfl,rfl,rfl,rfl,rfl⟩,rfl⟩
  ·try simp only [decide_eq_false_iff_not] at h11
   try simp only [zds] at h11
   exact absurd (by rw [h];rfl) h11
theorem flush_good (p : PSt) {k v : List UInt8} (h0 : p.lns ≠ []) (hu : yH (p.lns.map ls) = ((k,v),0)) (hf : p.full = false) (hb : PB p 1000000) : qX Tryz.prog 135 [.one (.own 0 0)] (psO p) 5 (.one (.lit .nilIface)) (psO { p with flds:=p.flds ++ [(bytes k,bytes v)],lns:=[] }) 5:=by
  have hfl:=hb.flds;refine qT (rs:=[2]) Tryz.func135 rfl rfl rfl teOk (by decide) rfl ?_;refine qC ?_;refine qB ?_;refine qC ?_;refine qC ?_;refine qB ?_;intro l1_5
  try simp only [zds] at l1_5
  refine qK rfl (fun h11=>?_) (fun h11=>?_)
  ·try simp only [decide_eq_true_eq] at h11
   try simp only [zds] at h11
   exact absurd (List.eq_nil_of_length_eq_zero (by omega)) h0
  ·try simp only [decide_eq_false_iff_not] at h11
   try simp only [zds] at h11
   refine qM ?_;refine qC ?_;refine acode_renew 1 rfl ?_;refine qB ?_;refine Or.inl ?_;refine zai (rfl) ?_;refine zei _ (zai (unfold_ok p.lns ⟨hb.lns,Nat.le_trans hb.lnb (by decide)⟩ hu) ?_);refine qC ?_;refine qO ?_;refine qC ?_;refine qB ?_;refine qK rfl (fun h21=>?_) (fun h21=>?_)
   ·try simp only [Bool.not_eq_true'] at h21
    try simp only [zds] at h21
    cases h21
   ·try simp only [Bool.not_eq_false'] at h21
    try simp only [zds] at h21
    refine qC ?_;refine qB ?_;refine qK rfl (fun h31=>?_) (fun h31=>?_)
    ·try simp only [zbq] at h31
     try simp only [zds] at h31
     exact absurd h31 (by rw [hf];decide)
    ·try simp only [zbq] at h31
     try simp only [zds] at h31
     refine qM ?_;refine qC ?_;refine yX rfl ?_;refine qJ 0 rfl rfl rfl (by kernel_rfl) ?_;refine qJ 1 rfl rfl rfl (by kernel_rfl) ?_;refine qJ 2 rfl rfl rfl (by kernel_rfl) ?_;refine qJ 3 rfl rfl rfl (by kernel_rfl) ?_;refine qJ 4 rfl rfl rfl (by kernel_rfl) ?_;refine qG [5,6] (by kernel_rfl) rfl ?_;refine zai ?_ ?_
     ·refine qG [6] (by kernel_rfl) rfl ?_;refine qG [7] (by kernel_rfl) rfl ?_;refine qG [8] (by kernel_rfl) rfl ?_;refine zai (by first|exact qP (by first|omega|(simp only [List.length_cons,List.length_nil];omega)|(simp;omega)) (by decide)|omega|assumption|decide|(simp only [zds];omega)|(simp <;> omega)) ?_;refine qJ 9 rfl rfl rfl (by kernel_rfl) ?_;refine qJ 10 rfl rfl rfl (by kernel_rfl) ?_;refine qG [11] (by kernel_rfl) rfl ?_;refine qJ 12 rfl rfl rfl (by kernel_rfl) ?_;refine qJ 13 rfl rfl rfl (by kernel_rfl) ?_;refine qJ 14 rfl rfl rfl (by kernel_rfl) ?_;refine qG [15] (by kernel_rfl) rfl ?_;refine qN (by kernel_rfl) ?_;refine qC ?_;refine yE 0 0 9 .str rfl rfl rfl ?_;refine acode_swap 1 7 rfl rfl ?_;refine qB ?_;refine qL ?_;exact ⟨rfl,⟨rfl,rfl,rfl,rfl,rfl⟩,rfl⟩
     ·refine qG [5,7] (by kernel_rfl) rfl ?_;refine zai ?_ ?_
      ·refine qG [7] (by kernel_rfl) rfl ?_;refine qG [8] (by kernel_rfl) rfl ?_;refine zai (by first|exact qP (by first|omega|(simp only [List.length_cons,List.length_nil];omega)|(simp;omega)) (by decide)|omega|assumption|decide|(simp only [zds];omega)|(simp <;> omega)) ?_;refine qJ 9 rfl rfl rfl (by kernel_rfl) ?_;refine qJ 10 rfl rfl rfl (by kernel_rfl) ?_;refine qG [11] (by kernel_rfl) rfl ?_;refine qJ 12 rfl rfl rfl (by kernel_rfl) ?_;refine qJ 13 rfl rfl rfl (by kernel_rfl) ?_;refine qJ 14 rfl rfl rfl (by kernel_rfl) ?_;refine qG [15] (by kernel_rfl) rfl ?_;refine qN (by kernel_rfl) ?_;refine qC ?_;refine yE 0 0 9 .str rfl rfl rfl ?_;refine acode_swap 1 7 rfl rfl ?_;refine qB ?_;refine qL ?_;exact ⟨rfl,⟨rfl,rfl,rfl,rfl,rfl⟩,rfl⟩
      ·refine qG [5] (by kernel_rfl) rfl ?_;refine qG [8] (by kernel_rfl) rfl ?_;refine zai (by first|exact qP (by first|omega|(simp only [List.length_cons,List.length_nil];omega)|(simp;omega)) (by decide)|omega|assumption|decide|(simp only [zds];omega)|(simp <;> omega)) ?_;refine qJ 9 rfl rfl rfl (by kernel_rfl) ?_;refine qJ 10 rfl rfl rfl (by kernel_rfl) ?_;refine qG [11] (by kernel_rfl) rfl ?_;refine qJ 12 rfl rfl rfl (by kernel_rfl) ?_;refine qJ 13 rfl rfl rfl (by kernel_rfl) ?_;refine qJ 14 rfl rfl rfl (by kernel_rfl) ?_;refine qG [15] (by kernel_rfl) rfl ?_;refine qN (by kernel_rfl) ?_;refine qC ?_;refine yE 0 0 9 .str rfl rfl rfl ?_;refine acode_swap 1 7 rfl rfl ?_;refine qB ?_;refine qL ?_;exact ⟨rfl,⟨rfl,rfl,rfl,rfl,rfl⟩,rfl⟩
theorem flush_bad (p : PSt) {n : Int} (h0 : p.lns ≠ []) (hu : yH (p.lns.map ls) = (([],[]),n)) (hn : n = 2 ∨ n = 6) (hb : PB p 1000000) : qX Tryz.prog 135 [.one (.own 0 0)] (psO p) 5 (.one (errF p.frm n)) [] 5:=by
  refine qT (rs:=[2]) Tryz.func135 rfl rfl rfl teOk (by decide) rfl ?_;refine qC ?_;refine qB ?_;refine qC ?_;refine qC ?_;refine qB ?_;intro l1_5
  try simp only [zds] at l1_5
  refine qK rfl (fun h11=>?_) (fun h11=>?_)
  ·try simp only [decide_eq_true_eq] at h11
   try simp only [zds] at h11
   exact absurd (List.eq_nil_of_length_eq_zero (by omega)) h0
  ·try simp only [decide_eq_false_iff_not] at h11
   try simp only [zds] at h11
   refine qM ?_;refine qC ?_;refine acode_renew 1 rfl ?_;refine qB ?_;refine Or.inl ?_;refine zai (rfl) ?_;refine zei _ (zai (unfold_bad p.lns ⟨hb.lns,Nat.le_trans hb.lnb (by decide)⟩ hu hn) ?_);refine qC ?_;refine qO ?_;refine qC ?_;refine qB ?_;refine qK rfl (fun h21=>?_) (fun h21=>?_)
   ·skip
    refine qC ?_;refine qB ?_;refine Or.inl ?_;refine zai (rfl) ?_;refine zei _ (zai (fault_c p.frm n) ?_);refine qL ?_;exact ⟨rfl,trivial,rfl⟩
   ·try simp only [zbq] at h21
    try simp only [zds] at h21
    cases h21
theorem flush_full (p : PSt) {k v : List UInt8} (h0 : p.lns ≠ []) (hu : yH (p.lns.map ls) = ((k,v),0)) (hf : p.full = true) (hb : PB p 1000000) : qX Tryz.prog 135 [.one (.own 0 0)] (psO p) 5 (.one (errF p.frm 11)) [] 5:=by
  refine qT (rs:=[2]) Tryz.func135 rfl rfl rfl teOk (by decide) rfl ?_;refine qC ?_;refine qB ?_;refine qC ?_;refine qC ?_;refine qB ?_;intro l1_5
  try simp only [zds] at l1_5
  refine qK rfl (fun h11=>?_) (fun h11=>?_)
  ·try simp only [decide_eq_true_eq] at h11
   try simp only [zds] at h11
   exact absurd (List.eq_nil_of_length_eq_zero (by omega)) h0
  ·try simp only [decide_eq_false_iff_not] at h11
   try simp only [zds] at h11
   refine qM ?_;refine qC ?_;refine acode_renew 1 rfl ?_;refine qB ?_;refine Or.inl ?_;refine zai (rfl) ?_;refine zei _ (zai (unfold_ok p.lns ⟨hb.lns,Nat.le_trans hb.lnb (by decide)⟩ hu) ?_);refine qC ?_;refine qO ?_;refine qC ?_;refine qB ?_;refine qK rfl (fun h21=>?_) (fun h21=>?_)
   ·try simp only [Bool.not_eq_true'] at h21
    try simp only [zds] at h21
    cases h21
   ·try simp only [Bool.not_eq_false'] at h21
    try simp only [zds] at h21
    refine qC ?_;refine qB ?_;refine qK rfl (fun h31=>?_) (fun h31=>?_)
    ·try simp only [zbq] at h31
     try simp only [zds] at h31
     refine qC ?_;refine qB ?_;refine Or.inl ?_;refine zai (rfl) ?_;refine zei _ (zai (fault_c p.frm 11) ?_);refine qL ?_;exact ⟨rfl,trivial,rfl⟩
    ·try simp only [zbq] at h31
     try simp only [zds] at h31
     exact absurd h31 (by rw [hf];decide)
theorem flush_ok {p q : PSt} (h : yP p = .inr q) (hb : PB p 1000000) : qX Tryz.prog 135 [.one (.own 0 0)] (psO p) 5 (.one (.lit .nilIface)) (psO q) 5:=by
  unfold yP at h;split at h
  · rename_i h0;cases h;exact flush_nil p h0
  · rename_i h0;rcases unf_cases (p.lns.map ls) with ⟨n,hn,hu⟩|⟨k,v,hu,_,_⟩
    · rw [hu,if_pos (by rcases hn with rfl|rfl <;> decide)] at h;cases h
    · rw [hu,if_neg (by simp)] at h;split at h
      · cases h
      · rename_i hf;cases h;exact flush_good p h0 hu (by simpa using hf) hb
theorem flush_err {p : PSt} {at_ n : Int} (h : yP p = .inl (at_,n)) (hb : PB p 1000000) : qX Tryz.prog 135 [.one (.own 0 0)] (psO p) 5 (.one (errF at_ n)) [] 5:=by
  unfold yP at h;split at h
  · cases h
  · rename_i h0;rcases unf_cases (p.lns.map ls) with ⟨m,hn,hu⟩|⟨k,v,hu,_,_⟩
    · rw [hu,if_pos (by rcases hn with rfl|rfl <;> decide)] at h;cases h;exact flush_bad p h0 hu hn hb
    · rw [hu,if_neg (by simp)] at h;split at h
      · rename_i hf;cases h;exact flush_full p h0 hu hf hb
      · cases h
end Q
end Ab
end Go.Proofs.YtpfkncffaanjcaaGreatDoor
namespace Go.Proofs.YtpfkncffaanjcaaGreatDoor
open Go.RowKit
namespace Ab
set_option maxRecDepth 100000
set_option maxHeartbeats 4000000
namespace Q
theorem join_sz (l : List ByteArray) : (Lib.join (l.map (·.data.toList)) [10]).length ≤ (l.map (·.size)).sum + l.length:=by
  refine Nat.le_trans (joinL_len 10 _) ?_;rw [List.map_map,List.length_map];refine Nat.add_le_add_right (Nat.le_of_eq ?_) _;exact congrArg _ (List.map_congr_left fun s _=>(yA s).symm)
theorem raw_sz {l : List ByteArray} (h1 : l.length ≤ 2000000) (h2 : (l.map (·.size)).sum ≤ 2000000) : ByteArray.size { data:=(Lib.join (l.map (fun x=>x.data.toList)) [10]).toArray } ≤ 4000000:=by
  have:=join_sz l;show Array.size _ ≤ _;rw [List.size_toArray];omega
theorem end_nil {p q : PSt} (h : yP p = .inr q) (hq : q.blk = []) (hb : PB p 1000000) : qX Tryz.prog 98 [.one (.own 0 0)] (psO p) 5 (.one (.lit .nilIface)) (psO { q with blk:=[],flds:=[] }) 5:=by
  refine qT (rs:=[2]) Tryz.func98 rfl rfl rfl teOk (by decide) rfl ?_;refine qC ?_;refine qB ?_;refine qC ?_;refine qC ?_;refine qB ?_;refine Or.inr (Or.inl (zei [] (zei [0,1,2,3,4] (zei _ (zei _ (zei _ (zei _ (zei _ (zai (flush_ok h hb) (zai rfl (zai (zai (zai rfl rfl) (zai (zai rfl rfl) (zai (zai rfl rfl) (zai (zai rfl rfl) (zai (zai rfl rfl) True.intro))))) (zai rfl ?_))))))))))));refine qC ?_;refine qB ?_;refine qK rfl (fun h8=>?_) (fun h8=>?_)
  ·try simp only [Bool.not_eq_true'] at h8
   try simp only [zds] at h8
   cases h8
  ·try simp only [Bool.not_eq_false'] at h8
   try simp only [zds] at h8
   refine qM ?_;refine qC ?_;refine qC ?_;refine acode_renew 3 rfl ?_;refine acode_renew 4 rfl ?_;refine qB ?_;intro l4_4
   try simp only [zds] at l4_4
   refine qK rfl (fun h15=>?_) (fun h15=>?_)
   ·try simp only [decide_eq_true_eq] at h15
    try simp only [zds] at h15
    exact absurd (by rw [hq];rfl : (q.blk.length : Int) = 0) (by omega)
   ·try simp only [decide_eq_false_iff_not,Int.not_lt] at h15
    try simp only [zds] at h15
    refine qM ?_;refine qC ?_;refine qB ?_;refine qC ?_;refine yE 0 4 9 .str rfl rfl rfl ?_;refine acode_swap 3 5 rfl rfl ?_;refine yE 0 5 82 rFld rfl rfl rfl ?_;refine acode_swap 4 6 rfl rfl ?_;refine qB ?_;refine qL ?_;exact ⟨rfl,⟨rfl,rfl,rfl,rfl,rfl⟩,rfl⟩
theorem end_blk {p q : PSt} (h : yP p = .inr q) (hq : q.blk ≠ []) (hb : PB p 1000000) (hb2 : PB q 2000000) : qX Tryz.prog 98 [.one (.own 0 0)] (psO p) 5 (.one (.lit .nilIface)) (psO { q with its:=q.its ++ [((if q.flds = [] then 2 else 3 : Int),rawB q.blk,q.flds)],recs:=(if q.flds = [] then q.recs else q.recs + 1),blk:=[],flds:=[] }) 5:=by
  have hi:=hb2.its;have hjs:=raw_sz hb2.blk hb2.blb;have hr0:=hb2.rec0;have hrB:=hb2.recB;refine qT (rs:=[2]) Tryz.func98 rfl rfl rfl teOk (by decide) rfl ?_;refine qC ?_;refine qB ?_;refine qC ?_;refine qC ?_;refine qB ?_;refine Or.inr (Or.inl (zei [] (zei [0,1,2,3,4] (zei _ (zei _ (zei _ (zei _ (zei _ (zai (flush_ok h hb) (zai rfl (zai (zai (zai rfl rfl) (zai (zai rfl rfl) (zai (zai rfl rfl) (zai (zai rfl rfl) (zai (zai rfl rfl) True.intro))))) (zai rfl ?_))))))))))));refine qC ?_;refine qB ?_;refine qK rfl (fun h8=>?_) (fun h8=>?_)
  ·try simp only [Bool.not_eq_true'] at h8
   try simp only [zds] at h8
   cases h8
  ·try simp only [Bool.not_eq_false'] at h8
   try simp only [zds] at h8
   refine qM ?_;refine acode_cut (fun (u : Unit)=>True) (fun (u : Unit)=>[(0,.one (.own 0 0))]) (fun (u : Unit)=>[(0,.box 161 [.vec 1,.lit (.int .i64 q.frm),.lit (.bool q.full),.vec 2,.sl .str q.blk,.sl rFld q.flds,.lit (.int .i64 (if q.flds = [] then q.recs else q.recs + 1))]),(1,.vec 9 .str q.lns),(2,.vec 109 rItm (q.its ++ [((if q.flds = [] then 2 else 3 : Int),rawB q.blk,q.flds)])),(3,.vec 9 .str []),(4,.vec 82 rFld [])]) 5 ?_ ?_
   ·refine qC ?_;refine acode_renew 3 rfl ?_;refine acode_renew 4 rfl ?_;refine qB ?_;intro l4_4
    try simp only [zds] at l4_4
    refine qK rfl (fun h15=>?_) (fun h15=>?_)
    ·try simp only [decide_eq_true_eq] at h15
     try simp only [zds] at h15
     refine qC ?_;refine qB ?_;refine acode_cut (fun (u : Int × Int)=>u = ((if q.flds = [] then 2 else 3 : Int),(if q.flds = [] then q.recs else q.recs + 1))) (fun (u : Int × Int)=>[(0,.one (.own 0 0)),(4,ii .i64 u.1)]) (fun (u : Int × Int)=>[(0,.box 161 [.vec 1,.lit (.int .i64 q.frm),.lit (.bool q.full),.vec 2,.sl .str q.blk,.sl rFld q.flds,.lit (.int .i64 u.2)]),(1,.vec 9 .str q.lns),(2,.vec 109 rItm q.its),(3,.vec 9 .str []),(4,.vec 82 rFld [])]) 5 ?_ ?_
     ·refine qC ?_;refine qB ?_;intro l6_4
      try simp only [zds] at l6_4
      refine qK rfl (fun h21=>?_) (fun h21=>?_)
      ·try simp only [decide_eq_true_eq] at h21
       try simp only [zds] at h21
       refine qC ?_;refine qB ?_;refine qB ?_;refine zai (by first|omega|assumption|decide|(simp only [zds];omega)|(simp <;> omega)) ?_;exact ⟨(3,q.recs + 1),by have hf : q.flds ≠ []:=(fun e=>by rw [e] at h21;simp at h21);simp only [if_neg hf],qQ ⟨rfl,rfl⟩ ⟨rfl,rfl,rfl,rfl,rfl⟩ rfl⟩
      ·try simp only [decide_eq_false_iff_not,Int.not_lt] at h21
       try simp only [zds] at h21
       refine qM ?_;exact ⟨(2,q.recs),by have hf : q.flds = []:=List.eq_nil_of_length_eq_zero (by omega);simp only [if_pos hf],qQ ⟨rfl,rfl⟩ ⟨rfl,rfl,rfl,rfl,rfl⟩ rfl⟩
     ·intro u hcut9;obtain ⟨k,rc⟩:=u;obtain ⟨rfl,rfl⟩:=Prod.mk.inj hcut9;refine yX rfl ?_;refine qJ 0 rfl rfl rfl (by kernel_rfl) ?_;refine qJ 1 rfl rfl rfl (by kernel_rfl) ?_;refine qJ 2 rfl rfl rfl (by kernel_rfl) ?_;refine qJ 3 rfl rfl rfl (by kernel_rfl) ?_;refine qJ 5 rfl rfl rfl (by kernel_rfl) ?_;refine qJ 6 rfl rfl rfl (by kernel_rfl) ?_;refine qJ 7 rfl rfl rfl (by kernel_rfl) ?_;refine qJ 8 rfl rfl rfl (by kernel_rfl) ?_;refine qJ 12 rfl rfl rfl (by kernel_rfl) ?_;refine qJ 13 rfl rfl rfl (by kernel_rfl) ?_;refine qJ 14 rfl rfl rfl (by kernel_rfl) ?_;refine qG [4,9,15] (by kernel_rfl) rfl ?_;refine zai ?_ ?_
      ·refine qG [9,15] (by kernel_rfl) rfl ?_;refine zai ?_ ?_
       ·refine qG [10,15] (by kernel_rfl) rfl ?_;refine zai ?_ ?_
        ·refine Or.inl ?_;refine zai (rfl) ?_;refine zei _ (zai (join_c q.blk ⟨#[10]⟩ (Nat.le_trans hb2.blk (by decide)) (Nat.le_trans (join_sz q.blk) (by have:=hb2.blk;have:=hb2.blb;omega))) ?_);refine qJ 11 rfl rfl rfl (by kernel_rfl) ?_;refine zai (by (have hk0 : ByteArray.size { data:=#[10] } = 1:=rfl;first|(unfold maxLen;omega)|(simp only [];omega)|(unfold maxLen;(try simp only []);omega))) ?_;refine qG [15] (by kernel_rfl) rfl ?_;refine qG [16] (by kernel_rfl) rfl ?_;refine qG [17] (by kernel_rfl) rfl ?_;refine qG [18] (by kernel_rfl) rfl ?_;refine zai (by first|exact qP (by first|omega|(simp only [List.length_cons,List.length_nil];omega)|(simp;omega)) (by decide)|omega|assumption|decide|(simp only [zds];omega)|(simp <;> omega)) ?_;refine qJ 19 rfl rfl rfl (by kernel_rfl) ?_;refine qJ 20 rfl rfl rfl (by kernel_rfl) ?_;refine qG [21] (by kernel_rfl) rfl ?_;refine qN (by kernel_rfl) ?_;exact ⟨(),trivial,qQ rfl ⟨rfl,rfl,rfl,rfl,rfl⟩ rfl⟩
        ·refine qG [10] (by kernel_rfl) rfl ?_;refine Or.inl ?_;refine zai (rfl) ?_;refine zei _ (zai (join_c q.blk ⟨#[10]⟩ (Nat.le_trans hb2.blk (by decide)) (Nat.le_trans (join_sz q.blk) (by have:=hb2.blk;have:=hb2.blb;omega))) ?_);refine qJ 11 rfl rfl rfl (by kernel_rfl) ?_;refine zai (by (have hk0 : ByteArray.size { data:=#[10] } = 1:=rfl;first|(unfold maxLen;omega)|(simp only [];omega)|(unfold maxLen;(try simp only []);omega))) ?_;refine qG [16] (by kernel_rfl) rfl ?_;refine qG [17] (by kernel_rfl) rfl ?_;refine qG [18] (by kernel_rfl) rfl ?_;refine zai (by first|exact qP (by first|omega|(simp only [List.length_cons,List.length_nil];omega)|(simp;omega)) (by decide)|omega|assumption|decide|(simp only [zds];omega)|(simp <;> omega)) ?_;refine qJ 19 rfl rfl rfl (by kernel_rfl) ?_;refine qJ 20 rfl rfl rfl (by kernel_rfl) ?_;refine qG [21] (by kernel_rfl) rfl ?_;refine qN (by kernel_rfl) ?_;exact ⟨(),trivial,qQ rfl ⟨rfl,rfl,rfl,rfl,rfl⟩ rfl⟩
       ·refine qG [9] (by kernel_rfl) rfl ?_;refine qG [10] (by kernel_rfl) rfl ?_;refine Or.inl ?_;refine zai (rfl) ?_;refine zei _ (zai (join_c q.blk ⟨#[10]⟩ (Nat.le_trans hb2.blk (by decide)) (Nat.le_trans (join_sz q.blk) (by have:=hb2.blk;have:=hb2.blb;omega))) ?_);refine qJ 11 rfl rfl rfl (by kernel_rfl) ?_;refine zai (by (have hk0 : ByteArray.size { data:=#[10] } = 1:=rfl;first|(unfold maxLen;omega)|(simp only [];omega)|(unfold maxLen;(try simp only []);omega))) ?_;refine qG [16] (by kernel_rfl) rfl ?_;refine qG [17] (by kernel_rfl) rfl ?_;refine qG [18] (by kernel_rfl) rfl ?_;refine zai (by first|exact qP (by first|omega|(simp only [List.length_cons,List.length_nil];omega)|(simp;omega)) (by decide)|omega|assumption|decide|(simp only [zds];omega)|(simp <;> omega)) ?_;refine qJ 19 rfl rfl rfl (by kernel_rfl) ?_;refine qJ 20 rfl rfl rfl (by kernel_rfl) ?_;refine qG [21] (by kernel_rfl) rfl ?_;refine qN (by kernel_rfl) ?_;exact ⟨(),trivial,qQ rfl ⟨rfl,rfl,rfl,rfl,rfl⟩ rfl⟩
      refine zai ?_ ?_
      ·refine qG [4,10,15] (by kernel_rfl) rfl ?_;refine zai ?_ ?_
       ·refine qG [10,15] (by kernel_rfl) rfl ?_;refine zai ?_ ?_
        ·refine Or.inl ?_;refine zai (rfl) ?_;refine zei _ (zai (join_c q.blk ⟨#[10]⟩ (Nat.le_trans hb2.blk (by decide)) (Nat.le_trans (join_sz q.blk) (by have:=hb2.blk;have:=hb2.blb;omega))) ?_);refine qJ 11 rfl rfl rfl (by kernel_rfl) ?_;refine zai (by (have hk0 : ByteArray.size { data:=#[10] } = 1:=rfl;first|(unfold maxLen;omega)|(simp only [];omega)|(unfold maxLen;(try simp only []);omega))) ?_;refine qG [15] (by kernel_rfl) rfl ?_;refine qG [16] (by kernel_rfl) rfl ?_;refine qG [17] (by kernel_rfl) rfl ?_;refine qG [18] (by kernel_rfl) rfl ?_;refine zai (by first|exact qP (by first|omega|(simp only [List.length_cons,List.length_nil];omega)|(simp;omega)) (by decide)|omega|assumption|decide|(simp only [zds];omega)|(simp <;> omega)) ?_;refine qJ 19 rfl rfl rfl (by kernel_rfl) ?_;refine qJ 20 rfl rfl rfl (by kernel_rfl) ?_;refine qG [21] (by kernel_rfl) rfl ?_;refine qN (by kernel_rfl) ?_;exact ⟨(),trivial,qQ rfl ⟨rfl,rfl,rfl,rfl,rfl⟩ rfl⟩
        ·refine qG [10] (by kernel_rfl) rfl ?_;refine Or.inl ?_;refine zai (rfl) ?_;refine zei _ (zai (join_c q.blk ⟨#[10]⟩ (Nat.le_trans hb2.blk (by decide)) (Nat.le_trans (join_sz q.blk) (by have:=hb2.blk;have:=hb2.blb;omega))) ?_);refine qJ 11 rfl rfl rfl (by kernel_rfl) ?_;refine zai (by (have hk0 : ByteArray.size { data:=#[10] } = 1:=rfl;first|(unfold maxLen;omega)|(simp only [];omega)|(unfold maxLen;(try simp only []);omega))) ?_;refine qG [16] (by kernel_rfl) rfl ?_;refine qG [17] (by kernel_rfl) rfl ?_;refine qG [18] (by kernel_rfl) rfl ?_;refine zai (by first|exact qP (by first|omega|(simp only [List.length_cons,List.length_nil];omega)|(simp;omega)) (by decide)|omega|assumption|decide|(simp only [zds];omega)|(simp <;> omega)) ?_;refine qJ 19 rfl rfl rfl (by kernel_rfl) ?_;refine qJ 20 rfl rfl rfl (by kernel_rfl) ?_;refine qG [21] (by kernel_rfl) rfl ?_;refine qN (by kernel_rfl) ?_;exact ⟨(),trivial,qQ rfl ⟨rfl,rfl,rfl,rfl,rfl⟩ rfl⟩
       refine zai ?_ ?_
       ·refine Or.inl ?_;refine zai (rfl) ?_;refine zei _ (zai (join_c q.blk ⟨#[10]⟩ (Nat.le_trans hb2.blk (by decide)) (Nat.le_trans (join_sz q.blk) (by have:=hb2.blk;have:=hb2.blb;omega))) ?_);refine qJ 11 rfl rfl rfl (by kernel_rfl) ?_;refine zai (by (have hk0 : ByteArray.size { data:=#[10] } = 1:=rfl;first|(unfold maxLen;omega)|(simp only [];omega)|(unfold maxLen;(try simp only []);omega))) ?_;refine qG [4,15] (by kernel_rfl) rfl ?_;refine zai ?_ ?_
        ·refine qG [15] (by kernel_rfl) rfl ?_;refine qG [16] (by kernel_rfl) rfl ?_;refine qG [17] (by kernel_rfl) rfl ?_;refine qG [18] (by kernel_rfl) rfl ?_;refine zai (by first|exact qP (by first|omega|(simp only [List.length_cons,List.length_nil];omega)|(simp;omega)) (by decide)|omega|assumption|decide|(simp only [zds];omega)|(simp <;> omega)) ?_;refine qJ 19 rfl rfl rfl (by kernel_rfl) ?_;refine qJ 20 rfl rfl rfl (by kernel_rfl) ?_;refine qG [21] (by kernel_rfl) rfl ?_;refine qN (by kernel_rfl) ?_;exact ⟨(),trivial,qQ rfl ⟨rfl,rfl,rfl,rfl,rfl⟩ rfl⟩
        ·refine qG [4,16] (by kernel_rfl) rfl ?_;refine zai ?_ ?_
         ·refine qG [16] (by kernel_rfl) rfl ?_;refine qG [17] (by kernel_rfl) rfl ?_;refine qG [18] (by kernel_rfl) rfl ?_;refine zai (by first|exact qP (by first|omega|(simp only [List.length_cons,List.length_nil];omega)|(simp;omega)) (by decide)|omega|assumption|decide|(simp only [zds];omega)|(simp <;> omega)) ?_;refine qJ 19 rfl rfl rfl (by kernel_rfl) ?_;refine qJ 20 rfl rfl rfl (by kernel_rfl) ?_;refine qG [21] (by kernel_rfl) rfl ?_;refine qN (by kernel_rfl) ?_;exact ⟨(),trivial,qQ rfl ⟨rfl,rfl,rfl,rfl,rfl⟩ rfl⟩
         ·refine qG [4,17] (by kernel_rfl) rfl ?_;refine zai ?_ ?_
          ·refine qG [17] (by kernel_rfl) rfl ?_;refine qG [18] (by kernel_rfl) rfl ?_;refine zai (by first|exact qP (by first|omega|(simp only [List.length_cons,List.length_nil];omega)|(simp;omega)) (by decide)|omega|assumption|decide|(simp only [zds];omega)|(simp <;> omega)) ?_;refine qJ 19 rfl rfl rfl (by kernel_rfl) ?_;refine qJ 20 rfl rfl rfl (by kernel_rfl) ?_;refine qG [21] (by kernel_rfl) rfl ?_;refine qN (by kernel_rfl) ?_;exact ⟨(),trivial,qQ rfl ⟨rfl,rfl,rfl,rfl,rfl⟩ rfl⟩
          ·refine qG [4] (by kernel_rfl) rfl ?_;refine qG [18] (by kernel_rfl) rfl ?_;refine zai (by first|exact qP (by first|omega|(simp only [List.length_cons,List.length_nil];omega)|(simp;omega)) (by decide)|omega|assumption|decide|(simp only [zds];omega)|(simp <;> omega)) ?_;refine qJ 19 rfl rfl rfl (by kernel_rfl) ?_;refine qJ 20 rfl rfl rfl (by kernel_rfl) ?_;refine qG [21] (by kernel_rfl) rfl ?_;refine qN (by kernel_rfl) ?_;exact ⟨(),trivial,qQ rfl ⟨rfl,rfl,rfl,rfl,rfl⟩ rfl⟩
       ·refine qG [4,10] (by kernel_rfl) rfl ?_;refine zai ?_ ?_
        ·refine qG [10] (by kernel_rfl) rfl ?_;refine Or.inl ?_;refine zai (rfl) ?_;refine zei _ (zai (join_c q.blk ⟨#[10]⟩ (Nat.le_trans hb2.blk (by decide)) (Nat.le_trans (join_sz q.blk) (by have:=hb2.blk;have:=hb2.blb;omega))) ?_);refine qJ 11 rfl rfl rfl (by kernel_rfl) ?_;refine zai (by (have hk0 : ByteArray.size { data:=#[10] } = 1:=rfl;first|(unfold maxLen;omega)|(simp only [];omega)|(unfold maxLen;(try simp only []);omega))) ?_;refine qG [16] (by kernel_rfl) rfl ?_;refine qG [17] (by kernel_rfl) rfl ?_;refine qG [18] (by kernel_rfl) rfl ?_;refine zai (by first|exact qP (by first|omega|(simp only [List.length_cons,List.length_nil];omega)|(simp;omega)) (by decide)|omega|assumption|decide|(simp only [zds];omega)|(simp <;> omega)) ?_;refine qJ 19 rfl rfl rfl (by kernel_rfl) ?_;refine qJ 20 rfl rfl rfl (by kernel_rfl) ?_;refine qG [21] (by kernel_rfl) rfl ?_;refine qN (by kernel_rfl) ?_;exact ⟨(),trivial,qQ rfl ⟨rfl,rfl,rfl,rfl,rfl⟩ rfl⟩
        ·refine Or.inl ?_;refine zai (rfl) ?_;refine zei _ (zai (join_c q.blk ⟨#[10]⟩ (Nat.le_trans hb2.blk (by decide)) (Nat.le_trans (join_sz q.blk) (by have:=hb2.blk;have:=hb2.blb;omega))) ?_);refine qJ 11 rfl rfl rfl (by kernel_rfl) ?_;refine zai (by (have hk0 : ByteArray.size { data:=#[10] } = 1:=rfl;first|(unfold maxLen;omega)|(simp only [];omega)|(unfold maxLen;(try simp only []);omega))) ?_;refine qG [4,16] (by kernel_rfl) rfl ?_;refine zai ?_ ?_
         ·refine qG [16] (by kernel_rfl) rfl ?_;refine qG [17] (by kernel_rfl) rfl ?_;refine qG [18] (by kernel_rfl) rfl ?_;refine zai (by first|exact qP (by first|omega|(simp only [List.length_cons,List.length_nil];omega)|(simp;omega)) (by decide)|omega|assumption|decide|(simp only [zds];omega)|(simp <;> omega)) ?_;refine qJ 19 rfl rfl rfl (by kernel_rfl) ?_;refine qJ 20 rfl rfl rfl (by kernel_rfl) ?_;refine qG [21] (by kernel_rfl) rfl ?_;refine qN (by kernel_rfl) ?_;exact ⟨(),trivial,qQ rfl ⟨rfl,rfl,rfl,rfl,rfl⟩ rfl⟩
         ·refine qG [4,17] (by kernel_rfl) rfl ?_;refine zai ?_ ?_
          ·refine qG [17] (by kernel_rfl) rfl ?_;refine qG [18] (by kernel_rfl) rfl ?_;refine zai (by first|exact qP (by first|omega|(simp only [List.length_cons,List.length_nil];omega)|(simp;omega)) (by decide)|omega|assumption|decide|(simp only [zds];omega)|(simp <;> omega)) ?_;refine qJ 19 rfl rfl rfl (by kernel_rfl) ?_;refine qJ 20 rfl rfl rfl (by kernel_rfl) ?_;refine qG [21] (by kernel_rfl) rfl ?_;refine qN (by kernel_rfl) ?_;exact ⟨(),trivial,qQ rfl ⟨rfl,rfl,rfl,rfl,rfl⟩ rfl⟩
          ·refine qG [4] (by kernel_rfl) rfl ?_;refine qG [18] (by kernel_rfl) rfl ?_;refine zai (by first|exact qP (by first|omega|(simp only [List.length_cons,List.length_nil];omega)|(simp;omega)) (by decide)|omega|assumption|decide|(simp only [zds];omega)|(simp <;> omega)) ?_;refine qJ 19 rfl rfl rfl (by kernel_rfl) ?_;refine qJ 20 rfl rfl rfl (by kernel_rfl) ?_;refine qG [21] (by kernel_rfl) rfl ?_;refine qN (by kernel_rfl) ?_;exact ⟨(),trivial,qQ rfl ⟨rfl,rfl,rfl,rfl,rfl⟩ rfl⟩
      ·refine qG [4,9] (by kernel_rfl) rfl ?_;refine zai ?_ ?_
       ·refine qG [9] (by kernel_rfl) rfl ?_;refine qG [10] (by kernel_rfl) rfl ?_;refine Or.inl ?_;refine zai (rfl) ?_;refine zei _ (zai (join_c q.blk ⟨#[10]⟩ (Nat.le_trans hb2.blk (by decide)) (Nat.le_trans (join_sz q.blk) (by have:=hb2.blk;have:=hb2.blb;omega))) ?_);refine qJ 11 rfl rfl rfl (by kernel_rfl) ?_;refine zai (by (have hk0 : ByteArray.size { data:=#[10] } = 1:=rfl;first|(unfold maxLen;omega)|(simp only [];omega)|(unfold maxLen;(try simp only []);omega))) ?_;refine qG [16] (by kernel_rfl) rfl ?_;refine qG [17] (by kernel_rfl) rfl ?_;refine qG [18] (by kernel_rfl) rfl ?_;refine zai (by first|exact qP (by first|omega|(simp only [List.length_cons,List.length_nil];omega)|(simp;omega)) (by decide)|omega|assumption|decide|(simp only [zds];omega)|(simp <;> omega)) ?_;refine qJ 19 rfl rfl rfl (by kernel_rfl) ?_;refine qJ 20 rfl rfl rfl (by kernel_rfl) ?_;refine qG [21] (by kernel_rfl) rfl ?_;refine qN (by kernel_rfl) ?_;exact ⟨(),trivial,qQ rfl ⟨rfl,rfl,rfl,rfl,rfl⟩ rfl⟩
       ·refine qG [4,10] (by kernel_rfl) rfl ?_;refine zai ?_ ?_
        ·refine qG [10] (by kernel_rfl) rfl ?_;refine Or.inl ?_;refine zai (rfl) ?_;refine zei _ (zai (join_c q.blk ⟨#[10]⟩ (Nat.le_trans hb2.blk (by decide)) (Nat.le_trans (join_sz q.blk) (by have:=hb2.blk;have:=hb2.blb;omega))) ?_);refine qJ 11 rfl rfl rfl (by kernel_rfl) ?_;refine zai (by (have hk0 : ByteArray.size { data:=#[10] } = 1:=rfl;first|(unfold maxLen;omega)|(simp only [];omega)|(unfold maxLen;(try simp only []);omega))) ?_;refine qG [16] (by kernel_rfl) rfl ?_;refine qG [17] (by kernel_rfl) rfl ?_;refine qG [18] (by kernel_rfl) rfl ?_;refine zai (by first|exact qP (by first|omega|(simp only [List.length_cons,List.length_nil];omega)|(simp;omega)) (by decide)|omega|assumption|decide|(simp only [zds];omega)|(simp <;> omega)) ?_;refine qJ 19 rfl rfl rfl (by kernel_rfl) ?_;refine qJ 20 rfl rfl rfl (by kernel_rfl) ?_;refine qG [21] (by kernel_rfl) rfl ?_;refine qN (by kernel_rfl) ?_;exact ⟨(),trivial,qQ rfl ⟨rfl,rfl,rfl,rfl,rfl⟩ rfl⟩
        ·refine Or.inl ?_;refine zai (rfl) ?_;refine zei _ (zai (join_c q.blk ⟨#[10]⟩ (Nat.le_trans hb2.blk (by decide)) (Nat.le_trans (join_sz q.blk) (by have:=hb2.blk;have:=hb2.blb;omega))) ?_);refine qJ 11 rfl rfl rfl (by kernel_rfl) ?_;refine zai (by (have hk0 : ByteArray.size { data:=#[10] } = 1:=rfl;first|(unfold maxLen;omega)|(simp only [];omega)|(unfold maxLen;(try simp only []);omega))) ?_;refine qG [4,16] (by kernel_rfl) rfl ?_;refine zai ?_ ?_
         ·refine qG [16] (by kernel_rfl) rfl ?_;refine qG [17] (by kernel_rfl) rfl ?_;refine qG [18] (by kernel_rfl) rfl ?_;refine zai (by first|exact qP (by first|omega|(simp only [List.length_cons,List.length_nil];omega)|(simp;omega)) (by decide)|omega|assumption|decide|(simp only [zds];omega)|(simp <;> omega)) ?_;refine qJ 19 rfl rfl rfl (by kernel_rfl) ?_;refine qJ 20 rfl rfl rfl (by kernel_rfl) ?_;refine qG [21] (by kernel_rfl) rfl ?_;refine qN (by kernel_rfl) ?_;exact ⟨(),trivial,qQ rfl ⟨rfl,rfl,rfl,rfl,rfl⟩ rfl⟩
         ·refine qG [4,17] (by kernel_rfl) rfl ?_;refine zai ?_ ?_
          ·refine qG [17] (by kernel_rfl) rfl ?_;refine qG [18] (by kernel_rfl) rfl ?_;refine zai (by first|exact qP (by first|omega|(simp only [List.length_cons,List.length_nil];omega)|(simp;omega)) (by decide)|omega|assumption|decide|(simp only [zds];omega)|(simp <;> omega)) ?_;refine qJ 19 rfl rfl rfl (by kernel_rfl) ?_;refine qJ 20 rfl rfl rfl (by kernel_rfl) ?_;refine qG [21] (by kernel_rfl) rfl ?_;refine qN (by kernel_rfl) ?_;exact ⟨(),trivial,qQ rfl ⟨rfl,rfl,rfl,rfl,rfl⟩ rfl⟩
          ·refine qG [4] (by kernel_rfl) rfl ?_;refine qG [18] (by kernel_rfl) rfl ?_;refine zai (by first|exact qP (by first|omega|(simp only [List.length_cons,List.length_nil];omega)|(simp;omega)) (by decide)|omega|assumption|decide|(simp only [zds];omega)|(simp <;> omega)) ?_;refine qJ 19 rfl rfl rfl (by kernel_rfl) ?_;refine qJ 20 rfl rfl rfl (by kernel_rfl) ?_;refine qG [21] (by kernel_rfl) rfl ?_;refine qN (by kernel_rfl) ?_;exact ⟨(),trivial,qQ rfl ⟨rfl,rfl,rfl,rfl,rfl⟩ rfl⟩
    ·try simp only [decide_eq_false_iff_not,Int.not_lt] at h15
     try simp only [zds] at h15
     exact absurd (List.eq_nil_of_length_eq_zero (by omega)) hq
   ·intro u hcut10;refine qC ?_;refine qB ?_;refine qC ?_;refine yE 0 4 9 .str rfl rfl rfl ?_;refine acode_swap 3 5 rfl rfl ?_;refine yE 0 5 82 rFld rfl rfl rfl ?_;refine acode_swap 4 6 rfl rfl ?_;refine qB ?_;refine qL ?_;exact ⟨rfl,⟨rfl,rfl,rfl,rfl,rfl⟩,rfl⟩
theorem end_ok {p q : PSt} (h : endS p = .inr q) (hb : PB p 1000000) : qX Tryz.prog 98 [.one (.own 0 0)] (psO p) 5 (.one (.lit .nilIface)) (psO q) 5:=by
  unfold endS at h;split at h
  · cases h
  · rename_i r e;cases h;have hb2 : PB r 2000000:=(flushS_B hb e).mono (by decide);unfold xS;split
    · rename_i h0;exact end_nil e h0 hb
    · rename_i h0;exact end_blk e h0 hb hb2
theorem end_err {p : PSt} {at_ n : Int} (h : endS p = .inl (at_,n)) (hb : PB p 1000000) : qX Tryz.prog 98 [.one (.own 0 0)] (psO p) 5 (.one (errF at_ n)) [] 5:=by
  have h : yP p = .inl (at_,n):=by
    unfold endS at h;split at h
    · rename_i e;cases h;exact e
    · cases h
  refine qT (rs:=[2]) Tryz.func98 rfl rfl rfl teOk (by decide) rfl ?_;refine qC ?_;refine qB ?_;refine qC ?_;refine qC ?_;refine qB ?_;refine Or.inr (Or.inl (zei [] (zei [0,1,2,3,4] (zei _ (zei _ (zei _ (zei _ (zei _ (zai (flush_err h hb) (zai rfl (zai (zai (zai rfl rfl) (zai (zai rfl rfl) (zai (zai rfl rfl) (zai (zai rfl rfl) (zai (zai rfl rfl) True.intro))))) (zai rfl ?_))))))))))));refine qC ?_;refine qB ?_;refine qK rfl (fun h8=>?_) (fun h8=>?_)
  ·skip
   refine qC ?_;refine qB ?_;refine qL ?_;exact ⟨rfl,trivial,rfl⟩
  ·try simp only [zbq] at h8
   try simp only [zds] at h8
   cases h8
end Q
end Ab
end Go.Proofs.YtpfkncffaanjcaaGreatDoor
namespace Go.Proofs.YtpfkncffaanjcaaGreatDoor
open Go.RowKit
namespace Ab
set_option maxRecDepth 100000
namespace Q
theorem begin_c (p : PSt) (l : Lne) (_hb : PB p 1000000) : qX Tryz.prog 134 [.one (.own 0 0),.agg (toL rLne l)] (psO p) 5 (.tup []) (psO (xP p l)) 5:=by
  refine qT (rs:=[]) Tryz.func134 rfl rfl rfl teOk (by decide) rfl ?_;refine qC ?_;refine qB ?_;refine qC ?_;refine qB ?_;intro l1_4
  try simp only [zds] at l1_4
  refine zai (fun h=>trivial) ?_;refine zai (fun h=>⟨⟨h,trivial⟩,trivial⟩) ?_;refine zai (fun h=>⟨⟨h,trivial⟩,trivial⟩) ?_;refine zai (fun h=>⟨⟨h,trivial⟩,trivial⟩) ?_;refine zai (fun h=>⟨⟨h,trivial⟩,trivial⟩) ?_;refine zai (fun h=>⟨⟨h,trivial⟩,trivial⟩) ?_;refine zai (fun h=>⟨⟨h,trivial⟩,trivial⟩) ?_;refine zai (fun h=>trivial) ?_;refine zai (fun h=>⟨⟨h,trivial⟩,trivial⟩) ?_;refine zai (fun h=>⟨⟨h,trivial⟩,trivial⟩) ?_;refine zai (fun h=>⟨⟨h,trivial⟩,trivial⟩) ?_;refine zai (fun h=>⟨⟨h,trivial⟩,trivial⟩) ?_;refine zai (fun h=>⟨⟨⟨h,trivial⟩,trivial⟩,by first|exact fun h2=>h2|(intro h2;rw [h,h2];rfl)|(intro h2;cases h2)|(intro h2;simp_all [gq])⟩) ?_;refine zai (by first|(intro h;rw [h];rfl)|(intro h;cases h)) ?_;refine acode_mend 1 6 ?_;refine qB ?_;exact ⟨rfl,rfl,rfl,⟨rfl,rfl,rfl,rfl,rfl⟩,rfl⟩
theorem ahead_none {p : PSt} (l : Lne) (h : p.lns = []) : qX Tryz.prog 132 [.one (.own 0 0),.agg (toL rLne l),ii .i64 3] (psO p) 5 (.one (errF l.1 2)) [] 5:=by
  refine qT (rs:=[6]) Tryz.func132 rfl rfl rfl teOk (by decide) rfl ?_;refine qC ?_;refine qB ?_;refine qC ?_;refine qC ?_;refine qB ?_;refine qO ?_;refine qC ?_;refine qB ?_;refine qK rfl (fun h8=>?_) (fun h8=>?_)
  ·try simp only [decide_eq_true_eq] at h8
   try simp only [zds] at h8
   refine qC ?_;refine qC ?_;refine qB ?_;intro l3_5
   try simp only [zds] at l3_5
   refine qK rfl (fun h16=>?_) (fun h16=>?_)
   ·try simp only [decide_eq_true_eq] at h16
    try simp only [zds] at h16
    refine qC ?_;refine qB ?_;refine Or.inl ?_;refine zai (rfl) ?_;refine zei _ (zai (fault_c l.1 2) ?_);refine qL ?_;exact ⟨rfl,trivial,rfl⟩
   ·try simp only [decide_eq_false_iff_not] at h16
    try simp only [zds] at h16
    exact absurd (by rw [h];rfl) h16
  ·try simp only [decide_eq_false_iff_not] at h8
   try simp only [zds] at h8
   exact absurd trivial h8
theorem ahead_more {p : PSt} {l : Lne} (h : p.lns ≠ []) (he : l.2.2.2 = true) (hb : PB p 1000000) : qX Tryz.prog 132 [.one (.own 0 0),.agg (toL rLne l),ii .i64 3] (psO p) 5 (.one (.lit .nilIface)) (psO { p with lns:=p.lns ++ [l.2.2.1] }) 5:=by
  have hl:=hb.lns;refine qT (rs:=[6]) Tryz.func132 rfl rfl rfl teOk (by decide) rfl ?_;refine qC ?_;refine qB ?_;refine qC ?_;refine qC ?_;refine qB ?_;refine qO ?_;refine qC ?_;refine qB ?_;refine qK rfl (fun h8=>?_) (fun h8=>?_)
  ·try simp only [decide_eq_true_eq] at h8
   try simp only [zds] at h8
   refine qC ?_;refine qC ?_;refine qB ?_;intro l3_5
   try simp only [zds] at l3_5
   refine qK rfl (fun h16=>?_) (fun h16=>?_)
   ·try simp only [decide_eq_true_eq] at h16
    try simp only [zds] at h16
    exact absurd (List.eq_nil_of_length_eq_zero (by omega)) h
   ·try simp only [decide_eq_false_iff_not] at h16
    try simp only [zds] at h16
    refine qM ?_;refine qC ?_;refine yX rfl ?_;refine qJ 0 rfl rfl rfl (by kernel_rfl) ?_;refine qJ 1 rfl rfl rfl (by kernel_rfl) ?_;refine qJ 2 rfl rfl rfl (by kernel_rfl) ?_;refine qJ 3 rfl rfl rfl (by kernel_rfl) ?_;refine qJ 4 rfl rfl rfl (by kernel_rfl) ?_;refine qJ 6 rfl rfl rfl (by kernel_rfl) ?_;refine qG [5,7] (by kernel_rfl) rfl ?_;refine zai ?_ ?_
    ·refine qG [7] (by kernel_rfl) rfl ?_;refine qG [8] (by kernel_rfl) rfl ?_;refine qG [9] (by kernel_rfl) rfl ?_;refine zai (by first|exact qP (by first|omega|(simp only [List.length_cons,List.length_nil];omega)|(simp;omega)) (by decide)|omega|assumption|decide|(simp only [zds];omega)|(simp <;> omega)) ?_;refine qJ 10 rfl rfl rfl (by kernel_rfl) ?_;refine qJ 11 rfl rfl rfl (by kernel_rfl) ?_;refine qJ 12 rfl rfl rfl (by kernel_rfl) ?_;refine qG [13] (by kernel_rfl) rfl ?_;refine qN (by kernel_rfl) ?_;refine qC ?_;refine qC ?_;refine qB ?_;refine qK rfl (fun h35=>?_) (fun h35=>?_)
     ·try simp only [zbq] at h35
      try simp only [zds] at h35
      refine qC ?_;refine qB ?_;refine qL ?_;exact ⟨rfl,⟨rfl,rfl,rfl,rfl,rfl⟩,rfl⟩
     ·try simp only [zbq] at h35
      try simp only [zds] at h35
      exact absurd h35 (by rw [he];decide)
    ·refine qG [5,8] (by kernel_rfl) rfl ?_;refine zai ?_ ?_
     ·refine qG [8] (by kernel_rfl) rfl ?_;refine qG [9] (by kernel_rfl) rfl ?_;refine zai (by first|exact qP (by first|omega|(simp only [List.length_cons,List.length_nil];omega)|(simp;omega)) (by decide)|omega|assumption|decide|(simp only [zds];omega)|(simp <;> omega)) ?_;refine qJ 10 rfl rfl rfl (by kernel_rfl) ?_;refine qJ 11 rfl rfl rfl (by kernel_rfl) ?_;refine qJ 12 rfl rfl rfl (by kernel_rfl) ?_;refine qG [13] (by kernel_rfl) rfl ?_;refine qN (by kernel_rfl) ?_;refine qC ?_;refine qC ?_;refine qB ?_;refine qK rfl (fun h35=>?_) (fun h35=>?_)
      ·try simp only [zbq] at h35
       try simp only [zds] at h35
       refine qC ?_;refine qB ?_;refine qL ?_;exact ⟨rfl,⟨rfl,rfl,rfl,rfl,rfl⟩,rfl⟩
      ·try simp only [zbq] at h35
       try simp only [zds] at h35
       exact absurd h35 (by rw [he];decide)
     ·refine qG [5] (by kernel_rfl) rfl ?_;refine qG [9] (by kernel_rfl) rfl ?_;refine zai (by first|exact qP (by first|omega|(simp only [List.length_cons,List.length_nil];omega)|(simp;omega)) (by decide)|omega|assumption|decide|(simp only [zds];omega)|(simp <;> omega)) ?_;refine qJ 10 rfl rfl rfl (by kernel_rfl) ?_;refine qJ 11 rfl rfl rfl (by kernel_rfl) ?_;refine qJ 12 rfl rfl rfl (by kernel_rfl) ?_;refine qG [13] (by kernel_rfl) rfl ?_;refine qN (by kernel_rfl) ?_;refine qC ?_;refine qC ?_;refine qB ?_;refine qK rfl (fun h35=>?_) (fun h35=>?_)
      ·try simp only [zbq] at h35
       try simp only [zds] at h35
       refine qC ?_;refine qB ?_;refine qL ?_;exact ⟨rfl,⟨rfl,rfl,rfl,rfl,rfl⟩,rfl⟩
      ·try simp only [zbq] at h35
       try simp only [zds] at h35
       exact absurd h35 (by rw [he];decide)
  ·try simp only [decide_eq_false_iff_not] at h8
   try simp only [zds] at h8
   exact absurd trivial h8
theorem ahead_last {p q : PSt} {l : Lne} (h : p.lns ≠ []) (he : l.2.2.2 = false) (hb : PB p 900000) (hs : l.2.2.1.size ≤ 90000) (hf : yP { p with lns:=p.lns ++ [l.2.2.1] } = .inr q) : qX Tryz.prog 132 [.one (.own 0 0),.agg (toL rLne l),ii .i64 3] (psO p) 5 (.one (.lit .nilIface)) (psO q) 5:=by
  have hl:=hb.lns;refine qT (rs:=[6]) Tryz.func132 rfl rfl rfl teOk (by decide) rfl ?_;refine qC ?_;refine qB ?_;refine qC ?_;refine qC ?_;refine qB ?_;refine qO ?_;refine qC ?_;refine qB ?_;refine qK rfl (fun h8=>?_) (fun h8=>?_)
  ·try simp only [decide_eq_true_eq] at h8
   try simp only [zds] at h8
   refine qC ?_;refine qC ?_;refine qB ?_;intro l3_5
   try simp only [zds] at l3_5
   refine qK rfl (fun h16=>?_) (fun h16=>?_)
   ·try simp only [decide_eq_true_eq] at h16
    try simp only [zds] at h16
    exact absurd (List.eq_nil_of_length_eq_zero (by omega)) h
   ·try simp only [decide_eq_false_iff_not] at h16
    try simp only [zds] at h16
    refine qM ?_;refine qC ?_;refine yX rfl ?_;refine qJ 0 rfl rfl rfl (by kernel_rfl) ?_;refine qJ 1 rfl rfl rfl (by kernel_rfl) ?_;refine qJ 2 rfl rfl rfl (by kernel_rfl) ?_;refine qJ 3 rfl rfl rfl (by kernel_rfl) ?_;refine qJ 4 rfl rfl rfl (by kernel_rfl) ?_;refine qJ 6 rfl rfl rfl (by kernel_rfl) ?_;refine qG [5,7] (by kernel_rfl) rfl ?_;refine zai ?_ ?_
    ·refine qG [7] (by kernel_rfl) rfl ?_;refine qG [8] (by kernel_rfl) rfl ?_;refine qG [9] (by kernel_rfl) rfl ?_;refine zai (by first|exact qP (by first|omega|(simp only [List.length_cons,List.length_nil];omega)|(simp;omega)) (by decide)|omega|assumption|decide|(simp only [zds];omega)|(simp <;> omega)) ?_;refine qJ 10 rfl rfl rfl (by kernel_rfl) ?_;refine qJ 11 rfl rfl rfl (by kernel_rfl) ?_;refine qJ 12 rfl rfl rfl (by kernel_rfl) ?_;refine qG [13] (by kernel_rfl) rfl ?_;refine qN (by kernel_rfl) ?_;refine qC ?_;refine qC ?_;refine qB ?_;refine qK rfl (fun h35=>?_) (fun h35=>?_)
     ·try simp only [zbq] at h35
      try simp only [zds] at h35
      exact absurd h35 (by rw [he];decide)
     ·try simp only [zbq] at h35
      try simp only [zds] at h35
      refine qM ?_;refine qC ?_;refine qB ?_;refine Or.inr (Or.inl (zei [] (zei [0,1,2,3,4] (zei _ (zei _ (zei _ (zei _ (zei _ (zai (flush_ok hf ((more_B _ hb).mono (by omega))) (zai rfl (zai (zai (zai rfl rfl) (zai (zai rfl rfl) (zai (zai rfl rfl) (zai (zai rfl rfl) (zai (zai rfl rfl) True.intro))))) (zai rfl ?_))))))))))));refine qL ?_;exact ⟨rfl,⟨rfl,rfl,rfl,rfl,rfl⟩,rfl⟩
    ·refine qG [5,8] (by kernel_rfl) rfl ?_;refine zai ?_ ?_
     ·refine qG [8] (by kernel_rfl) rfl ?_;refine qG [9] (by kernel_rfl) rfl ?_;refine zai (by first|exact qP (by first|omega|(simp only [List.length_cons,List.length_nil];omega)|(simp;omega)) (by decide)|omega|assumption|decide|(simp only [zds];omega)|(simp <;> omega)) ?_;refine qJ 10 rfl rfl rfl (by kernel_rfl) ?_;refine qJ 11 rfl rfl rfl (by kernel_rfl) ?_;refine qJ 12 rfl rfl rfl (by kernel_rfl) ?_;refine qG [13] (by kernel_rfl) rfl ?_;refine qN (by kernel_rfl) ?_;refine qC ?_;refine qC ?_;refine qB ?_;refine qK rfl (fun h35=>?_) (fun h35=>?_)
      ·try simp only [zbq] at h35
       try simp only [zds] at h35
       exact absurd h35 (by rw [he];decide)
      ·try simp only [zbq] at h35
       try simp only [zds] at h35
       refine qM ?_;refine qC ?_;refine qB ?_;refine Or.inr (Or.inl (zei [] (zei [0,1,2,3,4] (zei _ (zei _ (zei _ (zei _ (zei _ (zai (flush_ok hf ((more_B _ hb).mono (by omega))) (zai rfl (zai (zai (zai rfl rfl) (zai (zai rfl rfl) (zai (zai rfl rfl) (zai (zai rfl rfl) (zai (zai rfl rfl) True.intro))))) (zai rfl ?_))))))))))));refine qL ?_;exact ⟨rfl,⟨rfl,rfl,rfl,rfl,rfl⟩,rfl⟩
     ·refine qG [5] (by kernel_rfl) rfl ?_;refine qG [9] (by kernel_rfl) rfl ?_;refine zai (by first|exact qP (by first|omega|(simp only [List.length_cons,List.length_nil];omega)|(simp;omega)) (by decide)|omega|assumption|decide|(simp only [zds];omega)|(simp <;> omega)) ?_;refine qJ 10 rfl rfl rfl (by kernel_rfl) ?_;refine qJ 11 rfl rfl rfl (by kernel_rfl) ?_;refine qJ 12 rfl rfl rfl (by kernel_rfl) ?_;refine qG [13] (by kernel_rfl) rfl ?_;refine qN (by kernel_rfl) ?_;refine qC ?_;refine qC ?_;refine qB ?_;refine qK rfl (fun h35=>?_) (fun h35=>?_)
      ·try simp only [zbq] at h35
       try simp only [zds] at h35
       exact absurd h35 (by rw [he];decide)
      ·try simp only [zbq] at h35
       try simp only [zds] at h35
       refine qM ?_;refine qC ?_;refine qB ?_;refine Or.inr (Or.inl (zei [] (zei [0,1,2,3,4] (zei _ (zei _ (zei _ (zei _ (zei _ (zai (flush_ok hf ((more_B _ hb).mono (by omega))) (zai rfl (zai (zai (zai rfl rfl) (zai (zai rfl rfl) (zai (zai rfl rfl) (zai (zai rfl rfl) (zai (zai rfl rfl) True.intro))))) (zai rfl ?_))))))))))));refine qL ?_;exact ⟨rfl,⟨rfl,rfl,rfl,rfl,rfl⟩,rfl⟩
  ·try simp only [decide_eq_false_iff_not] at h8
   try simp only [zds] at h8
   exact absurd trivial h8
theorem ahead_fail {p : PSt} {l : Lne} {at_ n : Int} (h : p.lns ≠ []) (he : l.2.2.2 = false) (hb : PB p 900000) (hs : l.2.2.1.size ≤ 90000) (hf : yP { p with lns:=p.lns ++ [l.2.2.1] } = .inl (at_,n)) : qX Tryz.prog 132 [.one (.own 0 0),.agg (toL rLne l),ii .i64 3] (psO p) 5 (.one (errF at_ n)) [] 5:=by
  have hl:=hb.lns;refine qT (rs:=[6]) Tryz.func132 rfl rfl rfl teOk (by decide) rfl ?_;refine qC ?_;refine qB ?_;refine qC ?_;refine qC ?_;refine qB ?_;refine qO ?_;refine qC ?_;refine qB ?_;refine qK rfl (fun h8=>?_) (fun h8=>?_)
  ·try simp only [decide_eq_true_eq] at h8
   try simp only [zds] at h8
   refine qC ?_;refine qC ?_;refine qB ?_;intro l3_5
   try simp only [zds] at l3_5
   refine qK rfl (fun h16=>?_) (fun h16=>?_)
   ·try simp only [decide_eq_true_eq] at h16
    try simp only [zds] at h16
    exact absurd (List.eq_nil_of_length_eq_zero (by omega)) h
   ·try simp only [decide_eq_false_iff_not] at h16
    try simp only [zds] at h16
    refine qM ?_;refine qC ?_;refine yX rfl ?_;refine qJ 0 rfl rfl rfl (by kernel_rfl) ?_;refine qJ 1 rfl rfl rfl (by kernel_rfl) ?_;refine qJ 2 rfl rfl rfl (by kernel_rfl) ?_;refine qJ 3 rfl rfl rfl (by kernel_rfl) ?_;refine qJ 4 rfl rfl rfl (by kernel_rfl) ?_;refine qJ 6 rfl rfl rfl (by kernel_rfl) ?_;refine qG [5,7] (by kernel_rfl) rfl ?_;refine zai ?_ ?_
    ·refine qG [7] (by kernel_rfl) rfl ?_;refine qG [8] (by kernel_rfl) rfl ?_;refine qG [9] (by kernel_rfl) rfl ?_;refine zai (by first|exact qP (by first|omega|(simp only [List.length_cons,List.length_nil];omega)|(simp;omega)) (by decide)|omega|assumption|decide|(simp only [zds];omega)|(simp <;> omega)) ?_;refine qJ 10 rfl rfl rfl (by kernel_rfl) ?_;refine qJ 11 rfl rfl rfl (by kernel_rfl) ?_;refine qJ 12 rfl rfl rfl (by kernel_rfl) ?_;refine qG [13] (by kernel_rfl) rfl ?_;refine qN (by kernel_rfl) ?_;refine qC ?_;refine qC ?_;refine qB ?_;refine qK rfl (fun h35=>?_) (fun h35=>?_)
     ·try simp only [zbq] at h35
      try simp only [zds] at h35
      exact absurd h35 (by rw [he];decide)
     ·try simp only [zbq] at h35
      try simp only [zds] at h35
      refine qM ?_;refine qC ?_;refine qB ?_;refine Or.inr (Or.inl (zei [] (zei [0,1,2,3,4] (zei _ (zei _ (zei _ (zei _ (zei _ (zai (flush_err hf ((more_B _ hb).mono (by omega))) (zai rfl (zai (zai (zai rfl rfl) (zai (zai rfl rfl) (zai (zai rfl rfl) (zai (zai rfl rfl) (zai (zai rfl rfl) True.intro))))) (zai rfl ?_))))))))))));refine qL ?_;exact ⟨rfl,trivial,rfl⟩
    ·refine qG [5,8] (by kernel_rfl) rfl ?_;refine zai ?_ ?_
     ·refine qG [8] (by kernel_rfl) rfl ?_;refine qG [9] (by kernel_rfl) rfl ?_;refine zai (by first|exact qP (by first|omega|(simp only [List.length_cons,List.length_nil];omega)|(simp;omega)) (by decide)|omega|assumption|decide|(simp only [zds];omega)|(simp <;> omega)) ?_;refine qJ 10 rfl rfl rfl (by kernel_rfl) ?_;refine qJ 11 rfl rfl rfl (by kernel_rfl) ?_;refine qJ 12 rfl rfl rfl (by kernel_rfl) ?_;refine qG [13] (by kernel_rfl) rfl ?_;refine qN (by kernel_rfl) ?_;refine qC ?_;refine qC ?_;refine qB ?_;refine qK rfl (fun h35=>?_) (fun h35=>?_)
      ·try simp only [zbq] at h35
       try simp only [zds] at h35
       exact absurd h35 (by rw [he];decide)
      ·try simp only [zbq] at h35
       try simp only [zds] at h35
       refine qM ?_;refine qC ?_;refine qB ?_;refine Or.inr (Or.inl (zei [] (zei [0,1,2,3,4] (zei _ (zei _ (zei _ (zei _ (zei _ (zai (flush_err hf ((more_B _ hb).mono (by omega))) (zai rfl (zai (zai (zai rfl rfl) (zai (zai rfl rfl) (zai (zai rfl rfl) (zai (zai rfl rfl) (zai (zai rfl rfl) True.intro))))) (zai rfl ?_))))))))))));refine qL ?_;exact ⟨rfl,trivial,rfl⟩
     ·refine qG [5] (by kernel_rfl) rfl ?_;refine qG [9] (by kernel_rfl) rfl ?_;refine zai (by first|exact qP (by first|omega|(simp only [List.length_cons,List.length_nil];omega)|(simp;omega)) (by decide)|omega|assumption|decide|(simp only [zds];omega)|(simp <;> omega)) ?_;refine qJ 10 rfl rfl rfl (by kernel_rfl) ?_;refine qJ 11 rfl rfl rfl (by kernel_rfl) ?_;refine qJ 12 rfl rfl rfl (by kernel_rfl) ?_;refine qG [13] (by kernel_rfl) rfl ?_;refine qN (by kernel_rfl) ?_;refine qC ?_;refine qC ?_;refine qB ?_;refine qK rfl (fun h35=>?_) (fun h35=>?_)
      ·try simp only [zbq] at h35
       try simp only [zds] at h35
       exact absurd h35 (by rw [he];decide)
      ·try simp only [zbq] at h35
       try simp only [zds] at h35
       refine qM ?_;refine qC ?_;refine qB ?_;refine Or.inr (Or.inl (zei [] (zei [0,1,2,3,4] (zei _ (zei _ (zei _ (zei _ (zei _ (zai (flush_err hf ((more_B _ hb).mono (by omega))) (zai rfl (zai (zai (zai rfl rfl) (zai (zai rfl rfl) (zai (zai rfl rfl) (zai (zai rfl rfl) (zai (zai rfl rfl) True.intro))))) (zai rfl ?_))))))))))));refine qL ?_;exact ⟨rfl,trivial,rfl⟩
  ·try simp only [decide_eq_false_iff_not] at h8
   try simp only [zds] at h8
   exact absurd trivial h8
theorem ahead_end {p q : PSt} {l : Lne} (hb : PB p 900000) (hf : endS p = .inr q) : qX Tryz.prog 132 [.one (.own 0 0),.agg (toL rLne l),ii .i64 1] (psO p) 5 (.one (.lit .nilIface)) (psO q) 5:=by
  refine qT (rs:=[6]) Tryz.func132 rfl rfl rfl teOk (by decide) rfl ?_;refine qC ?_;refine qB ?_;refine qC ?_;refine qC ?_;refine qB ?_;refine qO ?_;refine qC ?_;refine qB ?_;refine qK rfl (fun h8=>?_) (fun h8=>?_)
  ·try simp only [decide_eq_true_eq] at h8
   try simp only [zds] at h8
   exact absurd h8 (by decide)
  ·try simp only [decide_eq_false_iff_not] at h8
   try simp only [zds] at h8
   refine qC ?_;refine qB ?_;refine qK rfl (fun h38=>?_) (fun h38=>?_)
   ·try simp only [decide_eq_true_eq] at h38
    try simp only [zds] at h38
    refine qC ?_;refine qB ?_;refine Or.inr (Or.inl (zei [] (zei [0,1,2,3,4] (zei _ (zei _ (zei _ (zei _ (zei _ (zai (end_ok hf (hb.mono (by decide))) (zai rfl (zai (zai (zai rfl rfl) (zai (zai rfl rfl) (zai (zai rfl rfl) (zai (zai rfl rfl) (zai (zai rfl rfl) True.intro))))) (zai rfl ?_))))))))))));refine qL ?_;exact ⟨rfl,⟨rfl,rfl,rfl,rfl,rfl⟩,rfl⟩
   ·try simp only [decide_eq_false_iff_not] at h38
    try simp only [zds] at h38
    exact absurd trivial h38
theorem ahead_endf {p : PSt} {l : Lne} {at_ n : Int} (hb : PB p 900000) (hf : endS p = .inl (at_,n)) : qX Tryz.prog 132 [.one (.own 0 0),.agg (toL rLne l),ii .i64 1] (psO p) 5 (.one (errF at_ n)) [] 5:=by
  refine qT (rs:=[6]) Tryz.func132 rfl rfl rfl teOk (by decide) rfl ?_;refine qC ?_;refine qB ?_;refine qC ?_;refine qC ?_;refine qB ?_;refine qO ?_;refine qC ?_;refine qB ?_;refine qK rfl (fun h8=>?_) (fun h8=>?_)
  ·try simp only [decide_eq_true_eq] at h8
   try simp only [zds] at h8
   exact absurd h8 (by decide)
  ·try simp only [decide_eq_false_iff_not] at h8
   try simp only [zds] at h8
   refine qC ?_;refine qB ?_;refine qK rfl (fun h38=>?_) (fun h38=>?_)
   ·try simp only [decide_eq_true_eq] at h38
    try simp only [zds] at h38
    refine qC ?_;refine qB ?_;refine Or.inr (Or.inl (zei [] (zei [0,1,2,3,4] (zei _ (zei _ (zei _ (zei _ (zei _ (zai (end_err hf (hb.mono (by decide))) (zai rfl (zai (zai (zai rfl rfl) (zai (zai rfl rfl) (zai (zai rfl rfl) (zai (zai rfl rfl) (zai (zai rfl rfl) True.intro))))) (zai rfl ?_))))))))))));refine qL ?_;exact ⟨rfl,trivial,rfl⟩
   ·try simp only [decide_eq_false_iff_not] at h38
    try simp only [zds] at h38
    exact absurd trivial h38
theorem ahead_flush {p q : PSt} {l : Lne} {k : Int} (h3 : k ≠ 3) (h1 : k ≠ 1) (hb : PB p 900000) (hf : yP p = .inr q) : qX Tryz.prog 132 [.one (.own 0 0),.agg (toL rLne l),ii .i64 k] (psO p) 5 (.one (.lit .nilIface)) (psO q) 5:=by
  refine qT (rs:=[6]) Tryz.func132 rfl rfl rfl teOk (by decide) rfl ?_;refine qC ?_;refine qB ?_;refine qC ?_;refine qC ?_;refine qB ?_;refine qO ?_;refine qC ?_;refine qB ?_;refine qK rfl (fun h8=>?_) (fun h8=>?_)
  ·try simp only [decide_eq_true_eq] at h8
   try simp only [zds] at h8
   exact absurd h8 h3
  ·try simp only [decide_eq_false_iff_not] at h8
   try simp only [zds] at h8
   refine qC ?_;refine qB ?_;refine qK rfl (fun h38=>?_) (fun h38=>?_)
   ·try simp only [decide_eq_true_eq] at h38
    try simp only [zds] at h38
    exact absurd h38 h1
   ·try simp only [decide_eq_false_iff_not] at h38
    try simp only [zds] at h38
    refine qM ?_;refine qC ?_;refine qB ?_;refine Or.inr (Or.inl (zei [] (zei [0,1,2,3,4] (zei _ (zei _ (zei _ (zei _ (zei _ (zai (flush_ok hf (hb.mono (by decide))) (zai rfl (zai (zai (zai rfl rfl) (zai (zai rfl rfl) (zai (zai rfl rfl) (zai (zai rfl rfl) (zai (zai rfl rfl) True.intro))))) (zai rfl ?_))))))))))));refine qL ?_;exact ⟨rfl,⟨rfl,rfl,rfl,rfl,rfl⟩,rfl⟩
theorem ahead_flushf {p : PSt} {l : Lne} {k at_ n : Int} (h3 : k ≠ 3) (h1 : k ≠ 1) (hb : PB p 900000) (hf : yP p = .inl (at_,n)) : qX Tryz.prog 132 [.one (.own 0 0),.agg (toL rLne l),ii .i64 k] (psO p) 5 (.one (errF at_ n)) [] 5:=by
  refine qT (rs:=[6]) Tryz.func132 rfl rfl rfl teOk (by decide) rfl ?_;refine qC ?_;refine qB ?_;refine qC ?_;refine qC ?_;refine qB ?_;refine qO ?_;refine qC ?_;refine qB ?_;refine qK rfl (fun h8=>?_) (fun h8=>?_)
  ·try simp only [decide_eq_true_eq] at h8
   try simp only [zds] at h8
   exact absurd h8 h3
  ·try simp only [decide_eq_false_iff_not] at h8
   try simp only [zds] at h8
   refine qC ?_;refine qB ?_;refine qK rfl (fun h38=>?_) (fun h38=>?_)
   ·try simp only [decide_eq_true_eq] at h38
    try simp only [zds] at h38
    exact absurd h38 h1
   ·try simp only [decide_eq_false_iff_not] at h38
    try simp only [zds] at h38
    refine qM ?_;refine qC ?_;refine qB ?_;refine Or.inr (Or.inl (zei [] (zei [0,1,2,3,4] (zei _ (zei _ (zei _ (zei _ (zei _ (zai (flush_err hf (hb.mono (by decide))) (zai rfl (zai (zai (zai rfl rfl) (zai (zai rfl rfl) (zai (zai rfl rfl) (zai (zai rfl rfl) (zai (zai rfl rfl) True.intro))))) (zai rfl ?_))))))))))));refine qL ?_;exact ⟨rfl,trivial,rfl⟩
theorem ahead_ok {p q : PSt} {l : Lne} {k : Int} (h : yR p l k = .inr q) (hb : PB p 900000) (hs : l.2.2.1.size ≤ 90000) : qX Tryz.prog 132 [.one (.own 0 0),.agg (toL rLne l),ii .i64 k] (psO p) 5 (.one (.lit .nilIface)) (psO q) 5:=by
  unfold yR at h;split at h
  · rename_i e;subst e;split at h
    · cases h
    · rename_i h0;split at h
      · rename_i he;cases h;exact ahead_more h0 he (hb.mono (by decide))
      · rename_i he;exact ahead_last h0 (by simpa using he) hb hs h
  · rename_i h3;split at h
    · rename_i e;subst e;exact ahead_end hb h
    · rename_i h1;exact ahead_flush h3 h1 hb h
theorem ahead_err {p : PSt} {l : Lne} {k at_ n : Int} (h : yR p l k = .inl (at_,n)) (hb : PB p 900000) (hs : l.2.2.1.size ≤ 90000) : qX Tryz.prog 132 [.one (.own 0 0),.agg (toL rLne l),ii .i64 k] (psO p) 5 (.one (errF at_ n)) [] 5:=by
  unfold yR at h;split at h
  · rename_i e;subst e;split at h
    · rename_i h0;cases h;exact ahead_none l h0
    · rename_i h0;split at h
      · cases h
      · rename_i he;exact ahead_fail h0 (by simpa using he) hb hs h
  · rename_i h3;split at h
    · rename_i e;subst e;exact ahead_endf hb h
    · rename_i h1;exact ahead_flushf h3 h1 hb h
theorem take_err1 {p : PSt} {l : Lne} {at_ n : Int} (h : yR p l (yB (ls l.2.2.1)) = .inl (at_,n)) (hb : PB p 900000) (hs : l.2.2.1.size ≤ 90000) : qX Tryz.prog 97 [.one (.own 0 0),.agg (toL rLne l)] (psO p) 5 (.one (errF at_ n)) [] 5:=by
  refine qT (rs:=[4]) Tryz.func97 rfl rfl rfl teOk (by decide) rfl ?_;refine qC ?_;refine qB ?_;refine qC ?_;refine qB ?_;refine Or.inl ?_;refine zai (rfl) ?_;refine zei _ (zai (kind_c l.2.2.1 (Nat.le_trans hs (by decide))) ?_);refine qC ?_;refine qC ?_;refine qB ?_;refine Or.inr (Or.inl (zei [] (zei [0,1,2,3,4] (zei _ (zei _ (zei _ (zei _ (zei _ (zai (ahead_err h hb hs) (zai rfl (zai (zai (zai rfl rfl) (zai (zai rfl rfl) (zai (zai rfl rfl) (zai (zai rfl rfl) (zai (zai rfl rfl) True.intro))))) (zai rfl ?_))))))))))));refine qC ?_;refine qB ?_;refine qK rfl (fun h15=>?_) (fun h15=>?_)
  ·skip
   refine qC ?_;refine qB ?_;refine qL ?_;exact ⟨rfl,trivial,rfl⟩
  ·try simp only [zbq] at h15
   try simp only [zds] at h15
   cases h15
theorem take_odd {p q : PSt} {l : Lne} (h : yR p l (yB (ls l.2.2.1)) = .inr q) (hk : yB (ls l.2.2.1) = 5 ∨ l.2.2.2 = false) (hb : PB p 900000) (hs : l.2.2.1.size ≤ 90000) : qX Tryz.prog 97 [.one (.own 0 0),.agg (toL rLne l)] (psO p) 5 (.one (errF l.1 2)) [] 5:=by
  refine qT (rs:=[4]) Tryz.func97 rfl rfl rfl teOk (by decide) rfl ?_;refine qC ?_;refine qB ?_;refine qC ?_;refine qB ?_;refine Or.inl ?_;refine zai (rfl) ?_;refine zei _ (zai (kind_c l.2.2.1 (Nat.le_trans hs (by decide))) ?_);refine qC ?_;refine qC ?_;refine qB ?_;refine Or.inr (Or.inl (zei [] (zei [0,1,2,3,4] (zei _ (zei _ (zei _ (zei _ (zei _ (zai (ahead_ok h hb hs) (zai rfl (zai (zai (zai rfl rfl) (zai (zai rfl rfl) (zai (zai rfl rfl) (zai (zai rfl rfl) (zai (zai rfl rfl) True.intro))))) (zai rfl ?_))))))))))));refine qC ?_;refine qB ?_;refine qK rfl (fun h15=>?_) (fun h15=>?_)
  ·try simp only [Bool.not_eq_true'] at h15
   try simp only [zds] at h15
   cases h15
  ·try simp only [Bool.not_eq_false'] at h15
   try simp only [zds] at h15
   refine qM ?_;refine qC ?_;refine qO ?_;refine qC ?_;refine qB ?_;refine zai (fun h=>trivial) ?_;refine zai (fun h=>⟨⟨h,trivial⟩,trivial⟩) ?_;refine zai (fun h=>⟨⟨h,trivial⟩,trivial⟩) ?_;refine zai (by first|(intro h;rw [h];rfl)|(intro h;cases h)) ?_;refine qK rfl (fun h17=>?_) (fun h17=>?_)
   ·try simp only [decide_eq_true_eq,Bool.not_eq_true',Bool.or_eq_true] at h17
    try simp only [zds] at h17
    refine qC ?_;refine qB ?_;refine Or.inl ?_;refine zai (rfl) ?_;refine zei _ (zai (fault_c l.1 2) ?_);refine qL ?_;exact ⟨rfl,trivial,rfl⟩
   ·try simp only [decide_eq_false_iff_not,Bool.not_eq_false',Bool.or_eq_false_iff] at h17
    try simp only [zds] at h17
    exact absurd h17 (by rcases hk with hk|hk <;> simp [hk])
theorem take_blank {p q : PSt} {l : Lne} (h : yR p l (yB (ls l.2.2.1)) = .inr q) (hk : yB (ls l.2.2.1) = 1) (he : l.2.2.2 = true) (hb : PB p 900000) (hq : PB q 2000000) (hs : l.2.2.1.size ≤ 90000) : qX Tryz.prog 97 [.one (.own 0 0),.agg (toL rLne l)] (psO p) 5 (.one (.lit .nilIface)) (psO { q with its:=q.its ++ [(1,l.2.2.1 ++ ⟨#[10]⟩,[])] }) 5:=by
  have hi:=hq.its;refine qT (rs:=[4]) Tryz.func97 rfl rfl rfl teOk (by decide) rfl ?_;refine qC ?_;refine qB ?_;refine qC ?_;refine qB ?_;refine Or.inl ?_;refine zai (rfl) ?_;refine zei _ (zai (kind_c l.2.2.1 (Nat.le_trans hs (by decide))) ?_);refine qC ?_;refine qC ?_;refine qB ?_;refine Or.inr (Or.inl (zei [] (zei [0,1,2,3,4] (zei _ (zei _ (zei _ (zei _ (zei _ (zai (ahead_ok h hb hs) (zai rfl (zai (zai (zai rfl rfl) (zai (zai rfl rfl) (zai (zai rfl rfl) (zai (zai rfl rfl) (zai (zai rfl rfl) True.intro))))) (zai rfl ?_))))))))))));refine qC ?_;refine qB ?_;refine qK rfl (fun h15=>?_) (fun h15=>?_)
  ·try simp only [Bool.not_eq_true'] at h15
   try simp only [zds] at h15
   cases h15
  ·try simp only [Bool.not_eq_false'] at h15
   try simp only [zds] at h15
   refine qM ?_;refine qC ?_;refine qO ?_;refine qC ?_;refine qB ?_;refine zai (fun h=>trivial) ?_;refine zai (fun h=>⟨⟨h,trivial⟩,trivial⟩) ?_;refine zai (fun h=>⟨⟨h,trivial⟩,trivial⟩) ?_;refine zai (by first|(intro h;rw [h];rfl)|(intro h;cases h)) ?_;refine qK rfl (fun h17=>?_) (fun h17=>?_)
   ·try simp only [decide_eq_true_eq,Bool.not_eq_true',Bool.or_eq_true] at h17
    try simp only [zds] at h17
    exact absurd h17 (by simp [hk,he])
   ·try simp only [decide_eq_false_iff_not,Bool.not_eq_false',Bool.or_eq_false_iff] at h17
    try simp only [zds] at h17
    refine qC ?_;refine qB ?_;refine qK rfl (fun h29=>?_) (fun h29=>?_)
    ·try simp only [decide_eq_true_eq] at h29
     try simp only [zds] at h29
     refine qC ?_;refine yX rfl ?_;refine qJ 0 rfl rfl rfl (by kernel_rfl) ?_;refine qJ 1 rfl rfl rfl (by kernel_rfl) ?_;refine qJ 2 rfl rfl rfl (by kernel_rfl) ?_;refine qJ 3 rfl rfl rfl (by kernel_rfl) ?_;refine qJ 5 rfl rfl rfl (by kernel_rfl) ?_;refine qG [4,6] (by kernel_rfl) rfl ?_;refine zai ?_ ?_
     ·refine qG [6] (by kernel_rfl) rfl ?_;refine qJ 7 rfl rfl rfl (by kernel_rfl) ?_;refine zai (by (have hk0 : ByteArray.size { data:=#[10] } = 1:=rfl;first|(unfold maxLen;omega)|(simp only [ByteArray.size_append];omega)|(unfold maxLen;(try simp only [ByteArray.size_append]);omega))) ?_;refine qG [8] (by kernel_rfl) rfl ?_;refine qG [9] (by kernel_rfl) rfl ?_;refine qG [10] (by kernel_rfl) rfl ?_;refine zai (by first|exact qP (by first|omega|(simp only [List.length_cons,List.length_nil];omega)|(simp;omega)) (by decide)|omega|assumption|decide|(simp only [zds];omega)|(simp <;> omega)) ?_;refine qJ 11 rfl rfl rfl (by kernel_rfl) ?_;refine qJ 12 rfl rfl rfl (by kernel_rfl) ?_;refine qG [13] (by kernel_rfl) rfl ?_;refine qN (by kernel_rfl) ?_;refine qC ?_;refine qB ?_;refine qL ?_;exact ⟨rfl,⟨rfl,rfl,rfl,rfl,rfl⟩,rfl⟩
     ·refine qJ 7 rfl rfl rfl (by kernel_rfl) ?_;refine zai (by (have hk0 : ByteArray.size { data:=#[10] } = 1:=rfl;first|(unfold maxLen;omega)|(simp only [ByteArray.size_append];omega)|(unfold maxLen;(try simp only [ByteArray.size_append]);omega))) ?_;refine qG [4,8] (by kernel_rfl) rfl ?_;refine zai ?_ ?_
      ·refine qG [8] (by kernel_rfl) rfl ?_;refine qG [9] (by kernel_rfl) rfl ?_;refine qG [10] (by kernel_rfl) rfl ?_;refine zai (by first|exact qP (by first|omega|(simp only [List.length_cons,List.length_nil];omega)|(simp;omega)) (by decide)|omega|assumption|decide|(simp only [zds];omega)|(simp <;> omega)) ?_;refine qJ 11 rfl rfl rfl (by kernel_rfl) ?_;refine qJ 12 rfl rfl rfl (by kernel_rfl) ?_;refine qG [13] (by kernel_rfl) rfl ?_;refine qN (by kernel_rfl) ?_;refine qC ?_;refine qB ?_;refine qL ?_;exact ⟨rfl,⟨rfl,rfl,rfl,rfl,rfl⟩,rfl⟩
      ·refine qG [4,9] (by kernel_rfl) rfl ?_;refine zai ?_ ?_
       ·refine qG [9] (by kernel_rfl) rfl ?_;refine qG [10] (by kernel_rfl) rfl ?_;refine zai (by first|exact qP (by first|omega|(simp only [List.length_cons,List.length_nil];omega)|(simp;omega)) (by decide)|omega|assumption|decide|(simp only [zds];omega)|(simp <;> omega)) ?_;refine qJ 11 rfl rfl rfl (by kernel_rfl) ?_;refine qJ 12 rfl rfl rfl (by kernel_rfl) ?_;refine qG [13] (by kernel_rfl) rfl ?_;refine qN (by kernel_rfl) ?_;refine qC ?_;refine qB ?_;refine qL ?_;exact ⟨rfl,⟨rfl,rfl,rfl,rfl,rfl⟩,rfl⟩
       ·refine qG [4] (by kernel_rfl) rfl ?_;refine qG [10] (by kernel_rfl) rfl ?_;refine zai (by first|exact qP (by first|omega|(simp only [List.length_cons,List.length_nil];omega)|(simp;omega)) (by decide)|omega|assumption|decide|(simp only [zds];omega)|(simp <;> omega)) ?_;refine qJ 11 rfl rfl rfl (by kernel_rfl) ?_;refine qJ 12 rfl rfl rfl (by kernel_rfl) ?_;refine qG [13] (by kernel_rfl) rfl ?_;refine qN (by kernel_rfl) ?_;refine qC ?_;refine qB ?_;refine qL ?_;exact ⟨rfl,⟨rfl,rfl,rfl,rfl,rfl⟩,rfl⟩
    ·try simp only [decide_eq_false_iff_not] at h29
     try simp only [zds] at h29
     exact absurd hk h29
theorem take_pair {p q : PSt} {l : Lne} (h : yR p l (yB (ls l.2.2.1)) = .inr q) (hk : yB (ls l.2.2.1) = 4) (he : l.2.2.2 = true) (hb : PB p 900000) (hq : PB q 1000000) (hs : l.2.2.1.size ≤ 90000) : qX Tryz.prog 97 [.one (.own 0 0),.agg (toL rLne l)] (psO p) 5 (.one (.lit .nilIface)) (psO { xP q l with blk:=q.blk ++ [l.2.2.1] }) 5:=by
  have hi : (xP q l).blk.length ≤ 1000000:=hq.blk;refine qT (rs:=[4]) Tryz.func97 rfl rfl rfl teOk (by decide) rfl ?_;refine qC ?_;refine qB ?_;refine qC ?_;refine qB ?_;refine Or.inl ?_;refine zai (rfl) ?_;refine zei _ (zai (kind_c l.2.2.1 (Nat.le_trans hs (by decide))) ?_);refine qC ?_;refine qC ?_;refine qB ?_;refine Or.inr (Or.inl (zei [] (zei [0,1,2,3,4] (zei _ (zei _ (zei _ (zei _ (zei _ (zai (ahead_ok h hb hs) (zai rfl (zai (zai (zai rfl rfl) (zai (zai rfl rfl) (zai (zai rfl rfl) (zai (zai rfl rfl) (zai (zai rfl rfl) True.intro))))) (zai rfl ?_))))))))))));refine qC ?_;refine qB ?_;refine qK rfl (fun h15=>?_) (fun h15=>?_)
  ·try simp only [Bool.not_eq_true'] at h15
   try simp only [zds] at h15
   cases h15
  ·try simp only [Bool.not_eq_false'] at h15
   try simp only [zds] at h15
   refine qM ?_;refine qC ?_;refine qO ?_;refine qC ?_;refine qB ?_;refine zai (fun h=>trivial) ?_;refine zai (fun h=>⟨⟨h,trivial⟩,trivial⟩) ?_;refine zai (fun h=>⟨⟨h,trivial⟩,trivial⟩) ?_;refine zai (by first|(intro h;rw [h];rfl)|(intro h;cases h)) ?_;refine qK rfl (fun h17=>?_) (fun h17=>?_)
   ·try simp only [decide_eq_true_eq,Bool.not_eq_true',Bool.or_eq_true] at h17
    try simp only [zds] at h17
    exact absurd h17 (by simp [hk,he])
   ·try simp only [decide_eq_false_iff_not,Bool.not_eq_false',Bool.or_eq_false_iff] at h17
    try simp only [zds] at h17
    refine qC ?_;refine qB ?_;refine qK rfl (fun h29=>?_) (fun h29=>?_)
    ·try simp only [decide_eq_true_eq] at h29
     try simp only [zds] at h29
     exact absurd h29 (by rw [hk];decide)
    ·try simp only [decide_eq_false_iff_not] at h29
     try simp only [zds] at h29
     refine qC ?_;refine qB ?_;refine qK rfl (fun h45=>?_) (fun h45=>?_)
     ·try simp only [decide_eq_true_eq] at h45
      try simp only [zds] at h45
      refine qB ?_;refine Or.inr (Or.inl (zei [] (zei [0,1,2,3,4] (zei _ (zei _ (zei _ (zei _ (zei _ (zai (begin_c q l hq) (zai rfl (zai (zai (zai rfl rfl) (zai (zai rfl rfl) (zai (zai rfl rfl) (zai (zai rfl rfl) (zai (zai rfl rfl) True.intro))))) (zai rfl ?_))))))))))));refine qC ?_;refine yX rfl ?_;refine qJ 0 rfl rfl rfl (by kernel_rfl) ?_;refine qJ 1 rfl rfl rfl (by kernel_rfl) ?_;refine qJ 2 rfl rfl rfl (by kernel_rfl) ?_;refine qJ 3 rfl rfl rfl (by kernel_rfl) ?_;refine qJ 5 rfl rfl rfl (by kernel_rfl) ?_;refine qG [4,6] (by kernel_rfl) rfl ?_;refine zai ?_ ?_
      ·refine qG [6] (by kernel_rfl) rfl ?_;refine qG [7] (by kernel_rfl) rfl ?_;refine qG [8] (by kernel_rfl) rfl ?_;refine zai (by first|exact qP (by first|omega|(simp only [List.length_cons,List.length_nil];omega)|(simp;omega)) (by decide)|omega|assumption|decide|(simp only [zds];omega)|(simp <;> omega)) ?_;refine qJ 9 rfl rfl rfl (by kernel_rfl) ?_;refine qJ 10 rfl rfl rfl (by kernel_rfl) ?_;refine qG [11] (by kernel_rfl) rfl ?_;refine qN (by kernel_rfl) ?_;refine qC ?_;refine qB ?_;refine qL ?_;exact ⟨rfl,⟨rfl,rfl,rfl,rfl,rfl⟩,rfl⟩
      ·refine qG [4,7] (by kernel_rfl) rfl ?_;refine zai ?_ ?_
       ·refine qG [7] (by kernel_rfl) rfl ?_;refine qG [8] (by kernel_rfl) rfl ?_;refine zai (by first|exact qP (by first|omega|(simp only [List.length_cons,List.length_nil];omega)|(simp;omega)) (by decide)|omega|assumption|decide|(simp only [zds];omega)|(simp <;> omega)) ?_;refine qJ 9 rfl rfl rfl (by kernel_rfl) ?_;refine qJ 10 rfl rfl rfl (by kernel_rfl) ?_;refine qG [11] (by kernel_rfl) rfl ?_;refine qN (by kernel_rfl) ?_;refine qC ?_;refine qB ?_;refine qL ?_;exact ⟨rfl,⟨rfl,rfl,rfl,rfl,rfl⟩,rfl⟩
       ·refine qG [4] (by kernel_rfl) rfl ?_;refine qG [8] (by kernel_rfl) rfl ?_;refine zai (by first|exact qP (by first|omega|(simp only [List.length_cons,List.length_nil];omega)|(simp;omega)) (by decide)|omega|assumption|decide|(simp only [zds];omega)|(simp <;> omega)) ?_;refine qJ 9 rfl rfl rfl (by kernel_rfl) ?_;refine qJ 10 rfl rfl rfl (by kernel_rfl) ?_;refine qG [11] (by kernel_rfl) rfl ?_;refine qN (by kernel_rfl) ?_;refine qC ?_;refine qB ?_;refine qL ?_;exact ⟨rfl,⟨rfl,rfl,rfl,rfl,rfl⟩,rfl⟩
     ·try simp only [decide_eq_false_iff_not] at h45
      try simp only [zds] at h45
      exact absurd hk h45
theorem take_more {p q : PSt} {l : Lne} (h : yR p l (yB (ls l.2.2.1)) = .inr q) (h5 : yB (ls l.2.2.1) ≠ 5) (h1 : yB (ls l.2.2.1) ≠ 1) (h4 : yB (ls l.2.2.1) ≠ 4) (he : l.2.2.2 = true) (hb : PB p 900000) (hq : PB q 1000000) (hs : l.2.2.1.size ≤ 90000) : qX Tryz.prog 97 [.one (.own 0 0),.agg (toL rLne l)] (psO p) 5 (.one (.lit .nilIface)) (psO { q with blk:=q.blk ++ [l.2.2.1] }) 5:=by
  have hi:=hq.blk;refine qT (rs:=[4]) Tryz.func97 rfl rfl rfl teOk (by decide) rfl ?_;refine qC ?_;refine qB ?_;refine qC ?_;refine qB ?_;refine Or.inl ?_;refine zai (rfl) ?_;refine zei _ (zai (kind_c l.2.2.1 (Nat.le_trans hs (by decide))) ?_);refine qC ?_;refine qC ?_;refine qB ?_;refine Or.inr (Or.inl (zei [] (zei [0,1,2,3,4] (zei _ (zei _ (zei _ (zei _ (zei _ (zai (ahead_ok h hb hs) (zai rfl (zai (zai (zai rfl rfl) (zai (zai rfl rfl) (zai (zai rfl rfl) (zai (zai rfl rfl) (zai (zai rfl rfl) True.intro))))) (zai rfl ?_))))))))))));refine qC ?_;refine qB ?_;refine qK rfl (fun h15=>?_) (fun h15=>?_)
  ·try simp only [Bool.not_eq_true'] at h15
   try simp only [zds] at h15
   cases h15
  ·try simp only [Bool.not_eq_false'] at h15
   try simp only [zds] at h15
   refine qM ?_;refine qC ?_;refine qO ?_;refine qC ?_;refine qB ?_;refine zai (fun h=>trivial) ?_;refine zai (fun h=>⟨⟨h,trivial⟩,trivial⟩) ?_;refine zai (fun h=>⟨⟨h,trivial⟩,trivial⟩) ?_;refine zai (by first|(intro h;rw [h];rfl)|(intro h;cases h)) ?_;refine qK rfl (fun h17=>?_) (fun h17=>?_)
   ·try simp only [decide_eq_true_eq,Bool.not_eq_true',Bool.or_eq_true] at h17
    try simp only [zds] at h17
    exact absurd h17 (by simp [h5,he])
   ·try simp only [decide_eq_false_iff_not,Bool.not_eq_false',Bool.or_eq_false_iff] at h17
    try simp only [zds] at h17
    refine qC ?_;refine qB ?_;refine qK rfl (fun h29=>?_) (fun h29=>?_)
    ·try simp only [decide_eq_true_eq] at h29
     try simp only [zds] at h29
     exact absurd h29 h1
    ·try simp only [decide_eq_false_iff_not] at h29
     try simp only [zds] at h29
     refine qC ?_;refine qB ?_;refine qK rfl (fun h45=>?_) (fun h45=>?_)
     ·try simp only [decide_eq_true_eq] at h45
      try simp only [zds] at h45
      exact absurd h45 h4
     ·try simp only [decide_eq_false_iff_not] at h45
      try simp only [zds] at h45
      refine qM ?_;refine qC ?_;refine yX rfl ?_;refine qJ 0 rfl rfl rfl (by kernel_rfl) ?_;refine qJ 1 rfl rfl rfl (by kernel_rfl) ?_;refine qJ 2 rfl rfl rfl (by kernel_rfl) ?_;refine qJ 3 rfl rfl rfl (by kernel_rfl) ?_;refine qJ 5 rfl rfl rfl (by kernel_rfl) ?_;refine qG [4,6] (by kernel_rfl) rfl ?_;refine zai ?_ ?_
      ·refine qG [6] (by kernel_rfl) rfl ?_;refine qG [7] (by kernel_rfl) rfl ?_;refine qG [8] (by kernel_rfl) rfl ?_;refine zai (by first|exact qP (by first|omega|(simp only [List.length_cons,List.length_nil];omega)|(simp;omega)) (by decide)|omega|assumption|decide|(simp only [zds];omega)|(simp <;> omega)) ?_;refine qJ 9 rfl rfl rfl (by kernel_rfl) ?_;refine qJ 10 rfl rfl rfl (by kernel_rfl) ?_;refine qG [11] (by kernel_rfl) rfl ?_;refine qN (by kernel_rfl) ?_;refine qC ?_;refine qB ?_;refine qL ?_;exact ⟨rfl,⟨rfl,rfl,rfl,rfl,rfl⟩,rfl⟩
      ·refine qG [4,7] (by kernel_rfl) rfl ?_;refine zai ?_ ?_
       ·refine qG [7] (by kernel_rfl) rfl ?_;refine qG [8] (by kernel_rfl) rfl ?_;refine zai (by first|exact qP (by first|omega|(simp only [List.length_cons,List.length_nil];omega)|(simp;omega)) (by decide)|omega|assumption|decide|(simp only [zds];omega)|(simp <;> omega)) ?_;refine qJ 9 rfl rfl rfl (by kernel_rfl) ?_;refine qJ 10 rfl rfl rfl (by kernel_rfl) ?_;refine qG [11] (by kernel_rfl) rfl ?_;refine qN (by kernel_rfl) ?_;refine qC ?_;refine qB ?_;refine qL ?_;exact ⟨rfl,⟨rfl,rfl,rfl,rfl,rfl⟩,rfl⟩
       ·refine qG [4] (by kernel_rfl) rfl ?_;refine qG [8] (by kernel_rfl) rfl ?_;refine zai (by first|exact qP (by first|omega|(simp only [List.length_cons,List.length_nil];omega)|(simp;omega)) (by decide)|omega|assumption|decide|(simp only [zds];omega)|(simp <;> omega)) ?_;refine qJ 9 rfl rfl rfl (by kernel_rfl) ?_;refine qJ 10 rfl rfl rfl (by kernel_rfl) ?_;refine qG [11] (by kernel_rfl) rfl ?_;refine qN (by kernel_rfl) ?_;refine qC ?_;refine qB ?_;refine qL ?_;exact ⟨rfl,⟨rfl,rfl,rfl,rfl,rfl⟩,rfl⟩
theorem take_ok {p q : PSt} {l : Lne} (h : yS p l = .inr q) (hb : PB p 800000) (hs : l.2.2.1.size ≤ 90000) : qX Tryz.prog 97 [.one (.own 0 0),.agg (toL rLne l)] (psO p) 5 (.one (.lit .nilIface)) (psO q) 5:=by
  unfold yS at h;split at h
  · cases h
  · rename_i r e;have hb' : PB p 900000:=hb.mono (by decide);have hr : PB r 1000000:=(aheadS_B hb e).mono (by omega);unfold lineS at h;split at h
    · cases h
    · rename_i h0;have h5 : yB (ls l.2.2.1) ≠ 5:=fun e=>h0 (.inl e)
      have he : l.2.2.2 = true:=by
        cases e : l.2.2.2
        · exact absurd (.inr e) h0
        · rfl
      split at h
      · rename_i h1;cases h;exact take_blank e h1 he hb' (hr.mono (by decide)) hs
      · rename_i h1;split at h
        · rename_i h4;cases h;exact take_pair e h4 he hb' hr hs
        · rename_i h4;cases h;exact take_more e h5 h1 h4 he hb' hr hs
theorem take_err {p : PSt} {l : Lne} {at_ n : Int} (h : yS p l = .inl (at_,n)) (hb : PB p 800000) (hs : l.2.2.1.size ≤ 90000) : qX Tryz.prog 97 [.one (.own 0 0),.agg (toL rLne l)] (psO p) 5 (.one (errF at_ n)) [] 5:=by
  unfold yS at h;split at h
  · rename_i e;cases h;exact take_err1 e (hb.mono (by decide)) hs
  · rename_i r e;unfold lineS at h;split at h
    · rename_i h0;cases h;exact take_odd e h0 (hb.mono (by decide)) hs
    · split at h
      · cases h
      · split at h
        · cases h
        · cases h
def linesR : Nat → Int → Int → List UInt8 → List Lne
  | 0,_,_,_=>[]
  | f + 1,tot,no,s=>match s with
    | []=>[]
    | s=>(no,tot - s.length,bytes (Lib.cut s [10]).1,(Lib.cut s [10]).2.2) :: linesR f tot (no + 1) (Lib.cut s [10]).2.1
def yC (s : ByteArray) : List Lne:=linesR s.size s.size 0 (ls s)
def itLs (s : ByteArray) : List (List A):=(yC s).map fun l=>[A.agg (toL rLne l)]
theorem cut_less {r : List UInt8} {c : UInt8} (h : r ≠ []) : (Lib.cut r [c]).2.1.length < r.length:=by
  by_cases hm : c ∈ r
  · obtain ⟨a,b,rfl,hn⟩:=List.eq_append_cons_of_mem hm;rw [cut_at hn,List.length_append,List.length_cons];show b.length < _;omega
  · rw [cut_none hm];exact List.length_pos_iff.2 h
theorem le_refl {nx0 : Nat} {tm : Tm} {ob : Obs} {nx : Nat} : Le nx0 tm ob nx tm ob nx:=⟨fun _ _ ρ _ _ hs=>⟨ρ,hs⟩⟩
theorem split_iter (s : ByteArray) (hs : s.size ≤ 1000000) : AIter Tryz.prog 129 [.one (.addr .str s)] (itLs s):=by
  refine aiter_of Tryz.func129 rfl rfl rfl teOk rfl ?_;intro l ι Pr J U n0 hU hab hy;refine xD ?_;refine xU hab hU rfl ?_;refine qB ?_;refine ⟨_,_,_,le_refl,?_⟩;refine xD ?_;refine xU hab hU rfl ?_;refine qB ?_;refine ⟨_,_,_,le_refl,?_⟩;refine acodeY_block ?_;refine acodeY_loop (κ:=Nat × Nat × List UInt8 × ByteArray × Bool) (fun i=>i.2.2.1.length ≤ i.1 ∧ i.2.1 + i.1 ≤ s.size ∧ i.2.1 ≤ (yC s).length ∧ (yC s).drop i.2.1 = linesR i.1 s.size i.2.1 i.2.2.1) (fun i=>i.2.1) (fun i=>[(0,.one (.lit (.func (.yield l) #[] #[]))),(1,.one (.addr .str s)),(3,.one (.own 0 0)),(4,is (bytes i.2.2.1))]) (fun i=>[(0,.box 166 [.lit (.int .i64 i.2.1),.lit (.int .i64 (s.size - i.2.2.1.length)),.lit (.string i.2.2.2.1),.lit (.bool i.2.2.2.2)])]) 1 (fun i=>i.1) (s.size,0,ls s,ByteArray.empty,false) ⟨by rw [show (ls s).length = s.size from (yA s).symm];exact Nat.le_refl _,by simp,Nat.zero_le _,rfl⟩ hab hU (qQ ⟨rfl,rfl,rfl,by rw [bytes_ls];rfl⟩ ?_ rfl) rfl ?_
  ·show leO _ [(0,Ob.box 166 [_,C.lit (.int .i64 ((s.size : Int) - ((ls s).length : Nat))),_,_])];rw [show (ls s).length = s.size from (yA s).symm,Int.sub_self];exact rfl
  intro i hi;obtain ⟨f,k,r,t0,e0⟩:=i;obtain ⟨h1,h2,h3,h4⟩:=hi;simp only at h1 h2 h3 h4;have hrs : r.length ≤ s.size:=Nat.le_trans h1 (by omega);refine xD ?_;refine xD ?_;refine xU hab hU rfl ?_;refine qB ?_;refine ⟨_,_,_,le_refl,?_⟩;refine acodeY_cond rfl (fun hc=>?_) (fun hc=>?_)
  ·simp only at hc;have hne : r ≠ []:=fun e=>by
    have e' : bytes r = ⟨#[]⟩:=by rw [e];rfl
    rw [e'] at hc;simp at hc
   obtain ⟨f',hf⟩ : ∃ f',f = f' + 1:=⟨f - 1,by have:=List.length_pos_iff.2 hne;omega⟩;subst hf;have hd : (yC s).drop k = ((k : Int),(s.size : Int) - r.length,bytes (Lib.cut r [10]).1,(Lib.cut r [10]).2.2) :: linesR f' s.size (k + 1 : Nat) (Lib.cut r [10]).2.1:=by
    rw [h4];cases r with
    | nil=>exact absurd rfl hne
    | cons a r=>rfl
   have hk : k < (yC s).length:=by
    rcases Nat.lt_or_ge k (yC s).length with h|h
    ·exact h
    ·rw [List.drop_eq_nil_of_le h] at hd;cases hd
   have hget : (yC s)[k] = ((k : Int),(s.size : Int) - r.length,bytes (Lib.cut r [10]).1,(Lib.cut r [10]).2.2):=by
    rw [List.drop_eq_getElem_cons hk] at hd;exact (List.cons.inj hd).1
   have hdrop : (yC s).drop (k + 1) = linesR f' s.size (k + 1 : Nat) (Lib.cut r [10]).2.1:=by
    rw [List.drop_eq_getElem_cons hk] at hd;exact (List.cons.inj hd).2
   have hkx : k < (itLs s).length:=by unfold itLs;rw [List.length_map];exact hk
   have hx : (itLs s)[k] = [A.agg (toL rLne ((k : Int),(s.size : Int) - r.length,bytes (Lib.cut r [10]).1,(Lib.cut r [10]).2.2))]:=by
    simp only [itLs,List.getElem_map,hget]
   have hcl : (Lib.cut r [10]).2.1.length < r.length:=cut_less hne;have hcc : qU Tryz.prog 130 [is (bytes r),is ⟨#[10]⟩] (.tup [(false,[.lit (.string (bytes (Lib.cut r [10]).1))]),(false,[.lit (.string (bytes (Lib.cut r [10]).2.1))]),(false,[.lit (.bool (Lib.cut r [10]).2.2)])]):=by
    have:=cut_c (bytes r) ⟨#[10]⟩ (by rw [yL];omega);rw [yD] at this;exact this
   generalize Lib.cut r [10] = c at *
   refine acodeY_skip ?_;refine acodeY_block ?_;refine xD ?_;refine xU hab hU rfl ?_;refine qB ?_;refine Or.inl ?_;refine zai (rfl) ?_;refine zei _ (zai hcc ?_);refine ⟨_,_,_,le_refl,?_⟩;refine xD ?_;refine xD ?_;refine acodeY_yield (pre:=[_,_]) (post:=[_]) _ rfl rfl rfl hab hU hy hkx ?_;refine ⟨_,_,_,le_refl,rfl,?_,by rw [hx];rfl,?_⟩
   ·rw [hx];rfl
   ·intro st;refine ⟨_,_,_,le_refl,?_⟩;refine acodeY_cond rfl (fun ht=>?_) (fun ht=>?_)
    ·refine acodeY_ret ?_;rw [Bool.not_not] at ht;subst ht;exact ⟨.inl rfl,fun e=>by cases e⟩
    ·rw [Bool.not_not] at ht;subst ht;refine acodeY_skip ?_;refine xD ?_;refine xU hab hU rfl ?_;refine qB ?_;refine zai (by simp only;omega) ?_;refine ⟨_,_,_,le_refl,?_⟩;refine xU hab hU rfl ?_;refine qB ?_;refine zai (by rw [yL];omega) ?_;refine ⟨_,_,_,?_,⟨(f',k + 1,c.2.1,bytes c.1,c.2.2),⟨by simp only;omega,by simp only;omega,hk,hdrop⟩,Nat.lt_succ_self _,rfl,rfl,rfl,rfl,rfl⟩⟩;refine qQ ⟨rfl,rfl,rfl,rfl⟩ ?_ rfl;show leO _ [(0,Ob.box 166 [C.lit (.int .i64 ((k + 1 : Nat) : Int)),C.lit (.int .i64 ((s.size : Int) - (c.2.1.length : Nat))),C.lit (.string (bytes c.1)),C.lit (.bool c.2.2)])];rw [← yL c.2.1];exact rfl
  ·have hr : r = []:=by
    simp only at hc;have : bytes r = ⟨#[]⟩:=by simpa using hc
    have:=congrArg (fun b=>b.data.toList) this
    simpa [yD] using this
   refine acodeY_exit ?_;rw [hr] at h4;have h5 : (yC s).drop k = []:=by rw [h4];cases f <;> rfl
   have h6:=List.drop_eq_nil_iff.1 h5;exact ⟨.inr rfl,fun _=>by simp only [itLs,List.length_map];omega⟩
theorem split_c (s : ByteArray) : qU Tryz.prog 96 [is s] (.one (.clo 129 (.addr .str s))):=by
  refine qW (rs:=[2]) Tryz.func96 rfl rfl rfl teOk rfl ?_;refine qC ?_;refine qB ?_;refine qC ?_;refine qB ?_;refine yG [0] ?_;refine qL ?_;rfl
def runS (p : PSt) : List Lne → (Int × Int) ⊕ PSt
  | []=>.inr p
  | l :: r=>match yS p l with
    | .inl e=>.inl e
    | .inr q=>runS q r
def xG (s : ByteArray) : (Int × Int) ⊕ List Itm:=match runS pst0 (yC s) with
  | .inl e=>.inl e
  | .inr p=>match endS p with
    | .inl e=>.inl e
    | .inr q=>.inr q.its
def resP : (Int × Int) ⊕ List Itm → A
  | .inl e=>.tup [(false,[.sl rItm []]),(false,[errF e.1 e.2])]
  | .inr l=>.tup [(false,[.sl rItm l]),(false,[.lit .nilIface])]
theorem linesR_len : ∀ (f : Nat) (tot no : Int) (s : List UInt8),(linesR f tot no s).length ≤ s.length ∧ ((linesR f tot no s).map (·.2.2.1.size)).sum ≤ s.length
  | 0,_,_,_=>by simp [linesR]
  | f + 1,tot,no,[]=>by simp [linesR]
  | f + 1,tot,no,a :: r=>by
    obtain ⟨h1,h2⟩:=linesR_len f tot (no + 1) (Lib.cut (a :: r) [10]).2.1;have h3 : (Lib.cut (a :: r) [10]).2.1.length < (a :: r).length:=cut_less (by simp);have h4 : (Lib.cut (a :: r) [10]).1.length + (Lib.cut (a :: r) [10]).2.1.length ≤ (a :: r).length:=by
      by_cases hm : (10 : UInt8) ∈ a :: r
      · obtain ⟨x,b,e,hn⟩:=List.eq_append_cons_of_mem hm;rw [e,cut_at hn,List.length_append,List.length_cons];show x.length + b.length ≤ _;omega
      · rw [cut_none hm];exact Nat.le_refl _
    unfold linesR;simp only [List.length_cons,List.map_cons,List.sum_cons,yL] at h3 h4 ⊢;exact ⟨by omega,by omega⟩
theorem linesT_len (s : ByteArray) : (yC s).length ≤ s.size ∧ ((yC s).map (·.2.2.1.size)).sum ≤ s.size:=by
  have:=linesR_len s.size s.size 0 (ls s);rw [show (ls s).length = s.size from (yA s).symm] at this;exact this
def prP (L : List Lne) : Bool → Nat → PSt ⊕ (Int × Int) → Prop
  | false,k,.inl p=>runS pst0 L = runS p (L.drop k) ∧ ∃ B,PB p B ∧ B + 3 * (L.drop k).length + 2 * ((L.drop k).map (·.2.2.1.size)).sum ≤ 600000
  | true,_,.inr e=>runS pst0 L = .inl e
  | _,_,_=>False
def obP : PSt ⊕ (Int × Int) → Obs
  | .inl p=>[(0,.box 98 [.lit (.slice none 0 0)]),(1,.box 34 [.lit .nilIface]),(2,.box 161 [.vec 4,.lit (.int .i64 p.frm),.lit (.bool p.full),.vec 5,.vec 6,.vec 7,.lit (.int .i64 p.recs)]),(3,.box 156 [.own 2 0]),(4,.vec 9 .str p.lns),(5,.vec 109 rItm p.its),(6,.vec 9 .str p.blk),(7,.vec 82 rFld p.flds)]
  | .inr e=>[(0,.box 98 [.lit (.slice none 0 0)]),(1,.box 34 [errF e.1 e.2])]
theorem prP_next {L : List Lne} {k : Nat} {p q : PSt} {l : Lne} (hk : k < L.length) (hl : L[k] = l) (h : prP L false k (.inl p)) (ht : yS p l = .inr q) : prP L false (k + 1) (.inl q):=by
  obtain ⟨h1,B,h2,h3⟩:=h;rw [List.drop_eq_getElem_cons hk,hl] at h1 h3;simp only [runS,ht] at h1;simp only [List.length_cons,List.map_cons,List.sum_cons] at h3;exact ⟨h1,_,takeS_B h2 ht,by omega⟩
theorem prP_stop {L : List Lne} {k : Nat} {p : PSt} {e : Int × Int} {l : Lne} (hk : k < L.length) (hl : L[k] = l) (h : prP L false k (.inl p)) (ht : yS p l = .inl e) : prP L true (k + 1) (.inr e):=by
  obtain ⟨h1,B,h2,h3⟩:=h;rw [List.drop_eq_getElem_cons hk,hl] at h1;simp only [runS,ht] at h1;exact h1
theorem prP_B {L : List Lne} {k : Nat} {p : PSt} {l : Lne} (hk : k < L.length) (hl : L[k] = l) (h : prP L false k (.inl p)) : PB p 800000 ∧ l.2.2.1.size ≤ 300000:=by
  obtain ⟨h1,B,h2,h3⟩:=h;rw [List.drop_eq_getElem_cons hk,hl] at h3;simp only [List.length_cons,List.map_cons,List.sum_cons] at h3;exact ⟨h2.mono (by omega),by omega⟩
theorem prP_end {L : List Lne} {p : PSt} (h : prP L false L.length (.inl p)) : runS pst0 L = .inr p ∧ PB p 1000000:=by
  obtain ⟨h1,B,h2,h3⟩:=h;rw [List.drop_length] at h1;exact ⟨h1,h2.mono (by omega)⟩
theorem linesT_sz {s : ByteArray} {k : Nat} (hk : k < (yC s).length) : ((yC s)[k]).2.2.1.size ≤ s.size:=by
  have h:=(linesT_len s).2;have h1 : (yC s) = (yC s).take k ++ (yC s)[k] :: (yC s).drop (k + 1):=by rw [← List.drop_eq_getElem_cons hk,List.take_append_drop]
  rw [h1,List.map_append,List.sum_append,List.map_cons,List.sum_cons] at h;omega
theorem parse_a (s : ByteArray) (hs : s.size ≤ 60000) : qU Tryz.prog 63 [is s] (resP (xG s)):=by
  have hlen:=linesT_len s;refine acall_ofc (rs:=[.cell 2 98,.cell 3 34]) Tryz.func63 rfl rfl rfl teOk rfl ?_;refine qC ?_;refine qB ?_;refine qC ?_;refine qC ?_;refine qB ?_;refine qK rfl (fun h10=>?_) (fun h10=>?_)
  ·try simp only [decide_eq_true_eq] at h10
   try simp only [zds] at h10
   omega
  ·try simp only [decide_eq_false_iff_not,Int.not_lt] at h10
   try simp only [zds] at h10
   refine qM ?_;refine qC ?_;refine qB ?_;refine qC ?_;refine qC ?_;refine yE 2 0 9 .str rfl rfl rfl ?_;refine yE 2 3 109 rItm rfl rfl rfl ?_;refine yE 2 4 9 .str rfl rfl rfl ?_;refine yE 2 5 82 rFld rfl rfl rfl ?_;refine qB ?_;refine Or.inl ?_;refine zai (rfl) ?_;refine zei _ (zai (split_c s) ?_);refine qO ?_;refine acode_range (caps:=[.one (.addr .str s)]) (xs:=itLs s) [(2,.one (.own 0 0)),(3,.one (.own 1 0)),(4,.one (.own 3 0)),(15,.one (.clo 129 (.addr .str s)))] 8 (prP (yC s)) obP (fun _=>.ret) (.inl pst0) rfl rfl (split_iter s (by omega)) (qQ ⟨rfl,rfl,rfl,rfl⟩ ⟨rfl,rfl,rfl,rfl,rfl,rfl,rfl,rfl⟩ rfl) ⟨rfl,0,⟨Nat.le_refl _,Nat.le_refl _,Nat.le_refl _,Nat.le_refl _,Nat.le_refl _,Nat.le_refl _,Int.le_refl _,Int.le_refl _⟩,by rw [List.drop_zero];omega⟩ (fun k hk=>by simp [itLs]) rfl rfl rfl (fun k i h=>by cases i with|inl p=>rfl|inr e=>exact h.elim) rfl ?_ ?_ ?_
   ·intro k i hk hp;have hk2 : k < (yC s).length:=(by have:=hk;unfold itLs at this;rwa [List.length_map] at this);rw [show (itLs s)[k] = [A.agg (toL rLne ((yC s)[k]))] from by simp [itLs]];obtain ⟨l,hl⟩ : ∃ l,(yC s)[k] = l:=⟨_,rfl⟩;rw [hl];cases i with|inr e=>exact hp.elim|inl p=>?_
    obtain ⟨hB,hz⟩:=prP_B hk2 hl hp;have hz2 : l.2.2.1.size ≤ 90000:=(by have h1:=linesT_sz hk2;rw [hl] at h1;omega);refine qB ?_;refine qO ?_;refine qC ?_;rcases ht : yS p l with ⟨at_,n⟩|q
    ·refine qB ?_;refine Or.inr (Or.inl (zei [] (zei [2,4,5,6,7] (zei _ (zei _ (zei _ (zei _ (zei _ (zai (take_err ht hB hz2) (zai rfl (zai (zai (zai rfl rfl) (zai (zai rfl rfl) (zai (zai rfl rfl) (zai (zai rfl rfl) (zai (zai rfl rfl) True.intro))))) (zai rfl ?_))))))))))));refine qC ?_;refine qB ?_;refine qK rfl (fun h21=>?_) (fun h21=>?_)
     ·skip
      refine qC ?_;refine qB ?_;refine qL ?_;exact ⟨.inr (at_,n),prP_stop hk2 hl hp ht,rfl,qQ trivial ⟨rfl,rfl⟩ rfl⟩
     ·try simp only [zbq] at h21
      try simp only [zds] at h21
      cases h21
    ·refine qB ?_;refine Or.inr (Or.inl (zei [] (zei [2,4,5,6,7] (zei _ (zei _ (zei _ (zei _ (zei _ (zai (take_ok ht hB hz2) (zai rfl (zai (zai (zai rfl rfl) (zai (zai rfl rfl) (zai (zai rfl rfl) (zai (zai rfl rfl) (zai (zai rfl rfl) True.intro))))) (zai rfl ?_))))))))))));refine qC ?_;refine qB ?_;refine qK rfl (fun h21=>?_) (fun h21=>?_)
     ·try simp only [Bool.not_eq_true'] at h21
      try simp only [zds] at h21
      cases h21
     ·try simp only [Bool.not_eq_false'] at h21
      try simp only [zds] at h21
      refine qM ?_;exact ⟨.inl q,prP_next hk2 hl hp ht,qQ trivial ⟨rfl,rfl,rfl,rfl,rfl,rfl,rfl,rfl⟩ rfl⟩
   ·intro i hp;cases i with|inr e=>exact hp.elim|inl p=>?_
    rw [show (itLs s).length = (yC s).length from by simp [itLs]] at hp;obtain ⟨hr,hB⟩:=prP_end hp;refine qC ?_;refine qC ?_;rcases he : endS p with ⟨at_,n⟩|q
    ·refine qB ?_;refine Or.inr (Or.inl (zei [] (zei [2,4,5,6,7] (zei _ (zei _ (zei _ (zei _ (zei _ (zai (end_err he hB) (zai rfl (zai (zai (zai rfl rfl) (zai (zai rfl rfl) (zai (zai rfl rfl) (zai (zai rfl rfl) (zai (zai rfl rfl) True.intro))))) (zai rfl ?_))))))))))));refine qC ?_;refine qB ?_;refine qK rfl (fun h26=>?_) (fun h26=>?_)
     ·skip
      refine qC ?_;refine qB ?_;refine yE 0 0 109 rItm rfl rfl rfl ?_;refine qL ?_;rw [show xG s = .inl (at_,n) from by unfold xG;rw [hr];simp only [he]];exact rfl
     ·try simp only [zbq] at h26
      try simp only [zds] at h26
      cases h26
    ·refine qB ?_;refine Or.inr (Or.inl (zei [] (zei [2,4,5,6,7] (zei _ (zei _ (zei _ (zei _ (zei _ (zai (end_ok he hB) (zai rfl (zai (zai (zai rfl rfl) (zai (zai rfl rfl) (zai (zai rfl rfl) (zai (zai rfl rfl) (zai (zai rfl rfl) True.intro))))) (zai rfl ?_))))))))))));refine qC ?_;refine qB ?_;refine qK rfl (fun h26=>?_) (fun h26=>?_)
     ·try simp only [Bool.not_eq_true'] at h26
      try simp only [zds] at h26
      cases h26
     ·try simp only [Bool.not_eq_false'] at h26
      try simp only [zds] at h26
      refine qM ?_;refine qC ?_;refine qB ?_;refine qL ?_;rw [show xG s = .inr q.its from by unfold xG;rw [hr];simp only [he]];exact rfl
   ·intro k i hp;cases i with|inl p=>exact hp.elim|inr e=>?_
    have hp : runS pst0 (yC s) = .inl e:=hp;refine yE 0 0 109 rItm rfl rfl rfl ?_;refine qL ?_;rw [show xG s = .inl e from by unfold xG;rw [hp]];exact rfl
def oneL (k : Nat) : List UInt8:=(List.replicate k [65,58,10]).flatten
def manyL (k : Nat) : List UInt8:=(List.replicate k [65,58,10,10]).flatten
def PClean (p : PSt) (r : Int) : Prop:=p.lns = [] ∧ p.blk = [] ∧ p.flds = [] ∧ p.recs = r
theorem linesR_cons (f : Nat) (tot no : Int) (a : UInt8) (r : List UInt8) : linesR (f + 1) tot no (a :: r) = (no,tot - ((a :: r).length : Nat),bytes (Lib.cut (a :: r) [10]).1,(Lib.cut (a :: r) [10]).2.2) :: linesR f tot (no + 1) (Lib.cut (a :: r) [10]).2.1:=rfl
def linesB : Nat → List UInt8 → List (ByteArray × Bool)
  | 0,_=>[]
  | f + 1,s=>match s with
    | []=>[]
    | s=>(bytes (Lib.cut s [10]).1,(Lib.cut s [10]).2.2) :: linesB f (Lib.cut s [10]).2.1
theorem linesB_cons (f : Nat) (a : UInt8) (r : List UInt8) : linesB (f + 1) (a :: r) = (bytes (Lib.cut (a :: r) [10]).1,(Lib.cut (a :: r) [10]).2.2) :: linesB f (Lib.cut (a :: r) [10]).2.1:=rfl
theorem texts_linesR : ∀ (f : Nat) (tot no : Int) (s : List UInt8),(linesR f tot no s).map (·.2.2) = linesB f s
  | 0,_,_,_=>rfl
  | f + 1,_,_,[]=>rfl
  | f + 1,tot,no,a :: r=>by rw [linesR_cons,linesB_cons,List.map_cons,texts_linesR]
def glue : List (ByteArray × Bool) → List UInt8
  | []=>[]
  | l :: r=>ls l.1 ++ ((if l.2 then [10] else []) ++ glue r)
theorem cut_cases {a : UInt8} {s : List UInt8} {c : UInt8} : (∃ x b,a :: s = x ++ c :: b ∧ c ∉ x ∧ Lib.cut (a :: s) [c] = (x,b,true)) ∨ (c ∉ a :: s ∧ Lib.cut (a :: s) [c] = (a :: s,[],false)):=by
  by_cases hm : c ∈ a :: s
  · obtain ⟨x,b,e,hn⟩:=List.eq_append_cons_of_mem hm;exact .inl ⟨x,b,e,hn,by rw [e];exact cut_at hn⟩
  · exact .inr ⟨hm,cut_none hm⟩
theorem glue_lines : ∀ (f : Nat) (s : List UInt8),s.length ≤ f → glue (linesB f s) = s
  | 0,s,h=>by
    obtain rfl:=List.eq_nil_of_length_eq_zero (Nat.le_zero.1 h);rfl
  | f + 1,[],_=>rfl
  | f + 1,a :: r,h=>by
    have h3:=cut_less (r:=a :: r) (c:=10) (by simp);rw [linesB_cons];simp only [glue];rw [glue_lines f _ (by omega)];rcases cut_cases (a:=a) (s:=r) (c:=10) with ⟨x,b,e,_,hc⟩|⟨_,hc⟩
    · rw [hc,e];simp [yD]
    · rw [hc];simp [yD]
theorem linesB_no : ∀ (f : Nat) (s : List UInt8),∀ l ∈ linesB f s,(10 : UInt8) ∉ ls l.1
  | 0,_,l,hl=>by cases hl
  | f + 1,[],l,hl=>by cases hl
  | f + 1,a :: r,l,hl=>by
    rw [linesB_cons] at hl;rcases List.mem_cons.1 hl with rfl|hl
    · rcases cut_cases (a:=a) (s:=r) (c:=10) with ⟨x,b,e,hn,hc⟩|⟨hn,hc⟩
      · rw [hc];simpa [yD] using hn
      · rw [hc];simpa [yD] using hn
    · exact linesB_no f _ l hl
structure Rel (I : List Itm) (c : Int) (p q : PSt) : Prop where
  lns : p.lns = q.lns
  full : q.full = true → p.full = true
  its : p.its = I ++ q.its
  blk : p.blk = q.blk
  flds : p.flds = q.flds
  recs : p.recs = q.recs + c
  c0 : 0 ≤ c
  r4 : p.recs ≤ 400
  rf : p.flds ≠ [] → p.recs < 400
  rl : p.lns ≠ [] → p.full = false → p.recs < 400
section
variable {I : List Itm} {c : Int} {p q p1 : PSt}
theorem flush_lns (hf : yP p = .inr p1) : p1.lns = []:=by
  unfold yP at hf;split at hf
  · rename_i h;cases hf;exact h
  · split at hf
    · cases hf
    · split at hf
      · cases hf
      · cases hf;rfl
theorem flush_rel (h : Rel I c p q) (hf : yP p = .inr p1) : ∃ q1,yP q = .inr q1 ∧ Rel I c p1 q1:=by
  unfold yP at hf ⊢
  by_cases h0 : p.lns = []
  · rw [if_pos h0] at hf;cases hf;rw [if_pos (by rw [← h.lns];exact h0)];exact ⟨_,rfl,h⟩
  · rw [if_neg h0] at hf;rw [if_neg (by rw [← h.lns];exact h0),← h.lns];split at hf
    · cases hf
    · rename_i h1;rw [if_neg h1];split at hf
      · cases hf
      · rename_i h2;cases hf;have h3 : p.full = false:=by simpa using h2
        have h4 : ¬ q.full = true:=fun e=>h2 (h.full e)
        rw [if_neg h4];exact ⟨_,rfl,rfl,h.full,h.its,h.blk,by simp only [h.flds],h.recs,h.c0,h.r4,fun _=>h.rl h0 h3,fun e=>absurd rfl e⟩
theorem close_rel (h : Rel I c p q) (hl : p.lns = []) : Rel I c (xS p) (xS q):=by
  unfold xS;rw [← h.blk,← h.flds];split
  · exact ⟨h.lns,h.full,h.its,rfl,rfl,h.recs,h.c0,h.r4,fun e=>absurd rfl e,fun e=>absurd hl e⟩
  · by_cases hf : p.flds = []
    · simp only [if_pos hf];exact ⟨h.lns,h.full,by simp only [h.its,List.append_assoc],rfl,rfl,h.recs,h.c0,h.r4,fun e=>absurd rfl e,fun e=>absurd hl e⟩
    · have h1:=h.rf hf;have h2:=h.recs;simp only [if_neg hf];exact ⟨h.lns,h.full,by simp only [h.its,List.append_assoc],rfl,rfl,by simp only;omega,h.c0,by simp only;omega,fun e=>absurd rfl e,fun e=>absurd hl e⟩
theorem end_rel (h : Rel I c p q) (hf : endS p = .inr p1) : ∃ q1,endS q = .inr q1 ∧ Rel I c p1 q1:=by
  unfold endS at hf ⊢;cases e : yP p with
  | inl x=>rw [e] at hf;cases hf
  | inr r =>
    rw [e] at hf;cases hf;obtain ⟨q1,e1,h1⟩:=flush_rel h e;rw [e1];exact ⟨_,rfl,close_rel h1 (flush_lns e)⟩
theorem begin_rel {a b a' b' : Int} {t : ByteArray × Bool} (h : Rel I c p q) : Rel I c (xP p (a,b,t)) (xP q (a',b',t)):=by
  have h1:=h.recs;have h2:=h.c0;have h3:=h.r4;refine ⟨rfl,fun e=>?_,h.its,h.blk,h.flds,h.recs,h.c0,h.r4,h.rf,fun _ e=>?_⟩
  · simp only [xP,← h.flds,Bool.or_eq_true,Bool.and_eq_true,decide_eq_true_eq] at e ⊢;rcases e with e|⟨e1,e2⟩
    · exact .inl e
    · exact .inr ⟨e1,by omega⟩
  · simp only [xP,Bool.or_eq_false_iff,Bool.and_eq_false_iff,decide_eq_false_iff_not] at e ⊢
    by_cases hf : p.flds = []
    · rcases e.2 with e|e
      · rw [hf] at e;simp at e
      · omega
    · exact h.rf hf
theorem more_rel {t : ByteArray} (h : Rel I c p q) (h0 : p.lns ≠ []) : Rel I c { p with lns:=p.lns ++ [t] } { q with lns:=q.lns ++ [t] } :=
  ⟨by simp only [h.lns],h.full,h.its,h.blk,h.flds,h.recs,h.c0,h.r4,h.rf,fun _ e=>h.rl h0 e⟩
theorem ahead_rel {a b a' b' : Int} {t : ByteArray × Bool} {k : Int} (h : Rel I c p q) (hf : yR p (a,b,t) k = .inr p1) : ∃ q1,yR q (a',b',t) k = .inr q1 ∧ Rel I c p1 q1:=by
  unfold yR at hf ⊢;split at hf
  · rename_i hk;rw [if_pos hk]
    by_cases h0 : p.lns = []
    · rw [if_pos h0] at hf;cases hf
    · rw [if_neg h0] at hf;rw [if_neg (by rw [← h.lns];exact h0)];split at hf
      · rename_i he;rw [if_pos he];cases hf;exact ⟨_,rfl,more_rel h h0⟩
      · rename_i he;rw [if_neg he];exact flush_rel (more_rel h h0) hf
  · rename_i hk;rw [if_neg hk];split at hf
    · rename_i h1;rw [if_pos h1];exact end_rel h hf
    · rename_i h1;rw [if_neg h1];exact flush_rel h hf
theorem take_rel {a b a' b' : Int} {t : ByteArray × Bool} (h : Rel I c p q) (hf : yS p (a,b,t) = .inr p1) : ∃ q1,yS q (a',b',t) = .inr q1 ∧ Rel I c p1 q1:=by
  unfold yS at hf ⊢;simp only at hf ⊢;cases e : yR p (a,b,t) (yB (ls t.1)) with
  | inl x=>rw [e] at hf;cases hf
  | inr r =>
    rw [e] at hf;obtain ⟨r',e1,h1⟩:=ahead_rel (a':=a') (b':=b') h e;rw [e1];simp only at hf ⊢;unfold lineS at hf ⊢;split at hf
    · cases hf
    · rename_i g1;rw [if_neg g1];split at hf
      · rename_i g2;rw [if_pos g2];cases hf;exact ⟨_,rfl,h1.lns,h1.full,by simp only [h1.its,List.append_assoc],h1.blk,h1.flds,h1.recs,h1.c0,h1.r4,h1.rf,h1.rl⟩
      · rename_i g2;rw [if_neg g2];split at hf
        · rename_i g3;rw [if_pos g3];cases hf;have h2:=begin_rel (a:=a) (b:=b) (a':=a') (b':=b') (t:=t) h1;exact ⟨_,rfl,h2.lns,h2.full,h2.its,by simp only [h1.blk],h2.flds,h2.recs,h2.c0,h2.r4,h2.rf,h2.rl⟩
        · rename_i g3;rw [if_neg g3];cases hf;exact ⟨_,rfl,h1.lns,h1.full,h1.its,by simp only [h1.blk],h1.flds,h1.recs,h1.c0,h1.r4,h1.rf,h1.rl⟩
end
def szI (l : List Itm) : Nat:=(l.map (·.2.1.size)).sum
def szB (l : List ByteArray) : Nat:=(l.map (fun b=>b.size + 1)).sum
def rawN (p : PSt) : Nat:=szI p.its + szB p.blk
def Idle (p : PSt) : Prop:=p.lns = [] ∧ p.blk = [] ∧ p.flds = []
theorem szI_app (a b : List Itm) : szI (a ++ b) = szI a + szI b:=by simp [szI]
theorem szB_app (a b : List ByteArray) : szB (a ++ b) = szB a + szB b:=by simp [szB]
theorem join_eq (c : UInt8) : ∀ (l : List ByteArray),l ≠ [] → (Lib.join (l.map (·.data.toList)) [c]).length + 1 = szB l
  | [],h=>absurd rfl h
  | [a],_=>by
    rw [List.map_cons,List.map_nil,show Lib.join [a.data.toList] [c] = a.data.toList from by simp [Lib.join]];rw [← yA];simp [szB]
  | a :: b :: r,_=>by
    have:=join_eq c (b :: r) (by simp);rw [List.map_cons] at this;rw [List.map_cons,List.map_cons,join_two];simp only [List.length_append,List.length_cons,List.length_nil,szB,List.map_cons,List.sum_cons,← yA] at this ⊢;omega
theorem rawB_size {l : List ByteArray} (h : l ≠ []) : (rawB l).size = szB l:=by
  have:=join_eq 10 l h;unfold rawB;rw [ByteArray.size_append,yL];exact this
theorem flush_same {p q : PSt} (h : yP p = .inr q) : q.its = p.its ∧ q.blk = p.blk:=by
  unfold yP at h;split at h
  · cases h;exact ⟨rfl,rfl⟩
  · split at h
    · cases h
    · split at h
      · cases h
      · cases h;exact ⟨rfl,rfl⟩
theorem close_took (p : PSt) : (∃ X,(xS p).its = p.its ++ X ∧ ∀ x ∈ X,x.1 ≠ 1) ∧ rawN (xS p) = rawN p ∧ (xS p).blk = [] ∧ (xS p).flds = [] ∧ (xS p).lns = p.lns:=by
  unfold xS;split
  · rename_i h;exact ⟨⟨[],by simp,by simp⟩,by simp [rawN,h],rfl,rfl,rfl⟩
  · rename_i h;refine ⟨⟨_,rfl,fun x hx=>?_⟩,?_,rfl,rfl,rfl⟩
    · rw [List.mem_singleton.1 hx];simp only;split <;> decide
    · simp only [rawN,szI_app];simp only [szI,List.map_cons,List.map_nil,List.sum_cons,List.sum_nil,rawB_size h];simp [szB]
theorem end_took {p q : PSt} (h : endS p = .inr q) : (∃ X,q.its = p.its ++ X ∧ ∀ x ∈ X,x.1 ≠ 1) ∧ rawN q = rawN p ∧ Idle q:=by
  unfold endS at h;cases e : yP p with
  | inl x=>rw [e] at h;cases h
  | inr r =>
    rw [e] at h;cases h;obtain ⟨h1,h2⟩:=flush_same e;obtain ⟨h3,h4,h5,h6,h7⟩:=close_took r;rw [h1] at h3;refine ⟨h3,?_,h7.trans (flush_lns e),h5,h6⟩;rw [h4];unfold rawN;rw [h1,h2]
theorem ahead_took {p q : PSt} {l : Lne} {k : Int} (h : yR p l k = .inr q) : (∃ X,q.its = p.its ++ X ∧ ∀ x ∈ X,x.1 ≠ 1) ∧ rawN q = rawN p ∧ (k = 1 → Idle q):=by
  unfold yR at h;split at h
  · rename_i hk;subst hk;split at h
    · cases h
    · split at h
      · cases h;exact ⟨⟨[],by simp,by simp⟩,rfl,fun e=>by cases e⟩
      · obtain ⟨h1,h2⟩:=flush_same h;exact ⟨⟨[],by simp [h1],by simp⟩,by unfold rawN;rw [h1,h2],fun e=>by cases e⟩
  · split at h
    · obtain ⟨h1,h2,h3⟩:=end_took h;exact ⟨h1,h2,fun _=>h3⟩
    · rename_i hk;obtain ⟨h1,h2⟩:=flush_same h;exact ⟨⟨[],by simp [h1],by simp⟩,by unfold rawN;rw [h1,h2],fun e=>absurd e hk⟩
theorem take_took {p q : PSt} {l : Lne} (h : yS p l = .inr q) : l.2.2.2 = true ∧ rawN q = rawN p + (l.2.2.1.size + 1) ∧ ∃ X Y,q.its = p.its ++ X ++ Y ∧ (∀ x ∈ X,x.1 ≠ 1) ∧ (Y = [] ∨ (∃ b,Y = [b]) ∧ Idle q):=by
  unfold yS at h;cases e : yR p l (yB (ls l.2.2.1)) with
  | inl x=>rw [e] at h;cases h
  | inr r =>
    rw [e] at h;obtain ⟨⟨X,h1,h2⟩,h3,h4⟩:=ahead_took e;simp only at h;unfold lineS at h;split at h
    · cases h
    · rename_i g0;have he : l.2.2.2 = true:=by
        cases e : l.2.2.2
        · exact absurd (.inr e) g0
        · rfl
      refine ⟨he,?_⟩;split at h
      · rename_i g1;cases h;obtain ⟨i1,i2,i3⟩:=h4 g1;refine ⟨?_,X,[(1,l.2.2.1 ++ ⟨#[10]⟩,[])],by simp only [h1],h2,.inr ⟨⟨_,rfl⟩,i1,i2,i3⟩⟩;rw [← h3];simp only [rawN,szI_app];simp only [szI,List.map_cons,List.map_nil,List.sum_cons,List.sum_nil,ByteArray.size_append];rw [show ByteArray.size ⟨#[10]⟩ = 1 from rfl];omega
      · split at h
        · cases h;refine ⟨?_,X,[],by simp [xP,h1],h2,.inl rfl⟩;rw [← h3];simp only [rawN,szB_app,xP];simp only [szB,List.map_cons,List.map_nil,List.sum_cons,List.sum_nil];omega
        · cases h;refine ⟨?_,X,[],by simp [h1],h2,.inl rfl⟩;rw [← h3];simp only [rawN,szB_app];simp only [szB,List.map_cons,List.map_nil,List.sum_cons,List.sum_nil];omega
def szL (L : List Lne) : Nat:=(L.map (fun l=>l.2.2.1.size + 1)).sum
theorem run_app : ∀ (L M : List Lne) (p q : PSt),runS p L = .inr q → runS p (L ++ M) = runS q M
  | [],M,p,q,h=>by cases h;rfl
  | l :: r,M,p,q,h=>by
    simp only [runS,List.cons_append] at h ⊢;cases e : yS p l with
    | inl x=>rw [e] at h;cases h
    | inr p1 =>
      rw [e] at h;exact run_app r M p1 q h
theorem rel_self {p : PSt} (I : List Itm) (h : Idle p) (hI : p.its = I) (h0 : 0 ≤ p.recs) (h4 : p.recs ≤ 400) : Rel I p.recs p pst0 :=
  ⟨h.1,(fun e=>by cases e),by rw [hI];simp [pst0],h.2.1,h.2.2,by simp [pst0],h0,h4,fun e=>absurd h.2.2 e,fun e=>absurd h.1 e⟩
theorem rel_0 : Rel [] 0 pst0 pst0:=⟨rfl,id,rfl,rfl,rfl,rfl,by decide,by decide,fun e=>absurd rfl e,fun e=>absurd rfl e⟩
theorem lines_text (s : ByteArray) : (yC s).map (·.2.2) = linesB s.size (ls s):=texts_linesR _ _ _ _
def mkL (t : ByteArray) : Lne:=(0,0,t,true)
def Ready (p : PSt) (F : List Fld) : Prop:=∃ q,yP p = .inr q ∧ q.lns = [] ∧ q.flds = F ∧ q.its = p.its ∧ q.recs = p.recs ∧ q.blk = p.blk
def foldsL (a b : List Fld) (n : List UInt8) : List ByteArray:=bytes (35 :: n) :: ((a.flatMap fun f=>lineB f.1 f.2) ++ (⟨#[]⟩ :: ((b.flatMap fun f=>lineB f.1 f.2) ++ [bytes (35 :: n)])))
def recsT (l : List Itm) : List (List Fld):=(l.filter fun x=>decide (x.1 = 3)).map (·.2.2)
def fldL (a : List Fld) : List ByteArray:=a.flatMap fun f=>lineB f.1 f.2
def textT : List (List Fld) → List ByteArray
  | []=>[]
  | [a]=>fldL a
  | a :: b :: r=>fldL a ++ (⟨#[]⟩ :: textT (b :: r))
def GoodS (a : List Fld) : Prop:=a ≠ [] ∧ a.length ≤ 40 ∧ ∀ f ∈ a,yV f = 0
def more (l : Lne) : Bool:=decide (yB (ls l.2.2.1) = 3)
def saidL (l : Lne) (r : List Lne) : List ByteArray:=l.2.2.1 :: (r.takeWhile more).map (·.2.2.1)
def xH (bh : Bool) (l : Lne) (r : List Lne) (fields recs : Int) : Int :=
  if yB (ls l.2.2.1) = 5 ∨ (yB (ls l.2.2.1) = 3 ∧ bh = false) ∨ l.2.2.2 = false then 2
  else if yB (ls l.2.2.1) ≠ 4 then 0
  else if (yH ((saidL l r).map ls)).2 ≠ 0 then (yH ((saidL l r).map ls)).2
  else if 40 ≤ fields ∨ (fields = 0 ∧ 400 ≤ recs) then 11
  else 0
structure RSt where
  kind : Int
  raw : ByteArray
  flds : List Fld
  out : List Itm
  recs : Int
def fldOf (L : List ByteArray) : Fld:=(bytes (yH (L.map ls)).1.1,bytes (yH (L.map ls)).1.2)
def yU (t : RSt) (l : Lne) (r : List Lne) : RSt :=
  if yB (ls l.2.2.1) = 1 then ⟨2,ByteArray.empty,[],(if t.raw = ByteArray.empty then t.out else t.out ++ [(t.kind,t.raw,t.flds)]) ++ [(1,l.2.2.1 ++ ⟨#[10]⟩,[])],t.recs⟩
  else if yB (ls l.2.2.1) = 4 then ⟨3,t.raw ++ l.2.2.1 ++ ⟨#[10]⟩,t.flds ++ [fldOf (saidL l r)],t.out,if t.kind = 2 then t.recs + 1 else t.recs⟩
  else { t with raw:=t.raw ++ l.2.2.1 ++ ⟨#[10]⟩ }
def runR (bh : Bool) (t : RSt) : List Lne → (Int × Int) ⊕ List Itm
  | []=>.inr (if t.raw = ByteArray.empty then t.out else t.out ++ [(t.kind,t.raw,t.flds)])
  | l :: r=>if xH bh l r t.flds.length t.recs ≠ 0 then .inl (l.1,xH bh l r t.flds.length t.recs)
    else runR (decide (yB (ls l.2.2.1) = 4) || decide (yB (ls l.2.2.1) = 3)) (yU t l r) r
def rst0 : RSt:=⟨2,ByteArray.empty,[],[],0⟩
def outP (p : PSt) (L : List Lne) : (Int × Int) ⊕ List Itm:=match runS p L with
  | .inl e=>.inl e
  | .inr q=>match endS q with
    | .inl e=>.inl e
    | .inr q=>.inr q.its
theorem outP_cons (p : PSt) (l : Lne) (r : List Lne) : outP p (l :: r) = match yS p l with
    | .inl e=>.inl e
    | .inr q=>outP q r:=by
  unfold outP;simp only [runS];cases yS p l <;> rfl
theorem parse_out (s : ByteArray) : xG s = outP pst0 (yC s):=rfl
def Ends : List Lne → Prop
  | []=>True
  | l :: r=>(l.2.2.2 = false → r = []) ∧ Ends r
theorem ends_linesR : ∀ (f : Nat) (tot no : Int) (s : List UInt8),Ends (linesR f tot no s)
  | 0,_,_,_=>trivial
  | f + 1,_,_,[]=>trivial
  | f + 1,tot,no,a :: r=>by
    rw [linesR_cons];refine ⟨fun h=>?_,ends_linesR f _ _ _⟩;rcases cut_cases (a:=a) (s:=r) (c:=10) with ⟨x,b,e,_,hc⟩|⟨_,hc⟩
    · rw [hc] at h;cases h
    · rw [hc];cases f <;> rfl
theorem not_more {l : Lne} (h : yB (ls l.2.2.1) ≠ 3) (r : List Lne) : (l :: r).takeWhile more = []:=by
  rw [List.takeWhile_cons_of_neg (by unfold more;simp [h])]
theorem is_more {l : Lne} (h : yB (ls l.2.2.1) = 3) (r : List Lne) : (l :: r).takeWhile more = l :: r.takeWhile more:=by
  rw [List.takeWhile_cons_of_pos (by unfold more;simp [h])]
theorem pend_err : ∀ (r : List Lne) (p : PSt) (at_ n : Int),Ends r → p.lns ≠ [] → (∀ q : PSt,q.lns = p.lns ++ (r.takeWhile more).map (·.2.2.1) → q.full = p.full → q.frm = p.frm → yP q = .inl (at_,n)) → outP p r = .inl (at_,n)
  | [],p,at_,n,_,h0,hf=>by
    have:=hf p (by simp) rfl rfl;unfold outP;simp only [runS,endS,this]
  | l :: r,p,at_,n,hE,h0,hf=>by
    rw [outP_cons]
    by_cases hm : yB (ls l.2.2.1) = 3
    · rw [is_more hm] at hf
      by_cases he : l.2.2.2 = true
      · have ht : yS p l = .inr { p with lns:=p.lns ++ [l.2.2.1],blk:=p.blk ++ [l.2.2.1] }:=by
          unfold yS;simp only [hm];simp [yR,lineS,h0,he]
        rw [ht];exact pend_err r _ at_ n hE.2 (by simp) (fun q h1 h2 h3=>hf q (by rw [h1];simp) h2 h3)
      · obtain rfl:=hE.1 (by simpa using he);have hfp:=hf { p with lns:=p.lns ++ [l.2.2.1] } (by simp) rfl rfl;have ht : yS p l = .inl (at_,n):=by
          unfold yS yR;rw [if_pos hm,if_neg h0,if_neg he,hfp]
        rw [ht]
    · rw [not_more hm] at hf;have hfp:=hf p (by simp) rfl rfl;have ht : yS p l = .inl (at_,n):=by
        unfold yS yR;rw [if_neg hm];unfold endS;rw [hfp];simp
      rw [ht]
def rawC (b : List ByteArray) : ByteArray:=bytes (endL (b.map ls))
theorem rawC_snoc (b : List ByteArray) (x : ByteArray) : rawC (b ++ [x]) = rawC b ++ x ++ ⟨#[10]⟩:=by
  unfold rawC endL;rw [List.map_append,List.flatMap_append,bytes_app,ByteArray.append_assoc]
  congr 1
  simp only [List.map_cons,List.map_nil,List.flatMap_cons,List.flatMap_nil,List.append_nil];rw [bytes_app,bytes_ls];rfl
theorem join_endL (c : UInt8) : ∀ (l : List (List UInt8)),l ≠ [] → Lib.join l [c] ++ [c] = l.flatMap fun s=>s ++ [c]
  | [],h=>absurd rfl h
  | [a],_=>by rw [Lib.join_one];simp
  | a :: b :: r,_=>by
    have:=join_endL c (b :: r) (by simp);rw [join_two,List.flatMap_cons,← this];simp
theorem rawB_C {b : List ByteArray} (h : b ≠ []) : rawB b = rawC b:=by
  unfold rawB rawC endL;rw [show b.map ls = b.map (·.data.toList) from rfl,← join_endL 10 (b.map (·.data.toList)) (by simpa using h),bytes_app];rfl
theorem rawC_nil {b : List ByteArray} : rawC b = ByteArray.empty ↔ b = []:=by
  refine ⟨fun h=>?_,fun h=>by rw [h];rfl⟩;cases b with
  | nil=>rfl
  | cons x r =>
    have:=congrArg ByteArray.size h;unfold rawC endL at this;rw [yL] at this;simp at this
structure Alike (p : PSt) (t : RSt) (bh : Bool) (L : List Lne) : Prop where
  its : t.out = p.its
  raw : t.raw = rawC p.blk
  bh : bh = true ↔ p.lns ≠ []
  flds : t.flds = p.flds ++ (if p.lns = [] then [] else [fldOf (p.lns ++ (L.takeWhile more).map (·.2.2.1))])
  kind : t.kind = if t.flds = [] then 2 else 3
  recs : t.recs = p.recs + (if t.flds = [] then 0 else 1)
  pend : p.lns ≠ [] → p.full = false ∧ (yH ((p.lns ++ (L.takeWhile more).map (·.2.2.1)).map ls)).2 = 0
  blk0 : p.blk = [] → t.flds = []
  r4 : p.recs ≤ 400
  rf : t.flds ≠ [] → p.recs < 400
  f40 : t.flds.length ≤ 40
section
variable {p : PSt} {t : RSt} {bh : Bool} {L : List Lne}
theorem alike_flush (h : Alike p t bh L) (hL : L.takeWhile more = []) : ∃ q,yP p = .inr q ∧ q.lns = [] ∧ q.flds = t.flds ∧ q.its = p.its ∧ q.blk = p.blk ∧ q.recs = p.recs:=by
  by_cases h0 : p.lns = []
  · refine ⟨p,by unfold yP;rw [if_pos h0],h0,?_,rfl,rfl,rfl⟩;rw [h.flds,if_pos h0,List.append_nil]
  · obtain ⟨h1,h2⟩:=h.pend h0;rw [hL,List.map_nil,List.append_nil] at h2;refine ⟨{ p with flds:=p.flds ++ [(bytes (yH (p.lns.map ls)).1.1,bytes (yH (p.lns.map ls)).1.2)],lns:=[] },?_,rfl,?_,rfl,rfl,rfl⟩
    · unfold yP;rw [if_neg h0,if_neg (by rw [h2];simp),if_neg (by rw [h1];simp)]
    · rw [h.flds,if_neg h0,hL];simp [fldOf]
theorem alike_end (h : Alike p t bh L) (hL : L.takeWhile more = []) : ∃ q,endS p = .inr q ∧ q.lns = [] ∧ q.flds = [] ∧ q.blk = [] ∧ q.its = (if t.raw = ByteArray.empty then t.out else t.out ++ [(t.kind,t.raw,t.flds)]) ∧ q.recs = t.recs:=by
  obtain ⟨q,f1,f2,f3,f4,f5,f6⟩:=alike_flush h hL;refine ⟨xS q,by unfold endS;rw [f1],?_⟩;unfold xS
  by_cases hb : p.blk = []
  · have hraw : t.raw = ByteArray.empty:=by rw [h.raw];exact rawC_nil.2 hb
    rw [if_pos (f5.trans hb),if_pos hraw];refine ⟨f2,rfl,rfl,by rw [h.its];exact f4,?_⟩;rw [h.recs,if_pos (h.blk0 hb),Int.add_zero];exact f6
  · have hraw : ¬ t.raw = ByteArray.empty:=fun e=>hb (rawC_nil.1 (by rw [← h.raw];exact e))
    rw [if_neg (by rw [f5];exact hb),if_neg hraw];refine ⟨f2,rfl,rfl,?_,?_⟩
    · simp only [h.its,h.kind,h.raw,rawB_C hb,f3,f4,f5]
    · simp only [f3,f6];rw [h.recs]
      by_cases hf : t.flds = []
      · simp [hf]
      · simp [hf]
end
theorem run_eq : ∀ (L : List Lne) (p : PSt) (t : RSt) (bh : Bool),Ends L → Alike p t bh L → outP p L = runR bh t L
  | [],p,t,bh,_,h=>by
    obtain ⟨q,e,_,_,_,h1,_⟩:=alike_end h rfl;unfold outP;simp only [runS,e,h1];rfl
  | l :: r,p,t,bh,hE,h=>by
    rw [outP_cons];unfold runR
    by_cases h3 : yB (ls l.2.2.1) = 3
    · by_cases hb : p.lns = []
      · have hbh : bh = false:=by
          cases bh
          · rfl
          · exact absurd hb (h.bh.1 rfl)
        have hw : xH bh l r t.flds.length t.recs = 2:=by
          unfold xH;rw [if_pos (.inr (.inl ⟨h3,hbh⟩))]
        have ht : yS p l = .inl (l.1,2):=by
          unfold yS yR;rw [if_pos h3,if_pos hb]
        rw [hw,ht];rfl
      · have hbh : bh = true:=h.bh.2 hb;obtain ⟨h5,h6⟩:=h.pend hb;rw [is_more h3] at h6
        by_cases he : l.2.2.2 = true
        · have hw : xH bh l r t.flds.length t.recs = 0:=by
            unfold xH;rw [if_neg (by simp [h3,hbh,he]),if_pos (by rw [h3];decide)]
          have ht : yS p l = .inr { p with lns:=p.lns ++ [l.2.2.1],blk:=p.blk ++ [l.2.2.1] }:=by
            unfold yS;simp only [h3];simp [yR,lineS,hb,he]
          rw [hw,ht,if_neg (by decide)];refine run_eq r _ _ _ hE.2 ?_;have hfl:=h.flds;rw [if_neg hb,is_more h3] at hfl;have hne : t.flds ≠ []:=by rw [hfl];simp
          unfold yU;rw [if_neg (by rw [h3];decide),if_neg (by rw [h3];decide)];exact ⟨h.its,by simp only [h.raw,rawC_snoc],by simp [h3],by simp only;rw [hfl,if_neg (by simp)];simp,h.kind,h.recs,fun _=>⟨h5,by simpa using h6⟩,fun e=>by simp at e,h.r4,h.rf,h.f40⟩
        · have he' : l.2.2.2 = false:=by simpa using he
          obtain rfl:=hE.1 he';have hw : xH bh l [] t.flds.length t.recs = 2:=by
            unfold xH;rw [if_pos (.inr (.inr he'))]
          have ht : yS p l = .inl (l.1,2):=by
            have : yR p l 3 = .inr { p with flds:=p.flds ++ [(bytes (yH ((p.lns ++ [l.2.2.1]).map ls)).1.1,bytes (yH ((p.lns ++ [l.2.2.1]).map ls)).1.2)],lns:=[] }:=by
              unfold yR;rw [if_pos rfl,if_neg hb,if_neg he];unfold yP;simp only [List.takeWhile_nil,List.map_cons,List.map_nil] at h6;rw [if_neg (by simp),if_neg (by simp only [ne_eq,h6];simp),if_neg (by simp [h5])]
            unfold yS;rw [h3,this];simp [lineS,he']
          rw [hw,ht];rfl
    · have hno:=not_more h3 r
      by_cases h1 : yB (ls l.2.2.1) = 1
      · obtain ⟨q,e,e1,e2,e3,e4,e5⟩:=alike_end h hno
        by_cases he : l.2.2.2 = true
        · have hw : xH bh l r t.flds.length t.recs = 0:=by
            unfold xH;rw [if_neg (by simp [h1,he]),if_pos (by rw [h1];decide)]
          have ht : yS p l = .inr { q with its:=q.its ++ [(1,l.2.2.1 ++ ⟨#[10]⟩,[])] }:=by
            unfold yS yR;rw [if_neg h3,if_pos h1,e];simp [lineS,h1,he]
          rw [hw,ht,if_neg (by decide)];refine run_eq r _ _ _ hE.2 ?_;unfold yU;rw [if_pos h1];refine ⟨by simp only [e4],by rw [e3];rfl,by simp [h1,e1],by simp [e1,e2],rfl,by simp [e5],fun h=>absurd e1 h,fun _=>rfl,?_,fun e=>absurd rfl e,by simp⟩;simp only [e5,h.recs];split
          · have:=h.r4;omega
          · rename_i hf;have:=h.rf hf;omega
        · have he' : l.2.2.2 = false:=by simpa using he
          have hw : xH bh l r t.flds.length t.recs = 2:=by
            unfold xH;rw [if_pos (.inr (.inr he'))]
          have ht : yS p l = .inl (l.1,2):=by
            unfold yS yR;rw [if_neg h3,if_pos h1,e];simp [lineS,he']
          rw [hw,ht];rfl
      · obtain ⟨q,f1,f2,f3,f4,f5,f6⟩:=alike_flush h hno;have hah : yR p l (yB (ls l.2.2.1)) = .inr q:=by
          unfold yR;rw [if_neg h3,if_neg h1,f1]
        by_cases hbad : yB (ls l.2.2.1) = 5 ∨ l.2.2.2 = false
        · have hw : xH bh l r t.flds.length t.recs = 2:=by
            unfold xH;rw [if_pos (hbad.elim .inl (fun h=>.inr (.inr h)))]
          have ht : yS p l = .inl (l.1,2):=by
            unfold yS lineS;rw [hah];simp only;rw [if_pos hbad]
          rw [hw,ht];rfl
        · have hb5 : yB (ls l.2.2.1) ≠ 5:=fun e=>hbad (.inl e)
          have he : l.2.2.2 = true:=by
            cases e : l.2.2.2
            · exact absurd (.inr e) hbad
            · rfl
          by_cases h4 : yB (ls l.2.2.1) = 4
          · have ht : yS p l = .inr { xP q l with blk:=q.blk ++ [l.2.2.1] }:=by
              unfold yS lineS;rw [hah];simp only;rw [if_neg hbad,if_neg h1,if_pos h4]
            have hfull : ((decide ((q.flds.length : Int) = 40) || (decide ((q.flds.length : Int) = 0) && decide (q.recs = 400))) = true) ↔ (40 ≤ (t.flds.length : Int) ∨ ((t.flds.length : Int) = 0 ∧ 400 ≤ t.recs)):=by
              have g1:=h.f40;have g2:=h.r4;have g3:=h.recs;rw [f3,f6];simp only [Bool.or_eq_true,Bool.and_eq_true,decide_eq_true_eq]
              constructor
              · rintro (g|⟨g,g'⟩)
                · exact .inl (by omega)
                · refine .inr ⟨g,?_⟩;rw [if_pos (List.eq_nil_of_length_eq_zero (by omega))] at g3;omega
              · rintro (g|⟨g,g'⟩)
                · exact .inl (by omega)
                · refine .inr ⟨g,?_⟩;rw [if_pos (List.eq_nil_of_length_eq_zero (by omega))] at g3;omega
            rw [ht]
            by_cases hu : (yH ((saidL l r).map ls)).2 = 0
            · by_cases hfu : 40 ≤ (t.flds.length : Int) ∨ ((t.flds.length : Int) = 0 ∧ 400 ≤ t.recs)
              · have hw : xH bh l r t.flds.length t.recs = 11:=by
                  unfold xH;rw [if_neg (by simp [h4,he]),if_neg (by simp [h4]),if_neg (by simp [hu]),if_pos hfu]
                rw [hw,if_pos (by decide)];refine pend_err r _ l.1 11 hE.2 (by simp [xP]) (fun q' g1 g2 g3=>?_);have g1' : q'.lns = saidL l r:=g1;have g2' : q'.full = true:=g2.trans (hfull.2 hfu);have g3' : q'.frm = l.1:=g3;unfold yP;rw [g1',if_neg (by unfold saidL;simp),if_neg (by simp [hu]),if_pos g2',g3']
              · have hw : xH bh l r t.flds.length t.recs = 0:=by
                  unfold xH;rw [if_neg (by simp [h4,he]),if_neg (by simp [h4]),if_neg (by simp [hu]),if_neg hfu]
                rw [hw,if_neg (by decide)];refine run_eq r _ _ _ hE.2 ?_;have hff : (decide ((q.flds.length : Int) = 40) || (decide ((q.flds.length : Int) = 0) && decide (q.recs = 400))) = false:=by
                  cases e : (decide ((q.flds.length : Int) = 40) || (decide ((q.flds.length : Int) = 0) && decide (q.recs = 400)))
                  · rfl
                  · exact absurd (hfull.1 e) hfu
                unfold yU;rw [if_neg h1,if_pos h4];refine ⟨by simp only [xP,h.its,f4],by simp only [h.raw,rawC_snoc,f5],by simp [h4,xP],?_,by simp,?_,fun _=>⟨hff,hu⟩,fun e=>by simp at e,?_,fun _=>?_,?_⟩
                · simp only [xP,f3];rw [if_neg (by simp)];rfl
                · simp only [xP,f6];have g3:=h.recs;have g4:=h.kind
                  by_cases hf : t.flds = []
                  · rw [if_pos hf] at g3 g4;rw [if_pos g4,if_neg (by simp),g3];omega
                  · rw [if_neg hf] at g3 g4;rw [if_neg (by rw [g4];decide),if_neg (by simp),g3]
                · simp only [xP,f6];exact h.r4
                · simp only [xP,f6]
                  by_cases hf : t.flds = []
                  · have g3:=h.recs;rw [if_pos hf] at g3;have : ¬ 400 ≤ t.recs:=fun e=>hfu (.inr ⟨by rw [hf];rfl,e⟩)
                    omega
                  · exact h.rf hf
                · rw [List.length_append,List.length_singleton];have : ¬ 40 ≤ (t.flds.length : Int):=fun e=>hfu (.inl e)
                  omega
            · have hw : xH bh l r t.flds.length t.recs = (yH ((saidL l r).map ls)).2:=by
                unfold xH;rw [if_neg (by simp [h4,he]),if_neg (by simp [h4]),if_pos hu]
              rw [hw,if_pos hu];refine pend_err r _ l.1 _ hE.2 (by simp [xP]) (fun q' g1 g2 g3=>?_);have g1' : q'.lns = saidL l r:=g1;have g3' : q'.frm = l.1:=g3;unfold yP;rw [g1',if_neg (by unfold saidL;simp),if_pos hu,g3']
          · have hw : xH bh l r t.flds.length t.recs = 0:=by
              unfold xH;rw [if_neg (by simp [h3,hb5,he]),if_pos h4]
            have ht : yS p l = .inr { q with blk:=q.blk ++ [l.2.2.1] }:=by
              unfold yS lineS;rw [hah];simp only;rw [if_neg hbad,if_neg h1,if_neg h4]
            rw [hw,ht,if_neg (by decide)];refine run_eq r _ _ _ hE.2 ?_;unfold yU;rw [if_neg h1,if_neg h4];exact ⟨by simp only [h.its,f4],by simp only [h.raw,rawC_snoc,f5],by simp [h3,h4,f2],by simp [f2,f3],h.kind,by simp only [f6];exact h.recs,fun e=>absurd f2 e,fun e=>by simp at e,by simp only [f6];exact h.r4,by simp only [f6];exact h.rf,h.f40⟩
theorem parse_ref (s : ByteArray) : xG s = runR false rst0 (yC s):=by
  rw [parse_out];exact run_eq _ _ _ _ (ends_linesR _ _ _ _) ⟨rfl,rfl,by simp [pst0],by simp [rst0,pst0],rfl,rfl,fun e=>absurd rfl e,fun _=>rfl,by decide,fun e=>absurd rfl e,by simp [rst0]⟩
theorem no_step {l : List UInt8} {i : Nat} (h : (10 : UInt8) ∉ l.take i) (hi : i < l.length) (h2 : ¬ ((l.getD i 0).toNat : Int) = 10) : (10 : UInt8) ∉ l.take (i + 1):=by
  rw [List.take_succ_eq_append_getElem hi];simp only [List.mem_append,List.mem_singleton,not_or];refine ⟨h,fun e=>h2 ?_⟩;have : l.getD i 0 = 10:=by simp [List.getD,hi,← e]
  rw [this];rfl
theorem ext_drop (s : ByteArray) (n : Nat) : s.extract n s.size = bytes ((ls s).drop n):=by
  rw [← bytes_ls (s.extract n s.size)]
  congr 1
  exact drop_size s n
structure SpI (s : ByteArray) (i at_ : Nat) (out : List Lne) : Prop where
  ai : at_ ≤ i
  is : i ≤ s.size
  no : (10 : UInt8) ∉ ((ls s).drop at_).take (i - at_)
  ol : out.length ≤ at_
  eq : ∃ f,((ls s).drop at_).length ≤ f ∧ out ++ linesR f s.size out.length ((ls s).drop at_) = yC s
theorem sp_0 (s : ByteArray) : SpI s 0 0 []:=⟨Nat.le_refl _,Nat.zero_le _,by simp,Nat.le_refl _,s.size,by rw [List.drop_zero,show (ls s).length = s.size from (yA s).symm];exact Nat.le_refl _,rfl⟩
theorem sp_no {s : ByteArray} {i a : Nat} {out : List Lne} (h : SpI s i a out) (hi : i < s.size) (hc : ¬ (((ls s).getD i 0).toNat : Int) = 10) : SpI s (i + 1) a out:=by
  have hl : i < (ls s).length:=by rw [show (ls s).length = s.size from (yA s).symm];exact hi
  have ha:=h.ai;refine ⟨by omega,hi,?_,h.ol,h.eq⟩;rw [show i + 1 - a = (i - a) + 1 from by omega];refine no_step h.no (by rw [List.length_drop];omega) ?_;have : ((ls s).drop a).getD (i - a) 0 = (ls s).getD i 0:=by
    simp only [List.getD,List.getElem?_drop];rw [show a + (i - a) = i from by omega]
  rw [this];exact hc
theorem sp_yes {s : ByteArray} {i a : Nat} {out : List Lne} (h : SpI s i a out) (hi : i < s.size) (hc : (((ls s).getD i 0).toNat : Int) = 10) : SpI s (i + 1) (i + 1) (out ++ [((out.length : Int),(a : Int),s.extract a i,true)]):=by
  have hl : i < (ls s).length:=by rw [show (ls s).length = s.size from (yA s).symm];exact hi
  have ha:=h.ai;have ho:=h.ol;obtain ⟨f,hf,e⟩:=h.eq;have hb : (ls s).getD i 0 = 10:=by
    apply UInt8.toNat_inj.1;have : ((ls s).getD i 0).toNat = 10:=by omega
    rw [this];rfl
  have hr : (ls s).drop a = ((ls s).drop a).take (i - a) ++ 10 :: (ls s).drop (i + 1):=by
    conv=>lhs;rw [← List.take_append_drop (i - a) ((ls s).drop a)]
    congr 1
    rw [List.drop_drop,show a + (i - a) = i from by omega,List.drop_eq_getElem_cons hl]
    congr 1
    rw [← hb,List.getD_eq_getElem?_getD,List.getElem?_eq_getElem hl];rfl
  have hc2:=cut_at (r:=(ls s).drop (i + 1)) h.no;rw [← hr] at hc2;obtain ⟨y,w,hy⟩ : ∃ y w,(ls s).drop a = y :: w:=by
    rw [hr];cases ((ls s).drop a).take (i - a) <;> exact ⟨_,_,rfl⟩
  obtain ⟨f',rfl⟩ : ∃ f',f = f' + 1:=⟨f - 1,by rw [hy,List.length_cons] at hf;omega⟩;have hlen : ((ls s).drop a).length = s.size - a:=by rw [List.length_drop,show (ls s).length = s.size from (yA s).symm]
  refine ⟨Nat.le_refl _,hi,by simp,by rw [List.length_append,List.length_singleton];omega,f',?_,?_⟩
  · rw [List.length_drop,show (ls s).length = s.size from (yA s).symm];omega
  · rw [← e,List.append_assoc]
    congr 1
    rw [hy] at hc2 hlen ⊢;rw [linesR_cons,hc2,hlen];simp only [List.singleton_append,List.length_append,List.length_singleton]
    congr 1
    refine Prod.ext rfl (Prod.ext (by simp only;omega) (Prod.ext ?_ rfl));show s.extract a i = bytes ((y :: w).take (i - a));rw [← hy];rw [← bytes_ls (s.extract a i)]
    congr 1
    exact extract_ls s a i
theorem sp_end {s : ByteArray} {a : Nat} {out : List Lne} (h : SpI s s.size a out) : (a < s.size → out ++ [((out.length : Int),(a : Int),s.extract a s.size,false)] = yC s) ∧ (¬ a < s.size → out = yC s):=by
  obtain ⟨f,hf,e⟩:=h.eq;have hlen : ((ls s).drop a).length = s.size - a:=by rw [List.length_drop,show (ls s).length = s.size from (yA s).symm]
  have hno:=h.no;rw [List.take_of_length_le (by omega)] at hno;refine ⟨fun hlt=>?_,fun hge=>?_⟩
  · rw [← e]
    congr 1
    obtain ⟨y,w,hy⟩ : ∃ y w,(ls s).drop a = y :: w:=by
      cases e2 : (ls s).drop a with
      | nil=>rw [e2] at hlen;simp at hlen;omega
      | cons y w=>exact ⟨_,_,rfl⟩
    obtain ⟨f',rfl⟩ : ∃ f',f = f' + 1:=⟨f - 1,by rw [hy,List.length_cons] at hf;omega⟩;have hx : s.extract a s.size = bytes ((ls s).drop a):=ext_drop s a;rw [hx];rw [hy] at hno hlen ⊢;rw [linesR_cons,cut_none hno,hlen];rw [show linesR f' s.size ((out.length : Int) + 1) (y :: w,([] : List UInt8),false).2.1 = [] from by cases f' <;> rfl]
    congr 1
    exact Prod.ext rfl (Prod.ext (by simp only;omega) rfl)
  · have : (ls s).drop a = []:=List.eq_nil_of_length_eq_zero (by omega);rw [← e,this];cases f <;> simp [linesR]
theorem refSplit_c (s : ByteArray) (hs : s.size ≤ 1000000) : qU Tryz.prog 105 [is s] (.one (.sl rLne (yC s))):=by
  refine qW (rs:=[2]) Tryz.func105 rfl rfl rfl teOk rfl ?_;refine qC ?_;refine qB ?_;refine qC ?_;refine qB ?_;refine qC ?_;refine yZ 3 177 rLne rfl ?_;refine qB ?_;refine qC ?_;refine qC ?_;refine qB ?_;refine qO ?_;refine qV (fun (u : Nat × Nat × List Lne)=>SpI s u.1 u.2.1 u.2.2) (fun (u : Nat × Nat × List Lne)=>[(0,is s),(3,.one (.vec 0)),(4,ii .i64 u.2.1),(5,ii .i64 u.1)]) (fun (u : Nat × Nat × List Lne)=>[(0,.vec 177 rLne u.2.2)]) 1 (fun (u : Nat × Nat × List Lne)=>s.size - u.1) (0,0,[]) (sp_0 s) (qQ ⟨rfl,rfl,rfl,rfl⟩ rfl rfl) ?_;intro u hI0;obtain ⟨i,a,out⟩:=u;have hI : SpI s i a out:=hI0;have h1:=hI.ai;have h2:=hI.is;have h3:=hI.ol;refine qC ?_;refine qC ?_;refine qB ?_;refine qK rfl (fun h9=>?_) (fun h9=>?_)
  ·try simp only [decide_eq_true_eq] at h9
   try simp only [zds] at h9
   refine qM ?_;refine qC ?_;refine qO ?_;refine qC ?_;refine qB ?_;refine zai (by first|omega|assumption|decide|(simp only [zds];omega)|(simp <;> omega)) ?_;refine qK rfl (fun h15=>?_) (fun h15=>?_)
   ·try simp only [decide_eq_true_eq] at h15
    try simp only [Int.toNat_natCast] at h15
    refine qC ?_;refine qB ?_;intro l7_2;refine zai (by first|omega|assumption|decide|(simp only [];omega)|(simp <;> omega)) ?_;refine zai (by first|exact qP (by first|omega|(simp only [List.length_cons,List.length_nil];omega)|(simp;omega)) (by decide)|omega|assumption|decide|(simp only [zds];omega)|(simp <;> omega)) ?_;refine qB ?_;refine zai (by first|omega|assumption|decide|(simp only [zds];omega)|(simp <;> omega)) ?_;refine qB ?_;refine zai (by first|omega|assumption|decide|(simp only [zds];omega)|(simp <;> omega)) ?_;exact ⟨(i + 1,i + 1,out ++ [((out.length : Int),(a : Int),s.extract a i,true)]),sp_yes hI (by omega) h15,by first|omega|(simp <;> omega),qQ ⟨rfl,rfl,rfl,rfl⟩ rfl rfl⟩
   ·try simp only [decide_eq_false_iff_not] at h15
    try simp only [Int.toNat_natCast] at h15
    refine qM ?_;refine qB ?_;refine zai (by first|omega|assumption|decide|(simp only [zds];omega)|(simp <;> omega)) ?_;exact ⟨(i + 1,a,out),sp_no hI (by omega) h15,by first|omega|(simp <;> omega),qQ ⟨rfl,rfl,rfl,rfl⟩ rfl rfl⟩
  ·try simp only [decide_eq_false_iff_not,Int.not_lt] at h9
   try simp only [zds] at h9
   refine qZ ?_;have hie : i = s.size:=(by omega);subst hie;have hE:=sp_end hI;refine qC ?_;refine qC ?_;refine qB ?_;refine qK rfl (fun h32=>?_) (fun h32=>?_)
   ·try simp only [decide_eq_true_eq] at h32
    try simp only [zds] at h32
    refine qB ?_;intro l10_2;refine zai (by first|omega|assumption|decide|(simp only [];omega)|(simp <;> omega)) ?_;refine zai (by first|exact qP (by first|omega|(simp only [List.length_cons,List.length_nil];omega)|(simp;omega)) (by decide)|omega|assumption|decide|(simp only [zds];omega)|(simp <;> omega)) ?_;refine qC ?_;refine qB ?_;refine qL ?_;exact sl_eq (hE.1 (by omega))
   ·try simp only [decide_eq_false_iff_not,Int.not_lt] at h32
    try simp only [zds] at h32
    refine qM ?_;refine qC ?_;refine qB ?_;refine qL ?_;exact sl_eq (hE.2 (by omega))
def rawsL (l : List Itm) : List UInt8:=l.flatMap fun x=>ls x.2.1
theorem refKindL_c (s : ByteArray) (hs : s.size ≤ 1000000000) : qU Tryz.prog 106 [is s] (ii .i64 (yB (ls s))):=refKind_c s hs
theorem beh_eq (k : List Int) (i : Nat) : (decide (0 < (i : Int)) && (decide (k.getD ((i : Int) - 1).toNat (Rd.int IntKind.i64).dflt = 4) || decide (k.getD ((i : Int) - 1).toNat (Rd.int IntKind.i64).dflt = 3))) = (decide (0 < i) && (decide (k.getD (i - 1) 0 = 4) || decide (k.getD (i - 1) 0 = 3))):=by
  have h : ((i : Int) - 1).toNat = i - 1:=by omega
  have h0 : decide (0 < (i : Int)) = decide (0 < i):=decide_eq_decide.2 (by omega);rw [h,h0];rfl
theorem behind_c (k : List Int) (i : Nat) (hi : i < k.length) (hk : k.length ≤ 1000000) : qU Tryz.prog 141 [.one (.sl (.int .i64) k),ii .i64 i] (ib (decide (0 < i) && (decide (k.getD (i - 1) 0 = 4) || decide (k.getD (i - 1) 0 = 3)))):=by
  refine qW (rs:=[4]) Tryz.func141 rfl rfl rfl teOk rfl ?_;refine qC ?_;refine qB ?_;refine qC ?_;refine qB ?_;refine zai (fun h=>trivial) ?_;refine zai (fun h=>trivial) ?_;refine zai (fun h=>⟨⟨⟨h,trivial⟩,trivial⟩,by first|omega|decide|(simp only [zds];omega)|(have h9:=of_decide_eq_true h;omega)|(simp [gq] at h;omega)⟩) ?_;refine zai (fun h=>⟨⟨⟨h,trivial⟩,⟨h,trivial⟩,trivial⟩,by first|omega|decide|(simp only [zds];omega)|(have h9:=of_decide_eq_true h;omega)|(simp [gq] at h;omega)⟩) ?_;refine zai (fun h=>⟨⟨h,trivial⟩,trivial⟩) ?_;refine zai (fun h=>⟨⟨h,trivial⟩,trivial⟩) ?_;refine zai (fun h=>⟨⟨h,trivial⟩,trivial⟩) ?_;refine zai (fun h=>trivial) ?_;refine zai (fun h=>trivial) ?_;refine zai (fun h=>⟨⟨⟨h,trivial⟩,trivial⟩,by first|omega|decide|(simp only [zds];omega)|(have h9:=of_decide_eq_true h;omega)|(simp [gq] at h;omega)⟩) ?_;refine zai (fun h=>⟨⟨⟨h,trivial⟩,⟨h,trivial⟩,trivial⟩,by first|omega|decide|(simp only [zds];omega)|(have h9:=of_decide_eq_true h;omega)|(simp [gq] at h;omega)⟩) ?_;refine zai (fun h=>⟨⟨h,trivial⟩,trivial⟩) ?_;refine zai (fun h=>⟨⟨h,trivial⟩,trivial⟩) ?_;refine zai (fun h=>⟨⟨⟨h,trivial⟩,trivial⟩,by first|exact fun h2=>h2|(intro h2;rw [h,h2];rfl)|(intro h2;cases h2)|(intro h2;simp_all [gq])⟩) ?_;refine zai (by exact fun h=>h) ?_;refine qL ?_;exact ib_eq (beh_eq k i)
theorem getD_get {α : Type} {l : List α} {i : Nat} (h : i < l.length) (d : α) : l[i] = l.getD i d:=by
  rw [List.getD_eq_getElem?_getD,List.getElem?_eq_getElem h];rfl
theorem kind_at {L : List Lne} {k : List Int} (hk : k = L.map (fun l=>yB (ls l.2.2.1))) {n : Nat} (h : n < L.length) : k.getD n 0 = yB (ls (L.getD n ((0 : Int),(0 : Int),ByteArray.empty,false)).2.2.1):=by
  subst hk;simp [List.getD,h]
theorem tw_stop {L : List Lne} {j : Nat} (h : (L.take j).all more = true) (hs : L.length ≤ j ∨ (j < L.length ∧ more (L.getD j ((0 : Int),(0 : Int),ByteArray.empty,false)) = false)) : L.takeWhile more = L.take j:=by
  conv=>lhs;rw [← List.take_append_drop j L]
  rw [List.takeWhile_append_of_pos (by simpa [List.all_eq_true] using h)];have : (L.drop j).takeWhile more = []:=by
    rcases hs with hs|⟨hs,hm⟩
    · rw [List.drop_eq_nil_of_le hs];rfl
    · rw [List.drop_eq_getElem_cons hs,List.takeWhile_cons_of_neg];rw [show L[j] = L.getD j ((0 : Int),(0 : Int),ByteArray.empty,false) from by simp [List.getD,hs],hm]
      decide
  rw [this,List.append_nil]
theorem drop_getL {L : List Lne} {i j : Nat} : (L.drop (i + 1)).getD j ((0 : Int),(0 : Int),ByteArray.empty,false) = L.getD (i + 1 + j) ((0 : Int),(0 : Int),ByteArray.empty,false):=by
  simp only [List.getD,List.getElem?_drop]
theorem tw_more {L : List Lne} {i j : Nat} (h : ((L.drop (i + 1)).take j).all more = true) (hj : j < L.length - (i + 1)) (hm : yB (ls (L.getD (i + 1 + j) ((0 : Int),(0 : Int),ByteArray.empty,false)).2.2.1) = 3) : ((L.drop (i + 1)).take (j + 1)).all more = true:=by
  have hlt : j < (L.drop (i + 1)).length:=by rw [List.length_drop];exact hj
  rw [List.take_succ_eq_append_getElem hlt,List.all_append,h];rw [getD_get hlt ((0 : Int),(0 : Int),ByteArray.empty,false),drop_getL];simp only [List.all_cons,List.all_nil,Bool.and_true,Bool.true_and];exact decide_eq_true hm
theorem said_next {L : List Lne} {i j : Nat} (hj : j < L.length - (i + 1)) : ((L.drop (i + 1)).take (j + 1)).map (·.2.2.1) = ((L.drop (i + 1)).take j).map (·.2.2.1) ++ [(L.getD (i + 1 + j) ((0 : Int),(0 : Int),ByteArray.empty,false)).2.2.1]:=by
  have hlt : j < (L.drop (i + 1)).length:=by rw [List.length_drop];exact hj
  rw [List.take_succ_eq_append_getElem hlt,List.map_append];rw [getD_get hlt ((0 : Int),(0 : Int),ByteArray.empty,false),drop_getL];rfl
theorem said_c (L : List Lne) (k : List Int) (hk : k = L.map (fun l=>yB (ls l.2.2.1))) (i : Nat) (hi : i < L.length) (hL : L.length ≤ 1000000) : qU Tryz.prog 109 [.one (.sl rLne L),.one (.sl (.int .i64) k),ii .i64 i] (.one (.sl .str (saidL (L.getD i ((0 : Int),(0 : Int),ByteArray.empty,false)) (L.drop (i + 1))))):=by
  have hkl : k.length = L.length:=by rw [hk,List.length_map]
  refine qW (rs:=[6]) Tryz.func109 rfl rfl rfl teOk rfl ?_;refine qC ?_;refine qB ?_;refine qC ?_;refine qB ?_;refine zai (by first|omega|assumption|decide|(simp only [zds];omega)|(simp <;> omega)) ?_;refine qC ?_;refine qC ?_;refine qB ?_;refine zai (by first|omega|assumption|decide|(simp only [zds];omega)|(simp <;> omega)) ?_;refine qO ?_;refine qV (fun (j : Nat)=>j ≤ L.length - (i + 1) ∧ ((L.drop (i + 1)).take j).all more = true) (fun (j : Nat)=>[(0,.one (.sl rLne L)),(1,.one (.sl (.int .i64) k)),(7,.one (.vec 0)),(8,ii .i64 ((i : Int) + 1 + j))]) (fun (j : Nat)=>[(0,.vec 9 .str ((L.getD i ((0 : Int),(0 : Int),ByteArray.empty,false)).2.2.1 :: ((L.drop (i + 1)).take j).map (·.2.2.1)))]) 1 (fun (j : Nat)=>L.length - (i + 1) - j) 0 (⟨Nat.zero_le _,by simp⟩) (qQ ⟨rfl,rfl,rfl,(qR (by omega))⟩ rfl rfl) ?_;intro j hI0;obtain ⟨hj,hall⟩:=hI0;have ej : ((i : Int) + 1 + j).toNat = i + 1 + j:=(by omega);refine qC ?_;refine qC ?_;refine qB ?_;intro l3_2
  try simp only [zds] at l3_2
  refine zai (fun h=>trivial) ?_;refine zai (fun h=>trivial) ?_;refine zai (fun h=>⟨⟨⟨h,trivial⟩,⟨h,trivial⟩,trivial⟩,by first|omega|decide|(simp only [zds];omega)|(have h9:=of_decide_eq_true h;omega)|(simp [gq] at h;omega)⟩) ?_;refine zai (fun h=>⟨⟨h,trivial⟩,trivial⟩) ?_;refine zai (fun h=>⟨⟨h,trivial⟩,trivial⟩) ?_;refine zai (by exact fun h=>h) ?_;refine qK rfl (fun h27=>?_) (fun h27=>?_)
  ·try simp only [decide_eq_true_eq,Bool.and_eq_true] at h27
   try simp only [qE] at h27
   have hjl : j < L.length - (i + 1):=(by omega);rw [ej,kind_at hk (by omega)] at h27;refine qM ?_;refine qC ?_;refine qO ?_;refine qB ?_;refine zai (by first|omega|assumption|decide|(simp only [zds];omega)|(simp <;> omega)) ?_;refine zai (by first|exact qP (by first|omega|(simp only [List.length_cons,List.length_nil,List.length_map,List.length_take,List.length_drop];omega)|(simp;omega)) (by decide)|omega|assumption|decide|(simp only [zds];omega)|(simp <;> omega)) ?_;refine qB ?_;refine zai (by first|omega|assumption|decide|(simp only [zds];omega)|(simp <;> omega)) ?_;exact ⟨j + 1,⟨by omega,tw_more hall hjl h27.2⟩,by first|omega|(simp <;> omega),qQ ⟨rfl,rfl,rfl,(qR (by omega))⟩ (qS (by rw [ej,said_next hjl];rfl)) rfl⟩
  ·try simp only [decide_eq_false_iff_not,Bool.and_eq_false_iff,Int.not_lt] at h27
   try simp only [qE] at h27
   rw [ej] at h27;refine qZ ?_;refine qC ?_;refine qB ?_;refine qL ?_;have htw:=tw_stop hall (by rcases h27 with h27|h27;exact .inl (by rw [List.length_drop];omega);by_cases hjl : j < L.length - (i + 1);exact .inr ⟨by rw [List.length_drop];exact hjl,by rw [drop_getL];rw [kind_at hk (by omega)] at h27;unfold more;exact decide_eq_false h27⟩;exact .inl (by rw [List.length_drop];omega));unfold saidL;rw [htw];rfl
theorem unfold_any (l : List ByteArray) (hl : LinesOk l) : qU Tryz.prog 108 [.one (.sl .str l)] (.tup [(true,[.lit (.string (fldOf l).1),.lit (.string (fldOf l).2)]),(false,[.lit (.int .i64 (yH (l.map ls)).2)])]):=by
  cases l with
  | nil=>exact refUnfold_e
  | cons a r=>exact refUnfold_c a r hl
theorem wrong_c (L : List Lne) (k : List Int) (hk : k = L.map (fun l=>yB (ls l.2.2.1))) (i : Nat) (hi : i < L.length) (hL : L.length ≤ 1000000) (hz : LinesOk (saidL (L.getD i ((0 : Int),(0 : Int),ByteArray.empty,false)) (L.drop (i + 1)))) (fields recs : Int) (bh : Bool) (hbh : (decide (0 < i) && (decide (k.getD (i - 1) 0 = 4) || decide (k.getD (i - 1) 0 = 3))) = bh) : qU Tryz.prog 107 [.one (.sl rLne L),.one (.sl (.int .i64) k),ii .i64 i,ii .i64 fields,ii .i64 recs] (ii .i64 (xH bh (L.getD i ((0 : Int),(0 : Int),ByteArray.empty,false)) (L.drop (i + 1)) fields recs)):=by
  have hkl : k.length = L.length:=by rw [hk,List.length_map]
  have hki:=kind_at hk hi;have hbc:=behind_c k i (by omega) (by omega);rw [hbh] at hbc;refine qW (rs:=[10]) Tryz.func107 rfl rfl rfl teOk rfl ?_;refine qC ?_;refine qB ?_;refine qC ?_;refine qC ?_;refine qB ?_;refine zai (by first|omega|assumption|decide|(simp only [zds];omega)|(simp <;> omega)) ?_;refine zai (fun h=>trivial) ?_;refine zai (fun h=>trivial) ?_;refine zai (fun h=>⟨⟨⟨h,trivial⟩,⟨h,trivial⟩,trivial⟩,by first|omega|decide|(simp only [zds];omega)|(have h9:=of_decide_eq_true h;omega)|(simp [gq] at h;omega)⟩) ?_;refine zai (fun h=>⟨⟨h,trivial⟩,trivial⟩) ?_;refine zai (fun h=>⟨⟨h,trivial⟩,trivial⟩) ?_;refine zai (fun h=>⟨⟨h,trivial⟩,trivial⟩) ?_;refine zai (fun h=>trivial) ?_;refine zai (fun h=>trivial) ?_;refine Or.inl ?_;refine zai (rfl) ?_;refine zei _ (zai (fun h=>⟨⟨⟨h,trivial⟩,⟨h,trivial⟩,trivial⟩,hbc⟩) ?_);refine zai (fun h=>⟨⟨h,trivial⟩,trivial⟩) ?_;refine zai (fun h=>⟨⟨⟨h,trivial⟩,trivial⟩,by first|exact fun h2=>h2|(intro h2;rw [h,h2];rfl)|(intro h2;cases h2)|(intro h2;simp_all [gq])⟩) ?_;refine zai (by first|(intro h;rw [h];rfl)|(intro h;cases h)) ?_;refine zai (fun h=>trivial) ?_;refine zai (fun h=>trivial) ?_;refine zai (fun h=>⟨⟨⟨h,trivial⟩,⟨h,trivial⟩,trivial⟩,by first|omega|decide|(simp only [zds];omega)|(have h9:=of_decide_eq_true h;omega)|(simp [gq] at h;omega)⟩) ?_;refine zai (fun h=>⟨⟨h,trivial⟩,trivial⟩) ?_;refine zai (fun h=>⟨⟨h,trivial⟩,trivial⟩) ?_;refine zai (fun h=>⟨⟨h,trivial⟩,trivial⟩) ?_;refine zai (by first|(intro h;rw [h];rfl)|(intro h;cases h)) ?_;refine qK rfl (fun h38=>?_) (fun h38=>?_)
  ·try simp only [decide_eq_true_eq,Bool.and_eq_true,Bool.not_eq_true',Bool.or_eq_true] at h38
   try simp only [Int.toNat_natCast,qH,qF,qE,qD] at h38
   rw [hki] at h38;refine qC ?_;refine qB ?_;refine qL ?_;refine qR (Eq.symm ?_);unfold xH;exact if_pos (h38.elim (fun h=>h.elim .inl (fun h=>.inr (.inl h))) (fun h=>.inr (.inr h)))
  ·try simp only [decide_eq_false_iff_not,Bool.not_eq_false',Bool.or_eq_false_iff,Bool.and_eq_false_iff] at h38
   try simp only [Int.toNat_natCast,qH,qF,qE,qD] at h38
   rw [hki] at h38;have hneg : ¬ (yB (ls (L.getD i ((0 : Int),(0 : Int),ByteArray.empty,false)).2.2.1) = 5 ∨ (yB (ls (L.getD i ((0 : Int),(0 : Int),ByteArray.empty,false)).2.2.1) = 3 ∧ bh = false) ∨ (L.getD i ((0 : Int),(0 : Int),ByteArray.empty,false)).2.2.2 = false):=(by rintro (h|⟨h,h'⟩|h);exact h38.1.1 h;rcases h38.1.2 with g|g;exact g h;rw [g] at h';cases h';rw [h38.2] at h;cases h);refine qM ?_;refine qC ?_;refine qC ?_;refine qB ?_;refine zai (by first|omega|assumption|decide|(simp only [zds];omega)|(simp <;> omega)) ?_;refine qK rfl (fun h43=>?_) (fun h43=>?_)
   ·try simp only [decide_eq_false_iff_not,Bool.not_eq_true'] at h43
    try simp only [Int.toNat_natCast,qE] at h43
    rw [hki] at h43;refine qC ?_;refine qB ?_;refine qL ?_;refine qR (Eq.symm ?_);unfold xH;rw [if_neg hneg,if_pos h43]
   ·try simp only [decide_eq_true_eq,Bool.not_eq_false'] at h43
    try simp only [Int.toNat_natCast,qE] at h43
    rw [hki] at h43;refine qM ?_;refine qC ?_;refine qC ?_;refine qB ?_;refine Or.inl ?_;refine zai (rfl) ?_;refine zei _ (zai (said_c L k hk i hi hL) ?_);refine Or.inl ?_;refine zai (rfl) ?_;refine zei _ (zai (unfold_any _ hz) ?_);refine qC ?_;refine qB ?_;refine qK rfl (fun h53=>?_) (fun h53=>?_)
    ·try simp only [decide_eq_false_iff_not,Bool.not_eq_true'] at h53
     try simp only [zds] at h53
     refine qC ?_;refine qB ?_;refine qL ?_;refine qR (Eq.symm ?_);unfold xH;rw [if_neg hneg,if_neg (by rw [h43];simp),if_pos h53]
    ·try simp only [decide_eq_true_eq,Bool.not_eq_false'] at h53
     try simp only [zds] at h53
     refine qM ?_;refine qC ?_;refine qC ?_;refine qB ?_;refine zai (fun h=>trivial) ?_;refine zai (fun h=>⟨⟨h,trivial⟩,trivial⟩) ?_;refine zai (fun h=>⟨⟨h,trivial⟩,trivial⟩) ?_;refine zai (fun h=>trivial) ?_;refine zai (fun h=>⟨⟨h,trivial⟩,trivial⟩) ?_;refine zai (fun h=>⟨⟨⟨h,trivial⟩,trivial⟩,by first|exact fun h2=>h2|(intro h2;rw [h,h2];rfl)|(intro h2;cases h2)|(intro h2;simp_all [gq])⟩) ?_;refine zai (by first|(intro h;rw [h];rfl)|(intro h;cases h)) ?_;refine qK rfl (fun h64=>?_) (fun h64=>?_)
     ·try simp only [decide_eq_true_eq,Bool.and_eq_true,Bool.or_eq_true] at h64
      try simp only [zds] at h64
      refine qC ?_;refine qB ?_;refine qL ?_;refine qR (Eq.symm ?_);unfold xH;rw [if_neg hneg,if_neg (by rw [h43];simp),if_neg (by rw [h53];simp),if_pos h64]
     ·try simp only [decide_eq_false_iff_not,Bool.or_eq_false_iff,Bool.and_eq_false_iff,Int.not_le] at h64
      try simp only [zds] at h64
      refine qM ?_;refine qC ?_;refine qB ?_;refine qL ?_;refine qR (Eq.symm ?_);unfold xH;rw [if_neg hneg,if_neg (by rw [h43];simp),if_neg (by rw [h53];simp),if_neg (by rintro (h|⟨h,h'⟩);omega;rcases h64.2 with g|g;exact g h;omega)]
theorem linesR_no : ∀ (f : Nat) (tot no : Int) (s : List UInt8) (i : Nat),i < (linesR f tot no s).length → ((linesR f tot no s).getD i ((0 : Int),(0 : Int),ByteArray.empty,false)).1 = no + i
  | 0,_,_,_,i,h=>by simp [linesR] at h
  | f + 1,_,_,[],i,h=>by simp [linesR] at h
  | f + 1,tot,no,a :: r,i,h=>by
    rw [linesR_cons] at h ⊢;cases i with
    | zero=>simp
    | succ i =>
      have:=linesR_no f tot (no + 1) (Lib.cut (a :: r) [10]).2.1 i (by simpa using h);rw [List.getD_cons_succ,this];omega
def bhI (k : List Int) (i : Nat) : Bool:=decide (0 < i) && (decide (k.getD (i - 1) 0 = 4) || decide (k.getD (i - 1) 0 = 3))
structure RI (L : List Lne) (k : List Int) (i : Nat) (t : RSt) : Prop where
  il : i ≤ L.length
  eq : runR false rst0 L = runR (bhI k i) t (L.drop i)
  r0 : 0 ≤ t.recs
  ri : t.recs ≤ i
  oi : t.out.length ≤ 2 * i
  fi : t.flds.length ≤ i
  rw_ : t.raw.size ≤ ((L.take i).map (fun l=>l.2.2.1.size + 1)).sum
  rd : t.raw = ByteArray.empty ↔ t.raw.size = 0
theorem ri_0 (L : List Lne) (k : List Int) : RI L k 0 rst0:=⟨Nat.zero_le _,rfl,Int.le_refl _,Int.le_refl _,Nat.le_refl _,Nat.le_refl _,Nat.zero_le _,⟨fun _=>rfl,fun _=>rfl⟩⟩
theorem size0 (s : ByteArray) : s = ByteArray.empty ↔ s.size = 0:=by
  refine ⟨fun h=>by rw [h];rfl,fun h=>?_⟩;rw [yA] at h;have:=List.eq_nil_of_length_eq_zero h;rw [← bytes_ls s,show ls s = [] from this];rfl
theorem sum_succ (L : List Lne) (i : Nat) (h : i < L.length) : ((L.take (i + 1)).map (fun l=>l.2.2.1.size + 1)).sum = ((L.take i).map (fun l=>l.2.2.1.size + 1)).sum + ((L.getD i ((0 : Int),(0 : Int),ByteArray.empty,false)).2.2.1.size + 1):=by
  rw [List.take_succ_eq_append_getElem h,List.map_append,List.sum_append,← getD_get h ((0 : Int),(0 : Int),ByteArray.empty,false)];simp
theorem ri_eq {L : List Lne} {k : List Int} {i : Nat} {t : RSt} (h : RI L k i t) (hi : i < L.length) : runR false rst0 L = if xH (bhI k i) (L.getD i ((0 : Int),(0 : Int),ByteArray.empty,false)) (L.drop (i + 1)) t.flds.length t.recs ≠ 0 then .inl ((L.getD i ((0 : Int),(0 : Int),ByteArray.empty,false)).1,xH (bhI k i) (L.getD i ((0 : Int),(0 : Int),ByteArray.empty,false)) (L.drop (i + 1)) t.flds.length t.recs) else runR (decide (yB (ls (L.getD i ((0 : Int),(0 : Int),ByteArray.empty,false)).2.2.1) = 4) || decide (yB (ls (L.getD i ((0 : Int),(0 : Int),ByteArray.empty,false)).2.2.1) = 3)) (yU t (L.getD i ((0 : Int),(0 : Int),ByteArray.empty,false)) (L.drop (i + 1))) (L.drop (i + 1)):=by
  rw [h.eq,List.drop_eq_getElem_cons hi,getD_get hi ((0 : Int),(0 : Int),ByteArray.empty,false)];rfl
theorem bh_next {L : List Lne} {k : List Int} (hk : k = L.map (fun l=>yB (ls l.2.2.1))) {i : Nat} (hi : i < L.length) : bhI k (i + 1) = (decide (yB (ls (L.getD i ((0 : Int),(0 : Int),ByteArray.empty,false)).2.2.1) = 4) || decide (yB (ls (L.getD i ((0 : Int),(0 : Int),ByteArray.empty,false)).2.2.1) = 3)):=by
  unfold bhI;rw [Nat.add_sub_cancel,kind_at hk hi];simp
theorem ri_next {L : List Lne} {k : List Int} (hk : k = L.map (fun l=>yB (ls l.2.2.1))) {i : Nat} {t : RSt} (h : RI L k i t) (hi : i < L.length) (hw : xH (bhI k i) (L.getD i ((0 : Int),(0 : Int),ByteArray.empty,false)) (L.drop (i + 1)) t.flds.length t.recs = 0) : RI L k (i + 1) (yU t (L.getD i ((0 : Int),(0 : Int),ByteArray.empty,false)) (L.drop (i + 1))):=by
  have e:=ri_eq h hi;rw [if_neg (by rw [hw];simp),← bh_next hk hi] at e;have h1:=h.r0;have h2:=h.ri;have h3:=h.oi;have h4:=h.fi;have h5:=h.rw_;have h6:=sum_succ L i hi;refine ⟨hi,e,?_,?_,?_,?_,?_,size0 _⟩
  · unfold yU;split
    · exact h1
    · split
      · simp only;split <;> omega
      · exact h1
  · unfold yU;split
    · simp only;omega
    · split
      · simp only;split <;> omega
      · simp only;omega
  · unfold yU;split
    · simp only;split <;> simp <;> omega
    · split
      · simp only;omega
      · simp only;omega
  · unfold yU;split
    · simp
    · split
      · simp;omega
      · simp only;omega
  · rw [h6];have h10 : ByteArray.size ⟨#[10]⟩ = 1:=rfl;unfold yU;split
    · simp
    · split
      · simp only [ByteArray.size_append];omega
      · simp only [ByteArray.size_append];omega
theorem said_ok {s : ByteArray} (hs : s.size ≤ 60000) {i : Nat} (hi : i < (yC s).length) : LinesOk (saidL ((yC s).getD i ((0 : Int),(0 : Int),ByteArray.empty,false)) ((yC s).drop (i + 1))):=by
  obtain ⟨h1,h2⟩:=linesT_len s;have h3 : ((((yC s).drop (i + 1)).takeWhile more).map (·.2.2.1.size)).sum ≤ ((yC s).map (·.2.2.1.size)).sum:=by
    have e1 : (yC s) = (yC s).take (i + 1) ++ ((yC s).drop (i + 1)):=(List.take_append_drop _ _).symm;have e2 : (yC s).drop (i + 1) = ((yC s).drop (i + 1)).takeWhile more ++ ((yC s).drop (i + 1)).dropWhile more:=List.takeWhile_append_dropWhile.symm
    conv=>rhs;rw [e1,e2]
    simp only [List.map_append,List.sum_append];omega
  have h4 : (((yC s).drop (i + 1)).takeWhile more).length ≤ (yC s).length:=by
    have:=(List.takeWhile_sublist more (l:=(yC s).drop (i + 1))).length_le;rw [List.length_drop] at this;omega
  have h5:=linesT_sz hi;rw [getD_get hi ((0 : Int),(0 : Int),ByteArray.empty,false)] at h5;unfold saidL;refine ⟨by simp only [List.length_cons,List.length_map];omega,?_⟩;simp only [List.map_cons,List.sum_cons,List.map_map];have : ((((yC s).drop (i + 1)).takeWhile more).map ((fun x : ByteArray=>x.size) ∘ fun x : Lne=>x.2.2.1)).sum = ((((yC s).drop (i + 1)).takeWhile more).map (·.2.2.1.size)).sum:=rfl;omega
def resR : (Int × Int) ⊕ List Itm → A
  | .inl e=>.tup [(false,[.sl rItm []]),(false,[.lit (.int .i64 e.1)]),(false,[.lit (.int .i64 e.2)])]
  | .inr l=>.tup [(false,[.sl rItm l]),(false,[.lit (.int .i64 (-9))]),(false,[.lit (.int .i64 0)])]
theorem sum_total (s : ByteArray) (i : Nat) : (((yC s).take i).map (fun l=>l.2.2.1.size + 1)).sum ≤ 2 * s.size:=by
  obtain ⟨h1,h2⟩:=linesT_len s;have e : ∀ L : List Lne,(L.map (fun l=>l.2.2.1.size + 1)).sum = (L.map (·.2.2.1.size)).sum + L.length:=by
    intro L
    induction L with
    | nil=>rfl
    | cons a r ih=>simp only [List.map_cons,List.sum_cons,List.length_cons,ih];omega
  have h3 : (((yC s).take i).map (fun l=>l.2.2.1.size + 1)).sum ≤ ((yC s).map (fun l=>l.2.2.1.size + 1)).sum:=by
    conv=>rhs;rw [← List.take_append_drop i (yC s)]
    rw [List.map_append,List.sum_append];omega
  rw [e (yC s)] at h3;omega
set_option maxHeartbeats 4000000 in
theorem refParse_a (s : ByteArray) (hs : s.size ≤ 60000) : qU Tryz.prog 69 [is s] (resR (xG s)):=by
  obtain ⟨hl1,hl2⟩:=linesT_len s;have hsz : ∀ i,i < (yC s).length → ((yC s).getD i ((0 : Int),(0 : Int),ByteArray.empty,false)).2.2.1.size ≤ 60000:=fun i hi=>by
    have:=linesT_sz hi;rw [getD_get hi ((0 : Int),(0 : Int),ByteArray.empty,false)] at this;omega
  have hss:=fun i hi=>said_ok hs (i:=i) hi
  have hno : ∀ i,i < (yC s).length → ((yC s).getD i ((0 : Int),(0 : Int),ByteArray.empty,false)).1 = i:=fun i hi=>by
    have:=linesR_no s.size s.size 0 (ls s) i hi;rw [Int.zero_add] at this;exact this
  have hst:=sum_total s;rw [parse_ref];have hspl:=refSplit_c s (by omega)
  generalize yC s = L at *
  obtain ⟨k,hk⟩ : ∃ k,k = L.map (fun l=>yB (ls l.2.2.1)):=⟨_,rfl⟩;have hkl : k.length = L.length:=by rw [hk,List.length_map]
  refine qW (rs:=[2,3,4]) Tryz.func69 rfl rfl rfl teOk rfl ?_;refine qC ?_;refine qB ?_;refine qC ?_;refine qC ?_;refine qB ?_;refine qK rfl (fun h17=>?_) (fun h17=>?_)
  ·try simp only [decide_eq_true_eq] at h17
   try simp only [zds] at h17
   omega
  ·try simp only [decide_eq_false_iff_not,Int.not_lt] at h17
   try simp only [zds] at h17
   refine qM ?_;refine qC ?_;refine qB ?_;refine Or.inl ?_;refine zai (rfl) ?_;refine zei _ (zai (hspl) ?_);refine qC ?_;refine qB ?_;refine qC ?_;refine qC ?_;refine yZ 6 3 (.int .i64) rfl ?_;refine qB ?_;refine qO ?_;refine qV (fun (i : Nat)=>i ≤ L.length) (fun (i : Nat)=>[(5,.one (.sl rLne L)),(6,.one (.vec 0)),(7,ii .i64 i)]) (fun (i : Nat)=>[(0,.vec 3 (.int .i64) (k.take i))]) 1 (fun (i : Nat)=>L.length - i) 0 (Nat.zero_le _) (qQ ⟨rfl,rfl,rfl⟩ rfl rfl) ?_;intro i hI0;refine qC ?_;refine qC ?_;refine qB ?_;intro l6_2
   try simp only [zds] at l6_2
   refine qK rfl (fun h23=>?_) (fun h23=>?_)
   ·try simp only [decide_eq_true_eq] at h23
    try simp only [zds] at h23
    have hil : i < L.length:=(by omega);have hi2:=hsz i hil;refine qM ?_;refine qC ?_;refine qO ?_;refine qB ?_;refine zai (by first|omega|assumption|decide|(simp only [zds];omega)|(simp <;> omega)) ?_;refine Or.inl ?_;refine zai (rfl) ?_;refine zei _ (zai (refKindL_c (L.getD i ((0 : Int),(0 : Int),ByteArray.empty,false)).2.2.1 (by omega)) ?_);refine zai (by first|exact qP (by first|omega|(simp only [List.length_cons,List.length_nil,List.length_take];omega)|(simp;omega)) (by decide)|omega|assumption|decide|(simp only [zds];omega)|(simp <;> omega)) ?_;refine qB ?_;refine zai (by first|omega|assumption|decide|(simp only [zds];omega)|(simp <;> omega)) ?_;exact ⟨i + 1,by omega,by first|omega|(simp <;> omega),qQ ⟨rfl,rfl,(qR (by omega))⟩ (qS (by rw [← yI 0 (by omega : i < k.length),kind_at hk hil];rfl)) rfl⟩
   ·try simp only [decide_eq_false_iff_not,Int.not_lt] at h23
    try simp only [zds] at h23
    refine qZ ?_;refine qC ?_;rw [List.take_of_length_le (by omega)];refine yG [0] ?_;refine qB ?_;refine qC ?_;refine qB ?_;refine qC ?_;refine yZ 8 109 rItm rfl ?_;refine yE 1 2 82 rFld rfl rfl rfl ?_;refine yG [3] ?_;refine qB ?_;refine qC ?_;refine qC ?_;refine qB ?_;refine qO ?_;refine qV (fun (u : Nat × RSt)=>RI L k u.1 u.2) (fun (u : Nat × RSt)=>[(5,.one (.sl rLne L)),(6,.one (.sl (.int .i64) k)),(8,.one (.vec 2)),(9,.one (.own 1 0)),(10,ii .i64 u.2.recs),(11,ii .i64 u.1)]) (fun (u : Nat × RSt)=>[(1,.box 109 [.lit (.int .i64 u.2.kind),.lit (.string u.2.raw),.sl rFld u.2.flds]),(2,.vec 109 rItm u.2.out)]) 4 (fun (u : Nat × RSt)=>L.length - u.1) (0,rst0) (ri_0 L k) (qQ ⟨rfl,rfl,rfl,rfl,rfl,rfl⟩ ⟨rfl,rfl⟩ rfl) ?_;intro u hI2;obtain ⟨i,t⟩:=u;have hI : RI L k i t:=hI2;have g1:=hI.il;have g2:=hI.r0;have g3:=hI.ri;have g4:=hI.oi;have g5:=hI.fi;have g6:=Nat.le_trans hI.rw_ (hst i);refine qC ?_;refine qC ?_;refine qB ?_;intro l13_2
    try simp only [zds] at l13_2
    refine qK rfl (fun h39=>?_) (fun h39=>?_)
    ·try simp only [decide_eq_true_eq] at h39
     try simp only [zds] at h39
     have hil : i < L.length:=(by omega);have hi2:=hsz i hil;refine qM ?_;refine qC ?_;refine qO ?_;refine qC ?_;refine qC ?_;refine qB ?_;intro l15_5;refine Or.inl ?_;refine zai (rfl) ?_;refine zei _ (zai (wrong_c L k hk i hil (by omega) (hss i hil) t.flds.length t.recs (bhI k i) rfl) ?_);refine qC ?_;refine qB ?_;refine qK rfl (fun h51=>?_) (fun h51=>?_)
     ·try simp only [decide_eq_false_iff_not,Bool.not_eq_true'] at h51
      try simp only [zds] at h51
      refine qC ?_;refine qB ?_;refine yZ 2 109 rItm rfl ?_;refine qL ?_;rw [ri_eq hI hil,if_pos h51,hno i hil];rfl
     ·try simp only [decide_eq_true_eq,Bool.not_eq_false'] at h51
      try simp only [zds] at h51
      have hN:=ri_next hk hI hil h51;refine qM ?_;refine qC ?_;refine qC ?_;refine qB ?_;refine zai (by first|omega|assumption|decide|(simp only [zds];omega)|(simp <;> omega)) ?_;refine qK rfl (fun h58=>?_) (fun h58=>?_)
      ·try simp only [decide_eq_true_eq] at h58
       try simp only [Int.toNat_natCast,qE] at h58
       rw [kind_at hk hil] at h58;refine qC ?_;refine qC ?_;refine qB ?_;refine qK rfl (fun h61=>?_) (fun h61=>?_)
       ·try simp only [decide_eq_false_iff_not,Bool.not_eq_true'] at h61
        try simp only [zds] at h61
        have hS : yU t (L.getD i ((0 : Int),(0 : Int),ByteArray.empty,false)) (L.drop (i + 1)) = ⟨2,ByteArray.empty,[],t.out ++ [(t.kind,t.raw,t.flds)] ++ [(1,(L.getD i ((0 : Int),(0 : Int),ByteArray.empty,false)).2.2.1 ++ ⟨#[10]⟩,[])],t.recs⟩:=(by unfold yU;rw [if_pos h58,if_neg (show ¬ t.raw = ByteArray.empty from h61)]);refine qB ?_;refine zai (by first|exact qP (by first|omega|(simp only [List.length_cons,List.length_nil];omega)|(simp;omega)) (by decide)|omega|assumption|decide|(simp only [zds];omega)|(simp <;> omega)) ?_;refine qC ?_;refine qB ?_;refine zai (by first|omega|assumption|decide|(simp only [zds];omega)|(simp <;> omega)) ?_;refine zai (by show (L.getD i ((0 : Int),(0 : Int),ByteArray.empty,false)).2.2.1.size + 1 ≤ maxLen;unfold maxLen;omega) ?_;refine zai (by exact qP (by rw [List.length_append];show t.out.length + 1 + 1 ≤ 1000000000;omega) (by decide)) ?_;refine qC ?_;refine qB ?_;refine yE 1 2 82 rFld rfl rfl rfl ?_;refine yG [6] ?_;refine qZ ?_;refine qB ?_;refine zai (by first|omega|assumption|decide|(simp only [zds];omega)|(simp <;> omega)) ?_;exact ⟨(i + 1,yU t (L.getD i ((0 : Int),(0 : Int),ByteArray.empty,false)) (L.drop (i + 1))),hN,by first|omega|(simp <;> omega),qQ ⟨rfl,rfl,rfl,rfl,((by rw [hS];try rfl)),(qR (by simp only;omega))⟩ ⟨((by rw [hS];try rfl)),((by rw [hS];try rfl))⟩ rfl⟩
       ·try simp only [decide_eq_true_eq,Bool.not_eq_false'] at h61
        try simp only [zds] at h61
        have hS : yU t (L.getD i ((0 : Int),(0 : Int),ByteArray.empty,false)) (L.drop (i + 1)) = ⟨2,ByteArray.empty,[],t.out ++ [(1,(L.getD i ((0 : Int),(0 : Int),ByteArray.empty,false)).2.2.1 ++ ⟨#[10]⟩,[])],t.recs⟩:=(by unfold yU;rw [if_pos h58,if_pos (show t.raw = ByteArray.empty from h61)]);refine qM ?_;refine qC ?_;refine qB ?_;refine zai (by first|omega|assumption|decide|(simp only [zds];omega)|(simp <;> omega)) ?_;refine zai (by show (L.getD i ((0 : Int),(0 : Int),ByteArray.empty,false)).2.2.1.size + 1 ≤ maxLen;unfold maxLen;omega) ?_;refine zai (by first|exact qP (by first|omega|(simp only [List.length_cons,List.length_nil];omega)|(simp;omega)) (by decide)|omega|assumption|decide|(simp only [zds];omega)|(simp <;> omega)) ?_;refine qC ?_;refine qB ?_;refine yE 1 2 82 rFld rfl rfl rfl ?_;refine yG [5] ?_;refine qZ ?_;refine qB ?_;refine zai (by first|omega|assumption|decide|(simp only [zds];omega)|(simp <;> omega)) ?_;exact ⟨(i + 1,yU t (L.getD i ((0 : Int),(0 : Int),ByteArray.empty,false)) (L.drop (i + 1))),hN,by first|omega|(simp <;> omega),qQ ⟨rfl,rfl,rfl,rfl,((by rw [hS];try rfl)),(qR (by simp only;omega))⟩ ⟨((by rw [hS];try rfl)),((by rw [hS];try rfl))⟩ rfl⟩
      ·try simp only [decide_eq_false_iff_not] at h58
       try simp only [Int.toNat_natCast,qE] at h58
       rw [kind_at hk hil] at h58;refine qM ?_;refine acode_cut (fun (u : Unit)=>True) (fun (u : Unit)=>[(5,.one (.sl rLne L)),(6,.one (.sl (.int .i64) k)),(8,.one (.vec 2)),(9,.one (.own 1 0)),(10,ii .i64 t.recs),(11,ii .i64 i)]) (fun (u : Unit)=>[(1,.box 109 [.lit (.int .i64 t.kind),.lit (.string (t.raw ++ (L.getD i ((0 : Int),(0 : Int),ByteArray.empty,false)).2.2.1 ++ ⟨#[10]⟩)),.sl rFld t.flds]),(2,.vec 109 rItm t.out)]) 4 ?_ ?_
       ·refine yX rfl ?_;refine qJ 0 rfl rfl rfl (by kernel_rfl) ?_;refine qJ 2 rfl rfl rfl (by kernel_rfl) ?_;refine qJ 3 rfl rfl rfl (by kernel_rfl) ?_;refine qJ 4 rfl rfl rfl (by kernel_rfl) ?_;refine zai (by first|omega|assumption|decide|(simp only [zds];omega)|(simp <;> omega)) ?_;refine qG [1,5] (by kernel_rfl) rfl ?_;refine zai ?_ ?_
        ·refine qG [5] (by kernel_rfl) rfl ?_;refine qG [6] (by kernel_rfl) rfl ?_;refine qJ 7 rfl rfl rfl (by kernel_rfl) ?_;refine zai (by show t.raw.size + (L.getD i ((0 : Int),(0 : Int),ByteArray.empty,false)).2.2.1.size ≤ maxLen;unfold maxLen;omega) ?_;refine qJ 8 rfl rfl rfl (by kernel_rfl) ?_;refine zai (by rw [ByteArray.size_append];show t.raw.size + (L.getD i ((0 : Int),(0 : Int),ByteArray.empty,false)).2.2.1.size + 1 ≤ maxLen;unfold maxLen;omega) ?_;refine qJ 9 rfl rfl rfl (by kernel_rfl) ?_;refine qG [10] (by kernel_rfl) rfl ?_;refine qN (by kernel_rfl) ?_;exact ⟨(),trivial,qQ ⟨rfl,rfl,rfl,rfl,rfl,rfl⟩ ⟨rfl,rfl⟩ rfl⟩
        ·refine qG [1,6] (by kernel_rfl) rfl ?_;refine zai ?_ ?_
         ·refine qG [6] (by kernel_rfl) rfl ?_;refine qJ 7 rfl rfl rfl (by kernel_rfl) ?_;refine zai (by show t.raw.size + (L.getD i ((0 : Int),(0 : Int),ByteArray.empty,false)).2.2.1.size ≤ maxLen;unfold maxLen;omega) ?_;refine qJ 8 rfl rfl rfl (by kernel_rfl) ?_;refine zai (by rw [ByteArray.size_append];show t.raw.size + (L.getD i ((0 : Int),(0 : Int),ByteArray.empty,false)).2.2.1.size + 1 ≤ maxLen;unfold maxLen;omega) ?_;refine qJ 9 rfl rfl rfl (by kernel_rfl) ?_;refine qG [10] (by kernel_rfl) rfl ?_;refine qN (by kernel_rfl) ?_;exact ⟨(),trivial,qQ ⟨rfl,rfl,rfl,rfl,rfl,rfl⟩ ⟨rfl,rfl⟩ rfl⟩
         ·refine qG [1] (by kernel_rfl) rfl ?_;refine qJ 7 rfl rfl rfl (by kernel_rfl) ?_;refine zai (by show t.raw.size + (L.getD i ((0 : Int),(0 : Int),ByteArray.empty,false)).2.2.1.size ≤ maxLen;unfold maxLen;omega) ?_;refine qJ 8 rfl rfl rfl (by kernel_rfl) ?_;refine zai (by rw [ByteArray.size_append];show t.raw.size + (L.getD i ((0 : Int),(0 : Int),ByteArray.empty,false)).2.2.1.size + 1 ≤ maxLen;unfold maxLen;omega) ?_;refine qJ 9 rfl rfl rfl (by kernel_rfl) ?_;refine qG [10] (by kernel_rfl) rfl ?_;refine qN (by kernel_rfl) ?_;exact ⟨(),trivial,qQ ⟨rfl,rfl,rfl,rfl,rfl,rfl⟩ ⟨rfl,rfl⟩ rfl⟩
       ·intro u hcut24;refine qC ?_;refine qB ?_;refine zai (by first|omega|assumption|decide|(simp only [zds];omega)|(simp <;> omega)) ?_;refine qK rfl (fun h91=>?_) (fun h91=>?_)
        ·try simp only [decide_eq_true_eq] at h91
         try simp only [Int.toNat_natCast,qE] at h91
         rw [kind_at hk hil] at h91;refine acode_cut (fun (rc : Int)=>rc = (if t.kind = 2 then t.recs + 1 else t.recs)) (fun (rc : Int)=>[(5,.one (.sl rLne L)),(6,.one (.sl (.int .i64) k)),(8,.one (.vec 2)),(9,.one (.own 1 0)),(10,ii .i64 rc),(11,ii .i64 i)]) (fun (rc : Int)=>[(1,.box 109 [.lit (.int .i64 t.kind),.lit (.string (t.raw ++ (L.getD i ((0 : Int),(0 : Int),ByteArray.empty,false)).2.2.1 ++ ⟨#[10]⟩)),.sl rFld t.flds]),(2,.vec 109 rItm t.out)]) 4 ?_ ?_
         ·refine qC ?_;refine qB ?_;refine qK rfl (fun h94=>?_) (fun h94=>?_)
          ·try simp only [decide_eq_true_eq] at h94
           try simp only [zds] at h94
           refine qB ?_;refine zai (by first|omega|assumption|decide|(simp only [zds];omega)|(simp <;> omega)) ?_;exact ⟨t.recs + 1,(by rw [if_pos h94]),qQ ⟨rfl,rfl,rfl,rfl,rfl,rfl⟩ ⟨rfl,rfl⟩ rfl⟩
          ·try simp only [decide_eq_false_iff_not] at h94
           try simp only [zds] at h94
           refine qM ?_;exact ⟨t.recs,(by rw [if_neg h94]),qQ ⟨rfl,rfl,rfl,rfl,rfl,rfl⟩ ⟨rfl,rfl⟩ rfl⟩
         ·intro rc hcut27;have hS : yU t (L.getD i ((0 : Int),(0 : Int),ByteArray.empty,false)) (L.drop (i + 1)) = ⟨3,t.raw ++ (L.getD i ((0 : Int),(0 : Int),ByteArray.empty,false)).2.2.1 ++ ⟨#[10]⟩,t.flds ++ [fldOf (saidL (L.getD i ((0 : Int),(0 : Int),ByteArray.empty,false)) (L.drop (i + 1)))],t.out,rc⟩:=(by unfold yU;rw [if_neg h58,if_pos h91,hcut27]);refine qC ?_;refine qB ?_;refine qC ?_;refine qB ?_;refine Or.inl ?_;refine zai (rfl) ?_;refine zei _ (zai (said_c L k hk i hil (by omega)) ?_);refine Or.inl ?_;refine zai (rfl) ?_;refine zei _ (zai (unfold_any _ (hss i hil)) ?_);refine yX rfl ?_;refine qJ 1 rfl rfl rfl (by kernel_rfl) ?_;refine qG [0,2,4] (by kernel_rfl) rfl ?_;refine zai ?_ ?_
          ·refine qG [2,4] (by kernel_rfl) rfl ?_;refine zai ?_ ?_
           ·refine qG [3,4] (by kernel_rfl) rfl ?_;refine zai ?_ ?_
            ·refine zai (by first|exact qP (by first|omega|(simp only [List.length_nil];omega)|(simp;omega)) (by decide)|omega|assumption|decide|(simp only [zds];omega)|(simp <;> omega)) ?_;refine qG [4] (by kernel_rfl) rfl ?_;refine qG [5] (by kernel_rfl) rfl ?_;refine qG [6] (by kernel_rfl) rfl ?_;refine zai (by exact qP (show t.flds.length + 1 ≤ 1000000000 by omega) (by decide)) ?_;refine qJ 7 rfl rfl rfl (by kernel_rfl) ?_;refine qG [8] (by kernel_rfl) rfl ?_;refine qN (by kernel_rfl) ?_;refine yG [5,6] ?_;refine qB ?_;refine zai (by first|omega|assumption|decide|(simp only [zds];omega)|(simp <;> omega)) ?_;exact ⟨(i + 1,yU t (L.getD i ((0 : Int),(0 : Int),ByteArray.empty,false)) (L.drop (i + 1))),hN,by first|omega|(simp <;> omega),qQ ⟨rfl,rfl,rfl,rfl,((by rw [hS];try rfl)),(qR (by simp only;omega))⟩ ⟨((by rw [hS];try rfl)),((by rw [hS];try rfl))⟩ rfl⟩
            ·refine qG [3,5] (by kernel_rfl) rfl ?_;refine zai ?_ ?_
             ·refine zai (by first|exact qP (by first|omega|(simp only [List.length_nil];omega)|(simp;omega)) (by decide)|omega|assumption|decide|(simp only [zds];omega)|(simp <;> omega)) ?_;refine qG [5] (by kernel_rfl) rfl ?_;refine qG [6] (by kernel_rfl) rfl ?_;refine zai (by exact qP (show t.flds.length + 1 ≤ 1000000000 by omega) (by decide)) ?_;refine qJ 7 rfl rfl rfl (by kernel_rfl) ?_;refine qG [8] (by kernel_rfl) rfl ?_;refine qN (by kernel_rfl) ?_;refine yG [5,6] ?_;refine qB ?_;refine zai (by first|omega|assumption|decide|(simp only [zds];omega)|(simp <;> omega)) ?_;exact ⟨(i + 1,yU t (L.getD i ((0 : Int),(0 : Int),ByteArray.empty,false)) (L.drop (i + 1))),hN,by first|omega|(simp <;> omega),qQ ⟨rfl,rfl,rfl,rfl,((by rw [hS];try rfl)),(qR (by simp only;omega))⟩ ⟨((by rw [hS];try rfl)),((by rw [hS];try rfl))⟩ rfl⟩
             ·refine qG [3] (by kernel_rfl) rfl ?_;refine zai (by first|exact qP (by first|omega|(simp only [List.length_nil];omega)|(simp;omega)) (by decide)|omega|assumption|decide|(simp only [zds];omega)|(simp <;> omega)) ?_;refine qG [6] (by kernel_rfl) rfl ?_;refine zai (by exact qP (show t.flds.length + 1 ≤ 1000000000 by omega) (by decide)) ?_;refine qJ 7 rfl rfl rfl (by kernel_rfl) ?_;refine qG [8] (by kernel_rfl) rfl ?_;refine qN (by kernel_rfl) ?_;refine yG [5,6] ?_;refine qB ?_;refine zai (by first|omega|assumption|decide|(simp only [zds];omega)|(simp <;> omega)) ?_;exact ⟨(i + 1,yU t (L.getD i ((0 : Int),(0 : Int),ByteArray.empty,false)) (L.drop (i + 1))),hN,by first|omega|(simp <;> omega),qQ ⟨rfl,rfl,rfl,rfl,((by rw [hS];try rfl)),(qR (by simp only;omega))⟩ ⟨((by rw [hS];try rfl)),((by rw [hS];try rfl))⟩ rfl⟩
           ·refine qG [2,5] (by kernel_rfl) rfl ?_;refine zai ?_ ?_
            ·refine qG [3,5] (by kernel_rfl) rfl ?_;refine zai ?_ ?_
             ·refine zai (by first|exact qP (by first|omega|(simp only [List.length_nil];omega)|(simp;omega)) (by decide)|omega|assumption|decide|(simp only [zds];omega)|(simp <;> omega)) ?_;refine qG [5] (by kernel_rfl) rfl ?_;refine qG [6] (by kernel_rfl) rfl ?_;refine zai (by exact qP (show t.flds.length + 1 ≤ 1000000000 by omega) (by decide)) ?_;refine qJ 7 rfl rfl rfl (by kernel_rfl) ?_;refine qG [8] (by kernel_rfl) rfl ?_;refine qN (by kernel_rfl) ?_;refine yG [5,6] ?_;refine qB ?_;refine zai (by first|omega|assumption|decide|(simp only [zds];omega)|(simp <;> omega)) ?_;exact ⟨(i + 1,yU t (L.getD i ((0 : Int),(0 : Int),ByteArray.empty,false)) (L.drop (i + 1))),hN,by first|omega|(simp <;> omega),qQ ⟨rfl,rfl,rfl,rfl,((by rw [hS];try rfl)),(qR (by simp only;omega))⟩ ⟨((by rw [hS];try rfl)),((by rw [hS];try rfl))⟩ rfl⟩
             ·refine qG [3] (by kernel_rfl) rfl ?_;refine zai (by first|exact qP (by first|omega|(simp only [List.length_nil];omega)|(simp;omega)) (by decide)|omega|assumption|decide|(simp only [zds];omega)|(simp <;> omega)) ?_;refine qG [6] (by kernel_rfl) rfl ?_;refine zai (by exact qP (show t.flds.length + 1 ≤ 1000000000 by omega) (by decide)) ?_;refine qJ 7 rfl rfl rfl (by kernel_rfl) ?_;refine qG [8] (by kernel_rfl) rfl ?_;refine qN (by kernel_rfl) ?_;refine yG [5,6] ?_;refine qB ?_;refine zai (by first|omega|assumption|decide|(simp only [zds];omega)|(simp <;> omega)) ?_;exact ⟨(i + 1,yU t (L.getD i ((0 : Int),(0 : Int),ByteArray.empty,false)) (L.drop (i + 1))),hN,by first|omega|(simp <;> omega),qQ ⟨rfl,rfl,rfl,rfl,((by rw [hS];try rfl)),(qR (by simp only;omega))⟩ ⟨((by rw [hS];try rfl)),((by rw [hS];try rfl))⟩ rfl⟩
            ·refine qG [2] (by kernel_rfl) rfl ?_;refine qG [3] (by kernel_rfl) rfl ?_;refine zai (by first|exact qP (by first|omega|(simp only [List.length_nil];omega)|(simp;omega)) (by decide)|omega|assumption|decide|(simp only [zds];omega)|(simp <;> omega)) ?_;refine qG [6] (by kernel_rfl) rfl ?_;refine zai (by exact qP (show t.flds.length + 1 ≤ 1000000000 by omega) (by decide)) ?_;refine qJ 7 rfl rfl rfl (by kernel_rfl) ?_;refine qG [8] (by kernel_rfl) rfl ?_;refine qN (by kernel_rfl) ?_;refine yG [5,6] ?_;refine qB ?_;refine zai (by first|omega|assumption|decide|(simp only [zds];omega)|(simp <;> omega)) ?_;exact ⟨(i + 1,yU t (L.getD i ((0 : Int),(0 : Int),ByteArray.empty,false)) (L.drop (i + 1))),hN,by first|omega|(simp <;> omega),qQ ⟨rfl,rfl,rfl,rfl,((by rw [hS];try rfl)),(qR (by simp only;omega))⟩ ⟨((by rw [hS];try rfl)),((by rw [hS];try rfl))⟩ rfl⟩
          refine zai ?_ ?_
          ·refine qG [0,4] (by kernel_rfl) rfl ?_;refine zai ?_ ?_
           ·refine qG [3,4] (by kernel_rfl) rfl ?_;refine zai ?_ ?_
            ·refine zai (by first|exact qP (by first|omega|(simp only [List.length_nil];omega)|(simp;omega)) (by decide)|omega|assumption|decide|(simp only [zds];omega)|(simp <;> omega)) ?_;refine qG [4] (by kernel_rfl) rfl ?_;refine qG [5] (by kernel_rfl) rfl ?_;refine qG [6] (by kernel_rfl) rfl ?_;refine zai (by exact qP (show t.flds.length + 1 ≤ 1000000000 by omega) (by decide)) ?_;refine qJ 7 rfl rfl rfl (by kernel_rfl) ?_;refine qG [8] (by kernel_rfl) rfl ?_;refine qN (by kernel_rfl) ?_;refine yG [5,6] ?_;refine qB ?_;refine zai (by first|omega|assumption|decide|(simp only [zds];omega)|(simp <;> omega)) ?_;exact ⟨(i + 1,yU t (L.getD i ((0 : Int),(0 : Int),ByteArray.empty,false)) (L.drop (i + 1))),hN,by first|omega|(simp <;> omega),qQ ⟨rfl,rfl,rfl,rfl,((by rw [hS];try rfl)),(qR (by simp only;omega))⟩ ⟨((by rw [hS];try rfl)),((by rw [hS];try rfl))⟩ rfl⟩
            ·refine qG [3,5] (by kernel_rfl) rfl ?_;refine zai ?_ ?_
             ·refine zai (by first|exact qP (by first|omega|(simp only [List.length_nil];omega)|(simp;omega)) (by decide)|omega|assumption|decide|(simp only [zds];omega)|(simp <;> omega)) ?_;refine qG [5] (by kernel_rfl) rfl ?_;refine qG [6] (by kernel_rfl) rfl ?_;refine zai (by exact qP (show t.flds.length + 1 ≤ 1000000000 by omega) (by decide)) ?_;refine qJ 7 rfl rfl rfl (by kernel_rfl) ?_;refine qG [8] (by kernel_rfl) rfl ?_;refine qN (by kernel_rfl) ?_;refine yG [5,6] ?_;refine qB ?_;refine zai (by first|omega|assumption|decide|(simp only [zds];omega)|(simp <;> omega)) ?_;exact ⟨(i + 1,yU t (L.getD i ((0 : Int),(0 : Int),ByteArray.empty,false)) (L.drop (i + 1))),hN,by first|omega|(simp <;> omega),qQ ⟨rfl,rfl,rfl,rfl,((by rw [hS];try rfl)),(qR (by simp only;omega))⟩ ⟨((by rw [hS];try rfl)),((by rw [hS];try rfl))⟩ rfl⟩
             ·refine qG [3] (by kernel_rfl) rfl ?_;refine zai (by first|exact qP (by first|omega|(simp only [List.length_nil];omega)|(simp;omega)) (by decide)|omega|assumption|decide|(simp only [zds];omega)|(simp <;> omega)) ?_;refine qG [6] (by kernel_rfl) rfl ?_;refine zai (by exact qP (show t.flds.length + 1 ≤ 1000000000 by omega) (by decide)) ?_;refine qJ 7 rfl rfl rfl (by kernel_rfl) ?_;refine qG [8] (by kernel_rfl) rfl ?_;refine qN (by kernel_rfl) ?_;refine yG [5,6] ?_;refine qB ?_;refine zai (by first|omega|assumption|decide|(simp only [zds];omega)|(simp <;> omega)) ?_;exact ⟨(i + 1,yU t (L.getD i ((0 : Int),(0 : Int),ByteArray.empty,false)) (L.drop (i + 1))),hN,by first|omega|(simp <;> omega),qQ ⟨rfl,rfl,rfl,rfl,((by rw [hS];try rfl)),(qR (by simp only;omega))⟩ ⟨((by rw [hS];try rfl)),((by rw [hS];try rfl))⟩ rfl⟩
           ·refine qG [0,5] (by kernel_rfl) rfl ?_;refine zai ?_ ?_
            ·refine qG [3,5] (by kernel_rfl) rfl ?_;refine zai ?_ ?_
             ·refine zai (by first|exact qP (by first|omega|(simp only [List.length_nil];omega)|(simp;omega)) (by decide)|omega|assumption|decide|(simp only [zds];omega)|(simp <;> omega)) ?_;refine qG [5] (by kernel_rfl) rfl ?_;refine qG [6] (by kernel_rfl) rfl ?_;refine zai (by exact qP (show t.flds.length + 1 ≤ 1000000000 by omega) (by decide)) ?_;refine qJ 7 rfl rfl rfl (by kernel_rfl) ?_;refine qG [8] (by kernel_rfl) rfl ?_;refine qN (by kernel_rfl) ?_;refine yG [5,6] ?_;refine qB ?_;refine zai (by first|omega|assumption|decide|(simp only [zds];omega)|(simp <;> omega)) ?_;exact ⟨(i + 1,yU t (L.getD i ((0 : Int),(0 : Int),ByteArray.empty,false)) (L.drop (i + 1))),hN,by first|omega|(simp <;> omega),qQ ⟨rfl,rfl,rfl,rfl,((by rw [hS];try rfl)),(qR (by simp only;omega))⟩ ⟨((by rw [hS];try rfl)),((by rw [hS];try rfl))⟩ rfl⟩
             ·refine qG [3] (by kernel_rfl) rfl ?_;refine zai (by first|exact qP (by first|omega|(simp only [List.length_nil];omega)|(simp;omega)) (by decide)|omega|assumption|decide|(simp only [zds];omega)|(simp <;> omega)) ?_;refine qG [6] (by kernel_rfl) rfl ?_;refine zai (by exact qP (show t.flds.length + 1 ≤ 1000000000 by omega) (by decide)) ?_;refine qJ 7 rfl rfl rfl (by kernel_rfl) ?_;refine qG [8] (by kernel_rfl) rfl ?_;refine qN (by kernel_rfl) ?_;refine yG [5,6] ?_;refine qB ?_;refine zai (by first|omega|assumption|decide|(simp only [zds];omega)|(simp <;> omega)) ?_;exact ⟨(i + 1,yU t (L.getD i ((0 : Int),(0 : Int),ByteArray.empty,false)) (L.drop (i + 1))),hN,by first|omega|(simp <;> omega),qQ ⟨rfl,rfl,rfl,rfl,((by rw [hS];try rfl)),(qR (by simp only;omega))⟩ ⟨((by rw [hS];try rfl)),((by rw [hS];try rfl))⟩ rfl⟩
            ·refine qG [0] (by kernel_rfl) rfl ?_;refine qG [3] (by kernel_rfl) rfl ?_;refine zai (by first|exact qP (by first|omega|(simp only [List.length_nil];omega)|(simp;omega)) (by decide)|omega|assumption|decide|(simp only [zds];omega)|(simp <;> omega)) ?_;refine qG [6] (by kernel_rfl) rfl ?_;refine zai (by exact qP (show t.flds.length + 1 ≤ 1000000000 by omega) (by decide)) ?_;refine qJ 7 rfl rfl rfl (by kernel_rfl) ?_;refine qG [8] (by kernel_rfl) rfl ?_;refine qN (by kernel_rfl) ?_;refine yG [5,6] ?_;refine qB ?_;refine zai (by first|omega|assumption|decide|(simp only [zds];omega)|(simp <;> omega)) ?_;exact ⟨(i + 1,yU t (L.getD i ((0 : Int),(0 : Int),ByteArray.empty,false)) (L.drop (i + 1))),hN,by first|omega|(simp <;> omega),qQ ⟨rfl,rfl,rfl,rfl,((by rw [hS];try rfl)),(qR (by simp only;omega))⟩ ⟨((by rw [hS];try rfl)),((by rw [hS];try rfl))⟩ rfl⟩
          ·refine qG [0,2,5] (by kernel_rfl) rfl ?_;refine zai ?_ ?_
           ·refine qG [2,5] (by kernel_rfl) rfl ?_;refine zai ?_ ?_
            ·refine qG [3,5] (by kernel_rfl) rfl ?_;refine zai ?_ ?_
             ·refine zai (by first|exact qP (by first|omega|(simp only [List.length_nil];omega)|(simp;omega)) (by decide)|omega|assumption|decide|(simp only [zds];omega)|(simp <;> omega)) ?_;refine qG [5] (by kernel_rfl) rfl ?_;refine qG [6] (by kernel_rfl) rfl ?_;refine zai (by exact qP (show t.flds.length + 1 ≤ 1000000000 by omega) (by decide)) ?_;refine qJ 7 rfl rfl rfl (by kernel_rfl) ?_;refine qG [8] (by kernel_rfl) rfl ?_;refine qN (by kernel_rfl) ?_;refine yG [5,6] ?_;refine qB ?_;refine zai (by first|omega|assumption|decide|(simp only [zds];omega)|(simp <;> omega)) ?_;exact ⟨(i + 1,yU t (L.getD i ((0 : Int),(0 : Int),ByteArray.empty,false)) (L.drop (i + 1))),hN,by first|omega|(simp <;> omega),qQ ⟨rfl,rfl,rfl,rfl,((by rw [hS];try rfl)),(qR (by simp only;omega))⟩ ⟨((by rw [hS];try rfl)),((by rw [hS];try rfl))⟩ rfl⟩
             ·refine qG [3] (by kernel_rfl) rfl ?_;refine zai (by first|exact qP (by first|omega|(simp only [List.length_nil];omega)|(simp;omega)) (by decide)|omega|assumption|decide|(simp only [zds];omega)|(simp <;> omega)) ?_;refine qG [6] (by kernel_rfl) rfl ?_;refine zai (by exact qP (show t.flds.length + 1 ≤ 1000000000 by omega) (by decide)) ?_;refine qJ 7 rfl rfl rfl (by kernel_rfl) ?_;refine qG [8] (by kernel_rfl) rfl ?_;refine qN (by kernel_rfl) ?_;refine yG [5,6] ?_;refine qB ?_;refine zai (by first|omega|assumption|decide|(simp only [zds];omega)|(simp <;> omega)) ?_;exact ⟨(i + 1,yU t (L.getD i ((0 : Int),(0 : Int),ByteArray.empty,false)) (L.drop (i + 1))),hN,by first|omega|(simp <;> omega),qQ ⟨rfl,rfl,rfl,rfl,((by rw [hS];try rfl)),(qR (by simp only;omega))⟩ ⟨((by rw [hS];try rfl)),((by rw [hS];try rfl))⟩ rfl⟩
            ·refine qG [2] (by kernel_rfl) rfl ?_;refine qG [3] (by kernel_rfl) rfl ?_;refine zai (by first|exact qP (by first|omega|(simp only [List.length_nil];omega)|(simp;omega)) (by decide)|omega|assumption|decide|(simp only [zds];omega)|(simp <;> omega)) ?_;refine qG [6] (by kernel_rfl) rfl ?_;refine zai (by exact qP (show t.flds.length + 1 ≤ 1000000000 by omega) (by decide)) ?_;refine qJ 7 rfl rfl rfl (by kernel_rfl) ?_;refine qG [8] (by kernel_rfl) rfl ?_;refine qN (by kernel_rfl) ?_;refine yG [5,6] ?_;refine qB ?_;refine zai (by first|omega|assumption|decide|(simp only [zds];omega)|(simp <;> omega)) ?_;exact ⟨(i + 1,yU t (L.getD i ((0 : Int),(0 : Int),ByteArray.empty,false)) (L.drop (i + 1))),hN,by first|omega|(simp <;> omega),qQ ⟨rfl,rfl,rfl,rfl,((by rw [hS];try rfl)),(qR (by simp only;omega))⟩ ⟨((by rw [hS];try rfl)),((by rw [hS];try rfl))⟩ rfl⟩
           refine zai ?_ ?_
           ·refine qG [0,5] (by kernel_rfl) rfl ?_;refine zai ?_ ?_
            ·refine qG [3,5] (by kernel_rfl) rfl ?_;refine zai ?_ ?_
             ·refine zai (by first|exact qP (by first|omega|(simp only [List.length_nil];omega)|(simp;omega)) (by decide)|omega|assumption|decide|(simp only [zds];omega)|(simp <;> omega)) ?_;refine qG [5] (by kernel_rfl) rfl ?_;refine qG [6] (by kernel_rfl) rfl ?_;refine zai (by exact qP (show t.flds.length + 1 ≤ 1000000000 by omega) (by decide)) ?_;refine qJ 7 rfl rfl rfl (by kernel_rfl) ?_;refine qG [8] (by kernel_rfl) rfl ?_;refine qN (by kernel_rfl) ?_;refine yG [5,6] ?_;refine qB ?_;refine zai (by first|omega|assumption|decide|(simp only [zds];omega)|(simp <;> omega)) ?_;exact ⟨(i + 1,yU t (L.getD i ((0 : Int),(0 : Int),ByteArray.empty,false)) (L.drop (i + 1))),hN,by first|omega|(simp <;> omega),qQ ⟨rfl,rfl,rfl,rfl,((by rw [hS];try rfl)),(qR (by simp only;omega))⟩ ⟨((by rw [hS];try rfl)),((by rw [hS];try rfl))⟩ rfl⟩
             ·refine qG [3] (by kernel_rfl) rfl ?_;refine zai (by first|exact qP (by first|omega|(simp only [List.length_nil];omega)|(simp;omega)) (by decide)|omega|assumption|decide|(simp only [zds];omega)|(simp <;> omega)) ?_;refine qG [6] (by kernel_rfl) rfl ?_;refine zai (by exact qP (show t.flds.length + 1 ≤ 1000000000 by omega) (by decide)) ?_;refine qJ 7 rfl rfl rfl (by kernel_rfl) ?_;refine qG [8] (by kernel_rfl) rfl ?_;refine qN (by kernel_rfl) ?_;refine yG [5,6] ?_;refine qB ?_;refine zai (by first|omega|assumption|decide|(simp only [zds];omega)|(simp <;> omega)) ?_;exact ⟨(i + 1,yU t (L.getD i ((0 : Int),(0 : Int),ByteArray.empty,false)) (L.drop (i + 1))),hN,by first|omega|(simp <;> omega),qQ ⟨rfl,rfl,rfl,rfl,((by rw [hS];try rfl)),(qR (by simp only;omega))⟩ ⟨((by rw [hS];try rfl)),((by rw [hS];try rfl))⟩ rfl⟩
            ·refine qG [0] (by kernel_rfl) rfl ?_;refine qG [3] (by kernel_rfl) rfl ?_;refine zai (by first|exact qP (by first|omega|(simp only [List.length_nil];omega)|(simp;omega)) (by decide)|omega|assumption|decide|(simp only [zds];omega)|(simp <;> omega)) ?_;refine qG [6] (by kernel_rfl) rfl ?_;refine zai (by exact qP (show t.flds.length + 1 ≤ 1000000000 by omega) (by decide)) ?_;refine qJ 7 rfl rfl rfl (by kernel_rfl) ?_;refine qG [8] (by kernel_rfl) rfl ?_;refine qN (by kernel_rfl) ?_;refine yG [5,6] ?_;refine qB ?_;refine zai (by first|omega|assumption|decide|(simp only [zds];omega)|(simp <;> omega)) ?_;exact ⟨(i + 1,yU t (L.getD i ((0 : Int),(0 : Int),ByteArray.empty,false)) (L.drop (i + 1))),hN,by first|omega|(simp <;> omega),qQ ⟨rfl,rfl,rfl,rfl,((by rw [hS];try rfl)),(qR (by simp only;omega))⟩ ⟨((by rw [hS];try rfl)),((by rw [hS];try rfl))⟩ rfl⟩
           ·refine qG [0,2] (by kernel_rfl) rfl ?_;refine zai ?_ ?_
            ·refine qG [2] (by kernel_rfl) rfl ?_;refine qG [3] (by kernel_rfl) rfl ?_;refine zai (by first|exact qP (by first|omega|(simp only [List.length_nil];omega)|(simp;omega)) (by decide)|omega|assumption|decide|(simp only [zds];omega)|(simp <;> omega)) ?_;refine qG [6] (by kernel_rfl) rfl ?_;refine zai (by exact qP (show t.flds.length + 1 ≤ 1000000000 by omega) (by decide)) ?_;refine qJ 7 rfl rfl rfl (by kernel_rfl) ?_;refine qG [8] (by kernel_rfl) rfl ?_;refine qN (by kernel_rfl) ?_;refine yG [5,6] ?_;refine qB ?_;refine zai (by first|omega|assumption|decide|(simp only [zds];omega)|(simp <;> omega)) ?_;exact ⟨(i + 1,yU t (L.getD i ((0 : Int),(0 : Int),ByteArray.empty,false)) (L.drop (i + 1))),hN,by first|omega|(simp <;> omega),qQ ⟨rfl,rfl,rfl,rfl,((by rw [hS];try rfl)),(qR (by simp only;omega))⟩ ⟨((by rw [hS];try rfl)),((by rw [hS];try rfl))⟩ rfl⟩
            ·refine qG [0] (by kernel_rfl) rfl ?_;refine qG [3] (by kernel_rfl) rfl ?_;refine zai (by first|exact qP (by first|omega|(simp only [List.length_nil];omega)|(simp;omega)) (by decide)|omega|assumption|decide|(simp only [zds];omega)|(simp <;> omega)) ?_;refine qG [6] (by kernel_rfl) rfl ?_;refine zai (by exact qP (show t.flds.length + 1 ≤ 1000000000 by omega) (by decide)) ?_;refine qJ 7 rfl rfl rfl (by kernel_rfl) ?_;refine qG [8] (by kernel_rfl) rfl ?_;refine qN (by kernel_rfl) ?_;refine yG [5,6] ?_;refine qB ?_;refine zai (by first|omega|assumption|decide|(simp only [zds];omega)|(simp <;> omega)) ?_;exact ⟨(i + 1,yU t (L.getD i ((0 : Int),(0 : Int),ByteArray.empty,false)) (L.drop (i + 1))),hN,by first|omega|(simp <;> omega),qQ ⟨rfl,rfl,rfl,rfl,((by rw [hS];try rfl)),(qR (by simp only;omega))⟩ ⟨((by rw [hS];try rfl)),((by rw [hS];try rfl))⟩ rfl⟩
        ·try simp only [decide_eq_false_iff_not] at h91
         try simp only [Int.toNat_natCast,qE] at h91
         rw [kind_at hk hil] at h91;have hS : yU t (L.getD i ((0 : Int),(0 : Int),ByteArray.empty,false)) (L.drop (i + 1)) = { t with raw:=t.raw ++ (L.getD i ((0 : Int),(0 : Int),ByteArray.empty,false)).2.2.1 ++ ⟨#[10]⟩ }:=(by unfold yU;rw [if_neg h58,if_neg h91]);refine qM ?_;refine qB ?_;refine zai (by first|omega|assumption|decide|(simp only [zds];omega)|(simp <;> omega)) ?_;exact ⟨(i + 1,yU t (L.getD i ((0 : Int),(0 : Int),ByteArray.empty,false)) (L.drop (i + 1))),hN,by first|omega|(simp <;> omega),qQ ⟨rfl,rfl,rfl,rfl,((by rw [hS];try rfl)),(qR (by simp only;omega))⟩ ⟨((by rw [hS];try rfl)),((by rw [hS];try rfl))⟩ rfl⟩
    ·try simp only [decide_eq_false_iff_not,Int.not_lt] at h39
     try simp only [zds] at h39
     refine qZ ?_;have hd : L.drop i = []:=List.drop_eq_nil_of_le (by omega);have hE:=hI.eq;rw [hd] at hE;refine qC ?_;refine qC ?_;refine qB ?_;refine qK rfl (fun h116=>?_) (fun h116=>?_)
     ·try simp only [decide_eq_false_iff_not,Bool.not_eq_true'] at h116
      try simp only [zds] at h116
      refine qB ?_;refine zai (by first|exact qP (by first|omega|(simp only [List.length_cons,List.length_nil];omega)|(simp;omega)) (by decide)|omega|assumption|decide|(simp only [zds];omega)|(simp <;> omega)) ?_;refine qC ?_;refine qB ?_;refine qL ?_;rw [hE];unfold runR;rw [if_neg (show ¬ t.raw = ByteArray.empty from h116)];rfl
     ·try simp only [decide_eq_true_eq,Bool.not_eq_false'] at h116
      try simp only [zds] at h116
      refine qM ?_;refine qC ?_;refine qB ?_;refine qL ?_;rw [hE];unfold runR;rw [if_pos (show t.raw = ByteArray.empty from h116)];rfl
abbrev rRow : Rd (List Fld):=.sl rFld
def recsL (l : List Itm) : List (List Fld):=(l.filter fun x=>decide (x.1 = 3)).map (·.2.2)
def contP (p : PSt) : List UInt8:=rawsL p.its ++ endL (p.blk.map ls)
theorem raws_app (a b : List Itm) : rawsL (a ++ b) = rawsL a ++ rawsL b:=by simp [rawsL]
theorem endL_app (a b : List (List UInt8)) : endL (a ++ b) = endL a ++ endL b:=by simp [endL]
theorem close_cont (p : PSt) : contP (xS p) = contP p:=by
  unfold xS;split
  · rename_i h;unfold contP;simp [h]
  · rename_i h;unfold contP;simp only [raws_app];rw [rawB_C h];have : rawsL [((if p.flds = [] then 2 else 3 : Int),rawC p.blk,p.flds)] = endL (p.blk.map ls):=by
      unfold rawsL rawC;simp only [List.flatMap_cons,List.flatMap_nil,List.append_nil];exact yD _
    rw [this];simp [endL]
theorem flush_cont {p q : PSt} (h : yP p = .inr q) : contP q = contP p:=by
  obtain ⟨h1,h2⟩:=flush_same h;unfold contP;rw [h1,h2]
theorem end_cont {p q : PSt} (h : endS p = .inr q) : contP q = contP p:=by
  unfold endS at h;cases e : yP p with
  | inl x=>rw [e] at h;cases h
  | inr r =>
    rw [e] at h;cases h;rw [close_cont,flush_cont e]
theorem ahead_cont {p q : PSt} {l : Lne} {k : Int} (h : yR p l k = .inr q) : contP q = contP p:=by
  unfold yR at h;split at h
  · split at h
    · cases h
    · split at h
      · cases h;rfl
      · rw [flush_cont h];rfl
  · split at h
    · exact end_cont h
    · exact flush_cont h
theorem take_cont {p q : PSt} {l : Lne} (h : yS p l = .inr q) : contP q = contP p ++ (ls l.2.2.1 ++ [10]):=by
  have hi:=fun hk=>(ahead_took (p:=p) (l:=l) (k:=yB (ls l.2.2.1)) (q:=q) hk)
  unfold yS at h;cases e : yR p l (yB (ls l.2.2.1)) with
  | inl x=>rw [e] at h;cases h
  | inr r =>
    rw [e] at h;have hc:=ahead_cont e;obtain ⟨_,_,h4⟩:=ahead_took e;simp only at h;unfold lineS at h;split at h
    · cases h
    · split at h
      · rename_i g1;cases h;rw [← hc];unfold contP;simp only [raws_app,(h4 g1).2.1];simp [rawsL,endL,ls]
      · split at h
        · cases h;rw [← hc];unfold contP xP;simp only [List.map_append,endL_app];simp [endL,ls]
        · cases h;rw [← hc];unfold contP;simp only [List.map_append,endL_app];simp [endL,ls]
theorem run_cont : ∀ (L : List Lne) (p q : PSt),runS p L = .inr q → contP q = contP p ++ glue (L.map (·.2.2))
  | [],p,q,h=>by cases h;simp [glue]
  | l :: r,p,q,h=>by
    simp only [runS] at h;cases e : yS p l with
    | inl x=>rw [e] at h;cases h
    | inr p1 =>
      rw [e] at h;obtain ⟨he,_⟩:=take_took e;rw [run_cont r p1 q h,take_cont e,List.map_cons];simp only [glue,he,if_true,List.append_assoc]
theorem raws_text {s : ByteArray} {l : List Itm} (hp : xG s = .inr l) : bytes (rawsL l) = s:=by
  unfold xG at hp;cases e : runS pst0 (yC s) with
  | inl x=>rw [e] at hp;cases hp
  | inr p =>
    rw [e] at hp;simp only at hp;cases e2 : endS p with
    | inl x=>rw [e2] at hp;cases hp
    | inr q =>
      rw [e2] at hp;cases hp;obtain ⟨_,_,hidle⟩:=end_took e2;have h1 : contP q = rawsL q.its:=by unfold contP;rw [hidle.2.1];simp [endL]
      rw [← h1,end_cont e2,run_cont _ _ _ e,lines_text,glue_lines _ _ (by rw [show (ls s).length = s.size from (yA s).symm];exact Nat.le_refl _)];exact bytes_ls s
theorem runR_ne : ∀ (L : List Lne) (t : RSt) (bh : Bool) (e : Int × Int),runR bh t L = .inl e → e.2 ≠ 0
  | [],t,bh,e,h=>by unfold runR at h;cases h
  | l :: r,t,bh,e,h=>by
    unfold runR at h;split at h
    · rename_i hw;cases h;exact hw
    · exact runR_ne r _ _ e h
theorem items_flds {s : ByteArray} {l : List Itm} (hs : s.size ≤ 60000) (hp : xG s = .inr l) : l.length ≤ 1000000 ∧ ∀ x ∈ l,x.2.2.length ≤ 1000000:=by
  have h0:=parse_ref s;rw [hp] at h0;obtain ⟨h1,_⟩:=linesT_len s;have key : ∀ (L : List Lne) (t : RSt) (bh : Bool) (l : List Itm),runR bh t L = .inr l → l.length ≤ t.out.length + 1 + 2 * L.length ∧ ∀ (B : Nat),t.flds.length + L.length ≤ B → (∀ x ∈ t.out,x.2.2.length ≤ B) → ∀ x ∈ l,x.2.2.length ≤ B:=by
    intro L
    induction L with
    | nil =>
      intro t bh l h;unfold runR at h;cases h;refine ⟨by split <;> simp,fun B hB ho x hx=>?_⟩;split at hx
      · exact ho x hx
      · rcases List.mem_append.1 hx with hx|hx
        · exact ho x hx
        · rw [List.mem_singleton.1 hx];simpa using hB
    | cons a r ih =>
      intro t bh l h;unfold runR at h;split at h
      · cases h
      · obtain ⟨i1,i2⟩:=ih _ _ _ h;have so : (yU t a r).out.length ≤ t.out.length + 2:=by
          unfold yU;split
          · simp only;split <;> simp
          · split <;> simp
        have sf : (yU t a r).flds.length ≤ t.flds.length + 1:=by
          unfold yU;split
          · simp
          · split <;> simp
        refine ⟨by rw [List.length_cons];omega,fun B hB ho=>i2 B (by rw [List.length_cons] at hB;omega) (fun x hx=>?_)⟩;have hB2 : t.flds.length ≤ B:=by omega
        unfold yU at hx;split at hx
        · simp only at hx;rcases List.mem_append.1 hx with hx|hx
          · split at hx
            · exact ho x hx
            · rcases List.mem_append.1 hx with hx|hx
              · exact ho x hx
              · rw [List.mem_singleton.1 hx];exact hB2
          · rw [List.mem_singleton.1 hx];exact Nat.zero_le _
        · split at hx
          · exact ho x hx
          · exact ho x hx
  obtain ⟨k1,k2⟩:=key _ _ _ _ h0.symm;refine ⟨by simp only [rst0,List.length_nil] at k1;omega,k2 1000000 (by simp only [rst0,List.length_nil];omega) (fun x hx=>by cases hx)⟩
def badAt : Int → List Fld → Int × Int
  | _,[]=>(-9,0)
  | i,f :: r=>if yV f ≠ 0 then (i,yV f) else badAt (i + 1) r
def chkR (l : List Fld) : Int × Int:=if l = [] then (-9,2) else if 40 < l.length then (-9,11) else badAt 0 l
def chkA (l : List Fld) : C:=if (chkR l).2 = 0 then .lit .nilIface else if (chkR l).1 = -9 then errN (chkR l).2 else errF (chkR l).1 (chkR l).2
theorem badAt_hit : ∀ (l : List Fld) (i : Nat) (k : Int),i < l.length → (∀ f ∈ l.take i,yV f = 0) → yV (l.getD i (ByteArray.empty,ByteArray.empty)) ≠ 0 → badAt k l = (k + i,yV (l.getD i (ByteArray.empty,ByteArray.empty)))
  | [],i,k,h,_,_=>by simp at h
  | f :: r,0,k,_,_,hb=>by
    unfold badAt;rw [if_pos (by simpa using hb)];simp
  | f :: r,i + 1,k,h,ht,hb=>by
    unfold badAt;rw [if_neg (by simpa using ht f (by simp))];rw [badAt_hit r i (k + 1) (by simpa using h) (fun g hg=>ht g (by simp [hg])) (by simpa using hb)];simp only [List.getD_cons_succ]
    congr 1
    omega
theorem badAt_no : ∀ (l : List Fld) (k : Int),(∀ f ∈ l,yV f = 0) → badAt k l = (-9,0)
  | [],_,_=>rfl
  | f :: r,k,h=>by
    unfold badAt;rw [if_neg (by simpa using h f (by simp))];exact badAt_no r (k + 1) (fun g hg=>h g (by simp [hg]))
theorem chkA_nil {l : List Fld} (h : chkR l = (-9,0)) : chkA l = .lit .nilIface:=by unfold chkA;rw [h];rfl
theorem chkA_no {l : List Fld} {n : Int} (h : chkR l = (-9,n)) (hn : n ≠ 0) : chkA l = errN n:=by unfold chkA;rw [h,if_neg hn,if_pos rfl]
theorem chkA_at {l : List Fld} {i n : Int} (h : chkR l = (i,n)) (hn : n ≠ 0) (hi : 0 ≤ i) : chkA l = errF i n:=by unfold chkA;rw [h,if_neg hn,if_neg (by show ¬ i = -9;omega)]
theorem pcheck_c {κ : Nat} (l : List Fld) (hl : yJ l) : qU Tryz.prog 47 [.one (.slk κ rFld l)] (.one (chkA l)):=by
  have hln:=hl.1;refine qW (rs:=[2]) Tryz.func47 rfl rfl rfl teOk rfl ?_;refine qC ?_;refine qB ?_;refine qC ?_;refine qO ?_;refine qC ?_;refine qB ?_;intro l1_1
  try simp only [zds] at l1_1
  refine qK rfl (fun h6=>?_) (fun h6=>?_)
  ·try simp only [decide_eq_true_eq] at h6
   try simp only [zds] at h6
   refine qC ?_;refine qB ?_;refine qL ?_;rw [chkA_no (l:=l) (n:=2) (by unfold chkR;rw [if_pos (List.eq_nil_of_length_eq_zero (by omega))]) (by decide)];rfl
  ·try simp only [decide_eq_false_iff_not] at h6
   try simp only [zds] at h6
   refine qC ?_;refine qB ?_;intro l3_1
   try simp only [zds] at l3_1
   refine qK rfl (fun h11=>?_) (fun h11=>?_)
   ·try simp only [decide_eq_true_eq] at h11
    try simp only [zds] at h11
    refine qC ?_;refine qB ?_;refine qL ?_;rw [chkA_no (l:=l) (n:=11) (by unfold chkR;rw [if_neg (fun e=>h6 (by rw [e];rfl)),if_pos (by omega)]) (by decide)];rfl
   ·try simp only [decide_eq_false_iff_not,Int.not_lt] at h11
    try simp only [zds] at h11
    refine qM ?_;refine qC ?_;refine qC ?_;refine qB ?_;intro l5_1
    try simp only [zds] at l5_1
    refine qO ?_;refine qV (fun (i : Nat)=>i ≤ l.length ∧ ∀ f ∈ l.take i,yV f = 0) (fun (i : Nat)=>[(16,.one (.slk κ rFld l)),(17,ii .i64 l.length),(18,ii .i64 i)]) (fun (i : Nat)=>[]) 0 (fun (i : Nat)=>l.length - i) 0 (⟨Nat.zero_le _,by simp⟩) (qQ ⟨rfl,rfl,rfl⟩ trivial rfl) ?_;intro i hI1;obtain ⟨hi,hall⟩:=hI1;refine qC ?_;refine qB ?_;refine qC ?_;refine qK rfl (fun h19=>?_) (fun h19=>?_)
    ·try simp only [decide_eq_true_eq] at h19
     try simp only [zds] at h19
     have hlt : i < l.length:=(by omega);have hm:=hl.2 _ (yT hlt (ByteArray.empty,ByteArray.empty));have hne : l ≠ []:=(fun e=>by rw [e] at hlt;simp at hlt);refine qM ?_;refine qC ?_;refine qO ?_;refine qC ?_;refine qB ?_;refine zai (by first|omega|assumption|decide|(simp only [zds];omega)|(simp <;> omega)) ?_;refine qC ?_;rcases check_cases (l.getD i (ByteArray.empty,ByteArray.empty)) with hc|hc|hc
     ·refine qB ?_;refine Or.inl ?_;refine zai (rfl) ?_;refine zei _ (zai (check_v (l.getD i (ByteArray.empty,ByteArray.empty)) _ (by omega) hc) ?_);refine qC ?_;refine qB ?_;refine qK rfl (fun h26=>?_) (fun h26=>?_)
      ·skip
       refine qC ?_;refine qB ?_;refine qL ?_;rw [chkA_at (l:=l) (i:=i) (n:=5) (by unfold chkR;rw [if_neg hne,if_neg (by omega),badAt_hit l i 0 hlt hall (by rw [hc];decide),hc];simp) (by decide) (by omega)];rfl
      ·try simp only [zbq] at h26
       try simp only [zds] at h26
       cases h26
     ·refine qB ?_;refine Or.inl ?_;refine zai (rfl) ?_;refine zei _ (zai (check_v (l.getD i (ByteArray.empty,ByteArray.empty)) _ (by omega) hc) ?_);refine qC ?_;refine qB ?_;refine qK rfl (fun h26=>?_) (fun h26=>?_)
      ·skip
       refine qC ?_;refine qB ?_;refine qL ?_;rw [chkA_at (l:=l) (i:=i) (n:=6) (by unfold chkR;rw [if_neg hne,if_neg (by omega),badAt_hit l i 0 hlt hall (by rw [hc];decide),hc];simp) (by decide) (by omega)];rfl
      ·try simp only [zbq] at h26
       try simp only [zds] at h26
       cases h26
     ·refine qB ?_;refine Or.inl ?_;refine zai (rfl) ?_;refine zei _ (zai (check_v (l.getD i (ByteArray.empty,ByteArray.empty)) _ (by omega) hc) ?_);refine qC ?_;refine qB ?_;refine qK rfl (fun h26=>?_) (fun h26=>?_)
      ·try simp only [Bool.not_eq_true'] at h26
       try simp only [zds] at h26
       cases h26
      ·try simp only [Bool.not_eq_false'] at h26
       try simp only [zds] at h26
       refine qM ?_;refine qB ?_;refine zai (by first|omega|assumption|decide|(simp only [zds];omega)|(simp <;> omega)) ?_;exact ⟨i + 1,⟨by omega,by rw [← yI (ByteArray.empty,ByteArray.empty) hlt];intro f hf;rcases List.mem_append.1 hf with h|h;exact hall f h;rw [List.mem_singleton.1 h];exact hc⟩,by first|omega|(simp <;> omega),qQ ⟨rfl,rfl,(qR (by omega))⟩ trivial rfl⟩
    ·try simp only [decide_eq_false_iff_not,Int.not_lt] at h19
     try simp only [zds] at h19
     refine qZ ?_;refine qC ?_;refine qB ?_;refine qL ?_;rw [List.take_of_length_le (by omega)] at hall;rw [chkA_nil (by unfold chkR;rw [if_neg (fun e=>h6 (by rw [e];rfl)),if_neg (by omega)];exact badAt_no l 0 hall)];rfl
theorem badAt_zero : ∀ (l : List Fld) (k : Int),(badAt k l).2 = 0 → (∀ f ∈ l,yV f = 0)
  | [],_,_,f,hf=>by cases hf
  | g :: r,k,h,f,hf=>by
    unfold badAt at h;split at h
    · rename_i hg;exact absurd h hg
    · rename_i hg;rcases List.mem_cons.1 hf with rfl|hf
      · exact Classical.not_not.1 hg
      · exact badAt_zero r (k + 1) h f hf
theorem chk_good {l : List Fld} (h : (chkR l).2 = 0) : GoodS l ∧ badF l = 0 ∧ chkA l = .lit .nilIface:=by
  have hA : chkA l = .lit .nilIface:=by unfold chkA;rw [if_pos h]
  unfold chkR at h;split at h
  · cases h
  · rename_i h0;split at h
    · cases h
    · rename_i h4;have:=badAt_zero l 0 h;exact ⟨⟨h0,by omega,this⟩,badF_ok this,hA⟩
theorem chk_bad {l : List Fld} (h : (chkR l).2 ≠ 0) : ∃ e,chkA l = e ∧ ((∃ n,n ≠ 0 ∧ e = errN n ∧ chkR l = (-9,n)) ∨ ∃ i n,n ≠ 0 ∧ e = errF i n ∧ chkR l = (i,n)):=by
  refine ⟨_,rfl,?_⟩;unfold chkA;rw [if_neg h]
  by_cases h9 : (chkR l).1 = -9
  · rw [if_pos h9];exact .inl ⟨_,h,rfl,Prod.ext h9 rfl⟩
  · rw [if_neg h9];exact .inr ⟨_,_,h,rfl,rfl⟩
theorem pstanza_ok {κ : Nat} {l : List Fld} (hl : yJ l) (h : (chkR l).2 = 0) : qU Tryz.prog 147 [.one (.slk κ rFld l)] (.tup [(false,[.lit (.string (bytes (foldL l)))]),(false,[.lit .nilIface])]):=by
  obtain ⟨h1,h2,h3⟩:=chk_good h;have hc:=pcheck_c (κ:=κ) l hl;rw [h3] at hc;refine qW (rs:=[2,3]) Tryz.func147 rfl rfl rfl teOk rfl ?_;refine qC ?_;refine qB ?_;refine qC ?_;refine qC ?_;refine qB ?_;refine Or.inl ?_;refine zai (rfl) ?_;refine zei _ (zai (hc) ?_);refine qC ?_;refine qB ?_;refine qK rfl (fun h8=>?_) (fun h8=>?_)
  ·try simp only [Bool.not_eq_true'] at h8
   try simp only [zds] at h8
   cases h8
  ·try simp only [Bool.not_eq_false'] at h8
   try simp only [zds] at h8
   refine qM ?_;refine qC ?_;refine qB ?_;refine Or.inl ?_;refine zai (rfl) ?_;refine zei _ (zai (fold_yes hl h2) ?_);refine qL ?_;rfl
theorem pstanza_err {κ : Nat} {l : List Fld} (hl : yJ l) (h : (chkR l).2 ≠ 0) : qU Tryz.prog 147 [.one (.slk κ rFld l)] (.tup [(false,[.lit (.string ⟨#[]⟩)]),(false,[chkA l])]):=by
  have hc:=pcheck_c (κ:=κ) l hl;obtain ⟨e,he,hs⟩:=chk_bad h;rw [he] at hc ⊢;rcases hs with ⟨n,hn,rfl,_⟩|⟨i,n,hn,rfl,_⟩
  ·
    refine qW (rs:=[2,3]) Tryz.func147 rfl rfl rfl teOk rfl ?_;refine qC ?_;refine qB ?_;refine qC ?_;refine qC ?_;refine qB ?_;refine Or.inl ?_;refine zai (rfl) ?_;refine zei _ (zai (hc) ?_);refine qC ?_;refine qB ?_;refine qK rfl (fun h8=>?_) (fun h8=>?_)
    ·skip
     refine qC ?_;refine qB ?_;refine qL ?_;rfl
    ·try simp only [zbq] at h8
     try simp only [zds] at h8
     cases h8
  ·
    refine qW (rs:=[2,3]) Tryz.func147 rfl rfl rfl teOk rfl ?_;refine qC ?_;refine qB ?_;refine qC ?_;refine qC ?_;refine qB ?_;refine Or.inl ?_;refine zai (rfl) ?_;refine zei _ (zai (hc) ?_);refine qC ?_;refine qB ?_;refine qK rfl (fun h8=>?_) (fun h8=>?_)
    ·skip
     refine qC ?_;refine qB ?_;refine qL ?_;rfl
    ·try simp only [zbq] at h8
     try simp only [zds] at h8
     cases h8
def apartK (k : Int) : List Itm → List Itm
  | []=>[]
  | x :: r=>if k ≠ 1 ∧ x.1 ≠ 1 then (1,⟨#[10]⟩,[]) :: x :: apartK x.1 r else x :: apartK x.1 r
def apartL (l : List Itm) : List Itm:=apartK 1 l
def altK (k : Int) : List Itm → Prop
  | []=>True
  | x :: r=>(k = 1 ∨ x.1 = 1) ∧ altK x.1 r
def lastK (k : Int) : List Itm → Int
  | []=>k
  | x :: r=>lastK x.1 r
def AltP (p : PSt) : Prop:=altK 1 p.its ∧ lastK 1 p.its = 1
theorem clone_c {k : Nat} (l : List Fld) (hl : l.length ≤ 1000000) : qU Tryz.prog 62 [.one (.slk k rFld l)] (.one (.sl rFld l)):=by
  refine qW (rs:=[2]) Tryz.func62 rfl rfl rfl teOk rfl ?_;refine qC ?_;refine qB ?_;refine qC ?_;refine qC ?_;refine acode_isnil (q:=k) [_] _ (R:=rFld) (xs:=l) rfl rfl rfl rfl (e:=82) rfl rfl ?_;refine ⟨rfl,fun b hb=>?_⟩;refine qK rfl (fun h4=>?_) (fun h4=>?_)
  ·have hl0:=hb h4;subst hl0;refine qC ?_;refine qB ?_;refine yZ 2 82 rFld rfl ?_;refine qL ?_;rfl
  ·refine qM ?_;refine qC ?_;refine qB ?_;refine zai (by first|exact qP (show l.length ≤ 1000000000 by omega) (by decide)|exact qP (show 0 + l.length ≤ 1000000000 by omega) (by decide)) ?_;refine qL ?_;rfl
def al6 : List (List Fld):=[[(⟨#[65]⟩,⟨#[49]⟩)],[(⟨#[66]⟩,⟨#[50]⟩)]]
theorem dif_row {ok : Oks} {w : World} {v : Value} {f : List Fld} (hf : yJ f) (h : SlOk rFld.n (fun cs x=>rFld.is ok w cs x) (okU ok w 0) w v f) : Rdl.Sl Dif.field Rdl.all w v f:=by
  obtain ⟨a,cap,hv,h1,h2,hc⟩:=h;refine ⟨a,cap,hv,h1,h2,fun i hi=>?_⟩;obtain ⟨b,off,cs,ha,_,_,hcell,hr⟩:=hc i hi;obtain ⟨c,d,rfl,e1,e2⟩:=hr;have hs:=hf.2 _ (List.getElem_mem hi);refine ⟨b,off,c ++ d,ha,trivial,⟨c,d,rfl,⟨e1,?_⟩,⟨e2,?_⟩⟩,fun j hj=>?_⟩
  · exact Nat.le_trans hs.1 (by decide)
  · exact Nat.le_trans hs.2 (by decide)
  · rw [← Nat.add_assoc];exact hcell.2 j hj
theorem dif_rows {ok : Oks} {w : World} {v : Value} {r : List (List Fld)} (hf : ∀ f ∈ r,yJ f) (h : SlOk (Rd.sl rFld).n (fun cs x=>(Rd.sl rFld).is ok w cs x) (okU ok w 0) w v r) : Rdl.Sl Dif.fields Rdl.all w v r:=by
  obtain ⟨a,cap,hv,h1,h2,hc⟩:=h;refine ⟨a,cap,hv,h1,h2,fun i hi=>?_⟩;obtain ⟨b,off,cs,ha,_,_,hcell,hr⟩:=hc i hi;obtain ⟨u,rfl,hs⟩:=hr;refine ⟨b,off,[u],ha,trivial,⟨u,rfl,dif_row (hf _ (List.getElem_mem hi)) hs⟩,fun j hj=>?_⟩;rw [← Nat.add_assoc];exact hcell.2 j hj
theorem ints_rep {ok : Oks} {p : Nat → Prop} {w : World} {v : Value} {xs : List Int} (hp : ∀ b,p b → ok 0 b) (h : Rdl.Sl Rdl.int p w v xs) : SlOk (Rd.int .i64).n (fun cs x=>(Rd.int .i64).is ok w cs x) (okU ok w 0) w v xs:=by
  obtain ⟨a,cap,hv,h1,h2,hc⟩:=h;refine ⟨a,cap,hv,h1,h2,fun i hi=>?_⟩;obtain ⟨b,off,cs,ha,hb,⟨rfl,_⟩,hcell⟩:=hc i hi;have h0:=hcell 0 (by decide);refine ⟨b,off,_,ha,okU0 (hp b hb),World.block_lt_of_cell? _ _ h0,⟨rfl,fun j hj=>?_⟩,rfl⟩;rw [Nat.add_assoc];exact hcell j hj
theorem way_c (xs ys : List (List Fld)) (hx : xs.length ≤ 900) (hy : ys.length ≤ 900) (fx : ∀ f ∈ xs,yJ f) (fy : ∀ f ∈ ys,yJ f) : qU Tryz.prog 73 [.one (.sl (.sl rFld) xs),.one (.sl (.sl rFld) ys)] (.one (.sl (.int .i64) (Dif.wayOf xs ys))):=by
  refine ⟨⟨_,Tryz.func73,rfl,rfl⟩,fun ok w vs _ hvs=>?_⟩;obtain ⟨v,t,rfl,hv,v2,t2,rfl,hv2,ht⟩:=hvs;rw [show t2 = [] from ht];refine (Dif.Way_new v v2 xs ys w (dif_rows fx hv) (dif_rows fy hv2) hx hy).mono ?_
  rintro e w' ⟨u,rfl,hs,hb⟩
  exact ⟨_,rfl,hb,ints_rep (fun b hb=>.inr ⟨hb,by decide⟩) hs⟩
theorem refWay_c (xs ys : List (List Fld)) (hx : xs.length ≤ 900) (hy : ys.length ≤ 900) (fx : ∀ f ∈ xs,yJ f) (fy : ∀ f ∈ ys,yJ f) : qU Tryz.prog 75 [.one (.sl (.sl rFld) xs),.one (.sl (.sl rFld) ys)] (.one (.sl (.int .i64) (Dif.wayOf xs ys))):=by
  refine ⟨⟨_,Tryz.func75,rfl,rfl⟩,fun ok w vs _ hvs=>?_⟩;obtain ⟨v,t,rfl,hv,v2,t2,rfl,hv2,ht⟩:=hvs;rw [show t2 = [] from ht];refine (Dif.refWay_new v v2 xs ys w (dif_rows fx hv) (dif_rows fy hv2) hx hy).mono ?_
  rintro e w' ⟨u,rfl,hs,hb⟩
  exact ⟨_,rfl,hb,ints_rep (fun b hb=>.inr ⟨hb,by decide⟩) hs⟩
theorem distance_c (xs ys : List (List Fld)) (hx : xs.length ≤ 900) (hy : ys.length ≤ 900) (fx : ∀ f ∈ xs,yJ f) (fy : ∀ f ∈ ys,yJ f) : qU Tryz.prog 45 [.one (.sl (.sl rFld) xs),.one (.sl (.sl rFld) ys)] (ii .i64 (Dif.dist xs ys : Int)):=by
  refine ⟨⟨_,Tryz.func45,rfl,rfl⟩,fun ok w vs _ hvs=>?_⟩;obtain ⟨v,t,rfl,hv,v2,t2,rfl,hv2,ht⟩:=hvs;rw [show t2 = [] from ht];refine (Dif.Distance_any v v2 xs ys w (dif_rows fx hv) (dif_rows fy hv2) hx hy).mono ?_
  rintro e w' ⟨rfl,hb⟩
  exact ⟨_,rfl,hb,rfl⟩
theorem dsame_c (xs ys : List (List Fld)) (fx : ∀ f ∈ xs,yJ f) (fy : ∀ f ∈ ys,yJ f) : qU Tryz.prog 46 [.one (.sl (.sl rFld) xs),.one (.sl (.sl rFld) ys)] (ib (decide (xs = ys))):=by
  refine ⟨⟨_,Tryz.func46,rfl,rfl⟩,fun ok w vs _ hvs=>?_⟩;obtain ⟨v,t,rfl,hv,v2,t2,rfl,hv2,ht⟩:=hvs;rw [show t2 = [] from ht];refine (Dif.Same_any v v2 xs ys w (dif_rows fx hv) (dif_rows fy hv2)).mono ?_
  rintro e w' ⟨rfl,n,rfl⟩
  exact ⟨_,rfl,below_drewN (Below.refl _ _) n,rfl⟩
theorem rsame_c (xs ys : List (List Fld)) (fx : ∀ f ∈ xs,yJ f) (fy : ∀ f ∈ ys,yJ f) : qU Tryz.prog 42 [.one (.sl (.sl rFld) xs),.one (.sl (.sl rFld) ys)] (ib (decide (xs = ys))):=by
  refine ⟨⟨_,Tryz.func42,rfl,rfl⟩,fun ok w vs _ hvs=>?_⟩;obtain ⟨v,t,rfl,hv,v2,t2,rfl,hv2,ht⟩:=hvs;rw [show t2 = [] from ht];refine (Dif.refSame_any v v2 xs ys w (dif_rows fx hv) (dif_rows fy hv2)).mono ?_
  rintro e w' ⟨rfl,n,rfl⟩
  exact ⟨_,rfl,below_drewN (Below.refl _ _) n,rfl⟩
theorem flush_recs {p q : PSt} (h : yP p = .inr q) : q.recs = p.recs:=by
  unfold yP at h;split at h
  · cases h;rfl
  · split at h
    · cases h
    · split at h
      · cases h
      · cases h;rfl
theorem close_recs (p : PSt) : p.recs ≤ (xS p).recs ∧ (xS p).recs ≤ p.recs + 1:=by
  unfold xS;split
  · exact ⟨Int.le_refl _,by simp only;omega⟩
  · simp only;split <;> omega
theorem end_recs {p q : PSt} (h : endS p = .inr q) : p.recs ≤ q.recs ∧ q.recs ≤ p.recs + 1:=by
  unfold endS at h;cases e : yP p with
  | inl x=>rw [e] at h;cases h
  | inr r =>
    rw [e] at h;cases h;rw [← flush_recs e];exact close_recs r
theorem ahead_recs {p q : PSt} {l : Lne} {k : Int} (h : yR p l k = .inr q) : p.recs ≤ q.recs ∧ (k ≠ 1 → q.recs = p.recs):=by
  unfold yR at h;split at h
  · split at h
    · cases h
    · split at h
      · cases h;exact ⟨Int.le_refl _,fun _=>rfl⟩
      · have:=flush_recs h;simp only at this;exact ⟨by omega,fun _=>this⟩
  · split at h
    · rename_i h1;exact ⟨(end_recs h).1,fun e=>absurd h1 e⟩
    · have:=flush_recs h;exact ⟨by omega,fun _=>this⟩
theorem line_recs {p q : PSt} {l : Lne} {k : Int} (h : lineS p l k = .inr q) : q.recs = p.recs:=by
  unfold lineS at h;split at h
  · cases h
  · split at h
    · cases h;rfl
    · split at h <;> (cases h;rfl)
theorem take_recs {p q : PSt} {l : Lne} (h : yS p l = .inr q) : p.recs ≤ q.recs ∧ (yB (ls l.2.2.1) ≠ 1 → q.recs = p.recs):=by
  unfold yS at h;cases e : yR p l (yB (ls l.2.2.1)) with
  | inl x=>rw [e] at h;cases h
  | inr r =>
    rw [e] at h;rw [line_recs h];exact ahead_recs e
theorem take_its {p q : PSt} {l : Lne} (h : yS p l = .inr q) (hk : yB (ls l.2.2.1) ≠ 1) : q.its = p.its:=by
  unfold yS at h;cases e : yR p l (yB (ls l.2.2.1)) with
  | inl x=>rw [e] at h;cases h
  | inr r =>
    rw [e] at h;have h1 : r.its = p.its:=by
      unfold yR at e;split at e
      · split at e
        · cases e
        · split at e
          · cases e;rfl
          · exact (flush_same e).1
      · exact (flush_same e).1
    rw [← h1];simp only at h;unfold lineS at h;split at h
    · cases h
    · split at h <;> (cases h;rfl)
structure Fwd (I : List Itm) (c : Int) (p q : PSt) : Prop where
  lns : p.lns = q.lns
  full : q.lns ≠ [] → q.full = false → p.full = false
  its : p.its = I ++ q.its
  blk : p.blk = q.blk
  flds : p.flds = q.flds
  recs : p.recs = q.recs + c
  c0 : 0 ≤ c
section
variable {I : List Itm} {c : Int} {p q q1 : PSt}
end
def Blk (x : Itm) : Prop:=∃ (L : List Lne) (q qe : PSt),(∀ l ∈ L,l.2.2.2 = true ∧ (10 : UInt8) ∉ ls l.2.2.1) ∧ runS pst0 L = .inr q ∧ q.its = [] ∧ q.recs = 0 ∧ endS q = .inr qe ∧ qe.its = [x] ∧ glue (L.map (·.2.2)) = ls x.2.1
theorem end_one {q qe : PSt} (h : endS q = .inr qe) (h0 : q.its = []) : qe.its = [] ∨ ∃ x,qe.its = [x]:=by
  unfold endS at h;cases e : yP q with
  | inl x=>rw [e] at h;cases h
  | inr r =>
    rw [e] at h;cases h;have h1:=(flush_same e).1;unfold xS;split
    · left;simp only;rw [h1,h0]
    · right;simp only;rw [h1,h0];exact ⟨_,rfl⟩
def Par (p : PSt) : Prop:=∃ (I : List Itm) (c : Int) (L : List Lne) (q : PSt),Rel I c p q ∧ runS pst0 L = .inr q ∧ q.its = [] ∧ q.recs = 0 ∧ (∀ l ∈ L,l.2.2.2 = true ∧ (10 : UInt8) ∉ ls l.2.2.1) ∧ ∀ x ∈ I,x.1 ≠ 1 → Blk x
theorem end_par {p pe : PSt} (hp : Par p) (h : endS p = .inr pe) : (∀ x ∈ pe.its,x.1 ≠ 1 → Blk x) ∧ Idle pe ∧ 0 ≤ pe.recs ∧ pe.recs ≤ 400:=by
  obtain ⟨I,c,L,q,hrel,hrun,hits,hrec,hL,hI⟩:=hp;obtain ⟨qe,h1,h2⟩:=end_rel hrel h;obtain ⟨_,_,hid⟩:=end_took h;have hqr:=end_recs h1;refine ⟨fun x hx hx1=>?_,hid,by have:=h2.recs;have:=h2.c0;omega,h2.r4⟩;rw [h2.its] at hx;rcases List.mem_append.1 hx with hx|hx
  · exact hI x hx hx1
  · rcases end_one h1 hits with e|⟨y,e⟩
    · rw [e] at hx;cases hx
    · rw [e] at hx;obtain rfl:=List.mem_singleton.1 hx;refine ⟨L,q,qe,hL,hrun,hits,hrec,h1,e,?_⟩;obtain ⟨_,_,hidq⟩:=end_took h1;have c1:=end_cont h1;have c2:=run_cont _ _ _ hrun;have c3 : contP qe = rawsL qe.its:=by unfold contP;rw [hidq.2.1];simp [endL]
      have c4 : contP pst0 = []:=rfl;rw [c4,List.nil_append] at c2;rw [← c2,← c1,c3,e];simp [rawsL]
theorem take_par {p p1 : PSt} {l : Lne} (hp : Par p) (h : yS p l = .inr p1) (hn : (10 : UInt8) ∉ ls l.2.2.1) : Par p1:=by
  by_cases hk : yB (ls l.2.2.1) = 1
  · unfold yS at h;rw [hk] at h;cases e : yR p l 1 with
    | inl x=>rw [e] at h;cases h
    | inr pe =>
      rw [e] at h;have e' : endS p = .inr pe:=e;obtain ⟨hb,hid,h0,h4⟩:=end_par hp e';simp only at h;unfold lineS at h;split at h
      · cases h
      · rw [if_pos rfl] at h;cases h;refine ⟨_,_,[],pst0,rel_self (pe.its ++ [(1,l.2.2.1 ++ ⟨#[10]⟩,[])]) ⟨hid.1,hid.2.1,hid.2.2⟩ rfl h0 h4,rfl,rfl,rfl,(fun _ h=>by cases h),fun x hx hx1=>?_⟩;rcases List.mem_append.1 hx with hx|hx
        · exact hb x hx hx1
        · rw [List.mem_singleton.1 hx] at hx1;exact absurd rfl hx1
  · obtain ⟨I,c,L,q,hrel,hrun,hits,hrec,hL,hI⟩:=hp;obtain ⟨a,b,t⟩:=l;obtain ⟨q1,h1,h2⟩:=take_rel (a':=a) (b':=b) hrel h;refine ⟨I,c,L ++ [(a,b,t)],q1,h2,?_,(take_its h1 hk).trans hits,((take_recs h1).2 hk).trans hrec,fun x hx=>?_,hI⟩
    · rw [run_app _ _ _ _ hrun];simp only [runS,h1]
    · rcases List.mem_append.1 hx with hx|hx
      · exact hL x hx
      · rw [List.mem_singleton.1 hx];exact ⟨(take_took h).1,hn⟩
theorem run_par : ∀ (L : List Lne) (p q : PSt),Par p → runS p L = .inr q → (∀ l ∈ L,(10 : UInt8) ∉ ls l.2.2.1) → Par q
  | [],p,q,hp,h,_=>by cases h;exact hp
  | l :: r,p,q,hp,h,hn=>by
    simp only [runS] at h;cases e : yS p l with
    | inl x=>rw [e] at h;cases h
    | inr p1 =>
      rw [e] at h;exact run_par r p1 q (take_par hp e (hn l List.mem_cons_self)) h (fun x hx=>hn x (List.mem_cons_of_mem _ hx))
theorem parse_blks {s : ByteArray} {l : List Itm} (hp : xG s = .inr l) : ∀ x ∈ l,x.1 ≠ 1 → Blk x:=by
  unfold xG at hp;cases e : runS pst0 (yC s) with
  | inl x=>rw [e] at hp;cases hp
  | inr p =>
    rw [e] at hp;simp only at hp;cases e2 : endS p with
    | inl x=>rw [e2] at hp;cases hp
    | inr q =>
      rw [e2] at hp;cases hp;refine (end_par (run_par _ _ _ ⟨[],0,[],pst0,rel_0,rfl,rfl,rfl,(fun _ h=>by cases h),(fun _ h=>by cases h)⟩ e fun l hl=>?_) e2).1;have h1 : l.2.2 ∈ (yC s).map (·.2.2):=List.mem_map_of_mem hl;rw [lines_text] at h1;exact linesB_no _ _ _ h1
theorem raws_sz (l : List Itm) : (rawsL l).length = szI l:=by
  induction l with
  | nil=>rfl
  | cons x r ih =>
    unfold rawsL szI at *;simp only [List.flatMap_cons,List.length_append,List.map_cons,List.sum_cons,ih];rw [yA]
theorem filter_at {α : Type} (p : α → Bool) (d : α) : ∀ (l : List α) (j : Nat),j < l.length → p (l.getD j d) = true → ((l.take j).filter p).length < (l.filter p).length ∧ (l.filter p).getD ((l.take j).filter p).length d = l.getD j d
  | [],j,h,_=>by simp at h
  | x :: r,0,h,hp=>by
    have hp : p x = true:=by simpa using hp
    simp [hp]
  | x :: r,j + 1,h,hp=>by
    obtain ⟨h1,h2⟩:=filter_at p d r j (by simpa using h) (by simpa using hp);rw [List.take_succ_cons,List.filter_cons,List.filter_cons]
    by_cases hx : p x = true
    · simp only [hx,if_true,List.length_cons,List.getD_cons_succ];exact ⟨by omega,h2⟩
    · simp only [hx,List.getD_cons_succ];exact ⟨h1,h2⟩
def mix1 (l : List Itm) (k : Nat) : List Itm:=if k < l.length ∧ (l.getD k ((0 : Int),ByteArray.empty,([] : List Fld))).1 ≠ 1 then [l.getD k ((0 : Int),ByteArray.empty,([] : List Fld))] else []
def mixL (turn : Bool) (l m : List Itm) (i : Nat) : List Itm:=(List.range i).flatMap fun k=>mix1 l k ++ if turn then mix1 m k else []
abbrev Ent:=Itm × Int
abbrev rEnt : Rd Ent:=.st rItm (.int .i64)
abbrev Lst:=List Ent × Int × Int
abbrev rLst (k : Nat) : Rd Lst:=.st (.slk k rEnt) (.st (.int .i64) (.int .i64))
abbrev Stz:=Int × List Fld
abbrev rStz : Rd Stz:=.st (.int .i64) (.sl rFld)
def isRec (x : Itm) : Bool:=decide (x.1 = 3)
def cntR (l : List Itm) : Nat:=(l.filter isRec).length
def numI (n : Int) : List Itm → List Ent
  | []=>[]
  | x :: r=>match isRec x with
    | true=>(x,n) :: numI (n + 1) r
    | false=>(x,0) :: numI n r
theorem cntR_app (a b : List Itm) : cntR (a ++ b) = cntR a + cntR b:=by simp [cntR]
theorem numI_snoc : ∀ (l : List Itm) (n : Int) (x : Itm),numI n (l ++ [x]) = numI n l ++ [(x,if isRec x then n + cntR l else 0)]
  | [],n,x=>by
    cases h : isRec x <;> simp [numI,h,cntR]
  | y :: r,n,x=>by
    have ih:=fun m=>numI_snoc r m x
    cases h : isRec y with
    | true =>
      have e : n + 1 + (cntR r : Int) = n + (cntR (y :: r) : Int):=by simp [cntR,h];omega
      simp only [List.cons_append,numI,h,ih,e]
    | false =>
      have e : (cntR r : Int) = (cntR (y :: r) : Int):=by simp [cntR,h]
      simp only [List.cons_append,numI,h,ih,e]
theorem numI_len : ∀ (l : List Itm) (n : Int),(numI n l).length = l.length
  | [],_=>rfl
  | x :: r,n=>by
    unfold numI;split <;> simp [numI_len r]
theorem numI_items : ∀ (l : List Itm) (n : Int),(numI n l).map (·.1) = l
  | [],_=>rfl
  | x :: r,n=>by
    unfold numI;split <;> simp [numI_items r]
def ofT (l : List Itm) : Lst:=(numI 1 l,1 + (cntR l : Int),(cntR l : Int))
def hasId (id : Int) (e : Ent) : Bool:=decide (e.2 = id)
def atE (es : List Ent) (id : Int) : Int:=if id < 1 then -1 else ixOf (hasId id) es
theorem at_cases (es : List Ent) (id : Int) : (atE es id = -1 ∧ ∀ e ∈ es,0 < id → e.2 ≠ id) ∨ ∃ i : Nat,i < es.length ∧ atE es id = i ∧ 0 < id ∧ (es.getD i (((0 : Int),ByteArray.empty,([] : List Fld)),(0 : Int))).2 = id ∧ ∀ e ∈ es.take i,e.2 ≠ id:=by
  unfold atE
  by_cases h : id < 1
  · exact .inl ⟨if_pos h,fun e _ h0=>by omega⟩
  · rw [if_neg h];rcases ixOf_cases (hasId id) es (((0 : Int),ByteArray.empty,([] : List Fld)),(0 : Int)) with ⟨h1,h2⟩|⟨i,h1,h2,h3,h4⟩
    · refine .inl ⟨h1,fun e he _=>?_⟩;have:=List.any_eq_false.1 h2 e he
      simpa [hasId] using this
    · refine .inr ⟨i,h1,h2,by omega,by simpa [hasId] using h4,fun e he=>?_⟩;have:=List.any_eq_false.1 h3 e he
      simpa [hasId] using this
def replE (es : List Ent) (i : Nat) (x : Itm) : List Ent:=es.set i (x,(es.getD i (((0 : Int),ByteArray.empty,([] : List Fld)),(0 : Int))).2)
def delE (es : List Ent) (i : Nat) : List Ent:=es.take i ++ es.drop (i + 1)
def insE (es : List Ent) (i : Nat) (e : Ent) : List Ent:=es.take i ++ e :: es.drop i
def live (e : Ent) : Bool:=decide (0 < e.2)
def stzOf (e : Ent) : Stz:=(e.2,e.1.2.2)
def stzL (es : List Ent) : List Stz:=(es.filter live).map stzOf
def itmL (es : List Ent) : List Itm:=es.map (·.1)
def plcL (es : List Ent) (id : Int) : Int:=ixOf (hasId id) (es.filter live)
def yW (es : List Ent) : List (List Fld):=(stzL es).map (·.2)
def getL (es : List Ent) (id : Int) : List Fld:=(es.getD (atE es id).toNat (((0 : Int),ByteArray.empty,([] : List Fld)),(0 : Int))).1.2.2
def rawL (es : List Ent) (id : Int) : ByteArray:=(es.getD (atE es id).toNat (((0 : Int),ByteArray.empty,([] : List Fld)),(0 : Int))).1.2.1
def txtL (es : List Ent) : List UInt8:=rawsL (apartL (itmL es))
theorem cntR_at {l : List Itm} {i : Nat} (h : i < l.length) : cntR (l.take (i + 1)) = cntR (l.take i) + if isRec (l.getD i ((0 : Int),ByteArray.empty,([] : List Fld))) then 1 else 0:=by
  rw [← yI ((0 : Int),ByteArray.empty,([] : List Fld)) h,cntR_app]
  generalize l.getD i ((0 : Int),ByteArray.empty,([] : List Fld)) = x
  cases hk : isRec x
  · simp [cntR,hk]
  · simp [cntR,hk]
theorem numI_at {l : List Itm} {i : Nat} (h : i < l.length) : numI 1 (l.take (i + 1)) = numI 1 (l.take i) ++ [(l.getD i ((0 : Int),ByteArray.empty,([] : List Fld)),if isRec (l.getD i ((0 : Int),ByteArray.empty,([] : List Fld))) then 1 + (cntR (l.take i) : Int) else 0)]:=by
  rw [← yI ((0 : Int),ByteArray.empty,([] : List Fld)) h];exact numI_snoc (l.take i) 1 _
theorem cntR_le (l : List Itm) : cntR l ≤ l.length:=List.length_filter_le _ _
def lsO (l : Lst) : Obs:=[(0,.box 116 [.vec 1,.lit (.int .i64 l.2.1),.lit (.int .i64 l.2.2)]),(1,.vec 111 rEnt l.1)]
theorem lbox_eq {a b c d : Int} (h1 : a = c) (h2 : b = d) : some (Ob.box 116 [.vec 1,.lit (.int .i64 a),.lit (.int .i64 b)]) = some (Ob.box 116 [.vec 1,.lit (.int .i64 c),.lit (.int .i64 d)]):=by rw [h1,h2]
theorem of_ok (s : ByteArray) (hs : s.size ≤ 60000) {l : List Itm} (hp : xG s = .inr l) : qX Tryz.prog 27 [is s] [] 0 (.tup [(false,[.own 0 0]),(false,[.lit .nilIface])]) (lsO (ofT l)) 2:=by
  have hpa:=parse_a s hs;rw [hp] at hpa;obtain ⟨hl1,hl2⟩:=items_flds hs hp;refine qT (rs:=[2,3]) Tryz.func27 rfl rfl rfl teOk (by decide) rfl ?_;refine qC ?_;refine qB ?_;refine qC ?_;refine qB ?_;refine Or.inl ?_;refine zai (rfl) ?_;refine zei _ (zai (hpa) ?_);refine qC ?_;refine qC ?_;refine qB ?_;refine qK rfl (fun h16=>?_) (fun h16=>?_)
  ·try simp only [Bool.not_eq_true'] at h16
   try simp only [zds] at h16
   cases h16
  ·try simp only [Bool.not_eq_false'] at h16
   try simp only [zds] at h16
   refine qM ?_;refine qC ?_;refine qB ?_;refine qC ?_;refine qC ?_;refine yE 0 0 111 rEnt rfl rfl rfl ?_;refine qB ?_;intro l5_1
   try simp only [zds] at l5_1
   refine qO ?_;refine qV (fun (i : Nat)=>i ≤ l.length) (fun (i : Nat)=>[(0,is s),(6,.one (.own 0 0)),(20,.one (.sl rItm l)),(21,ii .i64 l.length),(22,ii .i64 i)]) (fun (i : Nat)=>[(0,.box 116 [.vec 1,.lit (.int .i64 (1 + (cntR (l.take i) : Int))),.lit (.int .i64 (cntR (l.take i)))]),(1,.vec 111 rEnt (numI 1 (l.take i)))]) 2 (fun (i : Nat)=>l.length - i) 0 (Nat.zero_le _) (qQ ⟨rfl,rfl,rfl,rfl,rfl⟩ ⟨rfl,rfl⟩ rfl) ?_;intro i hI0;refine qC ?_;refine qB ?_;refine qC ?_;refine qK rfl (fun h23=>?_) (fun h23=>?_)
   ·try simp only [decide_eq_true_eq] at h23
    try simp only [zds] at h23
    have hil : i < l.length:=(by omega);have hsn:=numI_at hil;have hcn:=cntR_at hil;have hcl:=cntR_le (l.take i);rw [List.length_take] at hcl;refine qM ?_;refine qC ?_;refine qO ?_;refine qC ?_;refine qB ?_;refine zai (by first|omega|assumption|decide|(simp only [zds];omega)|(simp <;> omega)) ?_;refine qC ?_;refine qB ?_;refine qC ?_;refine qC ?_;refine qB ?_;refine qK rfl (fun h30=>?_) (fun h30=>?_)
    ·try simp only [decide_eq_true_eq] at h30
     try simp only [Int.toNat_natCast,qI,qH,qF,qE] at h30
     have hk : isRec (l.getD i ((0 : Int),ByteArray.empty,([] : List Fld))) = true:=decide_eq_true h30;rw [hk,if_pos rfl] at hsn hcn;refine qC ?_;refine qB ?_;refine qC ?_;refine qB ?_;refine zai (by first|omega|assumption|decide|(simp only [zds];omega)|(simp <;> omega)) ?_;refine qB ?_;refine zai (by first|omega|assumption|decide|(simp only [zds];omega)|(simp <;> omega)) ?_;refine yX rfl ?_;refine qJ 0 rfl rfl rfl (by kernel_rfl) ?_;refine qJ 1 rfl rfl rfl (by kernel_rfl) ?_;refine qJ 2 rfl rfl rfl (by kernel_rfl) ?_;refine qJ 3 rfl rfl rfl (by kernel_rfl) ?_;refine qG [4,5] (by kernel_rfl) rfl ?_;refine zai ?_ ?_
     ·refine qG [5] (by kernel_rfl) rfl ?_;refine qG [6] (by kernel_rfl) rfl ?_;refine qG [7] (by kernel_rfl) rfl ?_;refine zai (by exact qP (show (numI 1 (l.take i)).length + 1 ≤ 1000000000 by rw [numI_len,List.length_take];omega) (by decide)) ?_;refine qJ 8 rfl rfl rfl (by kernel_rfl) ?_;refine qJ 9 rfl rfl rfl (by kernel_rfl) ?_;refine qG [10] (by kernel_rfl) rfl ?_;refine qN (by kernel_rfl) ?_;refine qB ?_;refine zai (by first|omega|assumption|decide|(simp only [zds];omega)|(simp <;> omega)) ?_;exact ⟨i + 1,by omega,by first|omega|(simp <;> omega),qQ ⟨rfl,rfl,rfl,rfl,rfl⟩ ⟨(lbox_eq (by omega) (by omega)),(qS (by rw [hsn];exact rfl))⟩ rfl⟩
     ·refine qG [4,6] (by kernel_rfl) rfl ?_;refine zai ?_ ?_
      ·refine qG [6] (by kernel_rfl) rfl ?_;refine qG [7] (by kernel_rfl) rfl ?_;refine zai (by exact qP (show (numI 1 (l.take i)).length + 1 ≤ 1000000000 by rw [numI_len,List.length_take];omega) (by decide)) ?_;refine qJ 8 rfl rfl rfl (by kernel_rfl) ?_;refine qJ 9 rfl rfl rfl (by kernel_rfl) ?_;refine qG [10] (by kernel_rfl) rfl ?_;refine qN (by kernel_rfl) ?_;refine qB ?_;refine zai (by first|omega|assumption|decide|(simp only [zds];omega)|(simp <;> omega)) ?_;exact ⟨i + 1,by omega,by first|omega|(simp <;> omega),qQ ⟨rfl,rfl,rfl,rfl,rfl⟩ ⟨(lbox_eq (by omega) (by omega)),(qS (by rw [hsn];exact rfl))⟩ rfl⟩
      ·refine qG [4] (by kernel_rfl) rfl ?_;refine qG [7] (by kernel_rfl) rfl ?_;refine zai (by exact qP (show (numI 1 (l.take i)).length + 1 ≤ 1000000000 by rw [numI_len,List.length_take];omega) (by decide)) ?_;refine qJ 8 rfl rfl rfl (by kernel_rfl) ?_;refine qJ 9 rfl rfl rfl (by kernel_rfl) ?_;refine qG [10] (by kernel_rfl) rfl ?_;refine qN (by kernel_rfl) ?_;refine qB ?_;refine zai (by first|omega|assumption|decide|(simp only [zds];omega)|(simp <;> omega)) ?_;exact ⟨i + 1,by omega,by first|omega|(simp <;> omega),qQ ⟨rfl,rfl,rfl,rfl,rfl⟩ ⟨(lbox_eq (by omega) (by omega)),(qS (by rw [hsn];exact rfl))⟩ rfl⟩
    ·try simp only [decide_eq_false_iff_not] at h30
     try simp only [Int.toNat_natCast,qI,qH,qF,qE] at h30
     have hk : isRec (l.getD i ((0 : Int),ByteArray.empty,([] : List Fld))) = false:=decide_eq_false h30;rw [hk,if_neg Bool.false_ne_true] at hsn hcn;refine qM ?_;refine yX rfl ?_;refine qJ 0 rfl rfl rfl (by kernel_rfl) ?_;refine qJ 1 rfl rfl rfl (by kernel_rfl) ?_;refine qJ 2 rfl rfl rfl (by kernel_rfl) ?_;refine qJ 3 rfl rfl rfl (by kernel_rfl) ?_;refine qG [4,5] (by kernel_rfl) rfl ?_;refine zai ?_ ?_
     ·refine qG [5] (by kernel_rfl) rfl ?_;refine qG [6] (by kernel_rfl) rfl ?_;refine qG [7] (by kernel_rfl) rfl ?_;refine zai (by exact qP (show (numI 1 (l.take i)).length + 1 ≤ 1000000000 by rw [numI_len,List.length_take];omega) (by decide)) ?_;refine qJ 8 rfl rfl rfl (by kernel_rfl) ?_;refine qJ 9 rfl rfl rfl (by kernel_rfl) ?_;refine qG [10] (by kernel_rfl) rfl ?_;refine qN (by kernel_rfl) ?_;refine qB ?_;refine zai (by first|omega|assumption|decide|(simp only [zds];omega)|(simp <;> omega)) ?_;exact ⟨i + 1,by omega,by first|omega|(simp <;> omega),qQ ⟨rfl,rfl,rfl,rfl,rfl⟩ ⟨(lbox_eq (by omega) (by omega)),(qS (by rw [hsn];exact rfl))⟩ rfl⟩
     ·refine qG [4,6] (by kernel_rfl) rfl ?_;refine zai ?_ ?_
      ·refine qG [6] (by kernel_rfl) rfl ?_;refine qG [7] (by kernel_rfl) rfl ?_;refine zai (by exact qP (show (numI 1 (l.take i)).length + 1 ≤ 1000000000 by rw [numI_len,List.length_take];omega) (by decide)) ?_;refine qJ 8 rfl rfl rfl (by kernel_rfl) ?_;refine qJ 9 rfl rfl rfl (by kernel_rfl) ?_;refine qG [10] (by kernel_rfl) rfl ?_;refine qN (by kernel_rfl) ?_;refine qB ?_;refine zai (by first|omega|assumption|decide|(simp only [zds];omega)|(simp <;> omega)) ?_;exact ⟨i + 1,by omega,by first|omega|(simp <;> omega),qQ ⟨rfl,rfl,rfl,rfl,rfl⟩ ⟨(lbox_eq (by omega) (by omega)),(qS (by rw [hsn];exact rfl))⟩ rfl⟩
      ·refine qG [4] (by kernel_rfl) rfl ?_;refine qG [7] (by kernel_rfl) rfl ?_;refine zai (by exact qP (show (numI 1 (l.take i)).length + 1 ≤ 1000000000 by rw [numI_len,List.length_take];omega) (by decide)) ?_;refine qJ 8 rfl rfl rfl (by kernel_rfl) ?_;refine qJ 9 rfl rfl rfl (by kernel_rfl) ?_;refine qG [10] (by kernel_rfl) rfl ?_;refine qN (by kernel_rfl) ?_;refine qB ?_;refine zai (by first|omega|assumption|decide|(simp only [zds];omega)|(simp <;> omega)) ?_;exact ⟨i + 1,by omega,by first|omega|(simp <;> omega),qQ ⟨rfl,rfl,rfl,rfl,rfl⟩ ⟨(lbox_eq (by omega) (by omega)),(qS (by rw [hsn];exact rfl))⟩ rfl⟩
   ·try simp only [decide_eq_false_iff_not,Int.not_lt] at h23
    try simp only [zds] at h23
    refine qZ ?_;refine qC ?_;refine qB ?_;refine qL ?_;rw [List.take_of_length_le (by omega)];exact ⟨rfl,⟨rfl,rfl⟩,rfl⟩
theorem of_err (s : ByteArray) (hs : s.size ≤ 60000) {at_ n : Int} (hp : xG s = .inl (at_,n)) : qU Tryz.prog 27 [is s] (.tup [(false,[.lit (.pointer none)]),(false,[errF at_ n])]):=by
  have hpa:=parse_a s hs;rw [hp] at hpa;refine qW (rs:=[2,3]) Tryz.func27 rfl rfl rfl teOk rfl ?_;refine qC ?_;refine qB ?_;refine qC ?_;refine qB ?_;refine Or.inl ?_;refine zai (rfl) ?_;refine zei _ (zai (hpa) ?_);refine qC ?_;refine qC ?_;refine qB ?_;refine qK rfl (fun h16=>?_) (fun h16=>?_)
  ·skip
   refine qC ?_;refine qB ?_;refine qL ?_;rfl
  ·try simp only [zbq] at h16
   try simp only [zds] at h16
   cases h16
end Q
end Ab
end Go.Proofs.YtpfkncffaanjcaaGreatDoor
namespace Go.Proofs.YtpfkncffaanjcaaGreatDoor
open Go.RowKit
namespace Ab
set_option maxRecDepth 100000
set_option maxHeartbeats 2000000
namespace Q
abbrev z4 : List Value:=[.int .i64 0,.string ⟨#[]⟩,.slice none 0 0,.int .i64 0]
theorem step_append_runI {P : Program} {ops : Array Oper} {o : Oper} {a : Act} {w : World} {K : Act → World → Prop} {Q : Exit → Act → World → Prop} {E : Prop}
    (hg : o.guard = none) (d x : Operand) (dT sT : TypeId) (hop : o.op = Op.call { callee:=Callee.builtin Builtin.append,args:=#[d,x],argTypes:=#[dT,sT] })
    (v u : Value) (hd : a.eval d = v) (hx : a.eval x = u) {v' : Value} {w' : World} (hr : (Builtin.append_ #[dT,sT] o.type #[v,u]).run P w = .ok v' w') (hK : K (a.put o.dst v') w') :
    if Region.wanted o (yielded ops a.tmps) = true then Oper.wp P o a w K Q else E:=by
  have hw : Region.wanted o (yielded ops a.tmps) = true:=by simp [Region.wanted,hg]
  rw [if_pos hw];unfold Oper.wp;simp [execOp,hop,resolve,invoke,builtin,hd,hx,hr,Result.andThen];exact hK
theorem wpList_clear_runI {P : Program} (w : World) {ops : Array Oper} {rest : List Oper} {o : Oper} {a : Act} {Q : Exit → Act → World → Prop} (hgd : o.guard = none) (d : Operand) (t : TypeId)
    (ho : o.op = .call { callee:=.builtin .clear,args:=#[d],argTypes:=#[t] }) (v : Value) (hd : a.eval d = v) {v' : Value} {w' : World}
    (hr : (Builtin.clear_ #[t] o.type #[v]).run P w = .ok v' w') (h : wpList P ops Q rest (a.put o.dst v') w') : wpList P ops Q (o :: rest) a w :=
  wpList_plain hgd fun K hK=>by
    unfold Oper.wp execOp;simp only [ho,resolve,invoke,builtin,Sem.run_bind,Sem.run_pure,Result.andThen_ok,List.map_toArray,List.map_cons,List.map_nil,hd,hr];exact hK _ _ h
theorem zs_len {P : Program} {t : TypeId} {i : TyI} (h : TyOk P t i) (n : Nat) : (Builtin.zeroCells i.zeroV.cells n).toList.length = n * i.size:=by
  rw [Array.length_toList,size_zeroCells,h.zeroCells,List.size_toArray,h.zlen]
theorem zs_one {P : Program} {t : TypeId} {i : TyI} (h : TyOk P t i) (n : Nat) : ∀ v ∈ (Builtin.zeroCells i.zeroV.cells n).toList,v.oneCell' = true:=by
  intro v hv;unfold Builtin.zeroCells at hv;rw [h.zeroCells] at hv;simp only [Array.toList_map,Array.toList_range,List.mem_map,List.mem_range,List.size_toArray] at hv;obtain ⟨k,hk,rfl⟩:=hv;have hlt : k % i.zero.length < i.zero.length:=Nat.mod_lt _ (by
    rcases Nat.eq_zero_or_pos i.zero.length with h0|h0
    · rw [h0,Nat.mul_zero] at hk;omega
    · exact h0)
  have e : (i.zero.toArray)[k % i.zero.length]! = i.zero[k % i.zero.length]:=by simp [hlt]
  rw [e];exact plain_one (h.zplain _ (List.getElem_mem hlt))
theorem run_clear_row {P : Program} {t e ty : TypeId} {ei : TyI} (ht : P.underlying t = some (.slice e)) (he : TyOk P e ei) (w : World) (b o n c : Nat) {cur : Array Value} {T : TypeId} (hb : w.heap[b]? = some (.cells cur T (0,0))) (hn : 0 < n) (hfit : o + n * ei.size ≤ cur.size) :
    (Builtin.clear_ #[t] ty #[.slice (some ⟨b,o,none⟩) n c]).run P w = .ok (.tuple #[]) (w.setRow b (cur.toList.take o ++ (Builtin.zeroCells ei.zeroV.cells n).toList ++ cur.toList.drop (o + n * ei.size)).toArray):=by
  have hst:=run_storeCells_at P b o T (Builtin.zeroCells ei.zeroV.cells n).toList 0 cur w hb (by rw [zs_len he];omega) (zs_one he n);simp only [Nat.add_zero,zs_len he] at hst;obtain ⟨m,rfl⟩ : ∃ m,n = m + 1:=⟨n - 1,by omega⟩;simp [Builtin.clear_,run_underlying ht,he.zeroValue,hst]
theorem tyEnt : TyOk Tryz.prog 111 ty111:=tyOk111
theorem del_w (b cap n i j : Nat) (cur : Array Value) (w : World) (hb : w.heap[b]? = some (.cells cur 111 (0,0))) (hcs : cur.size = cap * 4) (hnc : n ≤ cap) (_hcm : cap ≤ maxLen) (hij : i < j) (hj : j ≤ n) (h1 : ∀ v ∈ cur.toList.take (n * 4),v.oneCell' = true) :
    Calls Tryz.prog 119 #[.slice (some ⟨b,0,none⟩) n cap,.int .i64 i,.int .i64 j] w fun e w'=>e = .returned (.slice (some ⟨b,0,none⟩) (n - (j - i)) cap) ∧ ∃ cur',Grew w w' (some b) ∧ w'.heap[b]? = some (.cells cur' 111 (0,0)) ∧ cur'.size = cap * 4 ∧ cur'.toList.take ((n - (j - i)) * 4) = cur.toList.take (i * 4) ++ (cur.toList.drop (j * 4)).take ((n - j) * 4):=by
  have mixed : Tryz.prog.follows .mixedOrders = true:=by kernel_rfl
  have hic : i ≤ cap:=by omega
  have hjc : j ≤ cap:=by omega
  obtain ⟨news,hnews⟩ : ∃ news,(cur.toList.drop (j * 4)).take ((n - j) * 4) = news:=⟨_,rfl⟩;have hlen : news.length = (n - j) * 4:=by
    rw [← hnews,List.length_take,List.length_drop,Array.length_toList,hcs];have : (n - j) * 4 ≤ cap * 4 - j * 4:=by omega
    omega
  obtain ⟨i0,hi0,hz0,hz1,hz2⟩:=tyEnt.info;obtain ⟨A,hA,hsrc⟩ : ∃ A : Addr,(if cap = j then (some ⟨b,0,none⟩ : Option Addr) else some ⟨b,j * 4,none⟩) = some A ∧ (∀ t u,news[t]? = some u → w.drew.cell? (A.add t) = some u):=by
    by_cases h : cap = j
    · refine ⟨_,if_pos h,fun t u hu=>?_⟩;have h0 : news.length = 0:=by rw [hlen];omega
      rw [List.length_eq_zero_iff.1 h0] at hu;simp at hu
    · refine ⟨_,if_neg h,fun t u hu=>?_⟩;have ht:=(List.getElem?_eq_some_iff.1 hu).1;rw [← hnews,List.getElem?_take_of_lt (by omega),List.getElem?_drop] at hu;rw [Go.WideShapes.add_plain];show w.cell? _ = _;simp only [World.cell?,hb,Option.isSome_none,Bool.false_eq_true,if_false];rw [← hu];simp
  have hone : ∀ u ∈ news,u.oneCell' = true:=by
    intro u hu;rw [← hnews,show (n - j) * 4 = n * 4 - j * 4 by omega,← List.drop_take] at hu;exact h1 u (List.mem_of_mem_drop hu)
  obtain ⟨cur1,hcur1⟩ : ∃ c : Array Value,(cur.toList.take (i * 4) ++ news ++ cur.toList.drop (i * 4 + news.length)).toArray = c:=⟨_,rfl⟩;have hsz1 : cur1.size = cap * 4:=by
    rw [← hcur1];simp only [List.size_toArray,List.length_append,List.length_take,List.length_drop,Array.length_toList,hcs,hlen];omega
  obtain ⟨W1,hW1⟩ : ∃ W1,w.drew.setRow b cur1 = W1:=⟨_,rfl⟩;have hap : ∀ ty,(Builtin.append_ #[114,114] ty #[.slice (some ⟨b,0,none⟩) i cap,.slice (some A) (n - j) (cap - j)]).run Tryz.prog w.drew = .ok (.slice (some ⟨b,0,none⟩) (i + (n - j)) cap) W1:=by
    intro ty;have:=run_append_room (P:=Tryz.prog) w.drew 114 ty 111 i0 Tryz.underlying114 hi0 b i cap cur hb A (n - j) (cap - j) news (by rw [hlen,hz0];rfl) hsrc hone (by omega) (by rw [hz0,hlen,hcs];show i * 4 + _ ≤ _;omega);rw [show i0.size = 4 from hz0,hcur1,hW1] at this;exact this
  have hb1 : W1.heap[b]? = some (.cells cur1 111 (0,0)):=by rw [← hW1];exact setRow_heap w.drew b cur cur1 _ _ hb
  have hk : i + (n - j) < n:=by omega
  have hkc : ¬ cap = i + (n - j):=by omega
  obtain ⟨W2,cur2,hW2,hcl⟩ : ∃ W2 cur2,W2 = W1.setRow b cur2 ∧ cur2.size = cap * 4 ∧ cur2.toList.take ((i + (n - j)) * 4) = cur1.toList.take ((i + (n - j)) * 4) ∧ ∀ ty,(Builtin.clear_ #[114] ty #[.slice (some ⟨b,(i + (n - j)) * 4,none⟩) (n - (i + (n - j))) (cap - (i + (n - j)))]).run Tryz.prog W1 = .ok (.tuple #[]) W2:=by
    have hz:=zs_len tyEnt (n - (i + (n - j)));have hz4 : ty111.size = 4:=rfl;rw [hz4] at hz;refine ⟨_,_,rfl,?_,?_,fun ty=>run_clear_row Tryz.underlying114 tyEnt W1 b _ _ _ hb1 (by omega) (by rw [hsz1,hz4];omega)⟩
    · simp only [List.size_toArray,List.length_append,List.length_take,List.length_drop,Array.length_toList,hsz1,hz,hz4];omega
    · rw [List.append_assoc,List.take_append_of_le_length (by rw [List.length_take,Array.length_toList,hsz1];omega),List.take_take,Nat.min_self]
  obtain ⟨hsz2,htk,hcl⟩:=hcl;have fin : W2.heap[b]? = some (.cells cur2 111 (0,0)) ∧ Grew w W2 (some b):=by
    rw [hW2];exact ⟨setRow_heap W1 b cur1 cur2 _ _ hb1,by rw [← hW1,setRow_setRow];exact ⟨rfl,rfl,rfl,by simp,fun k hk hne=>setRow_other w.drew b k _ (fun e=>hne (by rw [e]))⟩⟩
  have hres : cur2.toList.take ((i + (n - j)) * 4) = cur.toList.take (i * 4) ++ news:=by
    rw [htk,← hcur1,List.take_append_of_le_length (by simp only [List.length_append,List.length_take,Array.length_toList,hcs,hlen];omega),List.take_of_length_le (by simp only [List.length_append,List.length_take,Array.length_toList,hcs,hlen];omega)]
  have hnn : n - (j - i) = i + (n - j):=by omega
  rw [hnn];rw [← hnews] at hres;clear hW2 hW1 htk hcur1 hb hb1 hsrc hone hlen hnews h1
  go_enter Tryz.func119,Tryz.ntmps119
  go_wp2
  go_region_law_o (refine step_append_runI rfl (.tmp 22) (.tmp 25) 114 114 rfl (.slice (some ⟨b,0,none⟩) i cap) (.slice (some A) (n - j) (cap - j)) (by simp [Act.eval,Act.put]) (by simp [Act.eval,Act.put]) (hap _) ?_)
  go_wp2_with (at_builtin;refine wpList_clear_runI _ rfl _ _ rfl _ rfl (hcl _) ?_)
  go_ret
  exact ⟨rfl,cur2,fin.2,fin.1,hsz2,hres⟩
end Q
end Ab
end Go.Proofs.YtpfkncffaanjcaaGreatDoor
namespace Go.Proofs.YtpfkncffaanjcaaGreatDoor
open Go.RowKit
namespace Ab
set_option maxRecDepth 100000
set_option maxHeartbeats 4000000
namespace Q
theorem run_copy_k {P : Program} (w : World) (dT sT ty elem : TypeId) {ei : TyI} (hu : P.underlying dT = some (.slice elem)) (he : TyOk P elem ei) (g o dLen dCap : Nat) (a : Addr) (sLen sCap n : Nat) (cur : Array Value) (t : TypeId) (cs : List Value)
    (hg : w.heap[g]? = some (.cells cur t (0,0))) (hm : Nat.min sLen dLen = n) (hn : cs.length = n * ei.size) (hsrc : ∀ j v,cs[j]? = some v → w.cell? (a.add j) = some v) (hfit : o + cs.length ≤ cur.size) (h1 : ∀ v ∈ cs,v.oneCell' = true) :
    (Builtin.copy_ #[dT,sT] ty #[.slice (some ⟨g,o,none⟩) dLen dCap,.slice (some a) sLen sCap]).run P w = .ok (goInt n) (w.setRow g (cur.toList.take o ++ cs ++ cur.toList.drop (o + cs.length)).toArray):=by
  have hl:=run_loadCells_list (P:=P) w a cs hsrc;have hst:=run_storeCells_at P g o t cs 0 cur w hg (by simpa using hfit) h1;simp only [Nat.add_zero] at hst;simp [Builtin.copy_,run_underlying hu,Builtin.lenOf,Builtin.firstCells,he.sizeOf,hm,← hn,hl,hst]
def RowTo (w w' : World) (v u : Value) (n : Nat) (cs : List Value) : Prop :=
  w'.ownsRow 0 111 4 u n cs ∧ Grew w w' (blk (some v)) ∧ (∀ b,blk (some u) = some b → blk (some v) = some b ∨ (w.heap.size ≤ b ∧ b < w'.heap.size)) ∧ ∃ a n c,u = .slice a n c
theorem rowCells {w : World} {b n cap : Nat} {cs : List Value} (h : w.ownsRow 0 111 4 (.slice (some ⟨b,0,none⟩) n cap) n cs) : ∃ cur,w.heap[b]? = some (.cells cur 111 (0,0)) ∧ n ≤ cap ∧ cap ≤ maxLen ∧ cur.size = cap * 4 ∧ cur.toList.take (n * 4) = cs ∧ cs.length = n * 4:=by
  rcases h.2 with ⟨h0,_⟩|⟨g,c,cur,hsl,_,hg,hnc,hcm,hcs,htake⟩
  · cases h0
  · injection hsl with e1 e2 e3
    injection e1 with e1
    injection e1 with e1 _ _
    subst e1 e3;exact ⟨cur,hg,hnc,hcm,hcs,htake,h.1⟩
theorem ins_end (n : Nat) (v : Value) (cs ns : List Value) (vb vc : Nat) (w : World) (hown : w.ownsRow 0 111 4 v n cs) (hown2 : w.ownsRow 0 111 4 (.slice (some ⟨vb,0,none⟩) 1 vc) 1 ns) (h1 : ∀ u ∈ ns,u.oneCell' = true) (hn : n ≤ 1000000) :
    Calls Tryz.prog 120 #[v,.int .i64 n,.slice (some ⟨vb,0,none⟩) 1 vc] w fun e w'=>∃ u,e = .returned u ∧ RowTo w w' v u (n + 1) (cs ++ ns):=by
  obtain ⟨v',w',hr,h2,h3,h4,h5⟩:=Ab.run_app (P:=Tryz.prog) (w:=w) (ty:=114) Tryz.underlying114 tyEnt (by decide) hown (ad:=⟨vb,0,none⟩) (m:=1) (c:=vc) (news:=ns) hown2.1 (fun j u hj=>hown2.cells (g:=vb) rfl j u hj) h1 Nat.one_pos (by unfold maxLen;omega) (qP (show n + 1 ≤ 1000000000 by omega) (show ty111.bytes ≤ 1000 by decide));have mixed : Tryz.prog.follows .mixedOrders = true:=by kernel_rfl
  have fin : RowTo w w' v v' (n + 1) (cs ++ ns):=⟨h2,h3,h4,h5⟩;obtain ⟨va,vn,vcap,hv,hvn⟩ : ∃ a m c,v = .slice a m c ∧ m = n:=by
    rcases hown.2 with ⟨h0,hz⟩|⟨g,c,cur,hsl,_⟩
    · exact ⟨_,_,_,h0,hz.symm⟩
    · exact ⟨_,_,_,hsl,rfl⟩
  subst hvn;subst hv;have hcap : vn ≤ vcap:=by
    rcases hown.2 with ⟨h0,hz⟩|⟨g,c,cur,hsl,_,_,hnc,_⟩
    · omega
    · injection hsl with _ _ e3;omega
  clear hown hown2 h1 h2 h3 h4 h5
  by_cases hq : vcap = vn
  · subst hq
    go_enter Tryz.func120,Tryz.ntmps120
    go_wp2_with (at_builtin;refine Lib.wpList_append_run _ rfl _ _ _ _ rfl _ _ rfl rfl _ _ hr ?_)
    go_ret
    exact ⟨_,rfl,fin⟩
  · go_enter Tryz.func120,Tryz.ntmps120
    go_wp2_with (at_builtin;refine Lib.wpList_append_run _ rfl _ _ _ _ rfl _ _ rfl rfl _ _ hr ?_)
    go_ret
    exact ⟨_,rfl,fin⟩
theorem take4 {α : Type} (l : List α) (a b : Nat) (h : a ≤ b) : (l.take b).take a = l.take a:=by rw [List.take_take,Nat.min_eq_left h]
theorem ins_shift (n i : Nat) (b cap : Nat) (cs ns : List Value) (vb vc : Nat) (w : World) (hi : i < n) (hroom : n + 1 ≤ cap) (hown : w.ownsRow 0 111 4 (.slice (some ⟨b,0,none⟩) n cap) n cs) (hown2 : w.ownsRow 0 111 4 (.slice (some ⟨vb,0,none⟩) 1 vc) 1 ns) (hne : vb ≠ b) (h1 : ∀ u ∈ ns,u.oneCell' = true) (h1c : ∀ u ∈ cs,u.oneCell' = true) :
    Calls Tryz.prog 120 #[.slice (some ⟨b,0,none⟩) n cap,.int .i64 i,.slice (some ⟨vb,0,none⟩) 1 vc] w fun e w'=>∃ u,e = .returned u ∧ RowTo w w' (.slice (some ⟨b,0,none⟩) n cap) u (n + 1) (cs.take (i * 4) ++ ns ++ cs.drop (i * 4)):=by
  obtain ⟨cur,hb,hnc,hcm,hcz,htk,hcl⟩:=rowCells hown;obtain ⟨cur2,hvb,hvc,_,hcz2,htk2,hnl⟩:=rowCells hown2;have hz4 : ty111.size = 4:=rfl;have hdl : (cs.drop (i * 4)).length = (n - i) * 4:=by rw [List.length_drop,hcl];omega
  have hov : ∀ lb cb,(callFunc 148 #[.slice (some ⟨vb,0,none⟩) 1 vc,.slice (some ⟨b,(i + 1) * 4,none⟩) lb cb]).run Tryz.prog w = .ok (.value (.bool false)) w:=fun lb cb=>by
    rw [run_callFunc_extern Tryz.func148 (by kernel_rfl) (by kernel_rfl) (by kernel_rfl) (e:=Extern.SlicesOverlaps.overlaps #[114,114] #[4]) (by kernel_rfl),
      Lib.run_overlaps_apart w 114 4 111 Tryz.underlying114 4 (fun w=>tyEnt.sizeOf w) ⟨vb,0,none⟩ ⟨b,(i + 1) * 4,none⟩ 1 vc lb cb hne 111 111 cur2.size cur.size (by simp [World.shape?,hvb]) (by simp [World.shape?,hb]) (by omega) (by simp [World.frozen?,hvb]) (by simp [World.frozen?,hvb])]
    rfl
  obtain ⟨cur1,hcur1⟩ : ∃ c : Array Value,(cur.toList.take ((i + 1) * 4) ++ cs.drop (i * 4) ++ cur.toList.drop ((i + 1) * 4 + (cs.drop (i * 4)).length)).toArray = c:=⟨_,rfl⟩;have hsz1 : cur1.size = cap * 4:=by
    rw [← hcur1];simp only [List.size_toArray,List.length_append,List.length_take,hdl,List.length_drop (l:=cur.toList),Array.length_toList,hcz];omega
  have hcsrc : ∀ j v,(cs.drop (i * 4))[j]? = some v → w.cell? ⟨b,i * 4 + j,none⟩ = some v:=by
    intro j v hj;have hlt:=(List.getElem?_eq_some_iff.1 hj).1;rw [List.getElem?_drop,← htk,List.getElem?_take_of_lt (by omega)] at hj;simp only [World.cell?,hb,Option.isSome_none,Bool.false_eq_true,if_false];rw [← hj];simp
  have hcp1 : ∀ ty dc sc,(Builtin.copy_ #[114,114] ty #[.slice (some ⟨b,(i + 1) * 4,none⟩) (n - i) dc,.slice (some ⟨b,i * 4,none⟩) (n + 1 - i) sc]).run Tryz.prog w.drew = .ok (goInt ((n - i : Nat) : Int)) (w.drew.setRow b cur1):=fun ty dc sc=>by
    rw [← hcur1];exact run_copy_k w.drew _ _ ty 111 Tryz.underlying114 tyEnt b ((i + 1) * 4) (n - i) dc ⟨b,i * 4,none⟩ (n + 1 - i) sc (n - i) cur _ (cs.drop (i * 4)) hb (by simp only [Nat.min_def];split <;> omega) (by rw [hdl,hz4]) (fun j v hj=>by rw [Go.WideShapes.add_plain];exact hcsrc j v hj) (by rw [hdl,hcz];omega) (fun v hv=>h1c v (List.mem_of_mem_drop hv))
  obtain ⟨W1,hW1⟩ : ∃ W1,w.drew.setRow b cur1 = W1:=⟨_,rfl⟩;rw [hW1] at hcp1;have hb1 : W1.heap[b]? = some (.cells cur1 111 (0,0)):=by rw [← hW1];exact setRow_heap w.drew b cur cur1 _ _ hb
  have hvb1 : W1.heap[vb]? = w.heap[vb]?:=by rw [← hW1];exact setRow_other w.drew b vb _ hne
  obtain ⟨curn,hcurn⟩ : ∃ c : Array Value,(cur1.toList.take (i * 4) ++ ns ++ cur1.toList.drop (i * 4 + ns.length)).toArray = c:=⟨_,rfl⟩;have hszn : curn.size = cap * 4:=by
    rw [← hcurn];simp only [List.size_toArray,List.length_append,List.length_take,hnl,List.length_drop,Array.length_toList,hsz1];omega
  have hcp2 : ∀ (W : World),(∀ k : Nat,W.heap[k]? = W1.heap[k]?) → ∀ ty dc,(Builtin.copy_ #[114,114] ty #[.slice (some ⟨b,i * 4,none⟩) (n + 1 - i) dc,.slice (some ⟨vb,0,none⟩) 1 vc]).run Tryz.prog W = .ok (goInt 1) (W.setRow b curn):=fun W hW ty dc=>by
    rw [← hcurn];exact run_copy_k W _ _ ty 111 Tryz.underlying114 tyEnt b (i * 4) (n + 1 - i) dc ⟨vb,0,none⟩ 1 vc 1 cur1 _ ns (by rw [hW];exact hb1) (by simp only [Nat.min_def];split <;> omega) (by rw [hnl,hz4]) (fun j v hj=>by
      rw [Go.WideShapes.add_plain];have h0:=hown2.cells (g:=vb) rfl j v hj;rw [Go.WideShapes.add_plain] at h0;rw [← h0];simp only [World.cell?,hW,hvb1]) (by rw [hnl,hsz1];omega) h1
  have hrow : curn.toList.take ((n + 1) * 4) = cs.take (i * 4) ++ ns ++ cs.drop (i * 4):=by
    rw [← hcurn];have e1 : cur1.toList.take (i * 4) = cs.take (i * 4):=by
      rw [← hcur1,List.append_assoc,List.take_append_of_le_length (by simp only [List.length_take,Array.length_toList,hcz];omega),take4 _ _ _ (by omega),← htk,take4 _ _ _ (by omega)]
    have e2 : cur1.toList.drop (i * 4 + ns.length) = cs.drop (i * 4) ++ cur.toList.drop ((i + 1) * 4 + (cs.drop (i * 4)).length):=by
      rw [← hcur1,hnl,List.append_assoc,show i * 4 + 1 * 4 = (cur.toList.take ((i + 1) * 4)).length by simp only [List.length_take,Array.length_toList,hcz];omega,List.drop_left]
    rw [e1,e2,← List.append_assoc,List.take_append_of_le_length (by simp only [List.length_append,List.length_take,hcl,hnl,hdl];omega),List.take_of_length_le (by simp only [List.length_append,List.length_take,hcl,hnl,hdl];omega)]
  have fin : ∀ W : World,(∀ k : Nat,W.heap[k]? = W1.heap[k]?) → W.heap.size = W1.heap.size → W.os = W1.os → W.tape = W1.tape → W.output = W1.output → RowTo w (W.setRow b curn) (.slice (some ⟨b,0,none⟩) n cap) (.slice (some ⟨b,0,none⟩) (n + 1) cap) (n + 1) (cs.take (i * 4) ++ ns ++ cs.drop (i * 4)):=by
    intro W hW hs ho ht hu;refine ⟨⟨by simp only [List.length_append,List.length_take,hcl,hnl,hdl];omega,.inr ⟨b,cap,curn,rfl,Nat.zero_le _,setRow_heap W b cur1 curn _ _ (by rw [hW];exact hb1),hroom,hcm,hszn,hrow⟩⟩,⟨?_,?_,?_,?_,?_⟩,fun _ h=>.inl h,_,_,_,rfl⟩
    · show W.os = _;rw [ho,← hW1];rfl
    · show W.tape = _;rw [ht,← hW1];rfl
    · show W.output = _;rw [hu,← hW1];rfl
    · rw [show (W.setRow b curn).heap.size = W.heap.size by simp,hs,← hW1];simp
    · intro k hk hkb;have hkb' : k ≠ b:=fun e=>hkb (by rw [e];rfl)
      rw [setRow_other W b k _ hkb',hW,← hW1];exact setRow_other w.drew b k _ hkb'
  have mixed : Tryz.prog.follows .mixedOrders = true:=by kernel_rfl
  have hz2 : ¬ ((i : Int) = (n : Int)):=by omega
  have hc63 : cap ≤ 9223372036854775807:=by unfold maxLen at hcm;omega
  have hw1 : IntKind.i64.wrap ((i : Int) + 1) = (i : Int) + 1:=by rw [IntKind.wrap_i64];omega
  have hw2 : IntKind.i64.wrap ((n : Int) + 1) = (n : Int) + 1:=by rw [IntKind.wrap_i64];omega
  have hin : i ≤ n:=by omega
  have hb1' : (0 : Int) ≤ (i : Int) + 1:=by omega
  have htn : ((i : Int) + 1).toNat = i + 1:=by omega
  have hb2 : ¬ (cap = i + 1):=by omega
  have hb4 : ¬ (cap = i):=by omega
  have hb3 : (i : Int) ≤ (n : Int) + 1:=by omega
  clear hcur1 hcurn hW1 hown hown2 h1 h1c hcsrc hrow hdl hcl hnl htk htk2
  go_enter Tryz.func120,Tryz.ntmps120
  go_wp2_with (simp only [hov])
  go_region_law_o (refine step_copy_runI rfl _ _ 114 114 rfl _ _ (by simp [Act.eval,Act.put]) (by simp [Act.eval,Act.put]) (hcp1 _ _ _) ?_)
  go_wp2_with (at_builtin;refine wpList_copy_runI _ rfl _ _ 114 114 rfl _ _ rfl rfl (hcp2 _ (fun _=>rfl) _ _) ?_)
  go_ret
  exact ⟨_,rfl,fin _ (fun _=>rfl) rfl rfl rfl rfl⟩
theorem ins_grow (n i : Nat) (b cap : Nat) (cs ns : List Value) (vb vc : Nat) (w : World) (hi : i < n) (hroom : cap < n + 1) (hn1 : n ≤ 1000000) (hown : w.ownsRow 0 111 4 (.slice (some ⟨b,0,none⟩) n cap) n cs) (hown2 : w.ownsRow 0 111 4 (.slice (some ⟨vb,0,none⟩) 1 vc) 1 ns) (h1 : ∀ u ∈ ns,u.oneCell' = true) (h1c : ∀ u ∈ cs,u.oneCell' = true) :
    Calls Tryz.prog 120 #[.slice (some ⟨b,0,none⟩) n cap,.int .i64 i,.slice (some ⟨vb,0,none⟩) 1 vc] w fun e w'=>∃ u,e = .returned u ∧ RowTo w w' (.slice (some ⟨b,0,none⟩) n cap) u (n + 1) (cs.take (i * 4) ++ ns ++ cs.drop (i * 4)):=by
  obtain ⟨cur,hb,hnc,hcm,hcz,htk,hcl⟩:=rowCells hown;obtain ⟨cur2,hvb,hvc,_,hcz2,htk2,hnl⟩:=rowCells hown2;have hbw : b < w.heap.size:=(Array.getElem?_eq_some_iff.1 hb).1;have hvw : vb < w.heap.size:=(Array.getElem?_eq_some_iff.1 hvb).1;have hz4 : ty111.size = 4:=rfl;have hdl : (cs.drop (i * 4)).length = (n - i) * 4:=by rw [List.length_drop,hcl];omega
  obtain ⟨i0,hi0,hz0,hzb,hzz⟩:=tyEnt.info;have hkk : (n : Int) + 1 - (i : Int) = ((n + 1 - i : Nat) : Int):=by omega
  have hik : i + (n + 1 - i) = n + 1:=by omega
  have hold : (Builtin.firstCells i0.size i (.slice (some ⟨b,0,none⟩) i cap)).run Tryz.prog w.drew = .ok (cs.take (i * 4)).toArray w.drew:=by
    rw [hz0,hz4];exact run_firstCells_some w.drew 4 i ⟨b,0,none⟩ i cap (cs.take (i * 4)) (by rw [List.length_take];omega) (fun j v hj=>by
      have hlt:=(List.getElem?_eq_some_iff.1 hj).1;rw [List.length_take] at hlt;rw [List.getElem?_take_of_lt (by omega)] at hj;exact hown.cells (g:=b) rfl j v hj)
  obtain ⟨G,hG⟩ : ∃ G,grownCap w (n + 1) cap 111 = G:=⟨_,rfl⟩;obtain ⟨ROW,hROW⟩ : ∃ ROW : Array Value,(cs.take (i * 4)).toArray ++ Builtin.zeroCells ty111.zeroV.cells (n + 1 - i) ++ Builtin.zeroCells ty111.zeroV.cells (G - (n + 1)) = ROW:=⟨_,rfl⟩;have hGn : n + 1 ≤ G:=by rw [← hG];exact grownCap_ge w _ _ _
  have hGm : G ≤ maxLen:=by rw [← hG];exact grownCap_le_maxLen w (n + 1) cap _ (by unfold maxLen;omega)
  have hRs : ROW.size = G * 4:=by
    have e1:=zs_len tyEnt (n + 1 - i);have e2:=zs_len tyEnt (G - (n + 1));rw [Array.length_toList,hz4] at e1 e2;rw [← hROW];simp only [Array.size_append,List.size_toArray,List.length_take,e1,e2];omega
  have hRt : ROW.toList.take (i * 4) = cs.take (i * 4):=by
    rw [← hROW];simp only [Array.toList_append,List.append_assoc];rw [List.take_append_of_le_length (by simp only [List.length_take];omega),take4 _ _ _ (by omega)]
  have hrz : ∀ ty,(Builtin.append_ #[114,3] ty #[.slice (some ⟨b,0,none⟩) i cap,.int .i64 ((n : Int) + 1 - (i : Int))]).run Tryz.prog w = .ok (.slice (some ⟨w.heap.size,0,none⟩) (n + 1) G) (w.drew.alloc (.cells ROW 111)):=fun ty=>by
    have h:=Lib.run_append_grow_zeros w 114 3 ty 111 i0 _ .i64 .i64 Tryz.underlying114 Tryz.underlying3 hi0 hzz (some ⟨b,0,none⟩) i cap (cs.take (i * 4)) hold (n + 1 - i) (by omega) (by rw [hz0,hz4];decide) (by omega) (by omega) (by rw [hzb,show ty111.bytes = 56 from rfl];omega) (by rw [hzb,hik];exact growslice_fits hroom (qP (show n + 1 ≤ 1000000000 by omega) (show ty111.bytes ≤ 1000 by decide)));rw [hik,hG,hROW] at h;rw [hkk];exact h
  obtain ⟨W1,hW1⟩ : ∃ W1,w.drew.alloc (.cells ROW 111) = W1:=⟨_,rfl⟩;have hN1 : W1.heap[w.heap.size]? = some (.cells ROW 111 (0,0)):=by rw [← hW1];exact heap_new w.drew _
  have hO1 : ∀ k,k < w.heap.size → W1.heap[k]? = w.heap[k]?:=fun k hk=>by rw [← hW1];exact Lib.alloc_old w.drew _ k hk
  obtain ⟨curA,hcurA⟩ : ∃ c : Array Value,(ROW.toList.take (i * 4) ++ ns ++ ROW.toList.drop (i * 4 + ns.length)).toArray = c:=⟨_,rfl⟩;have hszA : curA.size = G * 4:=by
    rw [← hcurA];simp only [List.size_toArray,List.length_append,List.length_take,hnl,List.length_drop,Array.length_toList,hRs];omega
  have hcpA : ∀ (W : World),(∀ k : Nat,W.heap[k]? = W1.heap[k]?) → ∀ ty dc,(Builtin.copy_ #[114,114] ty #[.slice (some ⟨w.heap.size,i * 4,none⟩) (n + 1 - i) dc,.slice (some ⟨vb,0,none⟩) 1 vc]).run Tryz.prog W = .ok (goInt 1) (W.setRow w.heap.size curA):=fun W hW ty dc=>by
    rw [← hcurA];exact run_copy_k W _ _ ty 111 Tryz.underlying114 tyEnt w.heap.size (i * 4) (n + 1 - i) dc ⟨vb,0,none⟩ 1 vc 1 ROW _ ns (by rw [hW];exact hN1) (by simp only [Nat.min_def];split <;> omega) (by rw [hnl,hz4]) (fun j v hj=>by
      rw [Go.WideShapes.add_plain];have h0:=hown2.cells (g:=vb) rfl j v hj;rw [Go.WideShapes.add_plain] at h0;rw [← h0];simp only [World.cell?,hW,hO1 vb hvw]) (by rw [hnl,hRs];omega) h1
  obtain ⟨W2,hW2⟩ : ∃ W2,W1.setRow w.heap.size curA = W2:=⟨_,rfl⟩;have hN2 : W2.heap[w.heap.size]? = some (.cells curA 111 (0,0)):=by rw [← hW2];exact setRow_heap W1 _ ROW curA _ _ hN1
  have hO2 : ∀ k,k < w.heap.size → W2.heap[k]? = w.heap[k]?:=fun k hk=>by rw [← hW2,setRow_other W1 _ k _ (by omega)];exact hO1 k hk
  obtain ⟨curn,hcurn⟩ : ∃ c : Array Value,(curA.toList.take ((i + 1) * 4) ++ cs.drop (i * 4) ++ curA.toList.drop ((i + 1) * 4 + (cs.drop (i * 4)).length)).toArray = c:=⟨_,rfl⟩;have hszn : curn.size = G * 4:=by
    rw [← hcurn];simp only [List.size_toArray,List.length_append,List.length_take,hdl,List.length_drop (l:=curA.toList),Array.length_toList,hszA];omega
  have hcpB : ∀ (W : World),(∀ k : Nat,W.heap[k]? = W2.heap[k]?) → ∀ ty dc sc,(Builtin.copy_ #[114,114] ty #[.slice (some ⟨w.heap.size,(i + 1) * 4,none⟩) (n - i) dc,.slice (some ⟨b,i * 4,none⟩) (n - i) sc]).run Tryz.prog W = .ok (goInt ((n - i : Nat) : Int)) (W.setRow w.heap.size curn):=fun W hW ty dc sc=>by
    rw [← hcurn];exact run_copy_k W _ _ ty 111 Tryz.underlying114 tyEnt w.heap.size ((i + 1) * 4) (n - i) dc ⟨b,i * 4,none⟩ (n - i) sc (n - i) curA _ (cs.drop (i * 4)) (by rw [hW];exact hN2) (by simp only [Nat.min_def];split <;> omega) (by rw [hdl,hz4]) (fun j v hj=>by
      rw [Go.WideShapes.add_plain];rw [List.getElem?_drop] at hj;have h0:=hown.cells (g:=b) rfl _ v hj;rw [Go.WideShapes.add_plain,Nat.zero_add] at h0;rw [← h0];simp only [World.cell?,hW,hO2 b hbw]) (by rw [hdl,hszA];omega) (fun v hv=>h1c v (List.mem_of_mem_drop hv))
  have hrow : curn.toList.take ((n + 1) * 4) = cs.take (i * 4) ++ ns ++ cs.drop (i * 4):=by
    have e1 : curA.toList.take ((i + 1) * 4) = cs.take (i * 4) ++ ns:=by
      have hlen : (ROW.toList.take (i * 4) ++ ns).length = (i + 1) * 4:=by
        rw [List.length_append,List.length_take,Array.length_toList,hRs,hnl];omega
      rw [← hcurA,← hlen,List.take_left,hRt]
    rw [← hcurn,e1,List.take_append_of_le_length (by simp only [List.length_append,List.length_take,hcl,hnl,hdl];omega),List.take_of_length_le (by simp only [List.length_append,List.length_take,hcl,hnl,hdl];omega)]
  have fin : ∀ W : World,(∀ k : Nat,W.heap[k]? = W2.heap[k]?) → W.heap.size = W2.heap.size → W.os = W2.os → W.tape = W2.tape → W.output = W2.output → RowTo w (W.setRow w.heap.size curn) (.slice (some ⟨b,0,none⟩) n cap) (.slice (some ⟨w.heap.size,0,none⟩) (n + 1) G) (n + 1) (cs.take (i * 4) ++ ns ++ cs.drop (i * 4)):=by
    intro W hW hs ho ht hu;have hsz : (W.setRow w.heap.size curn).heap.size = w.heap.size + 1:=by rw [show (W.setRow w.heap.size curn).heap.size = W.heap.size by simp,hs,← hW2,← hW1];simp
    refine ⟨⟨by simp only [List.length_append,List.length_take,hcl,hnl,hdl];omega,.inr ⟨w.heap.size,G,curn,rfl,Nat.zero_le _,setRow_heap W _ curA curn _ _ (by rw [hW];exact hN2),hGn,hGm,hszn,hrow⟩⟩,⟨?_,?_,?_,by omega,?_⟩,fun b' h=>.inr ?_,_,_,_,rfl⟩
    · show W.os = _;rw [ho,← hW2,← hW1];rfl
    · show W.tape = _;rw [ht,← hW2,← hW1];rfl
    · show W.output = _;rw [hu,← hW2,← hW1];rfl
    · intro k hk _;rw [setRow_other W _ k _ (by omega),hW];exact hO2 k hk
    · cases h;exact ⟨Nat.le_refl _,by rw [hsz];exact Nat.lt_succ_self _⟩
  have mixed : Tryz.prog.follows .mixedOrders = true:=by kernel_rfl
  have hz2 : ¬ ((i : Int) = (n : Int)):=by omega
  have hz3 : (cap : Int) < (n : Int) + 1:=by omega
  have hw1 : IntKind.i64.wrap ((i : Int) + 1) = (i : Int) + 1:=by rw [IntKind.wrap_i64];omega
  have hw2 : IntKind.i64.wrap ((n : Int) + 1) = (n : Int) + 1:=by rw [IntKind.wrap_i64];omega
  have hin : i ≤ n:=by omega
  have hb1' : (0 : Int) ≤ (i : Int) + 1:=by omega
  have htn : ((i : Int) + 1).toNat = i + 1:=by omega
  have hGi : ¬ (G = i):=by omega
  have hGim : ¬ (G = i + 1):=by omega
  have hci : ¬ (cap = i):=by omega
  have hb3 : (i : Int) ≤ (n : Int):=by omega
  have hG63 : G ≤ 9223372036854775807:=by unfold maxLen at hGm;omega
  rw [← hW1] at hW2;have hA : ∀ k : Nat,((w.alloc (.cells ROW 111)).drew).heap[k]? = W1.heap[k]?:=fun k=>by rw [← hW1];rfl
  have hB : ∀ k : Nat,(((w.alloc (.cells ROW 111)).drew.setRow w.heap.size curA).drew).heap[k]? = W2.heap[k]?:=fun k=>by rw [← hW2];rfl
  have hfin:=fin _ hB (by rw [← hW2];rfl) (by rw [← hW2];rfl) (by rw [← hW2];rfl) (by rw [← hW2];rfl);have hcA:=hcpA _ hA;have hcB:=hcpB _ hB;rw [hW1] at hrz;rw [← hW1] at hrz;clear hcpA hcpB fin hA hB hkk hik hold hG hROW hRs hRt hcurA hcurn hW1 hW2 hN1 hN2 hO1 hO2 hown hown2 h1 h1c hrow hdl hcl hnl htk htk2 hroom
  go_enter Tryz.func120,Tryz.ntmps120
  go_wp2_with (first
    | (at_builtin;refine Lib.wpList_append_run _ rfl _ _ _ _ rfl _ _ rfl rfl _ _ (hrz _) ?_)
    | (at_builtin;refine wpList_copy_runI _ rfl _ _ 114 114 rfl _ _ rfl rfl (hcA _ _) ?_))
  go_region_law_o (refine step_copy_runI rfl _ _ 114 114 rfl (.slice (some ⟨w.heap.size,(i + 1) * 4,none⟩) (n - i) (G - (i + 1))) (.slice (some ⟨b,i * 4,none⟩) (n - i) (cap - i)) (by simp [Act.eval,Act.put]) (by simp [Act.eval,Act.put]) (hcB _ _ _) ?_)
  go_wp2
  go_ret
  exact ⟨_,rfl,hfin⟩
end Q
end Ab
end Go.Proofs.YtpfkncffaanjcaaGreatDoor
