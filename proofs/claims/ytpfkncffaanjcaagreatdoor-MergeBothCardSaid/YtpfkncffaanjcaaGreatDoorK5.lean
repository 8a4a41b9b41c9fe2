/-
  The texts of this proof, joined: abstract values, the library, the functions of the program and what they compute (part 5). No condition.
-/
import Derived.Test.YtpfkncffaanjcaaGreatDoorProg
import Derived.WalkKit
import Derived.LaidEql
import Derived.Stop.Asserts
import Derived.RowKitTokens
import Derived.WalkSpells
import Derived.Test.YtpfkncffaanjcaaGreatDoorK1
import Derived.Test.YtpfkncffaanjcaaGreatDoorK2
import Derived.Test.YtpfkncffaanjcaaGreatDoorK3
import Derived.Test.YtpfkncffaanjcaaGreatDoorK4
namespace Go.Proofs.YtpfkncffaanjcaaGreatDoor
open Go.RowKit
namespace Ab
set_option maxRecDepth 100000
namespace Q
theorem repl_len (es : List Ent) (k : Nat) (x : Itm) : (replE es k x).length = es.length:=List.length_set
theorem repl_at {es : List Ent} {k i : Nat} {x : Itm} (hk : k < es.length) (h : i < es.length) : (replE es k x).take (i + 1) = (replE es k x).take i ++ [if i = k then (x,(es.getD k (((0 : Int),ByteArray.empty,([] : List Fld)),(0 : Int))).2) else es.getD i (((0 : Int),ByteArray.empty,([] : List Fld)),(0 : Int))]:=by
  have h1 : i < (replE es k x).length:=by rw [repl_len];exact h
  rw [← yG (((0 : Int),ByteArray.empty,([] : List Fld)),(0 : Int)) h1]
  congr 2
  unfold replE;rw [List.getD_eq_getElem?_getD,List.getElem?_set]
  by_cases e : i = k
  · subst e;rw [if_pos rfl,if_pos hk,if_pos rfl];rfl
  · rw [if_neg (fun h=>e h.symm),if_neg e,← List.getD_eq_getElem?_getD]
theorem refRep_c (es : List Ent) (n id : Int) (f : List Fld) (hf : yD f) (hl : es.length ≤ 1000000) : qU Tryz.prog 88 [.agg (toL rRL (es,n)),ii .i64 id,.one (.sl rFld f)] (.tup [(true,toL rRL (refRep (es,n) id f).1),(false,[.lit (.int .i64 (refRep (es,n) id f).2.1)]),(false,[.lit (.int .i64 (refRep (es,n) id f).2.2)])]):=by
  have hat:=refFindAt_c es n id;have hck:=refChk_c f hf;unfold refRep
  by_cases h0 : atE es id < 0
  · simp only [if_pos h0];refine yT (rs:=[.cell 6 28,.tmp 7,.tmp 8]) Tryz.func88 rfl rfl rfl teOk rfl ?_;refine qC ?_;refine qB ?_;refine qC ?_;refine qB ?_;refine Or.inl ?_;refine zai (rfl) ?_;refine zei _ (zai (hat) ?_);refine qC ?_;refine qC ?_;refine qB ?_;refine qJ rfl (fun h19=>?_) (fun h19=>?_)
    ·try simp only [decide_eq_true_eq] at h19
     try simp only [zds] at h19
     refine qC ?_;refine qB ?_;refine qM ?_;rfl
    ·try simp only [decide_eq_false_iff_not,Int.not_lt] at h19
     try simp only [zds] at h19
     omega
  · simp only [if_neg h0]
    by_cases hc : (chkR f).2 ≠ 0
    · simp only [if_pos hc];refine yT (rs:=[.cell 6 28,.tmp 7,.tmp 8]) Tryz.func88 rfl rfl rfl teOk rfl ?_;refine qC ?_;refine qB ?_;refine qC ?_;refine qB ?_;refine Or.inl ?_;refine zai (rfl) ?_;refine zei _ (zai (hat) ?_);refine qC ?_;refine qC ?_;refine qB ?_;refine qJ rfl (fun h19=>?_) (fun h19=>?_)
      ·try simp only [decide_eq_true_eq] at h19
       try simp only [zds] at h19
       omega
      ·try simp only [decide_eq_false_iff_not,Int.not_lt] at h19
       try simp only [zds] at h19
       refine qL ?_;refine qC ?_;refine qB ?_;refine Or.inl ?_;refine zai (rfl) ?_;refine zei _ (zai (hck) ?_);refine qC ?_;refine qC ?_;refine qB ?_;refine qJ rfl (fun h27=>?_) (fun h27=>?_)
       ·try simp only [decide_eq_false_iff_not,Bool.not_eq_true'] at h27
        try simp only [zds] at h27
        refine qC ?_;refine qB ?_;refine qM ?_;rfl
       ·try simp only [decide_eq_true_eq,Bool.not_eq_false'] at h27
        try simp only [zds] at h27
        exact absurd h27 hc
    · simp only [if_neg hc];have hc : (chkR f).2 = 0:=Classical.not_not.1 hc;have hg:=(chk_good hc).1;obtain ⟨k,hk,he,_,_⟩:=at_lt h0;rw [he,Int.toNat_natCast];rw [he] at hat;refine yT (rs:=[.cell 6 28,.tmp 7,.tmp 8]) Tryz.func88 rfl rfl rfl teOk rfl ?_;refine qC ?_;refine qB ?_;refine qC ?_;refine qB ?_;refine Or.inl ?_;refine zai (rfl) ?_;refine zei _ (zai (hat) ?_);refine qC ?_;refine qC ?_;refine qB ?_;refine qJ rfl (fun h19=>?_) (fun h19=>?_)
      ·try simp only [decide_eq_true_eq] at h19
       try simp only [zds] at h19
       omega
      ·try simp only [decide_eq_false_iff_not,Int.not_lt] at h19
       try simp only [zds] at h19
       refine qL ?_;refine qC ?_;refine qB ?_;refine Or.inl ?_;refine zai (rfl) ?_;refine zei _ (zai (hck) ?_);refine qC ?_;refine qC ?_;refine qB ?_;refine qJ rfl (fun h27=>?_) (fun h27=>?_)
       ·try simp only [decide_eq_false_iff_not,Bool.not_eq_true'] at h27
        try simp only [zds] at h27
        exact absurd hc h27
       ·try simp only [decide_eq_true_eq,Bool.not_eq_false'] at h27
        try simp only [zds] at h27
        refine qL ?_;refine qC ?_;refine qB ?_;refine qC ?_;refine qC ?_;refine yF 2 0 113 rEnt rfl rfl rfl ?_;refine qB ?_;refine qN ?_;refine qS (fun (i : Nat)=>i ≤ es.length) (fun (i : Nat)=>[(2,.one (.sl rFld f)),(3,.one (.own 0 0)),(6,.one (.own 1 0)),(9,ii .i64 k),(12,.one (.own 2 0)),(13,ii .i64 i)]) (fun (i : Nat)=>[(0,.box 28 (toL rRL (es,n))),(1,.box 28 [.lit (.slice none 0 0),.lit (.int .i64 0)]),(2,.box 28 [.vec 3,.lit (.int .i64 n)]),(3,.vec 113 rEnt ((replE es k (itmOf f)).take i))]) 4 (fun (i : Nat)=>es.length - i) 0 (Nat.zero_le _) (qP ⟨rfl,rfl,rfl,rfl,rfl,rfl⟩ ⟨rfl,rfl,rfl,rfl⟩ rfl) ?_;intro i hI0;refine qC ?_;refine qC ?_;refine qB ?_;intro l9_3;refine qJ rfl (fun h38=>?_) (fun h38=>?_)
        ·try simp only [decide_eq_true_eq] at h38
         try simp only [zds] at h38
         have hil : i < es.length:=(by omega);have hsn:=repl_at (x:=itmOf f) hk hil;refine qL ?_;refine qC ?_;refine qN ?_;refine qC ?_;refine qB ?_;refine zai (by first|omega|assumption|decide|(simp only [];omega)|(simp <;> omega)) ?_;refine qC ?_;refine qC ?_;refine qB ?_;refine qJ rfl (fun h48=>?_) (fun h48=>?_)
         ·try simp only [decide_eq_true_eq] at h48
          try simp only [zds] at h48
          have e1 : i = k:=(by omega);rw [if_pos e1] at hsn;subst e1;refine qB ?_;refine Or.inl ?_;refine zai (rfl) ?_;refine zei _ (zai (refItem_c f hg.2.2 hf.1) ?_);refine qB ?_;refine zai (by exact qQ (show ((replE es _ (itmOf f)).take _).length + 1 ≤ 1000000000 by rw [List.length_take,repl_len];omega) (by decide)) ?_;refine qB ?_;refine zai (by first|omega|assumption|decide|(simp only [zds];omega)|(simp <;> omega)) ?_;exact ⟨i + 1,by omega,by first|omega|(simp <;> omega),qP ⟨rfl,rfl,rfl,rfl,rfl,(qT (by omega))⟩ ⟨rfl,rfl,rfl,(qW (by rw [hsn];exact rfl))⟩ rfl⟩
         ·try simp only [decide_eq_false_iff_not] at h48
          try simp only [zds] at h48
          rw [if_neg (fun e1=>h48 (by rw [e1]))] at hsn;refine qL ?_;refine qB ?_;refine zai (by exact qQ (show ((replE es _ (itmOf f)).take _).length + 1 ≤ 1000000000 by rw [List.length_take,repl_len];omega) (by decide)) ?_;refine qB ?_;refine zai (by first|omega|assumption|decide|(simp only [zds];omega)|(simp <;> omega)) ?_;exact ⟨i + 1,by omega,by first|omega|(simp <;> omega),qP ⟨rfl,rfl,rfl,rfl,rfl,(qT (by omega))⟩ ⟨rfl,rfl,rfl,(qW (by rw [hsn];exact rfl))⟩ rfl⟩
        ·try simp only [decide_eq_false_iff_not,Int.not_lt] at h38
         try simp only [zds] at h38
         refine qV ?_;refine qC ?_;refine qB ?_;refine yK [3] ?_;refine qM ?_;rw [List.take_of_length_le (by rw [repl_len];omega)];exact rfl
theorem del_at {es : List Ent} {k i : Nat} (h : i < es.length) : delE (es.take (i + 1)) k = delE (es.take i) k ++ (if i = k then [] else [es.getD i (((0 : Int),ByteArray.empty,([] : List Fld)),(0 : Int))]):=by
  unfold delE;rw [← yG (((0 : Int),ByteArray.empty,([] : List Fld)),(0 : Int)) h,List.take_append,List.drop_append,List.length_take,Nat.min_eq_left (by omega)];rcases Nat.lt_trichotomy i k with h1|h1|h1
  · rw [if_neg (by omega)];have e1 : (es.take i).drop (k + 1) = []:=List.drop_of_length_le (by rw [List.length_take];omega);have e2 : [es.getD i (((0 : Int),ByteArray.empty,([] : List Fld)),(0 : Int))].take (k - i) = [es.getD i (((0 : Int),ByteArray.empty,([] : List Fld)),(0 : Int))]:=List.take_of_length_le (by simp;omega);have e3 : [es.getD i (((0 : Int),ByteArray.empty,([] : List Fld)),(0 : Int))].drop (k + 1 - i) = []:=List.drop_of_length_le (by simp;omega);rw [e1,e2,e3];simp
  · subst h1;rw [if_pos rfl];have e3 : [es.getD i (((0 : Int),ByteArray.empty,([] : List Fld)),(0 : Int))].drop (i + 1 - i) = []:=List.drop_of_length_le (by simp);rw [e3,Nat.sub_self];simp
  · rw [if_neg (by omega)];have e2 : [es.getD i (((0 : Int),ByteArray.empty,([] : List Fld)),(0 : Int))].take (k - i) = []:=by rw [show k - i = 0 by omega];rfl
    have e3 : [es.getD i (((0 : Int),ByteArray.empty,([] : List Fld)),(0 : Int))].drop (k + 1 - i) = [es.getD i (((0 : Int),ByteArray.empty,([] : List Fld)),(0 : Int))]:=by rw [show k + 1 - i = 0 by omega];rfl
    rw [e2,e3];simp
theorem del_le (es : List Ent) (k i : Nat) : (delE (es.take i) k).length ≤ es.length:=by
  unfold delE;rw [List.length_append,List.length_take,List.length_drop,List.length_take];omega
theorem refDel_c (es : List Ent) (n id : Int) (hl : es.length ≤ 1000000) : qU Tryz.prog 89 [.agg (toL rRL (es,n)),ii .i64 id] (.tup [(true,toL rRL (refDel (es,n) id).1),(false,[.lit (.int .i64 (refDel (es,n) id).2)])]):=by
  have hat:=refFindAt_c es n id;unfold refDel
  by_cases h0 : atE es id < 0
  · simp only [if_pos h0];refine yT (rs:=[.cell 4 28,.tmp 5]) Tryz.func89 rfl rfl rfl teOk rfl ?_;refine qC ?_;refine qB ?_;refine qC ?_;refine qB ?_;refine Or.inl ?_;refine zai (rfl) ?_;refine zei _ (zai (hat) ?_);refine qC ?_;refine qC ?_;refine qB ?_;refine qJ rfl (fun h13=>?_) (fun h13=>?_)
    ·try simp only [decide_eq_true_eq] at h13
     try simp only [zds] at h13
     refine qC ?_;refine qB ?_;refine qM ?_;rfl
    ·try simp only [decide_eq_false_iff_not,Int.not_lt] at h13
     try simp only [zds] at h13
     omega
  · simp only [if_neg h0];obtain ⟨k,hk,he,_,_⟩:=at_lt h0;rw [he,Int.toNat_natCast];rw [he] at hat;refine yT (rs:=[.cell 4 28,.tmp 5]) Tryz.func89 rfl rfl rfl teOk rfl ?_;refine qC ?_;refine qB ?_;refine qC ?_;refine qB ?_;refine Or.inl ?_;refine zai (rfl) ?_;refine zei _ (zai (hat) ?_);refine qC ?_;refine qC ?_;refine qB ?_;refine qJ rfl (fun h13=>?_) (fun h13=>?_)
    ·try simp only [decide_eq_true_eq] at h13
     try simp only [zds] at h13
     omega
    ·try simp only [decide_eq_false_iff_not,Int.not_lt] at h13
     try simp only [zds] at h13
     refine qL ?_;refine qC ?_;refine qB ?_;refine qC ?_;refine qC ?_;refine yF 2 0 113 rEnt rfl rfl rfl ?_;refine qB ?_;refine qN ?_;refine qS (fun (i : Nat)=>i ≤ es.length) (fun (i : Nat)=>[(2,.one (.own 0 0)),(4,.one (.own 1 0)),(6,ii .i64 k),(7,.one (.own 2 0)),(8,ii .i64 i)]) (fun (i : Nat)=>[(0,.box 28 (toL rRL (es,n))),(1,.box 28 [.lit (.slice none 0 0),.lit (.int .i64 0)]),(2,.box 28 [.vec 3,.lit (.int .i64 n)]),(3,.vec 113 rEnt (delE (es.take i) k))]) 4 (fun (i : Nat)=>es.length - i) 0 (Nat.zero_le _) (qP ⟨rfl,rfl,rfl,rfl,rfl⟩ ⟨rfl,rfl,rfl,(qW (by simp [delE]))⟩ rfl) ?_;intro i hI0;refine qC ?_;refine qC ?_;refine qB ?_;intro l6_3;refine qJ rfl (fun h22=>?_) (fun h22=>?_)
     ·try simp only [decide_eq_true_eq] at h22
      try simp only [zds] at h22
      have hil : i < es.length:=(by omega);have hsn:=del_at (k:=k) hil;have hdl:=del_le es k i;refine qL ?_;refine qC ?_;refine qN ?_;refine qC ?_;refine qB ?_;refine qJ rfl (fun h27=>?_) (fun h27=>?_)
      ·try simp only [decide_eq_false_iff_not,Bool.not_eq_true'] at h27
       try simp only [zds] at h27
       rw [if_neg (fun e1=>h27 (by rw [e1]))] at hsn;refine yQ rfl ?_;refine qI 0 rfl rfl rfl (by kernel_rfl) ?_;refine qI 2 rfl rfl rfl (by kernel_rfl) ?_;refine qI 4 rfl rfl rfl (by kernel_rfl) ?_;refine qK [1,3] (by kernel_rfl) rfl ?_;refine zai ?_ ?_
       ·refine qK [3] (by kernel_rfl) rfl ?_;refine qI 5 rfl rfl rfl (by kernel_rfl) ?_;refine zai (by first|omega|assumption|decide|(simp only [];omega)|(simp <;> omega)) ?_;refine qK [6] (by kernel_rfl) rfl ?_;refine qK [7] (by kernel_rfl) rfl ?_;refine qK [8] (by kernel_rfl) rfl ?_;refine zai (by exact qQ (show (delE (es.take i) k).length + 1 ≤ 1000000000 by omega) (by decide)) ?_;refine qI 9 rfl rfl rfl (by kernel_rfl) ?_;refine qK [10] (by kernel_rfl) rfl ?_;refine qO (by kernel_rfl) ?_;refine qB ?_;refine zai (by first|omega|assumption|decide|(simp only [zds];omega)|(simp <;> omega)) ?_;exact ⟨i + 1,by omega,by first|omega|(simp <;> omega),qP ⟨rfl,rfl,rfl,rfl,(qT (by omega))⟩ ⟨rfl,rfl,rfl,(qW (by rw [hsn];try exact rfl))⟩ rfl⟩
       ·refine qI 5 rfl rfl rfl (by kernel_rfl) ?_;refine zai (by first|omega|assumption|decide|(simp only [];omega)|(simp <;> omega)) ?_;refine qK [1,6] (by kernel_rfl) rfl ?_;refine zai ?_ ?_
        ·refine qK [6] (by kernel_rfl) rfl ?_;refine qK [7] (by kernel_rfl) rfl ?_;refine qK [8] (by kernel_rfl) rfl ?_;refine zai (by exact qQ (show (delE (es.take i) k).length + 1 ≤ 1000000000 by omega) (by decide)) ?_;refine qI 9 rfl rfl rfl (by kernel_rfl) ?_;refine qK [10] (by kernel_rfl) rfl ?_;refine qO (by kernel_rfl) ?_;refine qB ?_;refine zai (by first|omega|assumption|decide|(simp only [zds];omega)|(simp <;> omega)) ?_;exact ⟨i + 1,by omega,by first|omega|(simp <;> omega),qP ⟨rfl,rfl,rfl,rfl,(qT (by omega))⟩ ⟨rfl,rfl,rfl,(qW (by rw [hsn];try exact rfl))⟩ rfl⟩
        ·refine qK [1,7] (by kernel_rfl) rfl ?_;refine zai ?_ ?_
         ·refine qK [7] (by kernel_rfl) rfl ?_;refine qK [8] (by kernel_rfl) rfl ?_;refine zai (by exact qQ (show (delE (es.take i) k).length + 1 ≤ 1000000000 by omega) (by decide)) ?_;refine qI 9 rfl rfl rfl (by kernel_rfl) ?_;refine qK [10] (by kernel_rfl) rfl ?_;refine qO (by kernel_rfl) ?_;refine qB ?_;refine zai (by first|omega|assumption|decide|(simp only [zds];omega)|(simp <;> omega)) ?_;exact ⟨i + 1,by omega,by first|omega|(simp <;> omega),qP ⟨rfl,rfl,rfl,rfl,(qT (by omega))⟩ ⟨rfl,rfl,rfl,(qW (by rw [hsn];try exact rfl))⟩ rfl⟩
         ·refine qK [1] (by kernel_rfl) rfl ?_;refine qK [8] (by kernel_rfl) rfl ?_;refine zai (by exact qQ (show (delE (es.take i) k).length + 1 ≤ 1000000000 by omega) (by decide)) ?_;refine qI 9 rfl rfl rfl (by kernel_rfl) ?_;refine qK [10] (by kernel_rfl) rfl ?_;refine qO (by kernel_rfl) ?_;refine qB ?_;refine zai (by first|omega|assumption|decide|(simp only [zds];omega)|(simp <;> omega)) ?_;exact ⟨i + 1,by omega,by first|omega|(simp <;> omega),qP ⟨rfl,rfl,rfl,rfl,(qT (by omega))⟩ ⟨rfl,rfl,rfl,(qW (by rw [hsn];try exact rfl))⟩ rfl⟩
      ·try simp only [decide_eq_true_eq,Bool.not_eq_false'] at h27
       try simp only [zds] at h27
       rw [if_pos (by omega),List.append_nil] at hsn;refine qL ?_;refine qB ?_;refine zai (by first|omega|assumption|decide|(simp only [zds];omega)|(simp <;> omega)) ?_;exact ⟨i + 1,by omega,by first|omega|(simp <;> omega),qP ⟨rfl,rfl,rfl,rfl,(qT (by omega))⟩ ⟨rfl,rfl,rfl,(qW (by rw [hsn];try exact rfl))⟩ rfl⟩
     ·try simp only [decide_eq_false_iff_not,Int.not_lt] at h22
      try simp only [zds] at h22
      refine qV ?_;refine qC ?_;refine qB ?_;refine yK [3] ?_;refine qM ?_;rw [List.take_of_length_le (show es.length ≤ i by omega)];exact rfl
def insT (es : List Ent) (j : Nat) (e : Ent) (i : Nat) : List Ent:=if i < j then es.take i else insE (es.take i) j e
theorem insT_snoc {es : List Ent} {j i : Nat} {e : Ent} (h : i < es.length) : insT es j e (i + 1) = insT es j e i ++ (if i + 1 = j then [es.getD i (((0 : Int),ByteArray.empty,([] : List Fld)),(0 : Int)),e] else [es.getD i (((0 : Int),ByteArray.empty,([] : List Fld)),(0 : Int))]):=by
  unfold insT insE;rcases Nat.lt_trichotomy (i + 1) j with h1|h1|h1
  · rw [if_pos h1,if_pos (by omega),if_neg (by omega),yG (((0 : Int),ByteArray.empty,([] : List Fld)),(0 : Int)) h]
  · subst h1;rw [if_neg (by omega),if_pos (by omega),if_pos rfl,← yG (((0 : Int),ByteArray.empty,([] : List Fld)),(0 : Int)) h];have e1 : (es.take i ++ [es.getD i (((0 : Int),ByteArray.empty,([] : List Fld)),(0 : Int))]).take (i + 1) = es.take i ++ [es.getD i (((0 : Int),ByteArray.empty,([] : List Fld)),(0 : Int))]:=List.take_of_length_le (by simp;omega);have e2 : (es.take i ++ [es.getD i (((0 : Int),ByteArray.empty,([] : List Fld)),(0 : Int))]).drop (i + 1) = []:=List.drop_of_length_le (by simp;omega);rw [e1,e2];simp
  · rw [if_neg (by omega),if_neg (by omega),if_neg (by omega),← yG (((0 : Int),ByteArray.empty,([] : List Fld)),(0 : Int)) h];have e1 : (es.take i ++ [es.getD i (((0 : Int),ByteArray.empty,([] : List Fld)),(0 : Int))]).take j = (es.take i).take j:=by rw [List.take_append_of_le_length (by rw [List.length_take];omega)]
    have e2 : (es.take i ++ [es.getD i (((0 : Int),ByteArray.empty,([] : List Fld)),(0 : Int))]).drop j = (es.take i).drop j ++ [es.getD i (((0 : Int),ByteArray.empty,([] : List Fld)),(0 : Int))]:=by rw [List.drop_append_of_le_length (by rw [List.length_take];omega)]
    rw [e1,e2];simp
theorem insT_le (es : List Ent) (j : Nat) (e : Ent) (i : Nat) : (insT es j e i).length ≤ es.length + 1:=by
  unfold insT insE;split
  · rw [List.length_take];omega
  · rw [List.length_append,List.length_cons,List.length_take,List.length_drop,List.length_take];omega
theorem insT_all {es : List Ent} {j i : Nat} {e : Ent} (hj : j ≤ es.length) (hi : es.length ≤ i) : insT es j e i = insE es j e:=by
  unfold insT;rw [if_neg (by omega),List.take_of_length_le hi]
theorem insT_0 (es : List Ent) (e : Ent) : insT es 0 e 0 = [e]:=by
  unfold insT insE;rw [if_neg (by omega)];simp
theorem insT_1 {es : List Ent} {j : Nat} {e : Ent} (hj : 0 < j) : insT es j e 0 = []:=by
  unfold insT;rw [if_pos hj];simp
theorem liveN_snoc {es : List Ent} {i : Nat} (h : i < es.length) : ((es.take (i + 1)).filter live).length = ((es.take i).filter live).length + if live (es.getD i (((0 : Int),ByteArray.empty,([] : List Fld)),(0 : Int))) then 1 else 0:=by
  rw [← yG (((0 : Int),ByteArray.empty,([] : List Fld)),(0 : Int)) h,List.filter_append,List.length_append]
  congr 1
  generalize es.getD i (((0 : Int),ByteArray.empty,([] : List Fld)),(0 : Int)) = x
  cases hx : live x
  · simp [hx]
  · simp [hx]
theorem liveN_le (es : List Ent) (i : Nat) : ((es.take i).filter live).length ≤ es.length:=by
  refine Nat.le_trans (List.length_filter_le _ _) ?_;rw [List.length_take];omega
theorem refLen_c (es : List Ent) (n : Int) (hl : es.length ≤ 1000000) : qU Tryz.prog 125 [.agg (toL rRL (es,n))] (ii .i64 ((es.filter live).length : Int)):=by
  refine qR (rs:=[2]) Tryz.func125 rfl rfl rfl teOk rfl ?_;refine qC ?_;refine qB ?_;refine qC ?_;refine qB ?_;refine qC ?_;refine qC ?_;refine qB ?_;refine qN ?_;refine qS (fun (i : Nat)=>i ≤ es.length) (fun (i : Nat)=>[(1,.one (.own 0 0)),(3,ii .i64 (((es.take i).filter live).length : Int)),(4,ii .i64 i)]) (fun (i : Nat)=>[(0,.box 28 (toL rRL (es,n)))]) 1 (fun (i : Nat)=>es.length - i) 0 (Nat.zero_le _) (qP ⟨rfl,rfl,rfl⟩ rfl rfl) ?_;intro i hI0;refine qC ?_;refine qC ?_;refine qB ?_;intro l3_3;refine qJ rfl (fun h9=>?_) (fun h9=>?_)
  ·try simp only [decide_eq_true_eq] at h9
   try simp only [zds] at h9
   have hil : i < es.length:=(by omega);have hsn:=liveN_snoc hil;have hsl:=liveN_le es i;refine qL ?_;refine qC ?_;refine qN ?_;refine qC ?_;refine qB ?_;refine zai (by first|omega|assumption|decide|(simp only [];omega)|(simp <;> omega)) ?_;refine qJ rfl (fun h18=>?_) (fun h18=>?_)
   ·try simp only [decide_eq_true_eq] at h18
    try simp only [Int.toNat_natCast,qH,qG,qF,qE] at h18
    have hk : live (es.getD i (((0 : Int),ByteArray.empty,([] : List Fld)),(0 : Int))) = true:=decide_eq_true h18;rw [hk,if_pos rfl] at hsn;refine qB ?_;refine zai (by first|omega|assumption|decide|(simp only [zds];omega)|(simp <;> omega)) ?_;refine qB ?_;refine zai (by first|omega|assumption|decide|(simp only [zds];omega)|(simp <;> omega)) ?_;exact ⟨i + 1,by omega,by first|omega|(simp <;> omega),qP ⟨rfl,(qT (by omega)),(qT (by omega))⟩ rfl rfl⟩
   ·try simp only [decide_eq_false_iff_not,Int.not_lt] at h18
    try simp only [Int.toNat_natCast,qH,qG,qF,qE] at h18
    have hk : live (es.getD i (((0 : Int),ByteArray.empty,([] : List Fld)),(0 : Int))) = false:=decide_eq_false (by omega);rw [hk,if_neg Bool.false_ne_true] at hsn;refine qL ?_;refine qB ?_;refine zai (by first|omega|assumption|decide|(simp only [zds];omega)|(simp <;> omega)) ?_;exact ⟨i + 1,by omega,by first|omega|(simp <;> omega),qP ⟨rfl,(qT (by omega)),(qT (by omega))⟩ rfl rfl⟩
  ·try simp only [decide_eq_false_iff_not,Int.not_lt] at h9
   try simp only [zds] at h9
   refine qV ?_;refine qC ?_;refine qB ?_;refine qM ?_;rw [List.take_of_length_le (by omega)];exact rfl
theorem refIns_c (es : List Ent) (n id : Int) (f : List Fld) (hf : yD f) (hl : es.length ≤ 1000000) (hn : 0 ≤ n ∧ n ≤ 1000000000) : qU Tryz.prog 90 [.agg (toL rRL (es,n)),ii .i64 id,.one (.sl rFld f)] (.tup [(true,toL rRL (refIns (es,n) id f).1),(false,[.lit (.int .i64 (refIns (es,n) id f).2.1)]),(false,[.lit (.int .i64 (refIns (es,n) id f).2.2.1)]),(false,[.lit (.int .i64 (refIns (es,n) id f).2.2.2)])]):=by
  have hat:=refFindAt_c es n id;have hck:=refChk_c f hf;have hln:=refLen_c es n hl;unfold refIns
  by_cases h0 : atE es id < 0 ∧ id ≠ 0
  · simp only [if_pos h0];refine yT (rs:=[.cell 6 28,.tmp 7,.tmp 8,.tmp 9]) Tryz.func90 rfl rfl rfl teOk rfl ?_;refine qC ?_;refine qB ?_;refine qC ?_;refine qB ?_;refine Or.inl ?_;refine zai (rfl) ?_;refine zei _ (zai (hat) ?_);refine qC ?_;refine qC ?_;refine qB ?_;refine zai (fun h=>trivial) ?_;refine zai (fun h=>⟨⟨h,trivial⟩,trivial⟩) ?_;refine zai (by exact fun h=>h) ?_;refine qJ rfl (fun h24=>?_) (fun h24=>?_)
    ·try simp only [decide_eq_true_eq,decide_eq_false_iff_not,Bool.and_eq_true,Bool.not_eq_true'] at h24
     try simp only [zds] at h24
     refine qC ?_;refine qB ?_;refine qM ?_;rfl
    ·try simp only [decide_eq_true_eq,decide_eq_false_iff_not,Bool.not_eq_false',Bool.and_eq_false_iff,Int.not_lt] at h24
     try simp only [zds] at h24
     omega
  · simp only [if_neg h0]
    by_cases hc : (chkR f).2 ≠ 0
    · simp only [if_pos hc];refine yT (rs:=[.cell 6 28,.tmp 7,.tmp 8,.tmp 9]) Tryz.func90 rfl rfl rfl teOk rfl ?_;refine qC ?_;refine qB ?_;refine qC ?_;refine qB ?_;refine Or.inl ?_;refine zai (rfl) ?_;refine zei _ (zai (hat) ?_);refine qC ?_;refine qC ?_;refine qB ?_;refine zai (fun h=>trivial) ?_;refine zai (fun h=>⟨⟨h,trivial⟩,trivial⟩) ?_;refine zai (by exact fun h=>h) ?_;refine qJ rfl (fun h24=>?_) (fun h24=>?_)
      ·try simp only [decide_eq_true_eq,decide_eq_false_iff_not,Bool.and_eq_true,Bool.not_eq_true'] at h24
       try simp only [zds] at h24
       omega
      ·try simp only [decide_eq_true_eq,decide_eq_false_iff_not,Bool.not_eq_false',Bool.and_eq_false_iff,Int.not_lt] at h24
       try simp only [zds] at h24
       refine qL ?_;refine qC ?_;refine qB ?_;refine Or.inl ?_;refine zai (rfl) ?_;refine zei _ (zai (hck) ?_);refine qC ?_;refine qC ?_;refine qB ?_;refine qJ rfl (fun h32=>?_) (fun h32=>?_)
       ·try simp only [decide_eq_false_iff_not,Bool.not_eq_true'] at h32
        try simp only [zds] at h32
        refine qC ?_;refine qB ?_;refine qM ?_;rfl
       ·try simp only [decide_eq_true_eq,Bool.not_eq_false'] at h32
        try simp only [zds] at h32
        exact absurd h32 hc
    · simp only [if_neg hc];have hc : (chkR f).2 = 0:=Classical.not_not.1 hc;have hg:=(chk_good hc).1
      by_cases h4 : 400 ≤ ((es.filter live).length : Int)
      · simp only [if_pos h4];refine yT (rs:=[.cell 6 28,.tmp 7,.tmp 8,.tmp 9]) Tryz.func90 rfl rfl rfl teOk rfl ?_;refine qC ?_;refine qB ?_;refine qC ?_;refine qB ?_;refine Or.inl ?_;refine zai (rfl) ?_;refine zei _ (zai (hat) ?_);refine qC ?_;refine qC ?_;refine qB ?_;refine zai (fun h=>trivial) ?_;refine zai (fun h=>⟨⟨h,trivial⟩,trivial⟩) ?_;refine zai (by exact fun h=>h) ?_;refine qJ rfl (fun h24=>?_) (fun h24=>?_)
        ·try simp only [decide_eq_true_eq,decide_eq_false_iff_not,Bool.and_eq_true,Bool.not_eq_true'] at h24
         try simp only [zds] at h24
         omega
        ·try simp only [decide_eq_true_eq,decide_eq_false_iff_not,Bool.not_eq_false',Bool.and_eq_false_iff,Int.not_lt] at h24
         try simp only [zds] at h24
         refine qL ?_;refine qC ?_;refine qB ?_;refine Or.inl ?_;refine zai (rfl) ?_;refine zei _ (zai (hck) ?_);refine qC ?_;refine qC ?_;refine qB ?_;refine qJ rfl (fun h32=>?_) (fun h32=>?_)
         ·try simp only [decide_eq_false_iff_not,Bool.not_eq_true'] at h32
          try simp only [zds] at h32
          exact absurd hc h32
         ·try simp only [decide_eq_true_eq,Bool.not_eq_false'] at h32
          try simp only [zds] at h32
          refine qL ?_;refine qC ?_;refine qC ?_;refine qB ?_;refine Or.inl ?_;refine zai (rfl) ?_;refine zei _ (zai (hln) ?_);refine qJ rfl (fun h38=>?_) (fun h38=>?_)
          ·try simp only [decide_eq_true_eq] at h38
           try simp only [zds] at h38
           refine qC ?_;refine qB ?_;refine qM ?_;rfl
          ·try simp only [decide_eq_false_iff_not,Int.not_le] at h38
           try simp only [zds] at h38
           omega
      · simp only [if_neg h4];obtain ⟨j,hj,hje⟩ : ∃ j : Nat,j ≤ es.length ∧ atE es id + 1 = (j : Int):=by
          rcases at_cases es id with ⟨h1,_⟩|⟨i,h1,h2,_⟩
          · exact ⟨0,Nat.zero_le _,by omega⟩
          · exact ⟨i + 1,by omega,by omega⟩
        rw [hje,Int.toNat_natCast];refine yT (rs:=[.cell 6 28,.tmp 7,.tmp 8,.tmp 9]) Tryz.func90 rfl rfl rfl teOk rfl ?_;refine qC ?_;refine qB ?_;refine qC ?_;refine qB ?_;refine Or.inl ?_;refine zai (rfl) ?_;refine zei _ (zai (hat) ?_);refine qC ?_;refine qC ?_;refine qB ?_;refine zai (fun h=>trivial) ?_;refine zai (fun h=>⟨⟨h,trivial⟩,trivial⟩) ?_;refine zai (by exact fun h=>h) ?_;refine qJ rfl (fun h24=>?_) (fun h24=>?_)
        ·try simp only [decide_eq_true_eq,decide_eq_false_iff_not,Bool.and_eq_true,Bool.not_eq_true'] at h24
         try simp only [zds] at h24
         omega
        ·try simp only [decide_eq_true_eq,decide_eq_false_iff_not,Bool.not_eq_false',Bool.and_eq_false_iff,Int.not_lt] at h24
         try simp only [zds] at h24
         refine qL ?_;refine qC ?_;refine qB ?_;refine Or.inl ?_;refine zai (rfl) ?_;refine zei _ (zai (hck) ?_);refine qC ?_;refine qC ?_;refine qB ?_;refine qJ rfl (fun h32=>?_) (fun h32=>?_)
         ·try simp only [decide_eq_false_iff_not,Bool.not_eq_true'] at h32
          try simp only [zds] at h32
          exact absurd hc h32
         ·try simp only [decide_eq_true_eq,Bool.not_eq_false'] at h32
          try simp only [zds] at h32
          refine qL ?_;refine qC ?_;refine qC ?_;refine qB ?_;refine Or.inl ?_;refine zai (rfl) ?_;refine zei _ (zai (hln) ?_);refine qJ rfl (fun h38=>?_) (fun h38=>?_)
          ·try simp only [decide_eq_true_eq] at h38
           try simp only [zds] at h38
           omega
          ·try simp only [decide_eq_false_iff_not,Int.not_le] at h38
           try simp only [zds] at h38
           refine qL ?_;refine qC ?_;refine qB ?_;refine zai (by first|omega|assumption|decide|(simp only [zds];omega)|(simp <;> omega)) ?_;refine acode_cut (fun (u : Unit)=>True) (fun (u : Unit)=>[(3,.one (.own 0 0)),(6,.one (.own 1 0)),(10,ii .i64 (atE es id)),(13,.one (.own 2 0)),(14,.one (.own 4 0))]) (fun (u : Unit)=>[(0,.box 28 (toL rRL (es,n))),(1,.box 28 [.lit (.slice none 0 0),.lit (.int .i64 0)]),(2,.box 28 [.vec 3,.lit (.int .i64 (n + 1))]),(3,.vec 113 rEnt []),(4,.box 113 (toL rEnt (itmOf f,n)))]) 5 ?_ ?_
           ·refine yF 2 0 113 rEnt rfl rfl rfl ?_;refine yQ rfl ?_;refine qI 0 rfl rfl rfl (by kernel_rfl) ?_;refine qI 2 rfl rfl rfl (by kernel_rfl) ?_;refine qK [1,3,5] (by kernel_rfl) rfl ?_;refine zai ?_ ?_
            ·refine Or.inl ?_;refine zai (rfl) ?_;refine zei _ (zai (refItem_c f hg.2.2 hf.1) ?_);refine qK [3,5] (by kernel_rfl) rfl ?_;refine zai ?_ ?_
             ·refine qK [4,5] (by kernel_rfl) rfl ?_;refine zai ?_ ?_
              ·refine qK [5] (by kernel_rfl) rfl ?_;refine qK [6] (by kernel_rfl) rfl ?_;refine qO (by kernel_rfl) ?_;exact ⟨(),trivial,qP ⟨rfl,rfl,rfl,rfl,rfl⟩ ⟨rfl,rfl,rfl,rfl,rfl⟩ rfl⟩
              ·refine qK [4] (by kernel_rfl) rfl ?_;refine qK [6] (by kernel_rfl) rfl ?_;refine qO (by kernel_rfl) ?_;exact ⟨(),trivial,qP ⟨rfl,rfl,rfl,rfl,rfl⟩ ⟨rfl,rfl,rfl,rfl,rfl⟩ rfl⟩
             ·refine qK [3] (by kernel_rfl) rfl ?_;refine qK [4] (by kernel_rfl) rfl ?_;refine qK [6] (by kernel_rfl) rfl ?_;refine qO (by kernel_rfl) ?_;exact ⟨(),trivial,qP ⟨rfl,rfl,rfl,rfl,rfl⟩ ⟨rfl,rfl,rfl,rfl,rfl⟩ rfl⟩
            refine zai ?_ ?_
            ·refine qK [1,5] (by kernel_rfl) rfl ?_;refine zai ?_ ?_
             ·refine Or.inl ?_;refine zai (rfl) ?_;refine zei _ (zai (refItem_c f hg.2.2 hf.1) ?_);refine qK [4,5] (by kernel_rfl) rfl ?_;refine zai ?_ ?_
              ·refine qK [5] (by kernel_rfl) rfl ?_;refine qK [6] (by kernel_rfl) rfl ?_;refine qO (by kernel_rfl) ?_;exact ⟨(),trivial,qP ⟨rfl,rfl,rfl,rfl,rfl⟩ ⟨rfl,rfl,rfl,rfl,rfl⟩ rfl⟩
              ·refine qK [4] (by kernel_rfl) rfl ?_;refine qK [6] (by kernel_rfl) rfl ?_;refine qO (by kernel_rfl) ?_;exact ⟨(),trivial,qP ⟨rfl,rfl,rfl,rfl,rfl⟩ ⟨rfl,rfl,rfl,rfl,rfl⟩ rfl⟩
             ·refine qK [1] (by kernel_rfl) rfl ?_;refine Or.inl ?_;refine zai (rfl) ?_;refine zei _ (zai (refItem_c f hg.2.2 hf.1) ?_);refine qK [4] (by kernel_rfl) rfl ?_;refine qK [6] (by kernel_rfl) rfl ?_;refine qO (by kernel_rfl) ?_;exact ⟨(),trivial,qP ⟨rfl,rfl,rfl,rfl,rfl⟩ ⟨rfl,rfl,rfl,rfl,rfl⟩ rfl⟩
            ·refine qK [1,3] (by kernel_rfl) rfl ?_;refine zai ?_ ?_
             ·refine Or.inl ?_;refine zai (rfl) ?_;refine zei _ (zai (refItem_c f hg.2.2 hf.1) ?_);refine qK [3] (by kernel_rfl) rfl ?_;refine qK [4] (by kernel_rfl) rfl ?_;refine qK [6] (by kernel_rfl) rfl ?_;refine qO (by kernel_rfl) ?_;exact ⟨(),trivial,qP ⟨rfl,rfl,rfl,rfl,rfl⟩ ⟨rfl,rfl,rfl,rfl,rfl⟩ rfl⟩
             ·refine qK [1] (by kernel_rfl) rfl ?_;refine Or.inl ?_;refine zai (rfl) ?_;refine zei _ (zai (refItem_c f hg.2.2 hf.1) ?_);refine qK [4] (by kernel_rfl) rfl ?_;refine qK [6] (by kernel_rfl) rfl ?_;refine qO (by kernel_rfl) ?_;exact ⟨(),trivial,qP ⟨rfl,rfl,rfl,rfl,rfl⟩ ⟨rfl,rfl,rfl,rfl,rfl⟩ rfl⟩
           ·intro u hcut11;refine acode_cut (fun (u : Unit)=>True) (fun (u : Unit)=>[(3,.one (.own 0 0)),(6,.one (.own 1 0)),(10,ii .i64 (atE es id)),(13,.one (.own 2 0)),(14,.one (.own 4 0))]) (fun (u : Unit)=>[(0,.box 28 (toL rRL (es,n))),(1,.box 28 [.lit (.slice none 0 0),.lit (.int .i64 0)]),(2,.box 28 [.vec 3,.lit (.int .i64 (n + 1))]),(3,.vec 113 rEnt (insT es j (itmOf f,n) 0)),(4,.box 113 (toL rEnt (itmOf f,n)))]) 5 ?_ ?_
            ·refine qC ?_;refine qB ?_;refine qJ rfl (fun h50=>?_) (fun h50=>?_)
             ·try simp only [decide_eq_true_eq] at h50
              try simp only [zds] at h50
              refine qB ?_;refine zai (by first|exact qQ (by first|omega|(simp only [List.length_cons,List.length_nil];omega)|(simp;omega)) (by decide)|omega|assumption|decide|(simp only [zds];omega)|(simp <;> omega)) ?_;exact ⟨(),trivial,qP ⟨rfl,rfl,rfl,rfl,rfl⟩ ⟨rfl,rfl,rfl,(qW (by rw [show j = 0 by omega,insT_0];exact rfl)),rfl⟩ rfl⟩
             ·try simp only [decide_eq_false_iff_not,Int.not_lt] at h50
              try simp only [zds] at h50
              refine qL ?_;exact ⟨(),trivial,qP ⟨rfl,rfl,rfl,rfl,rfl⟩ ⟨rfl,rfl,rfl,(qW (by rw [insT_1 (by omega)])),rfl⟩ rfl⟩
            ·intro u hcut13;refine qC ?_;refine qC ?_;refine qB ?_;refine qN ?_;refine qS (fun (i : Nat)=>i ≤ es.length) (fun (i : Nat)=>[(3,.one (.own 0 0)),(6,.one (.own 1 0)),(10,ii .i64 (atE es id)),(13,.one (.own 2 0)),(14,.one (.own 4 0)),(15,ii .i64 i)]) (fun (i : Nat)=>[(0,.box 28 (toL rRL (es,n))),(1,.box 28 [.lit (.slice none 0 0),.lit (.int .i64 0)]),(2,.box 28 [.vec 3,.lit (.int .i64 (n + 1))]),(3,.vec 113 rEnt (insT es j (itmOf f,n) i)),(4,.box 113 (toL rEnt (itmOf f,n)))]) 5 (fun (i : Nat)=>es.length - i) 0 (Nat.zero_le _) (qP ⟨rfl,rfl,rfl,rfl,rfl,rfl⟩ ⟨rfl,rfl,rfl,rfl,rfl⟩ rfl) ?_;intro i hI0;refine qC ?_;refine qC ?_;refine qB ?_;intro l14_3;refine qJ rfl (fun h61=>?_) (fun h61=>?_)
             ·try simp only [decide_eq_true_eq] at h61
              try simp only [zds] at h61
              have hil : i < es.length:=(by omega);have hsn:=insT_snoc (j:=j) (e:=(itmOf f,n)) hil;have hsl:=insT_le es j (itmOf f,n) i;refine qL ?_;refine qC ?_;refine qN ?_;refine qC ?_;refine yQ rfl ?_;refine qI 0 rfl rfl rfl (by kernel_rfl) ?_;refine qI 2 rfl rfl rfl (by kernel_rfl) ?_;refine qI 4 rfl rfl rfl (by kernel_rfl) ?_;refine qK [1,3] (by kernel_rfl) rfl ?_;refine zai ?_ ?_
              ·refine qK [3] (by kernel_rfl) rfl ?_;refine qI 5 rfl rfl rfl (by kernel_rfl) ?_;refine zai (by first|omega|assumption|decide|(simp only [];omega)|(simp <;> omega)) ?_;refine qK [6] (by kernel_rfl) rfl ?_;refine qK [7] (by kernel_rfl) rfl ?_;refine qK [8] (by kernel_rfl) rfl ?_;refine zai (by exact qQ (show (insT es j (itmOf f,n) i).length + 1 ≤ 1000000000 by omega) (by decide)) ?_;refine qI 9 rfl rfl rfl (by kernel_rfl) ?_;refine qK [10] (by kernel_rfl) rfl ?_;refine qO (by kernel_rfl) ?_;refine qC ?_;refine qB ?_;refine qJ rfl (fun h76=>?_) (fun h76=>?_)
               ·try simp only [decide_eq_true_eq] at h76
                try simp only [zds] at h76
                rw [if_pos (by omega)] at hsn;refine qB ?_;refine zai (by exact qQ (by rw [List.length_append];show (insT es j (itmOf f,n) i).length + 1 + 1 ≤ 1000000000;omega) (by decide)) ?_;refine qB ?_;refine zai (by first|omega|assumption|decide|(simp only [zds];omega)|(simp <;> omega)) ?_;exact ⟨i + 1,by omega,by first|omega|(simp <;> omega),qP ⟨rfl,rfl,rfl,rfl,rfl,(qT (by omega))⟩ ⟨rfl,rfl,rfl,(qW (by rw [hsn];(try rw [List.append_assoc]);(try exact rfl))),rfl⟩ rfl⟩
               ·try simp only [decide_eq_false_iff_not] at h76
                try simp only [zds] at h76
                rw [if_neg (by omega)] at hsn;refine qL ?_;refine qB ?_;refine zai (by first|omega|assumption|decide|(simp only [zds];omega)|(simp <;> omega)) ?_;exact ⟨i + 1,by omega,by first|omega|(simp <;> omega),qP ⟨rfl,rfl,rfl,rfl,rfl,(qT (by omega))⟩ ⟨rfl,rfl,rfl,(qW (by rw [hsn];(try rw [List.append_assoc]);(try exact rfl))),rfl⟩ rfl⟩
              ·refine qI 5 rfl rfl rfl (by kernel_rfl) ?_;refine zai (by first|omega|assumption|decide|(simp only [];omega)|(simp <;> omega)) ?_;refine qK [1,6] (by kernel_rfl) rfl ?_;refine zai ?_ ?_
               ·refine qK [6] (by kernel_rfl) rfl ?_;refine qK [7] (by kernel_rfl) rfl ?_;refine qK [8] (by kernel_rfl) rfl ?_;refine zai (by exact qQ (show (insT es j (itmOf f,n) i).length + 1 ≤ 1000000000 by omega) (by decide)) ?_;refine qI 9 rfl rfl rfl (by kernel_rfl) ?_;refine qK [10] (by kernel_rfl) rfl ?_;refine qO (by kernel_rfl) ?_;refine qC ?_;refine qB ?_;refine qJ rfl (fun h76=>?_) (fun h76=>?_)
                ·try simp only [decide_eq_true_eq] at h76
                 try simp only [zds] at h76
                 rw [if_pos (by omega)] at hsn;refine qB ?_;refine zai (by exact qQ (by rw [List.length_append];show (insT es j (itmOf f,n) i).length + 1 + 1 ≤ 1000000000;omega) (by decide)) ?_;refine qB ?_;refine zai (by first|omega|assumption|decide|(simp only [zds];omega)|(simp <;> omega)) ?_;exact ⟨i + 1,by omega,by first|omega|(simp <;> omega),qP ⟨rfl,rfl,rfl,rfl,rfl,(qT (by omega))⟩ ⟨rfl,rfl,rfl,(qW (by rw [hsn];(try rw [List.append_assoc]);(try exact rfl))),rfl⟩ rfl⟩
                ·try simp only [decide_eq_false_iff_not] at h76
                 try simp only [zds] at h76
                 rw [if_neg (by omega)] at hsn;refine qL ?_;refine qB ?_;refine zai (by first|omega|assumption|decide|(simp only [zds];omega)|(simp <;> omega)) ?_;exact ⟨i + 1,by omega,by first|omega|(simp <;> omega),qP ⟨rfl,rfl,rfl,rfl,rfl,(qT (by omega))⟩ ⟨rfl,rfl,rfl,(qW (by rw [hsn];(try rw [List.append_assoc]);(try exact rfl))),rfl⟩ rfl⟩
               ·refine qK [1,7] (by kernel_rfl) rfl ?_;refine zai ?_ ?_
                ·refine qK [7] (by kernel_rfl) rfl ?_;refine qK [8] (by kernel_rfl) rfl ?_;refine zai (by exact qQ (show (insT es j (itmOf f,n) i).length + 1 ≤ 1000000000 by omega) (by decide)) ?_;refine qI 9 rfl rfl rfl (by kernel_rfl) ?_;refine qK [10] (by kernel_rfl) rfl ?_;refine qO (by kernel_rfl) ?_;refine qC ?_;refine qB ?_;refine qJ rfl (fun h76=>?_) (fun h76=>?_)
                 ·try simp only [decide_eq_true_eq] at h76
                  try simp only [zds] at h76
                  rw [if_pos (by omega)] at hsn;refine qB ?_;refine zai (by exact qQ (by rw [List.length_append];show (insT es j (itmOf f,n) i).length + 1 + 1 ≤ 1000000000;omega) (by decide)) ?_;refine qB ?_;refine zai (by first|omega|assumption|decide|(simp only [zds];omega)|(simp <;> omega)) ?_;exact ⟨i + 1,by omega,by first|omega|(simp <;> omega),qP ⟨rfl,rfl,rfl,rfl,rfl,(qT (by omega))⟩ ⟨rfl,rfl,rfl,(qW (by rw [hsn];(try rw [List.append_assoc]);(try exact rfl))),rfl⟩ rfl⟩
                 ·try simp only [decide_eq_false_iff_not] at h76
                  try simp only [zds] at h76
                  rw [if_neg (by omega)] at hsn;refine qL ?_;refine qB ?_;refine zai (by first|omega|assumption|decide|(simp only [zds];omega)|(simp <;> omega)) ?_;exact ⟨i + 1,by omega,by first|omega|(simp <;> omega),qP ⟨rfl,rfl,rfl,rfl,rfl,(qT (by omega))⟩ ⟨rfl,rfl,rfl,(qW (by rw [hsn];(try rw [List.append_assoc]);(try exact rfl))),rfl⟩ rfl⟩
                ·refine qK [1] (by kernel_rfl) rfl ?_;refine qK [8] (by kernel_rfl) rfl ?_;refine zai (by exact qQ (show (insT es j (itmOf f,n) i).length + 1 ≤ 1000000000 by omega) (by decide)) ?_;refine qI 9 rfl rfl rfl (by kernel_rfl) ?_;refine qK [10] (by kernel_rfl) rfl ?_;refine qO (by kernel_rfl) ?_;refine qC ?_;refine qB ?_;refine qJ rfl (fun h76=>?_) (fun h76=>?_)
                 ·try simp only [decide_eq_true_eq] at h76
                  try simp only [zds] at h76
                  rw [if_pos (by omega)] at hsn;refine qB ?_;refine zai (by exact qQ (by rw [List.length_append];show (insT es j (itmOf f,n) i).length + 1 + 1 ≤ 1000000000;omega) (by decide)) ?_;refine qB ?_;refine zai (by first|omega|assumption|decide|(simp only [zds];omega)|(simp <;> omega)) ?_;exact ⟨i + 1,by omega,by first|omega|(simp <;> omega),qP ⟨rfl,rfl,rfl,rfl,rfl,(qT (by omega))⟩ ⟨rfl,rfl,rfl,(qW (by rw [hsn];(try rw [List.append_assoc]);(try exact rfl))),rfl⟩ rfl⟩
                 ·try simp only [decide_eq_false_iff_not] at h76
                  try simp only [zds] at h76
                  rw [if_neg (by omega)] at hsn;refine qL ?_;refine qB ?_;refine zai (by first|omega|assumption|decide|(simp only [zds];omega)|(simp <;> omega)) ?_;exact ⟨i + 1,by omega,by first|omega|(simp <;> omega),qP ⟨rfl,rfl,rfl,rfl,rfl,(qT (by omega))⟩ ⟨rfl,rfl,rfl,(qW (by rw [hsn];(try rw [List.append_assoc]);(try exact rfl))),rfl⟩ rfl⟩
             ·try simp only [decide_eq_false_iff_not,Int.not_lt] at h61
              try simp only [zds] at h61
              refine qV ?_;refine qC ?_;refine yQ rfl ?_;refine qI 1 rfl rfl rfl (by kernel_rfl) ?_;refine qK [0,2] (by kernel_rfl) rfl ?_;refine zai ?_ ?_
              ·refine qK [2,3] (by kernel_rfl) rfl ?_;refine zai ?_ ?_
               ·refine qK [3] (by kernel_rfl) rfl ?_;refine qI 4 rfl rfl rfl (by kernel_rfl) ?_;refine qI 5 rfl rfl rfl (by kernel_rfl) ?_;refine qI 6 rfl rfl rfl (by kernel_rfl) ?_;refine qO (by kernel_rfl) ?_;refine yK [3] ?_;refine qM ?_;rw [insT_all hj (by omega)];exact rfl
               ·refine qK [2] (by kernel_rfl) rfl ?_;refine qI 4 rfl rfl rfl (by kernel_rfl) ?_;refine qI 5 rfl rfl rfl (by kernel_rfl) ?_;refine qI 6 rfl rfl rfl (by kernel_rfl) ?_;refine qO (by kernel_rfl) ?_;refine yK [3] ?_;refine qM ?_;rw [insT_all hj (by omega)];exact rfl
              ·refine qK [0] (by kernel_rfl) rfl ?_;refine qK [3] (by kernel_rfl) rfl ?_;refine qI 4 rfl rfl rfl (by kernel_rfl) ?_;refine qI 5 rfl rfl rfl (by kernel_rfl) ?_;refine qI 6 rfl rfl rfl (by kernel_rfl) ?_;refine qO (by kernel_rfl) ?_;refine yK [3] ?_;refine qM ?_;rw [insT_all hj (by omega)];exact rfl
def doB (num at_ id bad at2 want : Int) : Bool:=((true && decide (num = bad)) && decide (at_ = at2)) && decide (id = want)
theorem chk_shape {f : List Fld} (h : (chkR f).2 ≠ 0) : (∃ k9,chkA f = errN k9 ∧ k9 ≠ 0 ∧ (-9 : Int) = (chkR f).1 ∧ k9 = (chkR f).2) ∨ ∃ a9 k9,chkA f = errF a9 k9 ∧ k9 ≠ 0 ∧ a9 = (chkR f).1 ∧ k9 = (chkR f).2:=by
  obtain ⟨e,he,hs⟩:=chk_bad h;rcases hs with ⟨n,hn,rfl,hr⟩|⟨i,n,hn,rfl,hr⟩
  · exact .inl ⟨n,he,hn,by rw [hr],by rw [hr]⟩
  · exact .inr ⟨i,n,he,hn,by rw [hr],by rw [hr]⟩
def yO (L : Lst) (s : List Edt) (i : Nat) : Lst:=(s.take i).foldl doL L
theorem plays_snoc (L : Lst) {s : List Edt} {i : Nat} (h : i < s.length) : yO L s (i + 1) = doL (yO L s i) (s.getD i ((0 : Int),(0 : Int),([] : List Fld))):=by
  unfold yO;rw [← yG ((0 : Int),(0 : Int),([] : List Fld)) h,List.foldl_append];rfl
theorem plays_ok {c : Nat} {L : Lst} {s : List Edt} (h : LOk c L) (hf : ∀ e ∈ s,yD e.2.2) : ∀ i,i ≤ s.length → LOk (c + i) (yO L s i)
  | 0,_=>by simpa [yO] using h
  | i + 1,hi=>by
    rw [plays_snoc L (by omega)];exact doL_ok (plays_ok h hf i (by omega)) (hf _ (yI (by omega) ((0 : Int),(0 : Int),([] : List Fld))))
theorem heavy_ok {s : List Edt} (h : heavyB s = false) : s.length ≤ 51 ∧ ∀ e ∈ s,muchB e.2.2 = false:=by
  unfold heavyB at h;simp only [Bool.or_eq_false_iff,decide_eq_false_iff_not] at h;exact ⟨by omega,fun e he=>by simpa using List.any_eq_false.1 h.2 e he⟩
theorem items_len {s : ByteArray} {l : List Itm} (hp : xF s = .inr l) : l.length ≤ 2 * s.size + 1:=by
  have h0:=parse_ref s;rw [hp] at h0;obtain ⟨h1,_⟩:=linesT_len s;have key : ∀ (L : List Lne) (t : RSt) (bh : Bool) (l : List Itm),runR bh t L = .inr l → l.length ≤ t.out.length + 1 + 2 * L.length:=by
    intro L
    induction L with
    | nil =>
      intro t bh l h;unfold runR at h;cases h;split <;> simp
    | cons a r ih =>
      intro t bh l h;unfold runR at h;split at h
      · cases h
      · have i1:=ih _ _ _ h;have so : (xB t a r).out.length ≤ t.out.length + 2:=by
          unfold xB;split
          · simp only;split <;> simp
          · split <;> simp
        rw [List.length_cons];omega
  have k1:=key _ _ _ _ h0.symm;simp only [rst0,List.length_nil] at k1;omega
theorem of_lok {s : ByteArray} {l : List Itm} (hs : s.size ≤ 4000) (hp : xF s = .inr l) : LOk 9000 (ofT l):=by
  have h1:=items_len hp;exact ofT_ok (by omega) fun x hx=>fldsOk_of (items_small hp x hx).1 (items_small hp x hx).2
theorem LOk.f1 {c : Nat} {L : Lst} (h : LOk c L) : ∀ e ∈ L.1,e.1.2.2.length ≤ 1000000:=fun e he=>Nat.le_trans (h.flds e he).1 (by decide)
end Q
end Ab
end Go.Proofs.YtpfkncffaanjcaaGreatDoor
namespace Go.Proofs.YtpfkncffaanjcaaGreatDoor
open Go.RowKit
namespace Ab
set_option maxRecDepth 100000
abbrev rEdk (κ : Nat) : Rd Edt:=.st (.int .i64) (.st (.int .i64) (.slk κ rFld))
namespace Q
def goodN (x : Edt) : Int:=if x.1 = 2 then (if 0 < x.2.2.length then 2 else 0) else if x.1 = 1 ∨ x.1 = 3 then (chkR x.2.2).2 else 2
def chkF (k : Int) : List Edt → Int × Int
  | []=>(-9,0)
  | x :: r=>if goodN x ≠ 0 then (k,goodN x) else chkF (k + 1) r
def chkB (l : List Edt) : Int × Int:=if l.length < 1 ∨ 40 < l.length then (-9,1) else chkF 0 l
theorem chkF_at : ∀ (l : List Edt) (i : Nat) (k : Int),i < l.length → (∀ e ∈ l.take i,goodN e = 0) → goodN (l.getD i ((0 : Int),(0 : Int),([] : List Fld))) ≠ 0 → chkF k l = (k + i,goodN (l.getD i ((0 : Int),(0 : Int),([] : List Fld))))
  | [],i,k,h,_,_=>by simp at h
  | f :: r,0,k,_,_,hb=>by
    unfold chkF;rw [if_pos (by simpa using hb)];simp
  | f :: r,i + 1,k,h,ht,hb=>by
    unfold chkF;rw [if_neg (by simpa using ht f (by simp))];rw [chkF_at r i (k + 1) (by simpa using h) (fun g hg=>ht g (by simp [hg])) (by simpa using hb)];simp only [List.getD_cons_succ]
    congr 1
    omega
theorem chkF_no : ∀ (l : List Edt) (k : Int),(∀ e ∈ l,goodN e = 0) → chkF k l = (-9,0)
  | [],_,_=>rfl
  | f :: r,k,h=>by
    unfold chkF;rw [if_neg (by simpa using h f (by simp))];exact chkF_no r (k + 1) (fun g hg=>h g (by simp [hg]))
theorem chkF_zero : ∀ (l : List Edt) (k : Int),(chkF k l).2 = 0 → ∀ e ∈ l,goodN e = 0
  | [],_,_,f,hf=>by cases hf
  | g :: r,k,h,f,hf=>by
    unfold chkF at h;split at h
    · rename_i hg;exact absurd h hg
    · rename_i hg;rcases List.mem_cons.1 hf with rfl|hf
      · exact Classical.not_not.1 hg
      · exact chkF_zero r (k + 1) h f hf
theorem chkB_rng {l : List Edt} (h : l.length < 1 ∨ 40 < l.length) : chkB l = (-9,1):=if_pos h
theorem chkB_at {l : List Edt} {i : Nat} (h1 : ¬ (l.length < 1 ∨ 40 < l.length)) (h : i < l.length) (ht : ∀ e ∈ l.take i,goodN e = 0) (hb : goodN (l.getD i ((0 : Int),(0 : Int),([] : List Fld))) ≠ 0) : chkB l = ((i : Int),goodN (l.getD i ((0 : Int),(0 : Int),([] : List Fld)))):=by
  unfold chkB;rw [if_neg h1,chkF_at l i 0 h ht hb,Int.zero_add]
theorem chkB_no {l : List Edt} (h1 : ¬ (l.length < 1 ∨ 40 < l.length)) (h : ∀ e ∈ l,goodN e = 0) : chkB l = (-9,0):=by
  unfold chkB;rw [if_neg h1,chkF_no l 0 h]
theorem chkB_zero {l : List Edt} (h : (chkB l).2 = 0) : (1 ≤ l.length ∧ l.length ≤ 40) ∧ ∀ e ∈ l,goodN e = 0:=by
  unfold chkB at h;split at h
  · cases h
  · exact ⟨by omega,chkF_zero l 0 h⟩
theorem chkB_good {l : List Edt} (h : (chkB l).2 = 0) : chkB l = (-9,0):=chkB_no (by have:=(chkB_zero h).1;omega) (chkB_zero h).2
theorem chkB_cases (l : List Edt) : (chkB l = (-9,0) ∧ (1 ≤ l.length ∧ l.length ≤ 40) ∧ ∀ e ∈ l,goodN e = 0) ∨ chkB l = (-9,1) ∨ ∃ (i : Nat) (n : Int),n ≠ 0 ∧ chkB l = ((i : Int),n):=by
  by_cases h : (chkB l).2 = 0
  · exact .inl ⟨chkB_good h,chkB_zero h⟩
  · by_cases h1 : l.length < 1 ∨ 40 < l.length
    · exact .inr (.inl (chkB_rng h1))
    · refine .inr (.inr ?_);have h2 : chkB l = chkF 0 l:=if_neg h1;rw [h2] at h ⊢;clear h1 h2;have key : ∀ (l : List Edt) (k : Nat),(chkF (k : Int) l).2 ≠ 0 → ∃ (i : Nat) (n : Int),n ≠ 0 ∧ chkF (k : Int) l = ((i : Int),n):=by
        intro l
        induction l with
        | nil=>intro k h;exact absurd rfl h
        | cons x r ih =>
          intro k h;unfold chkF at h ⊢;split at h
          · rename_i hg;rw [if_pos hg];exact ⟨k,_,hg,rfl⟩
          · rename_i hg;rw [if_neg hg];exact ih (k + 1) h
      exact key l 0 h
theorem take_good {l : List Edt} {i : Nat} (h : i < l.length) (ht : ∀ e ∈ l.take i,goodN e = 0) (hb : goodN (l.getD i ((0 : Int),(0 : Int),([] : List Fld))) = 0) : ∀ e ∈ l.take (i + 1),goodN e = 0:=by
  rw [← yG ((0 : Int),(0 : Int),([] : List Fld)) h];intro e he;rcases List.mem_append.1 he with he|he
  · exact ht e he
  · rw [List.mem_singleton.1 he];exact hb
def oneN (L : Lst) (e : Edt) : Int :=
  if e.1 = 1 then (if atE L.1 e.2.1 < 0 then 7 else (chkR e.2.2).2)
  else if e.1 = 2 then (if atE L.1 e.2.1 < 0 then 7 else 0)
  else if atE L.1 e.2.1 < 0 ∧ e.2.1 ≠ 0 then 7 else if (chkR e.2.2).2 ≠ 0 then (chkR e.2.2).2 else if 400 ≤ L.2.2 then 11 else 0
def newN (L : Lst) (e : Edt) : Int:=if e.1 = 1 ∨ e.1 = 2 then 0 else if oneN L e = 0 then L.2.1 else 0
def batK (k : Int) (L : Lst) : List Edt → Int × Int
  | []=>(-9,0)
  | x :: r=>if oneN L x ≠ 0 then (k,oneN L x) else batK (k + 1) (doL L x) r
def doR (L : Lst) (s : List Edt) : Int × Int:=if (chkB s).2 ≠ 0 then chkB s else batK 0 L s
def idsT (L : Lst) (s : List Edt) (i : Nat) : List Int:=((List.range i).map fun j=>newN (yO L s j) (s.getD j ((0 : Int),(0 : Int),([] : List Fld)))).filter posI
theorem idsT_snoc (L : Lst) (s : List Edt) (i : Nat) : idsT L s (i + 1) = idsT L s i ++ if 0 < newN (yO L s i) (s.getD i ((0 : Int),(0 : Int),([] : List Fld))) then [newN (yO L s i) (s.getD i ((0 : Int),(0 : Int),([] : List Fld)))] else []:=by
  unfold idsT;rw [List.range_succ,List.map_append,List.filter_append]
  congr 1
  simp only [List.map_cons,List.map_nil,List.filter_cons,List.filter_nil,posI,decide_eq_true_eq]
theorem idsT_len (L : Lst) (s : List Edt) (i : Nat) : (idsT L s i).length ≤ i:=by
  unfold idsT;have:=List.length_filter_le posI ((List.range i).map fun j=>newN (yO L s j) (s.getD j ((0 : Int),(0 : Int),([] : List Fld))));rw [List.length_map,List.length_range] at this;exact this
theorem batK_cases : ∀ (s : List Edt) (L : Lst) (k : Nat),(batK k L s = (-9,0) ∧ ∀ j,j < s.length → oneN (yO L s j) (s.getD j ((0 : Int),(0 : Int),([] : List Fld))) = 0) ∨
    ∃ (i : Nat),i < s.length ∧ batK k L s = (((k + i : Nat) : Int),oneN (yO L s i) (s.getD i ((0 : Int),(0 : Int),([] : List Fld)))) ∧ oneN (yO L s i) (s.getD i ((0 : Int),(0 : Int),([] : List Fld))) ≠ 0 ∧ ∀ j,j < i → oneN (yO L s j) (s.getD j ((0 : Int),(0 : Int),([] : List Fld))) = 0
  | [],_,_=>.inl ⟨rfl,fun j h=>by simp at h⟩
  | x :: r,L,k=>by
    by_cases h0 : oneN L x = 0
    · have e : batK k L (x :: r) = batK ((k + 1 : Nat) : Int) (doL L x) r:=by
        conv=>lhs;unfold batK
        rw [if_neg (by rw [h0];decide)];rfl
      rw [e];rcases batK_cases r (doL L x) (k + 1) with ⟨h1,h2⟩|⟨i,hi,h1,h2,h3⟩
      · refine .inl ⟨h1,fun j hj=>?_⟩;cases j with
        | zero=>exact h0
        | succ j=>exact h2 j (by simpa using hj)
      · refine .inr ⟨i + 1,by simpa using hi,?_,h2,fun j hj=>?_⟩
        · rw [h1];show (((k + 1 + i : Nat) : Int),_) = (((k + (i + 1) : Nat) : Int),oneN (yO (doL L x) r i) (r.getD i ((0 : Int),(0 : Int),([] : List Fld))))
          congr 1
          omega
        · cases j with
          | zero=>exact h0
          | succ j=>exact h3 j (by omega)
    · refine .inr ⟨0,by simp,?_,h0,fun j hj=>by omega⟩;unfold batK;rw [if_pos h0];rfl
theorem doR_cases (L : Lst) (s : List Edt) (hc : (chkB s).2 = 0) : (doR L s = (-9,0) ∧ ∀ j,j < s.length → oneN (yO L s j) (s.getD j ((0 : Int),(0 : Int),([] : List Fld))) = 0) ∨
    ∃ (i : Nat),i < s.length ∧ doR L s = ((i : Int),oneN (yO L s i) (s.getD i ((0 : Int),(0 : Int),([] : List Fld)))) ∧ oneN (yO L s i) (s.getD i ((0 : Int),(0 : Int),([] : List Fld))) ≠ 0 ∧ ∀ j,j < i → oneN (yO L s j) (s.getD j ((0 : Int),(0 : Int),([] : List Fld))) = 0:=by
  unfold doR;rw [if_neg (fun h=>h hc)];rcases batK_cases s L 0 with h|⟨i,h1,h2,h3⟩
  · exact .inl h
  · refine .inr ⟨i,h1,?_,h3⟩;rw [Nat.zero_add] at h2;exact h2
theorem ref_one {c : Nat} {L : Lst} (h : LOk c L) (e : Edt) :
    (e.1 = 1 → (refRep (L.1,L.2.1) e.2.1 e.2.2).2.2 = oneN L e ∧ ((refRep (L.1,L.2.1) e.2.1 e.2.2).1 = ((doL L e).1,(doL L e).2.1))) ∧
    (e.1 = 2 → (refDel (L.1,L.2.1) e.2.1).2 = oneN L e ∧ ((refDel (L.1,L.2.1) e.2.1).1 = ((doL L e).1,(doL L e).2.1))) ∧
    (e.1 ≠ 1 → e.1 ≠ 2 → (refIns (L.1,L.2.1) e.2.1 e.2.2).2.2.2 = oneN L e ∧ (refIns (L.1,L.2.1) e.2.1 e.2.2).2.1 = newN L e ∧ ((refIns (L.1,L.2.1) e.2.1 e.2.2).1 = ((doL L e).1,(doL L e).2.1))):=by
  have hmany:=h.many;have hids:=ids_len L.1;refine ⟨fun h1=>?_,fun h2=>?_,fun h1 h2=>?_⟩
  · unfold refRep oneN doL;simp only [if_pos h1]
    by_cases h3 : atE L.1 e.2.1 < 0
    · simp [h3]
    · by_cases h4 : (chkR e.2.2).2 ≠ 0
      · simp [h3,h4]
      · simp only [if_neg h3,if_neg h4];exact ⟨(Classical.not_not.1 h4).symm,trivial⟩
  · unfold refDel oneN doL;simp only [h2,if_neg (show ¬ (2 : Int) = 1 by decide),if_pos]
    by_cases h3 : atE L.1 e.2.1 < 0
    · simp [h3]
    · simp [h3]
  · unfold refIns newN oneN doL;simp only [if_neg h1,if_neg h2,if_neg (show ¬ (e.1 = 1 ∨ e.1 = 2) from fun h=>h.elim h1 h2)]
    by_cases h3 : atE L.1 e.2.1 < 0 ∧ e.2.1 ≠ 0
    · simp only [if_pos h3];simp
    · by_cases h4 : (chkR e.2.2).2 ≠ 0
      · simp only [if_neg h3,if_pos h4];simp [h4]
      · by_cases h5 : 400 ≤ L.2.2
        · have h6 : 400 ≤ ((L.1.filter live).length : Int):=by omega
          simp only [if_neg h3,if_neg h4,if_pos h5,if_pos h6];simp
        · have h6 : ¬ 400 ≤ ((L.1.filter live).length : Int):=by omega
          simp only [if_neg h3,if_neg h4,if_neg h5,if_neg h6];simp
end Q
end Ab
end Go.Proofs.YtpfkncffaanjcaaGreatDoor
namespace Go.Proofs.YtpfkncffaanjcaaGreatDoor.As
open Go.RowKit Go.Extern.Stop Go.Stop Go.Extern
theorem valueOf27 (t : Addr) (w : World) : (ReflectliteValue.unpack (.iface 193 (.pointer (some t)))).run Tryz.prog w
    = .ok (.agg #[.pointer (some ⟨4,193,none⟩),.pointer (some ⟨w.heap.size,0,none⟩),.int .u64 150]) (w.alloc (.cells #[.pointer (some t)] 193)):=by kernel_rfl
theorem type27 (a : Addr) (w : World) : (ReflectliteValue.methodAny (ReflectliteValue.valueError "reflectlite.Value.Type" 0) (fun t _ _ _ => ReflectliteType.toType t) #[.agg #[.pointer (some ⟨4, 193, none⟩), .pointer (some a), .int .u64 150]]).run Tryz.prog w
    = .ok (.iface 239 (.agg #[.pointer (some ⟨4,193,none⟩)])) w:=by kernel_rfl
theorem methodKind (h : Value) (w : World) : (Go.method 409 239 (.agg #[h]) "Kind").run Tryz.prog w = .ok (223, h) w := by kernel_rfl
theorem kind27 (w : World) : ((ReflectliteType.abiMethod fun t=>(fun a : Nat=>Value.int IntKind.u8 (a : Int)) <$> Rtype.kind t) #[.pointer (some ⟨4,193,none⟩)]).run Tryz.prog w = .ok (.int .u8 22) w:=by kernel_rfl
theorem kind25 (w : World) : ((ReflectliteType.abiMethod fun t=>(fun a : Nat=>Value.int IntKind.u8 (a : Int)) <$> Rtype.kind t) #[.pointer (some ⟨4,93,none⟩)]).run Tryz.prog w = .ok (.int .u8 22) w:=by kernel_rfl
theorem rlm (z : Sem Value) (f : TypeId → Addr → Nat → Nat → Sem Value) (v : Value) :
    ReflectliteValue.method z f #[v] = (do match ← ReflectliteValue.parts v with|none=>z|some (t,a,fl)=>f t a fl (fl % 32)):=rfl
theorem parts27 (a : Addr) (w : World) : (ReflectliteValue.parts (.agg #[.pointer (some ⟨4,193,none⟩),.pointer (some a),.int .u64 150])).run Tryz.prog w = .ok (some (193,a,150)) w:=by kernel_rfl
theorem isNil27 (a p : Addr) (W : World) (ha : W.cell? a = some (.pointer (some p))) :
    (ReflectliteValue.method (ReflectliteValue.valueError "reflectlite.Value.IsNil" 0) ReflectliteValue.isNil #[.agg #[.pointer (some ⟨4, 193, none⟩), .pointer (some a), .int .u64 150]]).run Tryz.prog W = .ok (.bool false) W := by
  rw [rlm];simp only [Sem.run_bind,parts27,Result.andThen];simp [ReflectliteValue.isNil,loadVar,isAgg,underlying,Tryz.underlying193,ha,Result.andThen]
theorem methodElem (h : Value) (w : World) : (Go.method 409 239 (.agg #[h]) "Elem").run Tryz.prog w = .ok (236, .agg #[h]) w := by kernel_rfl
theorem methodImplements (h : Value) (w : World) : (Go.method 409 239 (.agg #[h]) "Implements").run Tryz.prog w = .ok (237, .agg #[h]) w := by kernel_rfl
theorem methodAssignableTo (h : Value) (w : World) : (Go.method 409 239 (.agg #[h]) "AssignableTo").run Tryz.prog w = .ok (234, .agg #[h]) w := by kernel_rfl
theorem elem27 (w : World) : (ReflectliteType.method ReflectliteType.elem #[.agg #[.pointer (some ⟨4,193,none⟩)]]).run Tryz.prog w = .ok (.iface 239 (.agg #[.pointer (some ⟨4,93,none⟩)])) w:=by kernel_rfl
theorem implements25 (w : World) : (ReflectliteType.relation "Implements" ReflectliteType.implements_ #[.agg #[.pointer (some ⟨4, 93, none⟩)], .iface 239 (.agg #[.pointer (some ⟨4, 34, none⟩)])]).run Tryz.prog w = .ok (.bool true) w := by kernel_rfl
theorem typeOf25 (v : Value) (w : World) : (ReflectliteType.typeOf #[.iface 93 v]).run Tryz.prog w = .ok (.iface 239 (.agg #[.pointer (some ⟨4,93,none⟩)])) w:=by kernel_rfl
theorem assignable25 (w : World) : (ReflectliteType.relation "AssignableTo" ReflectliteType.assignableTo #[.agg #[.pointer (some ⟨4, 93, none⟩)], .iface 239 (.agg #[.pointer (some ⟨4, 93, none⟩)])]).run Tryz.prog w = .ok (.bool true) w := by kernel_rfl
theorem valueOf25 (e : Addr) (w : World) : (ReflectliteValue.unpack (.iface 93 (.pointer (some e)))).run Tryz.prog w
    = .ok (.agg #[.pointer (some ⟨4,93,none⟩),.pointer (some ⟨w.heap.size,0,none⟩),.int .u64 150]) (w.alloc (.cells #[.pointer (some e)] 93)):=by kernel_rfl
theorem elemOf27 (w : World) : (Rtype.elem? 193).run Tryz.prog w = .ok (some 93) w:=by kernel_rfl
theorem mk25 (p : Addr) (w : World) : (ReflectliteValue.mk 93 p ReflectliteValue.flagAddr).run Tryz.prog w = .ok (.agg #[.pointer (some ⟨4,93,none⟩),.pointer (some p),.int .u64 406]) w:=by kernel_rfl
theorem elemV27 (a p : Addr) (W : World) (ha : W.cell? a = some (.pointer (some p))) :
    (ReflectliteValue.method (ReflectliteValue.valueError "reflectlite.Value.Elem" 0) ReflectliteValue.elem #[.agg #[.pointer (some ⟨4, 193, none⟩), .pointer (some a), .int .u64 150]]).run Tryz.prog W
      = .ok (.agg #[.pointer (some ⟨4,93,none⟩),.pointer (some p),.int .u64 406]) W:=by
  rw [rlm];simp only [Sem.run_bind,parts27,Result.andThen];simp [ReflectliteValue.elem,loadVar,isAgg,underlying,Tryz.underlying193,ha,Result.andThen,elemOf27,mk25]
theorem rls (v x : Value) : ReflectliteValue.set #[v,x] = (do
    let (some (dst,a,fl),some (src,b,_)):=(← ReflectliteValue.parts v,← ReflectliteValue.parts x)
      | unsupported (.noEntry "extern/(internal/reflectlite.Value).Set.zeroValue")
    if fl / ReflectliteValue.flagAddr % 2 == 0 then unsupported (.noEntry "extern/(internal/reflectlite.Value).Set.unaddressable")
    let val ← loadVar src b
    if ← Rtype.directlyAssignable dst src then storeVar dst a val
    else if ← Rtype.implements dst src then
      if (← Rtype.kind src) == 20 then
        match val with
        | .nilIface => unsupported (.noEntry "extern/reflectlite: a nil value of one interface type handed on as a value of another")
        | _=>storeVar dst a val
      else storeVar dst a (.iface src val)
    else panicString ("reflectlite.Set: value of type " ++ (← Rtype.spelt src) ++ " is not assignable to type " ++ (← Rtype.spelt dst))
    pure (.tuple #[])):=rfl
theorem parts25a (a : Addr) (w : World) : (ReflectliteValue.parts (.agg #[.pointer (some ⟨4,93,none⟩),.pointer (some a),.int .u64 406])).run Tryz.prog w = .ok (some (93,a,406)) w:=by kernel_rfl
theorem parts25 (a : Addr) (w : World) : (ReflectliteValue.parts (.agg #[.pointer (some ⟨4,93,none⟩),.pointer (some a),.int .u64 150])).run Tryz.prog w = .ok (some (93,a,150)) w:=by kernel_rfl
theorem direct25 (w : World) : (Rtype.directlyAssignable 93 93).run Tryz.prog w = .ok true w:=by kernel_rfl
theorem set25 (ta b e : Addr) (old : Value) (W : World) (hb : W.cell? b = some (.pointer (some e))) (ht : W.cell? ta = some old) (hf : W.frozen? ta = false) :
    (ReflectliteValue.set #[.agg #[.pointer (some ⟨4,93,none⟩),.pointer (some ta),.int .u64 406],.agg #[.pointer (some ⟨4,93,none⟩),.pointer (some b),.int .u64 150]]).run Tryz.prog W
      = .ok (.tuple #[]) (W.setCell ta (.pointer (some e))):=by
  rw [rls];simp only [Sem.run_bind,parts25a,parts25,Result.andThen];simp [ReflectliteValue.flagAddr,loadVar,isAgg,underlying,Tryz.underlying93,hb,Result.andThen,direct25,storeVar,Value.cells,storeCells,Addr.add];rw [run_store Tryz.prog W ta _ _ (by rfl)];simp [ht,hf]
theorem typeOfN (v : Value) (w : World) : (ReflectliteType.typeOf #[.iface 59 v]).run Tryz.prog w = .ok (.iface 239 (.agg #[.pointer (some ⟨4,59,none⟩)])) w:=by kernel_rfl
theorem assignableN (w : World) : (ReflectliteType.relation "AssignableTo" ReflectliteType.assignableTo #[.agg #[.pointer (some ⟨4, 59, none⟩)], .iface 239 (.agg #[.pointer (some ⟨4, 93, none⟩)])]).run Tryz.prog w = .ok (.bool false) w := by kernel_rfl
theorem noAs (v : Value) (xT : TypeId) (w : World) : (Instr.typeAssert (.iface 59 v) xT 244 true).run Tryz.prog w = .ok (.tuple #[.nilIface,.bool false]) w:=run_typeAssert_lacksB Tryz.underlying244 (by kernel_rfl) (by kernel_rfl) v xT w
theorem noUnwrap (v : Value) (xT : TypeId) (w : World) : (Instr.typeAssert (.iface 59 v) xT 247 true).run Tryz.prog w = .ok (.tuple #[.nilIface,.bool false]) w:=run_typeAssert_lacksB Tryz.underlying247 (by kernel_rfl) (by kernel_rfl) v xT w
theorem noUnwraps (v : Value) (xT : TypeId) (w : World) : (Instr.typeAssert (.iface 59 v) xT 248 true).run Tryz.prog w = .ok (.tuple #[.nilIface,.bool false]) w:=run_typeAssert_lacksB Tryz.underlying248 (by kernel_rfl) (by kernel_rfl) v xT w
set_option maxHeartbeats 4000000 in
theorem as_hit (e t : Addr) (old : Value) (w : World) (hg : w.cell? ⟨0,0,none⟩ = some (.iface 239 (.agg #[.pointer (some ⟨4,34,none⟩)]))) (ht0 : w.cell? t = some old) (hf0 : w.frozen? t = false) :
    Calls Tryz.prog 121 #[.iface 93 (.pointer (some e)),.iface 193 (.pointer (some t))] w fun ev w'=>ev = .returned (.bool true) ∧ w' = ((((w.alloc (.cells #[.pointer (some t)] 193)).alloc (.cells #[.pointer (some ⟨4,193,none⟩),.pointer (some ⟨w.heap.size,0,none⟩),.int .u64 150] 222)).alloc (.cells #[.pointer (some ⟨4,193,none⟩),.pointer (some ⟨w.heap.size,0,none⟩),.int .u64 150] 222)).alloc (.cells #[.pointer (some e)] 93)).setCell t (.pointer (some e)):=by
  have h6 := @run_callFunc_extern Tryz.prog 150 _ (fun args => ReflectliteValue.unpack (args.getD 0 (.tuple #[]))) Tryz.func150 (by kernel_rfl) (by kernel_rfl) (by kernel_rfl) (by kernel_rfl);have h7 := @run_callFunc_extern Tryz.prog 151 _ (ReflectliteValue.methodAny (ReflectliteValue.valueError "reflectlite.Value.Type" 0) (fun t _ _ _ => ReflectliteType.toType t)) Tryz.func151 (by kernel_rfl) (by kernel_rfl) (by kernel_rfl) (by kernel_rfl);have h8 := @run_callFunc_extern Tryz.prog 152 _ (ReflectliteValue.method (ReflectliteValue.valueError "reflectlite.Value.IsNil" 0) ReflectliteValue.isNil) Tryz.func152 (by kernel_rfl) (by kernel_rfl) (by kernel_rfl) (by kernel_rfl);have h27 := @run_callFunc_extern Tryz.prog 223 _ (ReflectliteType.abiMethod fun t => do pure (.int .u8 (← Rtype.kind t))) Tryz.func223 (by kernel_rfl) (by kernel_rfl) (by kernel_rfl) (by kernel_rfl);have h37 := @run_callFunc_extern Tryz.prog 236 _ (ReflectliteType.method ReflectliteType.elem) Tryz.func236 (by kernel_rfl) (by kernel_rfl) (by kernel_rfl) (by kernel_rfl);have h38 := @run_callFunc_extern Tryz.prog 237 _ (ReflectliteType.relation "Implements" ReflectliteType.implements_) Tryz.func237 (by kernel_rfl) (by kernel_rfl) (by kernel_rfl) (by kernel_rfl);have h10 := @run_callFunc_extern Tryz.prog 166 _ ReflectliteType.typeOf Tryz.func166 (by kernel_rfl) (by kernel_rfl) (by kernel_rfl) (by kernel_rfl);have h35 := @run_callFunc_extern Tryz.prog 234 _ (ReflectliteType.relation "AssignableTo" ReflectliteType.assignableTo) Tryz.func234 (by kernel_rfl) (by kernel_rfl) (by kernel_rfl) (by kernel_rfl);have h11 := @run_callFunc_extern Tryz.prog 167 _ (ReflectliteValue.method (ReflectliteValue.valueError "reflectlite.Value.Elem" 0) ReflectliteValue.elem) Tryz.func167 (by kernel_rfl) (by kernel_rfl) (by kernel_rfl) (by kernel_rfl);have h12 := @run_callFunc_extern Tryz.prog 168 _ ReflectliteValue.set Tryz.func168 (by kernel_rfl) (by kernel_rfl) (by kernel_rfl) (by kernel_rfl);have tO := typeOf25;have mA := methodAssignableTo;have a25 := assignable25;have v25 := valueOf25;have f6 := valueOf27;have f7 := type27;have mK := methodKind;have mE := methodElem;have mI := methodImplements;have k27 := kind27;have k25 := kind25;have e27 := elem27;have i25 := implements25;have n8 := isNil27 ⟨w.heap.size, 0, none⟩ t ((w.alloc (.cells #[.pointer (some t)] 193)).alloc (.cells #[.pointer (some ⟨4, 193, none⟩), .pointer (some ⟨w.heap.size, 0, none⟩), .int .u64 150] 222)) (by simp);have hlt : 0 < w.heap.size := by
    rcases Nat.lt_or_ge 0 w.heap.size with h|h
    · exact h
    · simp [World.cell?,Array.getElem?_eq_none h] at hg
  have hg2 : ((w.alloc (.cells #[.pointer (some t)] 193)).alloc (.cells #[.pointer (some ⟨4,193,none⟩),.pointer (some ⟨w.heap.size,0,none⟩),.int .u64 150] 222)).cell? ⟨0,0,none⟩ = some (.iface 239 (.agg #[.pointer (some ⟨4,34,none⟩)])):=by
    rw [World.cell?_alloc_lt _ _ ⟨0,0,none⟩ (by simp),World.cell?_alloc_lt _ _ ⟨0,0,none⟩ hlt];exact hg
  have htl : t.block < w.heap.size:=by
    rcases Nat.lt_or_ge t.block w.heap.size with h|h
    · exact h
    · simp [World.cell?,Array.getElem?_eq_none h] at ht0
  have el:=elemV27 ⟨w.heap.size,0,none⟩ t (((w.alloc (.cells #[.pointer (some t)] 193)).alloc (.cells #[.pointer (some ⟨4,193,none⟩),.pointer (some ⟨w.heap.size,0,none⟩),.int .u64 150] 222)).alloc (.cells #[.pointer (some ⟨4,193,none⟩),.pointer (some ⟨w.heap.size,0,none⟩),.int .u64 150] 222)) (by rw [World.cell?_alloc_lt _ _ ⟨w.heap.size,0,none⟩ (by simp;omega)];simp);have st:=set25 t ⟨w.heap.size + 1 + 1 + 1,0,none⟩ e old ((((w.alloc (.cells #[.pointer (some t)] 193)).alloc (.cells #[.pointer (some ⟨4,193,none⟩),.pointer (some ⟨w.heap.size,0,none⟩),.int .u64 150] 222)).alloc (.cells #[.pointer (some ⟨4,193,none⟩),.pointer (some ⟨w.heap.size,0,none⟩),.int .u64 150] 222)).alloc (.cells #[.pointer (some e)] 93))
    (by rw [World.cell?_alloc_at _ _ _ _ (by simp)];rfl)
    (by rw [World.cell?_alloc_lt _ _ t (by simp;omega),World.cell?_alloc_lt _ _ t (by simp;omega),World.cell?_alloc_lt _ _ t (by simp;omega),World.cell?_alloc_lt _ _ t htl];exact ht0)
    (by rw [World.frozen?_alloc_old _ _ t (by simp;omega),World.frozen?_alloc_old _ _ t (by simp;omega),World.frozen?_alloc_old _ _ t (by simp;omega),World.frozen?_alloc_old _ _ t (Nat.ne_of_lt htl)];exact hf0)
  go_enter Tryz.func121,Tryz.ntmps121
  go_wp2
  refine wp_loop_rounds 1 ?_;rw [rounds_succ]
  go_wp2
  go_ret
  exact ⟨rfl,rfl⟩
set_option maxHeartbeats 4000000 in
theorem as_miss (v : Value) (t : Addr) (old : Value) (w : World) (hg : w.cell? ⟨0,0,none⟩ = some (.iface 239 (.agg #[.pointer (some ⟨4,34,none⟩)]))) (ht0 : w.cell? t = some old) (_ : w.frozen? t = false) :
    Calls Tryz.prog 121 #[.iface 59 v,.iface 193 (.pointer (some t))] w fun ev w'=>ev = .returned (.bool false) ∧ w' = ((w.alloc (.cells #[.pointer (some t)] 193)).alloc (.cells #[.pointer (some ⟨4,193,none⟩),.pointer (some ⟨w.heap.size,0,none⟩),.int .u64 150] 222)).alloc (.cells #[.pointer (some ⟨4,193,none⟩),.pointer (some ⟨w.heap.size,0,none⟩),.int .u64 150] 222):=by
  have h6 := @run_callFunc_extern Tryz.prog 150 _ (fun args => ReflectliteValue.unpack (args.getD 0 (.tuple #[]))) Tryz.func150 (by kernel_rfl) (by kernel_rfl) (by kernel_rfl) (by kernel_rfl);have h7 := @run_callFunc_extern Tryz.prog 151 _ (ReflectliteValue.methodAny (ReflectliteValue.valueError "reflectlite.Value.Type" 0) (fun t _ _ _ => ReflectliteType.toType t)) Tryz.func151 (by kernel_rfl) (by kernel_rfl) (by kernel_rfl) (by kernel_rfl);have h8 := @run_callFunc_extern Tryz.prog 152 _ (ReflectliteValue.method (ReflectliteValue.valueError "reflectlite.Value.IsNil" 0) ReflectliteValue.isNil) Tryz.func152 (by kernel_rfl) (by kernel_rfl) (by kernel_rfl) (by kernel_rfl);have h27 := @run_callFunc_extern Tryz.prog 223 _ (ReflectliteType.abiMethod fun t => do pure (.int .u8 (← Rtype.kind t))) Tryz.func223 (by kernel_rfl) (by kernel_rfl) (by kernel_rfl) (by kernel_rfl);have h37 := @run_callFunc_extern Tryz.prog 236 _ (ReflectliteType.method ReflectliteType.elem) Tryz.func236 (by kernel_rfl) (by kernel_rfl) (by kernel_rfl) (by kernel_rfl);have h38 := @run_callFunc_extern Tryz.prog 237 _ (ReflectliteType.relation "Implements" ReflectliteType.implements_) Tryz.func237 (by kernel_rfl) (by kernel_rfl) (by kernel_rfl) (by kernel_rfl);have h10 := @run_callFunc_extern Tryz.prog 166 _ ReflectliteType.typeOf Tryz.func166 (by kernel_rfl) (by kernel_rfl) (by kernel_rfl) (by kernel_rfl);have h35 := @run_callFunc_extern Tryz.prog 234 _ (ReflectliteType.relation "AssignableTo" ReflectliteType.assignableTo) Tryz.func234 (by kernel_rfl) (by kernel_rfl) (by kernel_rfl) (by kernel_rfl);have h11 := @run_callFunc_extern Tryz.prog 167 _ (ReflectliteValue.method (ReflectliteValue.valueError "reflectlite.Value.Elem" 0) ReflectliteValue.elem) Tryz.func167 (by kernel_rfl) (by kernel_rfl) (by kernel_rfl) (by kernel_rfl);have h12 := @run_callFunc_extern Tryz.prog 168 _ ReflectliteValue.set Tryz.func168 (by kernel_rfl) (by kernel_rfl) (by kernel_rfl) (by kernel_rfl);have tO := typeOfN;have q1 := noAs;have q2 := noUnwrap;have q3 := noUnwraps;have mA := methodAssignableTo;have a25 := assignableN;have v25 := valueOf25;have f6 := valueOf27;have f7 := type27;have mK := methodKind;have mE := methodElem;have mI := methodImplements;have k27 := kind27;have k25 := kind25;have e27 := elem27;have i25 := implements25;have n8 := isNil27 ⟨w.heap.size, 0, none⟩ t ((w.alloc (.cells #[.pointer (some t)] 193)).alloc (.cells #[.pointer (some ⟨4, 193, none⟩), .pointer (some ⟨w.heap.size, 0, none⟩), .int .u64 150] 222)) (by simp);have hlt : 0 < w.heap.size := by
    rcases Nat.lt_or_ge 0 w.heap.size with h|h
    · exact h
    · simp [World.cell?,Array.getElem?_eq_none h] at hg
  have hg2 : ((w.alloc (.cells #[.pointer (some t)] 193)).alloc (.cells #[.pointer (some ⟨4,193,none⟩),.pointer (some ⟨w.heap.size,0,none⟩),.int .u64 150] 222)).cell? ⟨0,0,none⟩ = some (.iface 239 (.agg #[.pointer (some ⟨4,34,none⟩)])):=by
    rw [World.cell?_alloc_lt _ _ ⟨0,0,none⟩ (by simp),World.cell?_alloc_lt _ _ ⟨0,0,none⟩ hlt];exact hg
  have htl : t.block < w.heap.size:=by
    rcases Nat.lt_or_ge t.block w.heap.size with h|h
    · exact h
    · simp [World.cell?,Array.getElem?_eq_none h] at ht0
  have el:=elemV27 ⟨w.heap.size,0,none⟩ t (((w.alloc (.cells #[.pointer (some t)] 193)).alloc (.cells #[.pointer (some ⟨4,193,none⟩),.pointer (some ⟨w.heap.size,0,none⟩),.int .u64 150] 222)).alloc (.cells #[.pointer (some ⟨4,193,none⟩),.pointer (some ⟨w.heap.size,0,none⟩),.int .u64 150] 222)) (by rw [World.cell?_alloc_lt _ _ ⟨w.heap.size,0,none⟩ (by simp;omega)];simp)
  go_enter Tryz.func121,Tryz.ntmps121
  go_wp2
  refine wp_loop_rounds 1 ?_;rw [rounds_succ]
  go_wp2
  go_ret
  exact ⟨rfl,rfl⟩
end Go.Proofs.YtpfkncffaanjcaaGreatDoor.As
namespace Go.Proofs.YtpfkncffaanjcaaGreatDoor
open Go.RowKit
namespace Ab
set_option maxRecDepth 100000
namespace Q
theorem errCell {ok : Oks} {w : World} (h : GlobAt ok w) : w.cell? ⟨0,0,none⟩ = some (.iface 239 (.agg #[.pointer (some ⟨3 + 1,34,none⟩)])):=h.2.2.2
theorem as_hit' {n0 : Nat} (e t : Addr) (old : Value) (w : World) (hg : w.cell? ⟨0,0,none⟩ = some (.iface 239 (.agg #[.pointer (some ⟨3 + 1,34,none⟩)]))) (ht : w.cell? t = some old) (hf : w.frozen? t = false) (h0 : n0 ≤ t.block) (h1 : n0 ≤ w.heap.size) :
    Calls Tryz.prog 121 #[.iface 93 (.pointer (some e)),.iface 193 (.pointer (some t))] w fun ev w'=>ev = .returned (.bool true) ∧ Below n0 w w' ∧ w'.cell? t = some (.pointer (some e)):=by
  have htl : t.block < w.heap.size:=by
    rcases Nat.lt_or_ge t.block w.heap.size with h|h
    · exact h
    · simp [World.cell?,Array.getElem?_eq_none h] at ht
  refine (As.as_hit e t old w hg ht hf).mono ?_
  rintro ev w' ⟨rfl,rfl⟩
  have hb:=((((Below.refl n0 w).alloc h1 (.cells #[.pointer (some t)] 193)).alloc (by simp;omega) (.cells #[.pointer (some ⟨3 + 1,193,none⟩),.pointer (some ⟨w.heap.size,0,none⟩),.int .u64 150] 222)).alloc (by simp;omega) (.cells #[.pointer (some ⟨3 + 1,193,none⟩),.pointer (some ⟨w.heap.size,0,none⟩),.int .u64 150] 222)).alloc (by simp;omega) (.cells #[.pointer (some e)] 93);refine ⟨rfl,hb.setCell h0 _,World.cell?_setCell_same _ _ _ (u:=old) ?_⟩;rw [World.cell?_alloc_lt _ _ t (by simp;omega),World.cell?_alloc_lt _ _ t (by simp;omega),World.cell?_alloc_lt _ _ t (by simp;omega),World.cell?_alloc_lt _ _ t htl];exact ht
theorem as_miss' {n0 : Nat} (v : Value) (t : Addr) (old : Value) (w : World) (hg : w.cell? ⟨0,0,none⟩ = some (.iface 239 (.agg #[.pointer (some ⟨3 + 1,34,none⟩)]))) (ht : w.cell? t = some old) (hf : w.frozen? t = false) (h1 : n0 ≤ w.heap.size) :
    Calls Tryz.prog 121 #[.iface 59 v,.iface 193 (.pointer (some t))] w fun ev w'=>ev = .returned (.bool false) ∧ Below n0 w w':=by
  refine (As.as_miss v t old w hg ht hf).mono ?_
  rintro ev w' ⟨rfl,rfl⟩
  exact ⟨rfl,(((Below.refl n0 w).alloc h1 _).alloc (by simp;omega) _).alloc (by simp;omega) _⟩
set_option maxHeartbeats 4000000 in
theorem bareN_calls (v : Value) (w : World) (hg : w.cell? ⟨0,0,none⟩ = some (.iface 239 (.agg #[.pointer (some ⟨3 + 1,34,none⟩)]))) (hlt : 0 < w.heap.size) :
    Calls Tryz.prog 86 #[.iface 59 v] w fun e w'=>e = .returned (.iface 59 v) ∧ Below w.heap.size w w':=by
  have hgA : (w.alloc (.cells #[.pointer none] 93)).cell? ⟨0,0,none⟩ = some (.iface 239 (.agg #[.pointer (some ⟨3 + 1,34,none⟩)])):=by
    rw [World.cell?_alloc_lt _ _ ⟨0,0,none⟩ hlt];exact hg
  have htA : (w.alloc (.cells #[.pointer none] 93)).cell? ⟨w.heap.size,0,none⟩ = some (.pointer none):=by simp
  have hfA : (w.alloc (.cells #[.pointer none] 93)).frozen? ⟨w.heap.size,0,none⟩ = false:=by simp
  have hbA : Below w.heap.size w (w.alloc (.cells #[.pointer none] 93)):=(Below.refl _ w).alloc (Nat.le_refl _) _
  go_enter Tryz.func86,Tryz.ntmps86
  go_wp2_with (go_at_call 121;refine (as_miss' (n0:=w.heap.size) v _ _ _ hgA htA hfA (by simp)).mono ?_;rintro e w' ⟨rfl,hb⟩)
  go_ret
  exact ⟨rfl,hbA.trans hb⟩
set_option maxHeartbeats 4000000 in
theorem bareF_calls (b off : Nat) (x : Value) (w : World) (hg : w.cell? ⟨0,0,none⟩ = some (.iface 239 (.agg #[.pointer (some ⟨3 + 1,34,none⟩)]))) (hlt : 0 < w.heap.size) (hx : w.cell? ⟨b,off + 1,none⟩ = some x) :
    Calls Tryz.prog 86 #[.iface 93 (.pointer (some ⟨b,off,none⟩))] w fun e w'=>e = .returned x ∧ Below w.heap.size w w':=by
  have hgA : (w.alloc (.cells #[.pointer none] 93)).cell? ⟨0,0,none⟩ = some (.iface 239 (.agg #[.pointer (some ⟨3 + 1,34,none⟩)])):=by
    rw [World.cell?_alloc_lt _ _ ⟨0,0,none⟩ hlt];exact hg
  have htA : (w.alloc (.cells #[.pointer none] 93)).cell? ⟨w.heap.size,0,none⟩ = some (.pointer none):=by simp
  have hfA : (w.alloc (.cells #[.pointer none] 93)).frozen? ⟨w.heap.size,0,none⟩ = false:=by simp
  have hbA : Below w.heap.size w (w.alloc (.cells #[.pointer none] 93)):=(Below.refl _ w).alloc (Nat.le_refl _) _
  go_enter Tryz.func86,Tryz.ntmps86
  go_wp2_with (go_at_call 121;refine (as_hit' (n0:=w.heap.size) ⟨b,off,none⟩ _ _ _ hgA htA hfA (by simp) (by simp)).mono ?_;rintro e w' ⟨rfl,hb,hc⟩;have hx2 : w'.cell? ⟨b,off + 1,none⟩ = some x:=cell_later (hbA.trans hb) hx)
  go_ret
  exact ⟨rfl,hbA.trans hb⟩
theorem bareN_c (n : Int) : qU Tryz.prog 86 [.one (errN n)] (.one (errN n)):=by
  refine ⟨⟨_,Tryz.func86,rfl,rfl⟩,fun ok w vs hg hvs=>?_⟩;obtain ⟨v,t,rfl,hv,ht⟩:=hvs;rw [show t = [] from ht,show v = _ from hv];exact (bareN_calls (.int .i64 n) w (errCell hg) (Nat.lt_of_lt_of_le (by decide) hg.2.1)).mono fun e w' ⟨he,hb⟩=>⟨_,he,hb,rfl⟩
theorem bareF_c (a n : Int) : qU Tryz.prog 86 [.one (errF a n)] (.one (errN n)):=by
  refine ⟨⟨_,Tryz.func86,rfl,rfl⟩,fun ok w vs hg hvs=>?_⟩;obtain ⟨v,t,rfl,⟨u,rfl,b,off,cs,rfl,_,hlt,hc,hr⟩,ht⟩:=hvs;obtain ⟨c,d,rfl,h1,h2⟩:=hr;rw [show t = [] from ht];have hx : w.cell? ⟨b,off + 1,none⟩ = some (.iface 59 (.int .i64 n)):=by
    rw [hc.2 1 (by decide),show c = _ from h1,show d = _ from h2.1];rfl
  exact (bareF_calls b off _ w (errCell hg) (Nat.lt_of_lt_of_le (by decide) hg.2.1) hx).mono fun e w' ⟨he,hb⟩=>⟨_,he,hb,rfl⟩
end Q
end Ab
end Go.Proofs.YtpfkncffaanjcaaGreatDoor
namespace Go.Proofs.YtpfkncffaanjcaaGreatDoor
open Go.RowKit
namespace Ab
set_option maxRecDepth 100000
abbrev rItm3 : Rd Itm:=rItm.kd 3
namespace Q
end Q
end Ab
end Go.Proofs.YtpfkncffaanjcaaGreatDoor
namespace Go.Proofs.YtpfkncffaanjcaaGreatDoor
open Go.RowKit
namespace Ab
set_option maxRecDepth 100000
namespace Q
theorem a1_parse7 : xF ⟨#[65,58,32,49,10]⟩ = .inr [(3,⟨#[65,58,32,49,10]⟩,[(⟨#[65]⟩,⟨#[49]⟩)])]:=by decide +kernel
def al0 : List Ent:=[((3,⟨#[65,58,32,49,10]⟩,[(⟨#[65]⟩,⟨#[49]⟩)]),1)]
def alF : List Fld:=[(⟨#[66]⟩,⟨#[50]⟩)]
def al1 : List Ent:=insE al0 0 (itmOf alF,2)
structure SeenI (es : List Ent) (n : Int) (i : Nat) (sn : List Bool) : Prop where
  le : i ≤ (stzL es).length
  len : sn.length = n.toNat
  seen : ∀ k : Nat,sn.getD k false = true → ∃ j,j < i ∧ ((stzL es).getD j ((0 : Int),([] : List Fld))).1 = k
theorem SeenI.next {es : List Ent} {n : Int} {i : Nat} {sn : List Bool} (h : SeenI es n i sn) (hi : i < (stzL es).length) (hp : 0 < ((stzL es).getD i ((0 : Int),([] : List Fld))).1) : SeenI es n (i + 1) (sn.set (((stzL es).getD i ((0 : Int),([] : List Fld))).1).toNat true):=by
  refine ⟨hi,by rw [List.length_set];exact h.len,fun k hk=>?_⟩
  by_cases e : (((stzL es).getD i ((0 : Int),([] : List Fld))).1).toNat = k
  · exact ⟨i,Nat.lt_succ_self _,by omega⟩
  · rw [List.getD_eq_getElem?_getD,List.getElem?_set_ne e,← List.getD_eq_getElem?_getD] at hk;obtain ⟨j,hj,h2⟩:=h.seen k hk;exact ⟨j,by omega,h2⟩
theorem lsvec_eq {L M : Lst} (h : M = L) : some (Ob.vec 111 rEnt L.1) = some (Ob.vec 111 rEnt M.1):=by rw [h]
abbrev rStz3 : Rd Stz:=rStz.kd 3
def goodA (x : Edt) : C:=if x.1 = 2 then (if 0 < x.2.2.length then errN 2 else .lit .nilIface) else if x.1 = 1 ∨ x.1 = 3 then chkA x.2.2 else errN 2
theorem goodA_cases (x : Edt) : (goodN x = 0 ∧ goodA x = .lit .nilIface) ∨ (∃ n,n ≠ 0 ∧ goodN x = n ∧ goodA x = errN n) ∨ ∃ a n,n ≠ 0 ∧ goodN x = n ∧ goodA x = errF a n:=by
  unfold goodN goodA
  by_cases h2 : x.1 = 2
  · simp only [if_pos h2]
    by_cases h3 : 0 < x.2.2.length
    · simp only [if_pos h3];exact .inr (.inl ⟨2,by decide,rfl,rfl⟩)
    · simp only [if_neg h3];exact .inl ⟨trivial,trivial⟩
  · simp only [if_neg h2]
    by_cases h3 : x.1 = 1 ∨ x.1 = 3
    · simp only [if_pos h3]
      by_cases hc : (chkR x.2.2).2 = 0
      · exact .inl ⟨hc,(chk_good hc).2.2⟩
      · obtain ⟨e,he,hs⟩:=chk_bad hc;rcases hs with ⟨n,hn,rfl,hr⟩|⟨i,n,hn,rfl,hr⟩
        · exact .inr (.inl ⟨n,hn,by rw [hr],he⟩)
        · exact .inr (.inr ⟨i,n,hn,by rw [hr],he⟩)
    · simp only [if_neg h3];exact .inr (.inl ⟨2,by decide,rfl,rfl⟩)
theorem goodA_2 {x : Edt} (h : x.1 = 2) (h3 : 0 < x.2.2.length) : goodA x = errN 2:=by unfold goodA;rw [if_pos h,if_pos h3]
theorem goodA_20 {x : Edt} (h : x.1 = 2) (h3 : ¬ 0 < x.2.2.length) : goodA x = .lit .nilIface:=by unfold goodA;rw [if_pos h,if_neg h3]
theorem goodA_13 {x : Edt} (h : x.1 = 1 ∨ x.1 = 3) : goodA x = chkA x.2.2:=by unfold goodA;rw [if_neg (by omega),if_pos h]
theorem goodA_no {x : Edt} (h : x.1 ≠ 2) (h3 : ¬ (x.1 = 1 ∨ x.1 = 3)) : goodA x = errN 2:=by unfold goodA;rw [if_neg h,if_neg h3]
theorem chkA_cases (l : List Fld) : chkA l = .lit .nilIface ∨ (∃ n,chkA l = errN n) ∨ ∃ a n,chkA l = errF a n:=by
  unfold chkA;split
  · exact .inl rfl
  · split
    · exact .inr (.inl ⟨_,rfl⟩)
    · exact .inr (.inr ⟨_,_,rfl⟩)
theorem good_c {κ : Nat} (x : Edt) (hf : yD x.2.2) : qU Tryz.prog 81 [.agg (toL (rEdk κ) x)] (.one (goodA x)):=by
  refine qR (rs:=[2]) Tryz.func81 rfl rfl rfl teOk rfl ?_;refine qC ?_;refine qB ?_;refine qC ?_;refine qC ?_;refine qB ?_;refine qN ?_;refine qC ?_;refine qB ?_;refine qJ rfl (fun h5=>?_) (fun h5=>?_)
  ·try simp only [decide_eq_true_eq] at h5
   try simp only [zds] at h5
   refine qC ?_;refine qC ?_;refine qB ?_;intro l3_2
   try simp only [zds] at l3_2
   refine qJ rfl (fun h10=>?_) (fun h10=>?_)
   ·try simp only [decide_eq_true_eq] at h10
    try simp only [zds] at h10
    refine qC ?_;refine qB ?_;refine qM ?_;rw [goodA_2 h5 (by omega)];rfl
   ·try simp only [decide_eq_false_iff_not,Int.not_lt] at h10
    try simp only [zds] at h10
    refine qL ?_;refine qC ?_;refine qB ?_;refine qM ?_;rw [goodA_20 h5 (by omega)];rfl
  ·try simp only [decide_eq_false_iff_not] at h5
   try simp only [zds] at h5
   refine qC ?_;refine qC ?_;refine qB ?_;refine qJ rfl (fun h12=>?_) (fun h12=>?_)
   ·try simp only [decide_eq_true_eq] at h12
    try simp only [zds] at h12
    refine qL ?_;refine qJ rfl (fun h12=>?_) (fun h12=>?_)
    ·try simp only [decide_eq_true_eq] at h12
     try simp only [zds] at h12
     refine qC ?_;have hk:=pcheck_c (κ:=κ) x.2.2 hf ; rcases chkA_cases x.2.2 with hA|⟨n,hA⟩|⟨a,n,hA⟩ <;> rw [hA] at hk
     ·refine qB ?_;refine Or.inl ?_;refine zai (rfl) ?_;refine zei _ (zai (hk) ?_);refine qM ?_;rw [goodA_13 (by omega),hA];rfl
     ·refine qB ?_;refine Or.inl ?_;refine zai (rfl) ?_;refine zei _ (zai (hk) ?_);refine qM ?_;rw [goodA_13 (by omega),hA];rfl
     ·refine qB ?_;refine Or.inl ?_;refine zai (rfl) ?_;refine zei _ (zai (hk) ?_);refine qM ?_;rw [goodA_13 (by omega),hA];rfl
    ·try simp only [decide_eq_false_iff_not] at h12
     try simp only [zds] at h12
     omega
   ·try simp only [decide_eq_false_iff_not] at h12
    try simp only [zds] at h12
    refine qB ?_;refine qJ rfl (fun h12=>?_) (fun h12=>?_)
    ·try simp only [decide_eq_true_eq] at h12
     try simp only [zds] at h12
     refine qC ?_;have hk:=pcheck_c (κ:=κ) x.2.2 hf ; rcases chkA_cases x.2.2 with hA|⟨n,hA⟩|⟨a,n,hA⟩ <;> rw [hA] at hk
     ·refine qB ?_;refine Or.inl ?_;refine zai (rfl) ?_;refine zei _ (zai (hk) ?_);refine qM ?_;rw [goodA_13 (by omega),hA];rfl
     ·refine qB ?_;refine Or.inl ?_;refine zai (rfl) ?_;refine zei _ (zai (hk) ?_);refine qM ?_;rw [goodA_13 (by omega),hA];rfl
     ·refine qB ?_;refine Or.inl ?_;refine zai (rfl) ?_;refine zei _ (zai (hk) ?_);refine qM ?_;rw [goodA_13 (by omega),hA];rfl
    ·try simp only [decide_eq_false_iff_not] at h12
     try simp only [zds] at h12
     skip
     refine qL ?_;refine qC ?_;refine qB ?_;refine qM ?_;rw [goodA_no (by omega) (by omega)];rfl
theorem faultN_c (i n : Int) : qU Tryz.prog 53 [ii .i64 i,.one (errN n)] (.one (errF i n)):=by
  refine qR (rs:=[4]) Tryz.func53 rfl rfl rfl teOk rfl ?_;refine qC ?_;refine qB ?_;refine qC ?_;refine qB ?_;refine Or.inl ?_;refine zai (rfl) ?_;refine zei _ (zai (bareN_c n) ?_);refine qM ?_;rfl
theorem faultF_c (i a n : Int) : qU Tryz.prog 53 [ii .i64 i,.one (errF a n)] (.one (errF i n)):=by
  refine qR (rs:=[4]) Tryz.func53 rfl rfl rfl teOk rfl ?_;refine qC ?_;refine qB ?_;refine qC ?_;refine qB ?_;refine Or.inl ?_;refine zai (rfl) ?_;refine zei _ (zai (bareF_c a n) ?_);refine qM ?_;rfl
def erB (p : Int × Int) : C:=if p.2 = 0 then .lit .nilIface else if p.1 = -9 then errN p.2 else errF p.1 p.2
theorem erB_z : erB (-9,0) = .lit .nilIface:=rfl
theorem erB_n {n : Int} (h : n ≠ 0) : erB (-9,n) = errN n:=by unfold erB;rw [if_neg h,if_pos rfl]
theorem erB_f {i : Nat} {n : Int} (h : n ≠ 0) : erB ((i : Int),n) = errF i n:=by unfold erB;rw [if_neg h,if_neg (show ¬ (i : Int) = -9 by omega)]
theorem check_c9 {κ κ' : Nat} (s : List Edt) (hf : ∀ e ∈ s,yD e.2.2) (hl : s.length ≤ 1000000) : qU Tryz.prog 50 [.one (.slk κ (rEdk κ') s)] (.one (erB (chkB s))):=by
  refine qR (rs:=[2]) Tryz.func50 rfl rfl rfl teOk rfl ?_;refine qC ?_;refine qB ?_;refine qC ?_;refine qC ?_;refine qB ?_;intro l1_1
  try simp only [zds] at l1_1
  refine zai (fun h=>trivial) ?_;refine zai (fun h=>⟨⟨h,trivial⟩,trivial⟩) ?_;refine zai (fun h=>⟨⟨h,trivial⟩,trivial⟩) ?_;refine zai (by first|(intro h;rw [h];rfl)|(intro h;cases h)) ?_;refine qJ rfl (fun h13=>?_) (fun h13=>?_)
  ·try simp only [decide_eq_true_eq,Bool.or_eq_true] at h13
   try simp only [zds] at h13
   refine qC ?_;refine qB ?_;refine qM ?_;rw [chkB_rng (by omega),erB_n (by decide)];rfl
  ·try simp only [decide_eq_false_iff_not,Bool.or_eq_false_iff,Int.not_lt] at h13
   try simp only [zds] at h13
   refine qL ?_;refine qC ?_;refine qC ?_;refine qB ?_;intro l3_1
   try simp only [zds] at l3_1
   refine qN ?_;refine qS (fun (i : Nat)=>i ≤ s.length ∧ ∀ e ∈ s.take i,goodN e = 0) (fun (i : Nat)=>[(15,.one (.slk κ (rEdk κ') s)),(16,ii .i64 s.length),(17,ii .i64 i)]) (fun (i : Nat)=>[]) 0 (fun (i : Nat)=>s.length - i) 0 (⟨Nat.zero_le _,by simp⟩) (qP ⟨rfl,rfl,rfl⟩ trivial rfl) ?_;intro i hI0;obtain ⟨hi,hall⟩:=hI0;refine qC ?_;refine qB ?_;refine qC ?_;refine qJ rfl (fun h18=>?_) (fun h18=>?_)
   ·try simp only [decide_eq_true_eq] at h18
    try simp only [zds] at h18
    have hlt : i < s.length:=(by omega);have hm:=hf _ (yI hlt ((0 : Int),(0 : Int),([] : List Fld)));have hg:=good_c (κ:=κ') (s.getD i ((0 : Int),(0 : Int),([] : List Fld))) hm;refine qL ?_;refine qC ?_;refine qN ?_;refine qC ?_;refine qB ?_;refine zai (by first|omega|assumption|decide|(simp only [zds];omega)|(simp <;> omega)) ?_;refine qC ?_;rcases goodA_cases (s.getD i ((0 : Int),(0 : Int),([] : List Fld))) with ⟨hz,hA⟩|⟨n,hn,hz,hA⟩|⟨a,n,hn,hz,hA⟩ <;> rw [hA] at hg
    ·refine qB ?_;refine Or.inl ?_;refine zai (rfl) ?_;refine zei _ (zai (hg) ?_);refine qC ?_;refine qB ?_;refine qJ rfl (fun h25=>?_) (fun h25=>?_)
     ·try simp only [Bool.not_eq_true'] at h25
      try simp only [zds] at h25
      cases h25
     ·try simp only [Bool.not_eq_false'] at h25
      try simp only [zds] at h25
      refine qL ?_;refine qB ?_;refine zai (by first|omega|assumption|decide|(simp only [zds];omega)|(simp <;> omega)) ?_;exact ⟨i + 1,⟨by omega,take_good hlt hall hz⟩,by first|omega|(simp <;> omega),qP ⟨rfl,rfl,(qT (by omega))⟩ trivial rfl⟩
    ·refine qB ?_;refine Or.inl ?_;refine zai (rfl) ?_;refine zei _ (zai (hg) ?_);refine qC ?_;refine qB ?_;refine qJ rfl (fun h25=>?_) (fun h25=>?_)
     ·skip
      refine qC ?_;refine qB ?_;refine Or.inl ?_;refine zai (rfl) ?_;refine zei _ (zai (faultN_c i n) ?_);refine qM ?_;rw [chkB_at (by omega) hlt hall (by rw [hz];exact hn),hz,erB_f hn];rfl
     ·try simp only [zbq] at h25
      try simp only [zds] at h25
      cases h25
    ·refine qB ?_;refine Or.inl ?_;refine zai (rfl) ?_;refine zei _ (zai (hg) ?_);refine qC ?_;refine qB ?_;refine qJ rfl (fun h25=>?_) (fun h25=>?_)
     ·skip
      refine qC ?_;refine qB ?_;refine Or.inl ?_;refine zai (rfl) ?_;refine zei _ (zai (faultF_c i a n) ?_);refine qM ?_;rw [chkB_at (by omega) hlt hall (by rw [hz];exact hn),hz,erB_f hn];rfl
     ·try simp only [zbq] at h25
      try simp only [zds] at h25
      cases h25
   ·try simp only [decide_eq_false_iff_not,Int.not_lt] at h18
    try simp only [zds] at h18
    refine qV ?_;refine qC ?_;refine qB ?_;refine qM ?_;rw [List.take_of_length_le (by omega)] at hall;rw [chkB_no (by omega) hall,erB_z];rfl
theorem refGood9_c (x : Edt) (hf : yD x.2.2) : qU Tryz.prog 87 [.agg (toL rEdt x)] (ii .i64 (goodN x)):=by
  have hk:=refChk_c x.2.2 hf;refine qR (rs:=[2]) Tryz.func87 rfl rfl rfl teOk rfl ?_;refine qC ?_;refine qB ?_;refine qC ?_;refine qC ?_;refine qB ?_;refine zai (fun h=>trivial) ?_;refine zai (fun h=>⟨⟨h,trivial⟩,trivial⟩) ?_;refine zai (fun h=>⟨⟨h,trivial⟩,trivial⟩) ?_;refine zai (by first|(intro h;rw [h];rfl)|(intro h;cases h)) ?_;refine zai (fun h=>trivial) ?_;refine zai (fun h=>⟨⟨h,trivial⟩,trivial⟩) ?_;refine zai (fun h=>⟨⟨h,trivial⟩,trivial⟩) ?_;refine zai (fun h=>⟨⟨h,trivial⟩,trivial⟩) ?_;refine zai (fun h=>trivial) ?_;refine zai (fun h=>⟨⟨h,trivial⟩,trivial⟩) ?_;refine zai (fun h=>⟨⟨h,trivial⟩,trivial⟩) ?_;refine zai (fun h=>⟨⟨h,trivial⟩,trivial⟩) ?_;refine zai (fun h=>⟨⟨⟨h,trivial⟩,trivial⟩,by first|exact fun h2=>h2|(intro h2;rw [h,h2];rfl)|(intro h2;cases h2)|(intro h2;simp_all [gq])⟩) ?_;refine zai (by first|(intro h;rw [h];rfl)|(intro h;cases h)) ?_;refine qJ rfl (fun h23=>?_) (fun h23=>?_)
  ·try simp only [decide_eq_true_eq,Bool.and_eq_true,Bool.or_eq_true] at h23
   try simp only [zds] at h23
   refine qC ?_;refine qB ?_;refine qM ?_;exact qT (by unfold goodN;split <;> (try split) <;> omega)
  ·try simp only [decide_eq_false_iff_not,Bool.or_eq_false_iff,Bool.and_eq_false_iff,Int.not_lt] at h23
   try simp only [zds] at h23
   refine qL ?_;refine qC ?_;refine qC ?_;refine qB ?_;refine qJ rfl (fun h26=>?_) (fun h26=>?_)
   ·try simp only [decide_eq_true_eq] at h26
    try simp only [zds] at h26
    refine qC ?_;refine qB ?_;refine qM ?_;exact qT (by unfold goodN;rw [if_pos h26,if_neg (by omega)])
   ·try simp only [decide_eq_false_iff_not] at h26
    try simp only [zds] at h26
    refine qL ?_;refine qC ?_;refine qB ?_;refine Or.inl ?_;refine zai (rfl) ?_;refine zei _ (zai (hk) ?_);refine qC ?_;refine qB ?_;refine qM ?_;exact qT (by unfold goodN;rw [if_neg h26,if_pos (by omega)])
theorem refCheck9_c (s : List Edt) (hf : ∀ e ∈ s,yD e.2.2) (hl : s.length ≤ 1000000) : qU Tryz.prog 54 [.one (.sl rEdt s)] (.tup [(false,[.lit (.int .i64 (chkB s).1)]),(false,[.lit (.int .i64 (chkB s).2)])]):=by
  refine qR (rs:=[2,3]) Tryz.func54 rfl rfl rfl teOk rfl ?_;refine qC ?_;refine qB ?_;refine qC ?_;refine qC ?_;refine qB ?_;intro l1_1
  try simp only [zds] at l1_1
  refine zai (fun h=>trivial) ?_;refine zai (fun h=>⟨⟨h,trivial⟩,trivial⟩) ?_;refine zai (fun h=>⟨⟨h,trivial⟩,trivial⟩) ?_;refine zai (by first|(intro h;rw [h];rfl)|(intro h;cases h)) ?_;refine qJ rfl (fun h13=>?_) (fun h13=>?_)
  ·try simp only [decide_eq_true_eq,Bool.or_eq_true] at h13
   try simp only [zds] at h13
   refine qC ?_;refine qB ?_;refine qM ?_;rw [chkB_rng (by omega)];rfl
  ·try simp only [decide_eq_false_iff_not,Bool.or_eq_false_iff,Int.not_lt] at h13
   try simp only [zds] at h13
   refine qL ?_;refine qC ?_;refine qC ?_;refine qB ?_;refine qN ?_;refine qS (fun (i : Nat)=>i ≤ s.length ∧ ∀ e ∈ s.take i,goodN e = 0) (fun (i : Nat)=>[(0,.one (.sl rEdt s)),(4,ii .i64 i)]) (fun (i : Nat)=>[]) 0 (fun (i : Nat)=>s.length - i) 0 (⟨Nat.zero_le _,by simp⟩) (qP ⟨rfl,rfl⟩ trivial rfl) ?_;intro i hI0;obtain ⟨hi,hall⟩:=hI0;refine qC ?_;refine qC ?_;refine qB ?_;intro l4_2
   try simp only [zds] at l4_2
   refine qJ rfl (fun h17=>?_) (fun h17=>?_)
   ·try simp only [decide_eq_true_eq] at h17
    try simp only [zds] at h17
    have hlt : i < s.length:=(by omega);have hm:=hf _ (yI hlt ((0 : Int),(0 : Int),([] : List Fld)));refine qL ?_;refine qC ?_;refine qN ?_;refine qC ?_;refine qB ?_;refine zai (by first|omega|assumption|decide|(simp only [zds];omega)|(simp <;> omega)) ?_;refine Or.inl ?_;refine zai (rfl) ?_;refine zei _ (zai (refGood9_c (s.getD i ((0 : Int),(0 : Int),([] : List Fld))) hm) ?_);refine qC ?_;refine qB ?_;refine qJ rfl (fun h26=>?_) (fun h26=>?_)
    ·try simp only [decide_eq_false_iff_not,Bool.not_eq_true'] at h26
     try simp only [zds] at h26
     refine qC ?_;refine qB ?_;refine qM ?_;rw [chkB_at (by omega) hlt hall (by omega)];rfl
    ·try simp only [decide_eq_true_eq,Bool.not_eq_false'] at h26
     try simp only [zds] at h26
     refine qL ?_;refine qB ?_;refine zai (by first|omega|assumption|decide|(simp only [zds];omega)|(simp <;> omega)) ?_;exact ⟨i + 1,⟨by omega,take_good hlt hall (by omega)⟩,by first|omega|(simp <;> omega),qP ⟨rfl,(qT (by omega))⟩ trivial rfl⟩
   ·try simp only [decide_eq_false_iff_not,Int.not_lt] at h17
    try simp only [zds] at h17
    refine qV ?_;refine qC ?_;refine qB ?_;refine qM ?_;rw [List.take_of_length_le (by omega)] at hall;rw [chkB_no (by omega) hall];rfl
theorem edits_c {κ κ' : Nat} (a b : List Edt) : qU Tryz.prog 20 [.one (.slk κ (rEdk κ') a),.one (.sl rEdt b)] (ib (decide (a = b))):=by
  refine qR (rs:=[4]) Tryz.func20 rfl rfl rfl teOk rfl ?_;refine qC ?_;refine qB ?_;refine qC ?_;refine qC ?_;refine qB ?_;intro l1_1
  try simp only [zds] at l1_1
  intro l1_3
  try simp only [zds] at l1_3
  refine qJ rfl (fun h10=>?_) (fun h10=>?_)
  ·try simp only [decide_eq_false_iff_not,Bool.not_eq_true'] at h10
   try simp only [zds] at h10
   refine qC ?_;refine qB ?_;refine qM ?_;exact ib_eq (decide_eq_false (fun e=>by rw [e] at h10;omega)).symm
  ·try simp only [decide_eq_true_eq,Bool.not_eq_false'] at h10
   try simp only [zds] at h10
   refine qL ?_;refine qC ?_;refine qC ?_;refine qB ?_;intro l3_1
   try simp only [zds] at l3_1
   refine qN ?_;refine qS (fun (i : Nat)=>i ≤ a.length ∧ a.take i = b.take i) (fun (i : Nat)=>[(0,.one (.slk κ (rEdk κ') a)),(1,.one (.sl rEdt b)),(12,ii .i64 a.length),(13,ii .i64 i)]) (fun (i : Nat)=>[]) 0 (fun (i : Nat)=>a.length - i) 0 (⟨Nat.zero_le _,by simp⟩) (qP ⟨rfl,rfl,rfl,rfl⟩ trivial rfl) ?_;intro i hI0;obtain ⟨hi,ht⟩:=hI0;refine qC ?_;refine qB ?_;refine qC ?_;refine qJ rfl (fun h14=>?_) (fun h14=>?_)
   ·try simp only [decide_eq_true_eq] at h14
    try simp only [zds] at h14
    have hla : i < a.length:=(by omega);have hlb : i < b.length:=(by omega);refine qL ?_;refine qC ?_;refine qN ?_;refine qC ?_;refine qB ?_;refine qC ?_;refine acode_draw rfl (by kernel_rfl) ?_;refine zai (by first|omega|assumption|decide|(simp only [zds];omega)|(simp <;> omega)) ?_;refine zai (by first|omega|assumption|decide|(simp only [zds];omega)|(simp <;> omega)) ?_;refine zai (fun h=>trivial) ?_;refine zai (fun h=>trivial) ?_;refine zai (fun h=>⟨⟨⟨h,trivial⟩,⟨h,trivial⟩,trivial⟩,by first|omega|decide|(simp only [zds];omega)|(have h9:=of_decide_eq_true h;omega)|(simp [gq] at h;omega)⟩) ?_;refine zai (fun h=>⟨⟨h,trivial⟩,trivial⟩) ?_;refine zai (fun h=>⟨⟨h,trivial⟩,trivial⟩) ?_;refine zai (fun h=>trivial) ?_;refine zai (fun h=>trivial) ?_;refine zai (fun h=>⟨⟨⟨h,trivial⟩,⟨h,trivial⟩,trivial⟩,by first|omega|decide|(simp only [zds];omega)|(have h9:=of_decide_eq_true h;omega)|(simp [gq] at h;omega)⟩) ?_;refine zai (fun h=>⟨⟨h,trivial⟩,trivial⟩) ?_;refine zai (fun h=>⟨⟨h,trivial⟩,trivial⟩) ?_;refine zai (fun h=>⟨⟨h,trivial⟩,⟨h,trivial⟩,trivial⟩) ?_;refine zai (by first|(intro h;rw [h];rfl)|(intro h;cases h)) ?_;refine zai (fun h=>trivial) ?_;refine zai (fun h=>trivial) ?_;refine zai (fun h=>⟨⟨⟨h,trivial⟩,⟨h,trivial⟩,trivial⟩,by first|omega|decide|(simp only [zds];omega)|(have h9:=of_decide_eq_true h;omega)|(simp [gq] at h;omega)⟩) ?_;refine zai (fun h=>⟨⟨h,trivial⟩,trivial⟩) ?_;refine zai (fun h=>⟨⟨h,trivial⟩,trivial⟩) ?_;refine zai (fun h=>trivial) ?_;refine zai (fun h=>trivial) ?_;refine zai (fun h=>⟨⟨⟨h,trivial⟩,⟨h,trivial⟩,trivial⟩,by first|omega|decide|(simp only [zds];omega)|(have h9:=of_decide_eq_true h;omega)|(simp [gq] at h;omega)⟩) ?_;refine zai (fun h=>⟨⟨h,trivial⟩,trivial⟩) ?_;refine zai (fun h=>⟨⟨h,trivial⟩,trivial⟩) ?_;refine zai (rfl) ?_;refine zei _ (zai (fun h=>⟨⟨⟨h,trivial⟩,⟨h,trivial⟩,trivial⟩,fieldsk_c (κ:=κ') (a.getD i ((0 : Int),(0 : Int),([] : List Fld))).2.2 (b.getD i ((0 : Int),(0 : Int),([] : List Fld))).2.2⟩) ?_);refine zai (fun h=>⟨⟨h,trivial⟩,trivial⟩) ?_;refine zai (by first|(intro h;rw [h];rfl)|(intro h;cases h)) ?_;refine qJ rfl (fun h53=>?_) (fun h53=>?_)
    ·try simp only [decide_eq_false_iff_not,Bool.not_eq_true',Bool.or_eq_true] at h53
     try simp only [Int.toNat_natCast,qH,qG,qE] at h53
     refine qC ?_;refine qB ?_;refine qM ?_;exact ib_eq (decide_eq_false (ne_at (i:=i) ((0 : Int),(0 : Int),([] : List Fld)) (fun e=>by rcases h53 with (h|h)|h;exact h (congrArg Prod.fst e);exact h (congrArg (fun p=>p.2.1) e);exact h (congrArg (fun p=>p.2.2) e)))).symm
    ·try simp only [decide_eq_true_eq,Bool.not_eq_false',Bool.or_eq_false_iff] at h53
     try simp only [Int.toNat_natCast,qH,qG,qE] at h53
     refine qL ?_;refine qB ?_;refine zai (by first|omega|assumption|decide|(simp only [zds];omega)|(simp <;> omega)) ?_;exact ⟨i + 1,⟨by omega,list_ext_take ((0 : Int),(0 : Int),([] : List Fld)) hla hlb ht (Prod.ext h53.1.1 (Prod.ext h53.1.2 h53.2))⟩,by first|omega|(simp <;> omega),qP ⟨rfl,rfl,rfl,(qT (by omega))⟩ trivial rfl⟩
   ·try simp only [decide_eq_false_iff_not,Int.not_lt] at h14
    try simp only [zds] at h14
    refine qV ?_;refine qC ?_;refine qB ?_;refine qM ?_;exact ib_eq (decide_eq_true (by rw [List.take_of_length_le (by omega),List.take_of_length_le (by omega)] at ht;exact ht)).symm
theorem oneRep_z {κ : Nat} (L L' : Lst) (id : Int) (f : List Fld) (h : yC Tryz.prog 83 [.one (.own 0 0),ii .i64 id,.one (.slk κ rFld f)] (lsO L) 2 (.one (.lit .nilIface)) (lsO L') 2) : yC Tryz.prog 52 [.one (.own 0 0),.agg (toL (rEdk κ) ((1 : Int),id,f))] (lsO L) 2 (.tup [(false,[.lit (.int .i64 0)]),(false,[.lit .nilIface])]) (lsO L') 2:=by
  refine qY (rs:=[4,5]) Tryz.func52 rfl rfl rfl teOk (by decide) rfl ?_;refine qC ?_;refine qB ?_;refine qC ?_;refine qC ?_;refine qB ?_;refine qN ?_;refine qC ?_;refine qB ?_;refine qJ rfl (fun h8=>?_) (fun h8=>?_)
  ·try simp only [decide_eq_true_eq] at h8
   try simp only [zds] at h8
   refine qC ?_;refine qB ?_;refine Or.inr (Or.inl (zei [] (zei [0,1] (zei _ (zei _ (zei _ (zei _ (zei _ (zai (h) (zai rfl (zai (zai (zai rfl rfl) (zai (zai rfl rfl) True.intro)) (zai rfl ?_))))))))))));refine qM ?_;exact ⟨rfl,⟨rfl,rfl⟩,rfl⟩
  ·try simp only [decide_eq_false_iff_not] at h8
   try simp only [zds] at h8
   simp at h8
theorem oneDel_z {κ : Nat} (L L' : Lst) (id : Int) (f : List Fld) (h : yC Tryz.prog 84 [.one (.own 0 0),ii .i64 id] (lsO L) 2 (.one (.lit .nilIface)) (lsO L') 2) : yC Tryz.prog 52 [.one (.own 0 0),.agg (toL (rEdk κ) ((2 : Int),id,f))] (lsO L) 2 (.tup [(false,[.lit (.int .i64 0)]),(false,[.lit .nilIface])]) (lsO L') 2:=by
  refine qY (rs:=[4,5]) Tryz.func52 rfl rfl rfl teOk (by decide) rfl ?_;refine qC ?_;refine qB ?_;refine qC ?_;refine qC ?_;refine qB ?_;refine qN ?_;refine qC ?_;refine qB ?_;refine qJ rfl (fun h8=>?_) (fun h8=>?_)
  ·try simp only [decide_eq_true_eq] at h8
   try simp only [zds] at h8
   simp at h8
  ·try simp only [decide_eq_false_iff_not] at h8
   try simp only [zds] at h8
   refine qC ?_;refine qB ?_;refine qJ rfl (fun h16=>?_) (fun h16=>?_)
   ·try simp only [decide_eq_true_eq] at h16
    try simp only [zds] at h16
    refine qC ?_;refine qB ?_;refine Or.inr (Or.inl (zei [] (zei [0,1] (zei _ (zei _ (zei _ (zei _ (zei _ (zai (h) (zai rfl (zai (zai (zai rfl rfl) (zai (zai rfl rfl) True.intro)) (zai rfl ?_))))))))))));refine qM ?_;exact ⟨rfl,⟨rfl,rfl⟩,rfl⟩
   ·try simp only [decide_eq_false_iff_not] at h16
    try simp only [zds] at h16
    simp at h16
theorem oneIns_z {κ : Nat} (L L' : Lst) (k id m : Int) (f : List Fld) (h1 : k ≠ 1) (h2 : k ≠ 2) (h : yC Tryz.prog 85 [.one (.own 0 0),ii .i64 id,.one (.slk κ rFld f)] (lsO L) 2 (.tup [(false,[.lit (.int .i64 m)]),(false,[.lit .nilIface])]) (lsO L') 2) : yC Tryz.prog 52 [.one (.own 0 0),.agg (toL (rEdk κ) (k,id,f))] (lsO L) 2 (.tup [(false,[.lit (.int .i64 m)]),(false,[.lit .nilIface])]) (lsO L') 2:=by
  refine qY (rs:=[4,5]) Tryz.func52 rfl rfl rfl teOk (by decide) rfl ?_;refine qC ?_;refine qB ?_;refine qC ?_;refine qC ?_;refine qB ?_;refine qN ?_;refine qC ?_;refine qB ?_;refine qJ rfl (fun h8=>?_) (fun h8=>?_)
  ·try simp only [decide_eq_true_eq] at h8
   try simp only [zds] at h8
   exact absurd h8 h1
  ·try simp only [decide_eq_false_iff_not] at h8
   try simp only [zds] at h8
   refine qC ?_;refine qB ?_;refine qJ rfl (fun h16=>?_) (fun h16=>?_)
   ·try simp only [decide_eq_true_eq] at h16
    try simp only [zds] at h16
    exact absurd h16 h2
   ·try simp only [decide_eq_false_iff_not] at h16
    try simp only [zds] at h16
    refine qL ?_;refine qC ?_;refine qB ?_;refine Or.inr (Or.inl (zei [] (zei [0,1] (zei _ (zei _ (zei _ (zei _ (zei _ (zai (h) (zai rfl (zai (zai (zai rfl rfl) (zai (zai rfl rfl) True.intro)) (zai rfl ?_))))))))))));refine qM ?_;exact ⟨rfl,⟨rfl,rfl⟩,rfl⟩
theorem oneRep_n {κ : Nat} (L L' : Lst) (k9 : Int) (id : Int) (f : List Fld) (h : yC Tryz.prog 83 [.one (.own 0 0),ii .i64 id,.one (.slk κ rFld f)] (lsO L) 2 (.one (errN k9)) (lsO L') 2) : yC Tryz.prog 52 [.one (.own 0 0),.agg (toL (rEdk κ) ((1 : Int),id,f))] (lsO L) 2 (.tup [(false,[.lit (.int .i64 0)]),(false,[errN k9])]) (lsO L') 2:=by
  refine qY (rs:=[4,5]) Tryz.func52 rfl rfl rfl teOk (by decide) rfl ?_;refine qC ?_;refine qB ?_;refine qC ?_;refine qC ?_;refine qB ?_;refine qN ?_;refine qC ?_;refine qB ?_;refine qJ rfl (fun h8=>?_) (fun h8=>?_)
  ·try simp only [decide_eq_true_eq] at h8
   try simp only [zds] at h8
   refine qC ?_;refine qB ?_;refine Or.inr (Or.inl (zei [] (zei [0,1] (zei _ (zei _ (zei _ (zei _ (zei _ (zai (h) (zai rfl (zai (zai (zai rfl rfl) (zai (zai rfl rfl) True.intro)) (zai rfl ?_))))))))))));refine qM ?_;exact ⟨rfl,⟨rfl,rfl⟩,rfl⟩
  ·try simp only [decide_eq_false_iff_not] at h8
   try simp only [zds] at h8
   simp at h8
theorem oneDel_n {κ : Nat} (L L' : Lst) (k9 : Int) (id : Int) (f : List Fld) (h : yC Tryz.prog 84 [.one (.own 0 0),ii .i64 id] (lsO L) 2 (.one (errN k9)) (lsO L') 2) : yC Tryz.prog 52 [.one (.own 0 0),.agg (toL (rEdk κ) ((2 : Int),id,f))] (lsO L) 2 (.tup [(false,[.lit (.int .i64 0)]),(false,[errN k9])]) (lsO L') 2:=by
  refine qY (rs:=[4,5]) Tryz.func52 rfl rfl rfl teOk (by decide) rfl ?_;refine qC ?_;refine qB ?_;refine qC ?_;refine qC ?_;refine qB ?_;refine qN ?_;refine qC ?_;refine qB ?_;refine qJ rfl (fun h8=>?_) (fun h8=>?_)
  ·try simp only [decide_eq_true_eq] at h8
   try simp only [zds] at h8
   simp at h8
  ·try simp only [decide_eq_false_iff_not] at h8
   try simp only [zds] at h8
   refine qC ?_;refine qB ?_;refine qJ rfl (fun h16=>?_) (fun h16=>?_)
   ·try simp only [decide_eq_true_eq] at h16
    try simp only [zds] at h16
    refine qC ?_;refine qB ?_;refine Or.inr (Or.inl (zei [] (zei [0,1] (zei _ (zei _ (zei _ (zei _ (zei _ (zai (h) (zai rfl (zai (zai (zai rfl rfl) (zai (zai rfl rfl) True.intro)) (zai rfl ?_))))))))))));refine qM ?_;exact ⟨rfl,⟨rfl,rfl⟩,rfl⟩
   ·try simp only [decide_eq_false_iff_not] at h16
    try simp only [zds] at h16
    simp at h16
theorem oneIns_n {κ : Nat} (L L' : Lst) (k9 : Int) (k id m : Int) (f : List Fld) (h1 : k ≠ 1) (h2 : k ≠ 2) (h : yC Tryz.prog 85 [.one (.own 0 0),ii .i64 id,.one (.slk κ rFld f)] (lsO L) 2 (.tup [(false,[.lit (.int .i64 m)]),(false,[errN k9])]) (lsO L') 2) : yC Tryz.prog 52 [.one (.own 0 0),.agg (toL (rEdk κ) (k,id,f))] (lsO L) 2 (.tup [(false,[.lit (.int .i64 m)]),(false,[errN k9])]) (lsO L') 2:=by
  refine qY (rs:=[4,5]) Tryz.func52 rfl rfl rfl teOk (by decide) rfl ?_;refine qC ?_;refine qB ?_;refine qC ?_;refine qC ?_;refine qB ?_;refine qN ?_;refine qC ?_;refine qB ?_;refine qJ rfl (fun h8=>?_) (fun h8=>?_)
  ·try simp only [decide_eq_true_eq] at h8
   try simp only [zds] at h8
   exact absurd h8 h1
  ·try simp only [decide_eq_false_iff_not] at h8
   try simp only [zds] at h8
   refine qC ?_;refine qB ?_;refine qJ rfl (fun h16=>?_) (fun h16=>?_)
   ·try simp only [decide_eq_true_eq] at h16
    try simp only [zds] at h16
    exact absurd h16 h2
   ·try simp only [decide_eq_false_iff_not] at h16
    try simp only [zds] at h16
    refine qL ?_;refine qC ?_;refine qB ?_;refine Or.inr (Or.inl (zei [] (zei [0,1] (zei _ (zei _ (zei _ (zei _ (zei _ (zai (h) (zai rfl (zai (zai (zai rfl rfl) (zai (zai rfl rfl) True.intro)) (zai rfl ?_))))))))))));refine qM ?_;exact ⟨rfl,⟨rfl,rfl⟩,rfl⟩
theorem oneRep_f {κ : Nat} (L L' : Lst) (a9 k9 : Int) (id : Int) (f : List Fld) (h : yC Tryz.prog 83 [.one (.own 0 0),ii .i64 id,.one (.slk κ rFld f)] (lsO L) 2 (.one (errF a9 k9)) (lsO L') 2) : yC Tryz.prog 52 [.one (.own 0 0),.agg (toL (rEdk κ) ((1 : Int),id,f))] (lsO L) 2 (.tup [(false,[.lit (.int .i64 0)]),(false,[errF a9 k9])]) (lsO L') 2:=by
  refine qY (rs:=[4,5]) Tryz.func52 rfl rfl rfl teOk (by decide) rfl ?_;refine qC ?_;refine qB ?_;refine qC ?_;refine qC ?_;refine qB ?_;refine qN ?_;refine qC ?_;refine qB ?_;refine qJ rfl (fun h8=>?_) (fun h8=>?_)
  ·try simp only [decide_eq_true_eq] at h8
   try simp only [zds] at h8
   refine qC ?_;refine qB ?_;refine Or.inr (Or.inl (zei [] (zei [0,1] (zei _ (zei _ (zei _ (zei _ (zei _ (zai (h) (zai rfl (zai (zai (zai rfl rfl) (zai (zai rfl rfl) True.intro)) (zai rfl ?_))))))))))));refine qM ?_;exact ⟨rfl,⟨rfl,rfl⟩,rfl⟩
  ·try simp only [decide_eq_false_iff_not] at h8
   try simp only [zds] at h8
   simp at h8
theorem oneIns_f {κ : Nat} (L L' : Lst) (a9 k9 : Int) (k id m : Int) (f : List Fld) (h1 : k ≠ 1) (h2 : k ≠ 2) (h : yC Tryz.prog 85 [.one (.own 0 0),ii .i64 id,.one (.slk κ rFld f)] (lsO L) 2 (.tup [(false,[.lit (.int .i64 m)]),(false,[errF a9 k9])]) (lsO L') 2) : yC Tryz.prog 52 [.one (.own 0 0),.agg (toL (rEdk κ) (k,id,f))] (lsO L) 2 (.tup [(false,[.lit (.int .i64 m)]),(false,[errF a9 k9])]) (lsO L') 2:=by
  refine qY (rs:=[4,5]) Tryz.func52 rfl rfl rfl teOk (by decide) rfl ?_;refine qC ?_;refine qB ?_;refine qC ?_;refine qC ?_;refine qB ?_;refine qN ?_;refine qC ?_;refine qB ?_;refine qJ rfl (fun h8=>?_) (fun h8=>?_)
  ·try simp only [decide_eq_true_eq] at h8
   try simp only [zds] at h8
   exact absurd h8 h1
  ·try simp only [decide_eq_false_iff_not] at h8
   try simp only [zds] at h8
   refine qC ?_;refine qB ?_;refine qJ rfl (fun h16=>?_) (fun h16=>?_)
   ·try simp only [decide_eq_true_eq] at h16
    try simp only [zds] at h16
    exact absurd h16 h2
   ·try simp only [decide_eq_false_iff_not] at h16
    try simp only [zds] at h16
    refine qL ?_;refine qC ?_;refine qB ?_;refine Or.inr (Or.inl (zei [] (zei [0,1] (zei _ (zei _ (zei _ (zei _ (zei _ (zai (h) (zai rfl (zai (zai (zai rfl rfl) (zai (zai rfl rfl) True.intro)) (zai rfl ?_))))))))))));refine qM ?_;exact ⟨rfl,⟨rfl,rfl⟩,rfl⟩
theorem one_cases {κ c : Nat} {L : Lst} (h : LOk c L) (hc : c ≤ 200000) (e : Edt) (hf : yD e.2.2) :
    (oneN L e = 0 ∧ yC Tryz.prog 52 [.one (.own 0 0),.agg (toL (rEdk κ) e)] (lsO L) 2 (.tup [(false,[.lit (.int .i64 (newN L e))]),(false,[.lit .nilIface])]) (lsO (doL L e)) 2) ∨
    (∃ k9,k9 ≠ 0 ∧ oneN L e = k9 ∧ yC Tryz.prog 52 [.one (.own 0 0),.agg (toL (rEdk κ) e)] (lsO L) 2 (.tup [(false,[.lit (.int .i64 0)]),(false,[errN k9])]) (lsO L) 2) ∨
    (∃ a9 k9,k9 ≠ 0 ∧ oneN L e = k9 ∧ yC Tryz.prog 52 [.one (.own 0 0),.agg (toL (rEdk κ) e)] (lsO L) 2 (.tup [(false,[.lit (.int .i64 0)]),(false,[errF a9 k9])]) (lsO L) 2):=by
  obtain ⟨es,n,m⟩:=L;obtain ⟨k,id,f⟩:=e;have hmany:=h.many;have hnx:=h.next;have hln:=h.len;have hids:=ids_len es;have hil:=List.length_filter_le live es;simp only at hmany hnx hln hf;unfold newN oneN doL;simp only
  by_cases h1 : k = 1
  · subst h1;simp only [if_pos,true_or]
    by_cases h0 : atE es id < 0
    · simp only [if_pos h0];exact .inr (.inl ⟨7,by decide,rfl,oneRep_n _ _ 7 id f (lRep_no es n m id f h0)⟩)
    · simp only [if_neg h0]
      by_cases hck : (chkR f).2 ≠ 0
      · have hb:=lRep_bad (κ:=κ) es n m id f (by omega) hf hck;rcases chk_shape hck with ⟨k9,g1,g2,g3,g4⟩|⟨a9,k9,g1,g2,g3,g4⟩
        · rw [g1] at hb;exact .inr (.inl ⟨k9,g2,g4.symm,oneRep_n _ _ k9 id f hb⟩)
        · rw [g1] at hb;exact .inr (.inr ⟨a9,k9,g2,g4.symm,oneRep_f _ _ a9 k9 id f hb⟩)
      · have hck' : (chkR f).2 = 0:=Classical.not_not.1 hck;simp only [if_neg hck];obtain ⟨i,hi,he,_,_⟩:=at_lt h0;rw [he,Int.toNat_natCast];exact .inl ⟨hck',oneRep_z _ _ id f (lRep_ok es n m id f i hi he hf hck')⟩
  · by_cases h2 : k = 2
    · subst h2;simp only [if_neg (show ¬ (2 : Int) = 1 by decide),if_pos,or_true]
      by_cases h0 : atE es id < 0
      · simp only [if_pos h0];exact .inr (.inl ⟨7,by decide,rfl,oneDel_n _ _ 7 id f (lDel_no es n m id h0)⟩)
      · simp only [if_neg h0];obtain ⟨i,hi,he,_,_⟩:=at_lt h0;rw [he,Int.toNat_natCast];exact .inl ⟨trivial,oneDel_z _ _ id f (lDel_ok es n m id i hi he (by omega) (by omega))⟩
    · simp only [if_neg h1,if_neg h2,if_neg (show ¬ (k = 1 ∨ k = 2) from fun h=>h.elim h1 h2)]
      by_cases h0 : atE es id < 0 ∧ id ≠ 0
      · simp only [if_pos h0];exact .inr (.inl ⟨7,by decide,rfl,oneIns_n _ _ 7 k id 0 f h1 h2 (lIns_no es n m id f h0.1 h0.2)⟩)
      · simp only [if_neg h0]
        by_cases hck : (chkR f).2 ≠ 0
        · have hb:=lIns_bad (κ:=κ) es n m id f h0 hf hck;simp only [if_pos hck];rcases chk_shape hck with ⟨k9,g1,g2,g3,g4⟩|⟨a9,k9,g1,g2,g3,g4⟩
          · rw [g1] at hb;exact .inr (.inl ⟨k9,g2,g4.symm,oneIns_n _ _ k9 k id 0 f h1 h2 hb⟩)
          · rw [g1] at hb;exact .inr (.inr ⟨a9,k9,g2,g4.symm,oneIns_f _ _ a9 k9 k id 0 f h1 h2 hb⟩)
        · have hck' : (chkR f).2 = 0:=Classical.not_not.1 hck;simp only [if_neg hck]
          by_cases h4 : 400 ≤ m
          · simp only [if_pos h4];exact .inr (.inl ⟨11,by decide,rfl,oneIns_n _ _ 11 k id 0 f h1 h2 (lIns_full es n m id f h0 hf hck' h4)⟩)
          · simp only [if_neg h4];obtain ⟨j,hj,hje⟩ : ∃ j : Nat,j ≤ es.length ∧ atE es id + 1 = (j : Int):=by
              rcases at_cases es id with ⟨h1,_⟩|⟨i,h1,h2,_⟩
              · exact ⟨0,Nat.zero_le _,by omega⟩
              · exact ⟨i + 1,by omega,by omega⟩
            rw [hje,Int.toNat_natCast];exact .inl ⟨trivial,oneIns_z _ _ k id n f h1 h2 (lIns_ok es n m id f j hj h0 hje hf hck' (by omega) (by omega) (by omega))⟩
theorem doN_c {κ κ' k : Nat} (L : Lst) (s : List Edt) (hf : ∀ e ∈ s,yD e.2.2) (hl : s.length ≤ 1000000) (n : Int) (hn : n ≠ 0) (h : chkB s = (-9,n)) : qU Tryz.prog 13 [.one (.adk k (rLst k) L),.one (.slk κ (rEdk κ') s)] (.tup [(false,[.lit (.pointer none)]),(false,[.lit (.slice none 0 0)]),(false,[errN n])]):=by
  have hk:=check_c9 (κ:=κ) (κ':=κ') s hf hl;rw [h,erB_n hn] at hk;refine qR (rs:=[4,5,6]) Tryz.func13 rfl rfl rfl teOk rfl ?_;refine qC ?_;refine qB ?_;refine qC ?_;refine qC ?_;refine qB ?_;refine Or.inl ?_;refine zai (rfl) ?_;refine zei _ (zai (hk) ?_);refine qC ?_;refine qB ?_;refine qJ rfl (fun h17=>?_) (fun h17=>?_)
  ·skip
   refine qC ?_;refine qB ?_;refine qM ?_;rfl
  ·try simp only [zbq] at h17
   try simp only [zds] at h17
   simp at h17
theorem doF_c {κ κ' k : Nat} (L : Lst) (s : List Edt) (hf : ∀ e ∈ s,yD e.2.2) (hl : s.length ≤ 1000000) (i : Nat) (n : Int) (hn : n ≠ 0) (h : chkB s = ((i : Int),n)) : qU Tryz.prog 13 [.one (.adk k (rLst k) L),.one (.slk κ (rEdk κ') s)] (.tup [(false,[.lit (.pointer none)]),(false,[.lit (.slice none 0 0)]),(false,[errF i n])]):=by
  have hk:=check_c9 (κ:=κ) (κ':=κ') s hf hl;rw [h,erB_f hn] at hk;refine qR (rs:=[4,5,6]) Tryz.func13 rfl rfl rfl teOk rfl ?_;refine qC ?_;refine qB ?_;refine qC ?_;refine qC ?_;refine qB ?_;refine Or.inl ?_;refine zai (rfl) ?_;refine zei _ (zai (hk) ?_);refine qC ?_;refine qB ?_;refine qJ rfl (fun h17=>?_) (fun h17=>?_)
  ·skip
   refine qC ?_;refine qB ?_;refine qM ?_;rfl
  ·try simp only [zbq] at h17
   try simp only [zds] at h17
   simp at h17
theorem lsbox0_eq {L M : Lst} (h : M = L) : some (Ob.box 116 [.vec 0,.lit (.int .i64 L.2.1),.lit (.int .i64 L.2.2)]) = some (Ob.box 116 [.vec 0,.lit (.int .i64 M.2.1),.lit (.int .i64 M.2.2)]):=by rw [h]
theorem took {c : Nat} {L : Lst} {s : List Edt} (h : LOk c L) (hf : ∀ e ∈ s,yD e.2.2) {i : Nat} (hi : i < s.length) : LOk (c + i) (yO L s i) ∧ yD (s.getD i ((0 : Int),(0 : Int),([] : List Fld))).2.2:=⟨plays_ok h hf i (by omega),hf _ (yI hi ((0 : Int),(0 : Int),([] : List Fld)))⟩
theorem doBad_c {κ κ' k c : Nat} (L : Lst) (s : List Edt) (hL : LOk c L) (hc : c + s.length ≤ 200000) (hf : ∀ e ∈ s,yD e.2.2) (h : (chkB s).2 = 0) (q : Nat) (hq : q < s.length) (hb : oneN (yO L s q) (s.getD q ((0 : Int),(0 : Int),([] : List Fld))) ≠ 0) (ht : ∀ j,j < q → oneN (yO L s j) (s.getD j ((0 : Int),(0 : Int),([] : List Fld))) = 0) :
    qU Tryz.prog 13 [.one (.adk k (rLst k) L),.one (.slk κ (rEdk κ') s)] (.tup [(false,[.lit (.pointer none)]),(false,[.lit (.slice none 0 0)]),(false,[errF q (oneN (yO L s q) (s.getD q ((0 : Int),(0 : Int),([] : List Fld))))])]):=by
  obtain ⟨hln,hgd⟩:=chkB_zero h;have hk:=check_c9 (κ:=κ) (κ':=κ') s hf (by omega);rw [chkB_good h,erB_z] at hk;have hlen:=hL.len;have hcp:=copyL_o (k:=k) L.1 L.2.1 L.2.2 (by omega);refine qR (rs:=[4,5,6]) Tryz.func13 rfl rfl rfl teOk rfl ?_;refine qC ?_;refine qB ?_;refine qC ?_;refine qC ?_;refine qB ?_;refine Or.inl ?_;refine zai (rfl) ?_;refine zei _ (zai (hk) ?_);refine qC ?_;refine qB ?_;refine qJ rfl (fun h17=>?_) (fun h17=>?_)
  ·try simp only [Bool.not_eq_true'] at h17
   try simp only [zds] at h17
   cases h17
  ·try simp only [Bool.not_eq_false'] at h17
   try simp only [zds] at h17
   refine qL ?_;refine qC ?_;refine qB ?_;refine Or.inr (Or.inl (zei [] (zei [] (zei _ (zei _ (zei _ (zei _ (zei _ (zai (hcp) (zai rfl (zai True.intro (zai rfl ?_))))))))))));refine qC ?_;refine qB ?_;refine qC ?_;refine qC ?_;refine yP 9 3 (.int .i64) rfl ?_;refine qB ?_;intro l6_1
   try simp only [zds] at l6_1
   refine qN ?_;refine qS (fun (i : Nat)=>i ≤ q) (fun (i : Nat)=>[(8,.one (.own 1 0)),(9,.one (.vec 2)),(21,.one (.slk κ (rEdk κ') s)),(22,ii .i64 s.length),(23,ii .i64 i)]) (fun (i : Nat)=>[(0,.vec 111 rEnt (yO L s i).1),(1,.box 116 [.vec 0,.lit (.int .i64 (yO L s i).2.1),.lit (.int .i64 (yO L s i).2.2)]),(2,.vec 3 (.int .i64) (idsT L s i))]) 3 (fun (i : Nat)=>q - i) 0 (Nat.zero_le _) (qP ⟨rfl,rfl,rfl,rfl,rfl⟩ ⟨rfl,rfl,rfl⟩ rfl) ?_;intro i hI0;refine qC ?_;refine qB ?_;refine qC ?_;refine qJ rfl (fun h24=>?_) (fun h24=>?_)
   ·try simp only [decide_eq_true_eq] at h24
    try simp only [zds] at h24
    have hil : i < s.length:=(by omega);obtain ⟨hLi,hfe⟩:=took hL hf hil;have hsn:=plays_snoc L hil;have hin:=idsT_snoc L s i;have hilen:=idsT_len L s i;refine qL ?_;refine qC ?_;refine qN ?_;refine qC ?_;refine qB ?_;refine zai (by first|omega|assumption|decide|(simp only [zds];omega)|(simp <;> omega)) ?_;refine qC ?_;rcases one_cases (κ:=κ') hLi (by omega) (s.getD i ((0 : Int),(0 : Int),([] : List Fld))) hfe with ⟨hz,ho⟩|⟨n,hn,hz,ho⟩|⟨a,n,hn,hz,ho⟩
    ·refine qB ?_;refine Or.inr (Or.inl (zei [] (zei [1,0] (zei _ (zei _ (zei _ (zei _ (zei _ (zai (ho) (zai rfl (zai (zai (zai rfl rfl) (zai (zai rfl rfl) True.intro)) (zai rfl ?_))))))))))));refine qC ?_;refine qC ?_;refine qB ?_;refine qJ rfl (fun h35=>?_) (fun h35=>?_)
     ·try simp only [Bool.not_eq_true'] at h35
      try simp only [zds] at h35
      cases h35
     ·try simp only [Bool.not_eq_false'] at h35
      try simp only [zds] at h35
      have hlt : i < q:=(by rcases Nat.lt_or_ge i q with h1|h1;exact h1;have e1 : i = q:=(by omega);rw [e1] at hz;exact absurd hz hb);refine qL ?_;refine qC ?_;refine qB ?_;refine qJ rfl (fun h40=>?_) (fun h40=>?_)
      ·try simp only [decide_eq_true_eq] at h40
       try simp only [zds] at h40
       refine qB ?_;refine zai (by first|exact qQ (by first|omega|(simp only [List.length_cons,List.length_nil];omega)|(simp;omega)) (by decide)|omega|assumption|decide|(simp only [zds];omega)|(simp <;> omega)) ?_;refine qB ?_;refine zai (by first|omega|assumption|decide|(simp only [zds];omega)|(simp <;> omega)) ?_;exact ⟨i + 1,by omega,by first|omega|(simp <;> omega),qP ⟨rfl,rfl,rfl,rfl,(qT (by omega))⟩ ⟨(lsvec_eq hsn),(lsbox0_eq hsn),(qW (by rw [hin,if_pos (by omega)];try exact rfl))⟩ rfl⟩
      ·try simp only [decide_eq_false_iff_not,Int.not_lt] at h40
       try simp only [zds] at h40
       refine qL ?_;refine qB ?_;refine zai (by first|omega|assumption|decide|(simp only [zds];omega)|(simp <;> omega)) ?_;exact ⟨i + 1,by omega,by first|omega|(simp <;> omega),qP ⟨rfl,rfl,rfl,rfl,(qT (by omega))⟩ ⟨(lsvec_eq hsn),(lsbox0_eq hsn),(qW (by rw [hin,if_neg (by omega),List.append_nil]))⟩ rfl⟩
    ·refine qB ?_;refine Or.inr (Or.inl (zei [] (zei [1,0] (zei _ (zei _ (zei _ (zei _ (zei _ (zai (ho) (zai rfl (zai (zai (zai rfl rfl) (zai (zai rfl rfl) True.intro)) (zai rfl ?_))))))))))));refine qC ?_;refine qC ?_;refine qB ?_;refine qJ rfl (fun h35=>?_) (fun h35=>?_)
     ·skip
      have hiq : i = q:=(by rcases Nat.lt_or_ge i q with h1|h1;exact absurd ((ht i h1).symm.trans hz) (by omega);omega);subst hiq;refine qC ?_;refine qB ?_;refine Or.inl ?_;refine zai (rfl) ?_;refine zei _ (zai (faultN_c i n) ?_);refine qM ?_;rw [hz];exact rfl
     ·try simp only [zbq] at h35
      try simp only [zds] at h35
      simp at h35
    ·refine qB ?_;refine Or.inr (Or.inl (zei [] (zei [1,0] (zei _ (zei _ (zei _ (zei _ (zei _ (zai (ho) (zai rfl (zai (zai (zai rfl rfl) (zai (zai rfl rfl) True.intro)) (zai rfl ?_))))))))))));refine qC ?_;refine qC ?_;refine qB ?_;refine qJ rfl (fun h35=>?_) (fun h35=>?_)
     ·skip
      have hiq : i = q:=(by rcases Nat.lt_or_ge i q with h1|h1;exact absurd ((ht i h1).symm.trans hz) (by omega);omega);subst hiq;refine qC ?_;refine qB ?_;refine Or.inl ?_;refine zai (rfl) ?_;refine zei _ (zai (faultF_c i a n) ?_);refine qM ?_;rw [hz];exact rfl
     ·try simp only [zbq] at h35
      try simp only [zds] at h35
      simp at h35
   ·try simp only [decide_eq_false_iff_not,Int.not_lt] at h24
    try simp only [zds] at h24
    omega
theorem doOk_o {κ κ' k c : Nat} (L : Lst) (s : List Edt) (hL : LOk c L) (hc : c + s.length ≤ 200000) (hf : ∀ e ∈ s,yD e.2.2) (h : (chkB s).2 = 0) (ht : ∀ j,j < s.length → oneN (yO L s j) (s.getD j ((0 : Int),(0 : Int),([] : List Fld))) = 0) :
    yC Tryz.prog 13 [.one (.adk k (rLst k) L),.one (.slk κ (rEdk κ') s)] [] 0 (.tup [(false,[.own 1 0]),(false,[.sl (.int .i64) (idsT L s s.length)]),(false,[.lit .nilIface])]) [(1,.box 116 [.vec 0,.lit (.int .i64 (yO L s s.length).2.1),.lit (.int .i64 (yO L s s.length).2.2)]),(0,.vec 111 rEnt (yO L s s.length).1)] 2:=by
  obtain ⟨hln,hgd⟩:=chkB_zero h;have hk:=check_c9 (κ:=κ) (κ':=κ') s hf (by omega);rw [chkB_good h,erB_z] at hk;have hlen:=hL.len;have hcp:=copyL_o (k:=k) L.1 L.2.1 L.2.2 (by omega);refine qY (rs:=[4,5,6]) Tryz.func13 rfl rfl rfl teOk (by decide) rfl ?_;refine qC ?_;refine qB ?_;refine qC ?_;refine qC ?_;refine qB ?_;refine Or.inl ?_;refine zai (rfl) ?_;refine zei _ (zai (hk) ?_);refine qC ?_;refine qB ?_;refine qJ rfl (fun h17=>?_) (fun h17=>?_)
  ·try simp only [Bool.not_eq_true'] at h17
   try simp only [zds] at h17
   cases h17
  ·try simp only [Bool.not_eq_false'] at h17
   try simp only [zds] at h17
   refine qL ?_;refine qC ?_;refine qB ?_;refine Or.inr (Or.inl (zei [] (zei [] (zei _ (zei _ (zei _ (zei _ (zei _ (zai (hcp) (zai rfl (zai True.intro (zai rfl ?_))))))))))));refine qC ?_;refine qB ?_;refine qC ?_;refine qC ?_;refine yP 9 3 (.int .i64) rfl ?_;refine qB ?_;intro l6_1
   try simp only [zds] at l6_1
   refine qN ?_;refine qS (fun (i : Nat)=>i ≤ s.length) (fun (i : Nat)=>[(8,.one (.own 1 0)),(9,.one (.vec 2)),(21,.one (.slk κ (rEdk κ') s)),(22,ii .i64 s.length),(23,ii .i64 i)]) (fun (i : Nat)=>[(0,.vec 111 rEnt (yO L s i).1),(1,.box 116 [.vec 0,.lit (.int .i64 (yO L s i).2.1),.lit (.int .i64 (yO L s i).2.2)]),(2,.vec 3 (.int .i64) (idsT L s i))]) 3 (fun (i : Nat)=>s.length - i) 0 (Nat.zero_le _) (qP ⟨rfl,rfl,rfl,rfl,rfl⟩ ⟨rfl,rfl,rfl⟩ rfl) ?_;intro i hI0;refine qC ?_;refine qB ?_;refine qC ?_;refine qJ rfl (fun h24=>?_) (fun h24=>?_)
   ·try simp only [decide_eq_true_eq] at h24
    try simp only [zds] at h24
    have hil : i < s.length:=(by omega);obtain ⟨hLi,hfe⟩:=took hL hf hil;have hsn:=plays_snoc L hil;have hin:=idsT_snoc L s i;have hilen:=idsT_len L s i;refine qL ?_;refine qC ?_;refine qN ?_;refine qC ?_;refine qB ?_;refine zai (by first|omega|assumption|decide|(simp only [zds];omega)|(simp <;> omega)) ?_;refine qC ?_;rcases one_cases (κ:=κ') hLi (by omega) (s.getD i ((0 : Int),(0 : Int),([] : List Fld))) hfe with ⟨hz,ho⟩|⟨n,hn,hz,ho⟩|⟨a,n,hn,hz,ho⟩
    ·refine qB ?_;refine Or.inr (Or.inl (zei [] (zei [1,0] (zei _ (zei _ (zei _ (zei _ (zei _ (zai (ho) (zai rfl (zai (zai (zai rfl rfl) (zai (zai rfl rfl) True.intro)) (zai rfl ?_))))))))))));refine qC ?_;refine qC ?_;refine qB ?_;refine qJ rfl (fun h35=>?_) (fun h35=>?_)
     ·try simp only [Bool.not_eq_true'] at h35
      try simp only [zds] at h35
      cases h35
     ·try simp only [Bool.not_eq_false'] at h35
      try simp only [zds] at h35
      refine qL ?_;refine qC ?_;refine qB ?_;refine qJ rfl (fun h40=>?_) (fun h40=>?_)
      ·try simp only [decide_eq_true_eq] at h40
       try simp only [zds] at h40
       refine qB ?_;refine zai (by first|exact qQ (by first|omega|(simp only [List.length_cons,List.length_nil];omega)|(simp;omega)) (by decide)|omega|assumption|decide|(simp only [zds];omega)|(simp <;> omega)) ?_;refine qB ?_;refine zai (by first|omega|assumption|decide|(simp only [zds];omega)|(simp <;> omega)) ?_;exact ⟨i + 1,by omega,by first|omega|(simp <;> omega),qP ⟨rfl,rfl,rfl,rfl,(qT (by omega))⟩ ⟨(lsvec_eq hsn),(lsbox0_eq hsn),(qW (by rw [hin,if_pos (by omega)];try exact rfl))⟩ rfl⟩
      ·try simp only [decide_eq_false_iff_not,Int.not_lt] at h40
       try simp only [zds] at h40
       refine qL ?_;refine qB ?_;refine zai (by first|omega|assumption|decide|(simp only [zds];omega)|(simp <;> omega)) ?_;exact ⟨i + 1,by omega,by first|omega|(simp <;> omega),qP ⟨rfl,rfl,rfl,rfl,(qT (by omega))⟩ ⟨(lsvec_eq hsn),(lsbox0_eq hsn),(qW (by rw [hin,if_neg (by omega),List.append_nil]))⟩ rfl⟩
    ·refine qB ?_;refine Or.inr (Or.inl (zei [] (zei [1,0] (zei _ (zei _ (zei _ (zei _ (zei _ (zai (ho) (zai rfl (zai (zai (zai rfl rfl) (zai (zai rfl rfl) True.intro)) (zai rfl ?_))))))))))));refine qC ?_;refine qC ?_;refine qB ?_;refine qJ rfl (fun h35=>?_) (fun h35=>?_)
     ·skip
      exact absurd ((ht i hil).symm.trans hz) (by omega)
     ·try simp only [zbq] at h35
      try simp only [zds] at h35
      simp at h35
    ·refine qB ?_;refine Or.inr (Or.inl (zei [] (zei [1,0] (zei _ (zei _ (zei _ (zei _ (zei _ (zai (ho) (zai rfl (zai (zai (zai rfl rfl) (zai (zai rfl rfl) True.intro)) (zai rfl ?_))))))))))));refine qC ?_;refine qC ?_;refine qB ?_;refine qJ rfl (fun h35=>?_) (fun h35=>?_)
     ·skip
      exact absurd ((ht i hil).symm.trans hz) (by omega)
     ·try simp only [zbq] at h35
      try simp only [zds] at h35
      simp at h35
   ·try simp only [decide_eq_false_iff_not,Int.not_lt] at h24
    try simp only [zds] at h24
    refine qV ?_;refine qC ?_;refine qB ?_;refine yK [2] ?_;refine qM ?_;rw [show i = s.length by omega];exact ⟨rfl,⟨rfl,rfl⟩,rfl⟩
def unkR (l : List (List Fld)) : List (List (Unit × Unit)):=l.map fun r=>r.map fun _=>((),())
def plainI (x : Itm) : Bool:=decide ((chkR x.2.2).2 = 0) && decide (x.1 = 3) && decide (bytes (foldL x.2.2) = x.2.1)
abbrev rItmU : Rd (Int × ByteArray × List (Unit × Unit)):=.st (.int .i64) (.st .str (.slk 7 rUnk2))
def unkI (l : List Itm) : List (Int × ByteArray × List (Unit × Unit)):=l.map fun x=>(x.1,x.2.1,x.2.2.map fun _=>((),()))
abbrev rStzU : Rd (Int × List (Unit × Unit)):=.st (.int .i64) (.slk 7 rUnk2)
def unkS (l : List Stz) : List (Int × List (Unit × Unit)):=l.map fun x=>(x.1,x.2.map fun _=>((),()))
def BlankI (x : Itm) : Prop:=∃ t : ByteArray,x = (1,t ++ ⟨#[10]⟩,[]) ∧ qZ (ls t) = 1 ∧ (10 : UInt8) ∉ ls t
def Good1 (x : Itm) : Prop:=BlankI x ∨ (x.1 ≠ 1 ∧ Blk x)
def BIP (p : PSt) : Prop:=(∀ x ∈ p.its,x.1 = 1 → BlankI x) ∧ p.recs = (cntR p.its : Int)
theorem isRec1 (t : ByteArray) : isRec (1,t,[]) = false:=by unfold isRec;simp
theorem close_bi {p : PSt} (h : BIP p) : BIP (xP p):=by
  unfold xP;split
  · exact h
  · by_cases hf : p.flds = []
    · simp only [if_pos hf];refine ⟨fun x hx hx1=>?_,?_⟩
      · rcases List.mem_append.1 hx with hx|hx
        · exact h.1 x hx hx1
        · rw [List.mem_singleton.1 hx] at hx1;cases hx1
      · simp only [cntR_app];rw [h.2];simp [cntR,isRec]
    · simp only [if_neg hf];refine ⟨fun x hx hx1=>?_,?_⟩
      · rcases List.mem_append.1 hx with hx|hx
        · exact h.1 x hx hx1
        · rw [List.mem_singleton.1 hx] at hx1;cases hx1
      · simp only [cntR_app];rw [h.2];simp [cntR,isRec]
theorem flush_bi {p q : PSt} (h : BIP p) (hf : yU p = .inr q) : BIP q:=by
  unfold BIP;rw [(flush_same hf).1,flush_recs hf];exact h
theorem end_bi {p q : PSt} (h : BIP p) (hf : endS p = .inr q) : BIP q:=by
  unfold endS at hf;cases e : yU p with
  | inl x=>rw [e] at hf;cases hf
  | inr r=>rw [e] at hf;cases hf;exact close_bi (flush_bi h e)
theorem take_bi {p q : PSt} {l : Lne} (h : BIP p) (hf : yZ p l = .inr q) (hn : (10 : UInt8) ∉ ls l.2.2.1) : BIP q:=by
  unfold yZ at hf;cases e : yW p l (qZ (ls l.2.2.1)) with
  | inl x=>rw [e] at hf;cases hf
  | inr r =>
    rw [e] at hf;have hr : BIP r:=by
      unfold yW at e;split at e
      · split at e
        · cases e
        · split at e
          · cases e;exact h
          · exact flush_bi (p:={ p with lns:=p.lns ++ [l.2.2.1] }) h e
      · split at e
        · exact end_bi h e
        · exact flush_bi h e
    simp only at hf;unfold lineS at hf;split at hf
    · cases hf
    · split at hf
      · rename_i hk;cases hf;refine ⟨fun x hx hx1=>?_,?_⟩
        · rcases List.mem_append.1 hx with hx|hx
          · exact hr.1 x hx hx1
          · exact ⟨l.2.2.1,List.mem_singleton.1 hx,hk,hn⟩
        · simp only [cntR_app];rw [hr.2];simp [cntR,isRec1]
      · split at hf
        · cases hf;exact hr
        · cases hf;exact hr
theorem run_bi : ∀ (L : List Lne) (p q : PSt),BIP p → runS p L = .inr q → (∀ l ∈ L,(10 : UInt8) ∉ ls l.2.2.1) → BIP q
  | [],p,q,hp,h,_=>by cases h;exact hp
  | l :: r,p,q,hp,h,hn=>by
    simp only [runS] at h;cases e : yZ p l with
    | inl x=>rw [e] at h;cases h
    | inr p1 =>
      rw [e] at h;exact run_bi r p1 q (take_bi hp e (hn l List.mem_cons_self)) h (fun x hx=>hn x (List.mem_cons_of_mem _ hx))
theorem parse_good {s : ByteArray} {l : List Itm} (hp : xF s = .inr l) : (∀ x ∈ l,Good1 x) ∧ cntR l ≤ 400:=by
  have hb:=parse_blks hp;unfold xF at hp;cases e : runS pst0 (yE s) with
  | inl x=>rw [e] at hp;cases hp
  | inr p =>
    rw [e] at hp;simp only at hp;cases e2 : endS p with
    | inl x=>rw [e2] at hp;cases hp
    | inr q =>
      rw [e2] at hp;cases hp;have hno : ∀ l ∈ yE s,(10 : UInt8) ∉ ls l.2.2.1:=fun l hl=>by
        have h1 : l.2.2 ∈ (yE s).map (·.2.2):=List.mem_map_of_mem hl;rw [lines_text] at h1;exact linesB_no _ _ _ h1
      have h1 : BIP q:=end_bi (run_bi _ _ _ ⟨(fun _ h=>by cases h),rfl⟩ e hno) e2;have h2:=(end_par (run_par _ _ _ ⟨[],0,[],pst0,rel_0,rfl,rfl,rfl,(fun _ h=>by cases h),(fun _ h=>by cases h)⟩ e hno) e2).2.2.2;refine ⟨fun x hx=>?_,by have:=h1.2;omega⟩
      by_cases hx1 : x.1 = 1
      · exact .inl (h1.1 x hx hx1)
      · exact .inr ⟨hx1,hb x hx hx1⟩
def HF (p : PSt) : Prop:=p.lns ≠ [] ∨ p.flds ≠ []
structure LGd (B : Nat) (L : Lst) : Prop where
  good : ∀ e ∈ L.1,Good1 e.1 ∧ isRec e.1 = live e
  m4 : L.2.2 ≤ 400
  sz : szI (itmL L.1) ≤ B
theorem num_good : ∀ (l : List Itm) (n : Int),1 ≤ n → (∀ x ∈ l,Good1 x) → ∀ e ∈ numI n l,Good1 e.1 ∧ isRec e.1 = live e
  | [],_,_,_,e,he=>by cases he
  | x :: r,n,hn,hg,e,he=>by
    unfold numI at he;split at he
    · rename_i hr;rcases List.mem_cons.1 he with rfl|he
      · refine ⟨hg x List.mem_cons_self,?_⟩;rw [hr];unfold live;rw [decide_eq_true (by simp only;omega)]
      · exact num_good r (n + 1) (by omega) (fun y hy=>hg y (List.mem_cons_of_mem _ hy)) e he
    · rename_i hr;rcases List.mem_cons.1 he with rfl|he
      · refine ⟨hg x List.mem_cons_self,?_⟩;rw [hr];rfl
      · exact num_good r n hn (fun y hy=>hg y (List.mem_cons_of_mem _ hy)) e he
theorem ofT_gd {s : ByteArray} {l : List Itm} (hp : xF s = .inr l) : LGd s.size (ofT l):=by
  obtain ⟨h1,h2⟩:=parse_good hp;refine ⟨num_good l 1 (Int.le_refl _) h1,by show (cntR l : Int) ≤ 400;omega,?_⟩;show szI (itmL (numI 1 l)) ≤ _;unfold itmL;rw [numI_items];have h3:=raws_text hp;rw [← raws_sz,← h3,yJ];exact Nat.le_refl _
abbrev zRL9 : List C:=[.lit (.slice none 0 0),.lit (.int .i64 0)]
theorem xR {c : Nat} (L : Lst) (h : LOk c L) (hc : c ≤ 200000) (e : Edt) (hf : yD e.2.2) : qU Tryz.prog 55 [.agg (toL rRL (L.1,L.2.1)),.agg (toL rEdt e)] (.tup [(true,toL rRL ((doL L e).1,(doL L e).2.1)),(false,[.lit (.int .i64 (newN L e))]),(false,[.lit (.int .i64 (oneN L e))])]):=by
  have hln:=h.len;have hnx:=h.next;obtain ⟨g1,g2,g3⟩:=ref_one h e;have hr1:=refRep_c L.1 L.2.1 e.2.1 e.2.2 hf (by omega);have hr2:=refDel_c L.1 L.2.1 e.2.1 (by omega);have hr3:=refIns_c L.1 L.2.1 e.2.1 e.2.2 hf (by omega) (by omega);refine yT (rs:=[.cell 4 28,.tmp 5,.tmp 6]) Tryz.func55 rfl rfl rfl teOk rfl ?_;refine qC ?_;refine qB ?_;refine qC ?_;refine qC ?_;refine qB ?_;refine qJ rfl (fun h18=>?_) (fun h18=>?_)
  ·try simp only [decide_eq_true_eq] at h18
   try simp only [zds] at h18
   refine qC ?_;refine qB ?_;refine Or.inl ?_;refine zai (rfl) ?_;refine zei _ (zai (hr1) ?_);refine qC ?_;refine qB ?_;refine qM ?_;rw [← (g1 h18).1,← (g1 h18).2,show newN L e = 0 from by unfold newN;rw [if_pos (.inl h18)]];exact rfl
  ·try simp only [decide_eq_false_iff_not] at h18
   try simp only [zds] at h18
   refine qL ?_;refine qC ?_;refine qC ?_;refine qB ?_;refine qJ rfl (fun h33=>?_) (fun h33=>?_)
   ·try simp only [decide_eq_true_eq] at h33
    try simp only [zds] at h33
    refine qC ?_;refine qB ?_;refine Or.inl ?_;refine zai (rfl) ?_;refine zei _ (zai (hr2) ?_);refine qC ?_;refine qB ?_;refine qM ?_;rw [← (g2 h33).1,← (g2 h33).2,show newN L e = 0 from by unfold newN;rw [if_pos (.inr h33)]];exact rfl
   ·try simp only [decide_eq_false_iff_not] at h33
    try simp only [zds] at h33
    refine qL ?_;refine qC ?_;refine qB ?_;refine Or.inl ?_;refine zai (rfl) ?_;refine zei _ (zai (hr3) ?_);refine qC ?_;refine qB ?_;refine qM ?_;rw [← (g3 h18 h33).1,← (g3 h18 h33).2.1,← (g3 h18 h33).2.2];exact rfl
theorem refDoC_c (L : Lst) (s : List Edt) (hf : ∀ e ∈ s,yD e.2.2) (hl : s.length ≤ 1000000) (h : (chkB s).2 ≠ 0) : qU Tryz.prog 14 [.agg (toL rRL (L.1,L.2.1)),.one (.sl rEdt s)] (.tup [(true,toL rRL (L.1,L.2.1)),(false,[.lit (.slice none 0 0)]),(false,[.lit (.int .i64 (chkB s).1)]),(false,[.lit (.int .i64 (chkB s).2)])]):=by
  have hr:=refCheck9_c s hf hl;refine yT (rs:=[.cell 4 28,.tmp 5,.tmp 6,.tmp 7]) Tryz.func14 rfl rfl rfl teOk rfl ?_;refine qC ?_;refine qB ?_;refine qC ?_;refine qC ?_;refine qB ?_;refine Or.inl ?_;refine zai (rfl) ?_;refine zei _ (zai (hr) ?_);refine qC ?_;refine qB ?_;refine qJ rfl (fun h22=>?_) (fun h22=>?_)
  ·try simp only [decide_eq_false_iff_not,Bool.not_eq_true'] at h22
   try simp only [zds] at h22
   refine qC ?_;refine qB ?_;refine qM ?_;rfl
  ·try simp only [decide_eq_true_eq,Bool.not_eq_false'] at h22
   try simp only [zds] at h22
   exact absurd h22 h
theorem xA {L M : Lst} (h : M = L) : some (Ob.box 28 (toL rRL (L.1,L.2.1))) = some (Ob.box 28 (toL rRL (M.1,M.2.1))):=by rw [h]
theorem refDoBad_c {c : Nat} (L : Lst) (s : List Edt) (hL : LOk c L) (hc : c + s.length ≤ 200000) (hf : ∀ e ∈ s,yD e.2.2) (h : (chkB s).2 = 0) (q : Nat) (hq : q < s.length) (hb : oneN (yO L s q) (s.getD q ((0 : Int),(0 : Int),([] : List Fld))) ≠ 0) (ht : ∀ j,j < q → oneN (yO L s j) (s.getD j ((0 : Int),(0 : Int),([] : List Fld))) = 0) :
    qU Tryz.prog 14 [.agg (toL rRL (L.1,L.2.1)),.one (.sl rEdt s)] (.tup [(true,toL rRL (L.1,L.2.1)),(false,[.lit (.slice none 0 0)]),(false,[.lit (.int .i64 q)]),(false,[.lit (.int .i64 (oneN (yO L s q) (s.getD q ((0 : Int),(0 : Int),([] : List Fld)))))])]):=by
  obtain ⟨hln,hgd⟩:=chkB_zero h;have hr:=refCheck9_c s hf (by omega);rw [chkB_good h] at hr;have hlen:=hL.len;refine yT (rs:=[.cell 4 28,.tmp 5,.tmp 6,.tmp 7]) Tryz.func14 rfl rfl rfl teOk rfl ?_;refine qC ?_;refine qB ?_;refine qC ?_;refine qC ?_;refine qB ?_;refine Or.inl ?_;refine zai (rfl) ?_;refine zei _ (zai (hr) ?_);refine qC ?_;refine qB ?_;refine qJ rfl (fun h22=>?_) (fun h22=>?_)
  ·try simp only [decide_eq_false_iff_not,Bool.not_eq_true'] at h22
   try simp only [zds] at h22
   simp at h22
  ·try simp only [decide_eq_true_eq,Bool.not_eq_false'] at h22
   try simp only [zds] at h22
   refine qL ?_;refine qC ?_;refine qB ?_;refine qC ?_;refine qB ?_;refine qC ?_;refine qC ?_;refine yP 11 3 (.int .i64) rfl ?_;refine qB ?_;refine qN ?_;refine qS (fun (i : Nat)=>i ≤ q) (fun (i : Nat)=>[(1,.one (.sl rEdt s)),(2,.one (.own 0 0)),(4,.one (.own 1 0)),(10,.one (.own 2 0)),(11,.one (.vec 3)),(12,ii .i64 i)]) (fun (i : Nat)=>[(0,.box 28 (toL rRL (L.1,L.2.1))),(1,.box 28 zRL9),(2,.box 28 (toL rRL ((yO L s i).1,(yO L s i).2.1))),(3,.vec 3 (.int .i64) (idsT L s i))]) 4 (fun (i : Nat)=>q - i) 0 (Nat.zero_le _) (qP ⟨rfl,rfl,rfl,rfl,rfl,rfl⟩ ⟨rfl,rfl,rfl,rfl⟩ rfl) ?_;intro i hI0;refine qC ?_;refine qC ?_;refine qB ?_;intro l7_2
   try simp only [zds] at l7_2
   refine qJ rfl (fun h30=>?_) (fun h30=>?_)
   ·try simp only [decide_eq_true_eq] at h30
    try simp only [zds] at h30
    have hil : i < s.length:=(by omega);obtain ⟨hLi,hfe⟩:=took hL hf hil;have hsn:=plays_snoc L hil;have hin:=idsT_snoc L s i;have hilen:=idsT_len L s i;refine qL ?_;refine qC ?_;refine qN ?_;refine qC ?_;refine yQ rfl ?_;refine qI 1 rfl rfl rfl (by kernel_rfl) ?_;refine qI 2 rfl rfl rfl (by kernel_rfl) ?_;refine qI 3 rfl rfl rfl (by kernel_rfl) ?_;refine zai (by first|omega|assumption|decide|(simp only [zds];omega)|(simp <;> omega)) ?_;refine qK [0,4,10] (by kernel_rfl) rfl ?_;refine zai ?_ ?_
    ·refine qK [4,10] (by kernel_rfl) rfl ?_;refine zai ?_ ?_
     ·refine qK [5,10] (by kernel_rfl) rfl ?_;refine zai ?_ ?_
      ·refine Or.inl ?_;refine zai (rfl) ?_;refine zei _ (zai (xR (yO L s i) hLi (by omega) (s.getD i ((0 : Int),(0 : Int),([] : List Fld))) hfe) ?_);refine qI 6 rfl rfl rfl (by kernel_rfl) ?_;refine qI 7 rfl rfl rfl (by kernel_rfl) ?_;refine qI 8 rfl rfl rfl (by kernel_rfl) ?_;refine qI 9 rfl rfl rfl (by kernel_rfl) ?_;refine qK [10] (by kernel_rfl) rfl ?_;refine qK [11] (by kernel_rfl) rfl ?_;refine qI 12 rfl rfl rfl (by kernel_rfl) ?_;refine qI 13 rfl rfl rfl (by kernel_rfl) ?_;refine qO (by kernel_rfl) ?_;refine qC ?_;refine qC ?_;refine qB ?_;refine qJ rfl (fun h44=>?_) (fun h44=>?_)
       ·try simp only [decide_eq_false_iff_not,Bool.not_eq_true'] at h44
        try simp only [zds] at h44
        have hiq : i = q:=(by rcases Nat.lt_or_ge i q with h1|h1;exact absurd (ht i h1) h44;omega);subst hiq;refine qC ?_;refine qB ?_;refine qM ?_;rfl
       ·try simp only [decide_eq_true_eq,Bool.not_eq_false'] at h44
        try simp only [zds] at h44
        have hlt : i < q:=(by rcases Nat.lt_or_ge i q with h1|h1;exact h1;have e1 : i = q:=(by omega);rw [e1] at h44;exact absurd h44 hb);refine qL ?_;refine qC ?_;refine qB ?_;refine qC ?_;refine qB ?_;refine qJ rfl (fun h50=>?_) (fun h50=>?_)
        ·try simp only [decide_eq_true_eq] at h50
         try simp only [zds] at h50
         refine qB ?_;refine zai (by first|exact qQ (by first|omega|(simp only [List.length_cons,List.length_nil];omega)|(simp;omega)) (by decide)|omega|assumption|decide|(simp only [zds];omega)|(simp <;> omega)) ?_;refine qB ?_;refine zai (by first|omega|assumption|decide|(simp only [zds];omega)|(simp <;> omega)) ?_;exact ⟨i + 1,by omega,by first|omega|(simp <;> omega),qP ⟨rfl,rfl,rfl,rfl,rfl,(qT (by omega))⟩ ⟨rfl,rfl,(xA hsn),(qW (by rw [hin];(try rw [if_pos (by omega)]);(try rw [if_neg (by omega),List.append_nil]);(try exact rfl)))⟩ rfl⟩
        ·try simp only [decide_eq_false_iff_not,Int.not_lt] at h50
         try simp only [zds] at h50
         refine qL ?_;refine qB ?_;refine zai (by first|omega|assumption|decide|(simp only [zds];omega)|(simp <;> omega)) ?_;exact ⟨i + 1,by omega,by first|omega|(simp <;> omega),qP ⟨rfl,rfl,rfl,rfl,rfl,(qT (by omega))⟩ ⟨rfl,rfl,(xA hsn),(qW (by rw [hin];(try rw [if_pos (by omega)]);(try rw [if_neg (by omega),List.append_nil]);(try exact rfl)))⟩ rfl⟩
      ·refine qK [5] (by kernel_rfl) rfl ?_;refine Or.inl ?_;refine zai (rfl) ?_;refine zei _ (zai (xR (yO L s i) hLi (by omega) (s.getD i ((0 : Int),(0 : Int),([] : List Fld))) hfe) ?_);refine qI 6 rfl rfl rfl (by kernel_rfl) ?_;refine qI 7 rfl rfl rfl (by kernel_rfl) ?_;refine qI 8 rfl rfl rfl (by kernel_rfl) ?_;refine qI 9 rfl rfl rfl (by kernel_rfl) ?_;refine qK [11] (by kernel_rfl) rfl ?_;refine qI 12 rfl rfl rfl (by kernel_rfl) ?_;refine qI 13 rfl rfl rfl (by kernel_rfl) ?_;refine qO (by kernel_rfl) ?_;refine qC ?_;refine qC ?_;refine qB ?_;refine qJ rfl (fun h44=>?_) (fun h44=>?_)
       ·try simp only [decide_eq_false_iff_not,Bool.not_eq_true'] at h44
        try simp only [zds] at h44
        have hiq : i = q:=(by rcases Nat.lt_or_ge i q with h1|h1;exact absurd (ht i h1) h44;omega);subst hiq;refine qC ?_;refine qB ?_;refine qM ?_;rfl
       ·try simp only [decide_eq_true_eq,Bool.not_eq_false'] at h44
        try simp only [zds] at h44
        have hlt : i < q:=(by rcases Nat.lt_or_ge i q with h1|h1;exact h1;have e1 : i = q:=(by omega);rw [e1] at h44;exact absurd h44 hb);refine qL ?_;refine qC ?_;refine qB ?_;refine qC ?_;refine qB ?_;refine qJ rfl (fun h50=>?_) (fun h50=>?_)
        ·try simp only [decide_eq_true_eq] at h50
         try simp only [zds] at h50
         refine qB ?_;refine zai (by first|exact qQ (by first|omega|(simp only [List.length_cons,List.length_nil];omega)|(simp;omega)) (by decide)|omega|assumption|decide|(simp only [zds];omega)|(simp <;> omega)) ?_;refine qB ?_;refine zai (by first|omega|assumption|decide|(simp only [zds];omega)|(simp <;> omega)) ?_;exact ⟨i + 1,by omega,by first|omega|(simp <;> omega),qP ⟨rfl,rfl,rfl,rfl,rfl,(qT (by omega))⟩ ⟨rfl,rfl,(xA hsn),(qW (by rw [hin];(try rw [if_pos (by omega)]);(try rw [if_neg (by omega),List.append_nil]);(try exact rfl)))⟩ rfl⟩
        ·try simp only [decide_eq_false_iff_not,Int.not_lt] at h50
         try simp only [zds] at h50
         refine qL ?_;refine qB ?_;refine zai (by first|omega|assumption|decide|(simp only [zds];omega)|(simp <;> omega)) ?_;exact ⟨i + 1,by omega,by first|omega|(simp <;> omega),qP ⟨rfl,rfl,rfl,rfl,rfl,(qT (by omega))⟩ ⟨rfl,rfl,(xA hsn),(qW (by rw [hin];(try rw [if_pos (by omega)]);(try rw [if_neg (by omega),List.append_nil]);(try exact rfl)))⟩ rfl⟩
     ·refine qK [4] (by kernel_rfl) rfl ?_;refine qK [5] (by kernel_rfl) rfl ?_;refine Or.inl ?_;refine zai (rfl) ?_;refine zei _ (zai (xR (yO L s i) hLi (by omega) (s.getD i ((0 : Int),(0 : Int),([] : List Fld))) hfe) ?_);refine qI 6 rfl rfl rfl (by kernel_rfl) ?_;refine qI 7 rfl rfl rfl (by kernel_rfl) ?_;refine qI 8 rfl rfl rfl (by kernel_rfl) ?_;refine qI 9 rfl rfl rfl (by kernel_rfl) ?_;refine qK [11] (by kernel_rfl) rfl ?_;refine qI 12 rfl rfl rfl (by kernel_rfl) ?_;refine qI 13 rfl rfl rfl (by kernel_rfl) ?_;refine qO (by kernel_rfl) ?_;refine qC ?_;refine qC ?_;refine qB ?_;refine qJ rfl (fun h44=>?_) (fun h44=>?_)
      ·try simp only [decide_eq_false_iff_not,Bool.not_eq_true'] at h44
       try simp only [zds] at h44
       have hiq : i = q:=(by rcases Nat.lt_or_ge i q with h1|h1;exact absurd (ht i h1) h44;omega);subst hiq;refine qC ?_;refine qB ?_;refine qM ?_;rfl
      ·try simp only [decide_eq_true_eq,Bool.not_eq_false'] at h44
       try simp only [zds] at h44
       have hlt : i < q:=(by rcases Nat.lt_or_ge i q with h1|h1;exact h1;have e1 : i = q:=(by omega);rw [e1] at h44;exact absurd h44 hb);refine qL ?_;refine qC ?_;refine qB ?_;refine qC ?_;refine qB ?_;refine qJ rfl (fun h50=>?_) (fun h50=>?_)
       ·try simp only [decide_eq_true_eq] at h50
        try simp only [zds] at h50
        refine qB ?_;refine zai (by first|exact qQ (by first|omega|(simp only [List.length_cons,List.length_nil];omega)|(simp;omega)) (by decide)|omega|assumption|decide|(simp only [zds];omega)|(simp <;> omega)) ?_;refine qB ?_;refine zai (by first|omega|assumption|decide|(simp only [zds];omega)|(simp <;> omega)) ?_;exact ⟨i + 1,by omega,by first|omega|(simp <;> omega),qP ⟨rfl,rfl,rfl,rfl,rfl,(qT (by omega))⟩ ⟨rfl,rfl,(xA hsn),(qW (by rw [hin];(try rw [if_pos (by omega)]);(try rw [if_neg (by omega),List.append_nil]);(try exact rfl)))⟩ rfl⟩
       ·try simp only [decide_eq_false_iff_not,Int.not_lt] at h50
        try simp only [zds] at h50
        refine qL ?_;refine qB ?_;refine zai (by first|omega|assumption|decide|(simp only [zds];omega)|(simp <;> omega)) ?_;exact ⟨i + 1,by omega,by first|omega|(simp <;> omega),qP ⟨rfl,rfl,rfl,rfl,rfl,(qT (by omega))⟩ ⟨rfl,rfl,(xA hsn),(qW (by rw [hin];(try rw [if_pos (by omega)]);(try rw [if_neg (by omega),List.append_nil]);(try exact rfl)))⟩ rfl⟩
    refine zai ?_ ?_
    ·refine qK [0,10] (by kernel_rfl) rfl ?_;refine zai ?_ ?_
     ·refine qK [5,10] (by kernel_rfl) rfl ?_;refine zai ?_ ?_
      ·refine Or.inl ?_;refine zai (rfl) ?_;refine zei _ (zai (xR (yO L s i) hLi (by omega) (s.getD i ((0 : Int),(0 : Int),([] : List Fld))) hfe) ?_);refine qI 6 rfl rfl rfl (by kernel_rfl) ?_;refine qI 7 rfl rfl rfl (by kernel_rfl) ?_;refine qI 8 rfl rfl rfl (by kernel_rfl) ?_;refine qI 9 rfl rfl rfl (by kernel_rfl) ?_;refine qK [10] (by kernel_rfl) rfl ?_;refine qK [11] (by kernel_rfl) rfl ?_;refine qI 12 rfl rfl rfl (by kernel_rfl) ?_;refine qI 13 rfl rfl rfl (by kernel_rfl) ?_;refine qO (by kernel_rfl) ?_;refine qC ?_;refine qC ?_;refine qB ?_;refine qJ rfl (fun h44=>?_) (fun h44=>?_)
       ·try simp only [decide_eq_false_iff_not,Bool.not_eq_true'] at h44
        try simp only [zds] at h44
        have hiq : i = q:=(by rcases Nat.lt_or_ge i q with h1|h1;exact absurd (ht i h1) h44;omega);subst hiq;refine qC ?_;refine qB ?_;refine qM ?_;rfl
       ·try simp only [decide_eq_true_eq,Bool.not_eq_false'] at h44
        try simp only [zds] at h44
        have hlt : i < q:=(by rcases Nat.lt_or_ge i q with h1|h1;exact h1;have e1 : i = q:=(by omega);rw [e1] at h44;exact absurd h44 hb);refine qL ?_;refine qC ?_;refine qB ?_;refine qC ?_;refine qB ?_;refine qJ rfl (fun h50=>?_) (fun h50=>?_)
        ·try simp only [decide_eq_true_eq] at h50
         try simp only [zds] at h50
         refine qB ?_;refine zai (by first|exact qQ (by first|omega|(simp only [List.length_cons,List.length_nil];omega)|(simp;omega)) (by decide)|omega|assumption|decide|(simp only [zds];omega)|(simp <;> omega)) ?_;refine qB ?_;refine zai (by first|omega|assumption|decide|(simp only [zds];omega)|(simp <;> omega)) ?_;exact ⟨i + 1,by omega,by first|omega|(simp <;> omega),qP ⟨rfl,rfl,rfl,rfl,rfl,(qT (by omega))⟩ ⟨rfl,rfl,(xA hsn),(qW (by rw [hin];(try rw [if_pos (by omega)]);(try rw [if_neg (by omega),List.append_nil]);(try exact rfl)))⟩ rfl⟩
        ·try simp only [decide_eq_false_iff_not,Int.not_lt] at h50
         try simp only [zds] at h50
         refine qL ?_;refine qB ?_;refine zai (by first|omega|assumption|decide|(simp only [zds];omega)|(simp <;> omega)) ?_;exact ⟨i + 1,by omega,by first|omega|(simp <;> omega),qP ⟨rfl,rfl,rfl,rfl,rfl,(qT (by omega))⟩ ⟨rfl,rfl,(xA hsn),(qW (by rw [hin];(try rw [if_pos (by omega)]);(try rw [if_neg (by omega),List.append_nil]);(try exact rfl)))⟩ rfl⟩
      ·refine qK [5] (by kernel_rfl) rfl ?_;refine Or.inl ?_;refine zai (rfl) ?_;refine zei _ (zai (xR (yO L s i) hLi (by omega) (s.getD i ((0 : Int),(0 : Int),([] : List Fld))) hfe) ?_);refine qI 6 rfl rfl rfl (by kernel_rfl) ?_;refine qI 7 rfl rfl rfl (by kernel_rfl) ?_;refine qI 8 rfl rfl rfl (by kernel_rfl) ?_;refine qI 9 rfl rfl rfl (by kernel_rfl) ?_;refine qK [11] (by kernel_rfl) rfl ?_;refine qI 12 rfl rfl rfl (by kernel_rfl) ?_;refine qI 13 rfl rfl rfl (by kernel_rfl) ?_;refine qO (by kernel_rfl) ?_;refine qC ?_;refine qC ?_;refine qB ?_;refine qJ rfl (fun h44=>?_) (fun h44=>?_)
       ·try simp only [decide_eq_false_iff_not,Bool.not_eq_true'] at h44
        try simp only [zds] at h44
        have hiq : i = q:=(by rcases Nat.lt_or_ge i q with h1|h1;exact absurd (ht i h1) h44;omega);subst hiq;refine qC ?_;refine qB ?_;refine qM ?_;rfl
       ·try simp only [decide_eq_true_eq,Bool.not_eq_false'] at h44
        try simp only [zds] at h44
        have hlt : i < q:=(by rcases Nat.lt_or_ge i q with h1|h1;exact h1;have e1 : i = q:=(by omega);rw [e1] at h44;exact absurd h44 hb);refine qL ?_;refine qC ?_;refine qB ?_;refine qC ?_;refine qB ?_;refine qJ rfl (fun h50=>?_) (fun h50=>?_)
        ·try simp only [decide_eq_true_eq] at h50
         try simp only [zds] at h50
         refine qB ?_;refine zai (by first|exact qQ (by first|omega|(simp only [List.length_cons,List.length_nil];omega)|(simp;omega)) (by decide)|omega|assumption|decide|(simp only [zds];omega)|(simp <;> omega)) ?_;refine qB ?_;refine zai (by first|omega|assumption|decide|(simp only [zds];omega)|(simp <;> omega)) ?_;exact ⟨i + 1,by omega,by first|omega|(simp <;> omega),qP ⟨rfl,rfl,rfl,rfl,rfl,(qT (by omega))⟩ ⟨rfl,rfl,(xA hsn),(qW (by rw [hin];(try rw [if_pos (by omega)]);(try rw [if_neg (by omega),List.append_nil]);(try exact rfl)))⟩ rfl⟩
        ·try simp only [decide_eq_false_iff_not,Int.not_lt] at h50
         try simp only [zds] at h50
         refine qL ?_;refine qB ?_;refine zai (by first|omega|assumption|decide|(simp only [zds];omega)|(simp <;> omega)) ?_;exact ⟨i + 1,by omega,by first|omega|(simp <;> omega),qP ⟨rfl,rfl,rfl,rfl,rfl,(qT (by omega))⟩ ⟨rfl,rfl,(xA hsn),(qW (by rw [hin];(try rw [if_pos (by omega)]);(try rw [if_neg (by omega),List.append_nil]);(try exact rfl)))⟩ rfl⟩
     ·refine qK [0] (by kernel_rfl) rfl ?_;refine qK [5] (by kernel_rfl) rfl ?_;refine Or.inl ?_;refine zai (rfl) ?_;refine zei _ (zai (xR (yO L s i) hLi (by omega) (s.getD i ((0 : Int),(0 : Int),([] : List Fld))) hfe) ?_);refine qI 6 rfl rfl rfl (by kernel_rfl) ?_;refine qI 7 rfl rfl rfl (by kernel_rfl) ?_;refine qI 8 rfl rfl rfl (by kernel_rfl) ?_;refine qI 9 rfl rfl rfl (by kernel_rfl) ?_;refine qK [11] (by kernel_rfl) rfl ?_;refine qI 12 rfl rfl rfl (by kernel_rfl) ?_;refine qI 13 rfl rfl rfl (by kernel_rfl) ?_;refine qO (by kernel_rfl) ?_;refine qC ?_;refine qC ?_;refine qB ?_;refine qJ rfl (fun h44=>?_) (fun h44=>?_)
      ·try simp only [decide_eq_false_iff_not,Bool.not_eq_true'] at h44
       try simp only [zds] at h44
       have hiq : i = q:=(by rcases Nat.lt_or_ge i q with h1|h1;exact absurd (ht i h1) h44;omega);subst hiq;refine qC ?_;refine qB ?_;refine qM ?_;rfl
      ·try simp only [decide_eq_true_eq,Bool.not_eq_false'] at h44
       try simp only [zds] at h44
       have hlt : i < q:=(by rcases Nat.lt_or_ge i q with h1|h1;exact h1;have e1 : i = q:=(by omega);rw [e1] at h44;exact absurd h44 hb);refine qL ?_;refine qC ?_;refine qB ?_;refine qC ?_;refine qB ?_;refine qJ rfl (fun h50=>?_) (fun h50=>?_)
       ·try simp only [decide_eq_true_eq] at h50
        try simp only [zds] at h50
        refine qB ?_;refine zai (by first|exact qQ (by first|omega|(simp only [List.length_cons,List.length_nil];omega)|(simp;omega)) (by decide)|omega|assumption|decide|(simp only [zds];omega)|(simp <;> omega)) ?_;refine qB ?_;refine zai (by first|omega|assumption|decide|(simp only [zds];omega)|(simp <;> omega)) ?_;exact ⟨i + 1,by omega,by first|omega|(simp <;> omega),qP ⟨rfl,rfl,rfl,rfl,rfl,(qT (by omega))⟩ ⟨rfl,rfl,(xA hsn),(qW (by rw [hin];(try rw [if_pos (by omega)]);(try rw [if_neg (by omega),List.append_nil]);(try exact rfl)))⟩ rfl⟩
       ·try simp only [decide_eq_false_iff_not,Int.not_lt] at h50
        try simp only [zds] at h50
        refine qL ?_;refine qB ?_;refine zai (by first|omega|assumption|decide|(simp only [zds];omega)|(simp <;> omega)) ?_;exact ⟨i + 1,by omega,by first|omega|(simp <;> omega),qP ⟨rfl,rfl,rfl,rfl,rfl,(qT (by omega))⟩ ⟨rfl,rfl,(xA hsn),(qW (by rw [hin];(try rw [if_pos (by omega)]);(try rw [if_neg (by omega),List.append_nil]);(try exact rfl)))⟩ rfl⟩
    ·refine qK [0,4] (by kernel_rfl) rfl ?_;refine zai ?_ ?_
     ·refine qK [4] (by kernel_rfl) rfl ?_;refine qK [5] (by kernel_rfl) rfl ?_;refine Or.inl ?_;refine zai (rfl) ?_;refine zei _ (zai (xR (yO L s i) hLi (by omega) (s.getD i ((0 : Int),(0 : Int),([] : List Fld))) hfe) ?_);refine qI 6 rfl rfl rfl (by kernel_rfl) ?_;refine qI 7 rfl rfl rfl (by kernel_rfl) ?_;refine qI 8 rfl rfl rfl (by kernel_rfl) ?_;refine qI 9 rfl rfl rfl (by kernel_rfl) ?_;refine qK [11] (by kernel_rfl) rfl ?_;refine qI 12 rfl rfl rfl (by kernel_rfl) ?_;refine qI 13 rfl rfl rfl (by kernel_rfl) ?_;refine qO (by kernel_rfl) ?_;refine qC ?_;refine qC ?_;refine qB ?_;refine qJ rfl (fun h44=>?_) (fun h44=>?_)
      ·try simp only [decide_eq_false_iff_not,Bool.not_eq_true'] at h44
       try simp only [zds] at h44
       have hiq : i = q:=(by rcases Nat.lt_or_ge i q with h1|h1;exact absurd (ht i h1) h44;omega);subst hiq;refine qC ?_;refine qB ?_;refine qM ?_;rfl
      ·try simp only [decide_eq_true_eq,Bool.not_eq_false'] at h44
       try simp only [zds] at h44
       have hlt : i < q:=(by rcases Nat.lt_or_ge i q with h1|h1;exact h1;have e1 : i = q:=(by omega);rw [e1] at h44;exact absurd h44 hb);refine qL ?_;refine qC ?_;refine qB ?_;refine qC ?_;refine qB ?_;refine qJ rfl (fun h50=>?_) (fun h50=>?_)
       ·try simp only [decide_eq_true_eq] at h50
        try simp only [zds] at h50
        refine qB ?_;refine zai (by first|exact qQ (by first|omega|(simp only [List.length_cons,List.length_nil];omega)|(simp;omega)) (by decide)|omega|assumption|decide|(simp only [zds];omega)|(simp <;> omega)) ?_;refine qB ?_;refine zai (by first|omega|assumption|decide|(simp only [zds];omega)|(simp <;> omega)) ?_;exact ⟨i + 1,by omega,by first|omega|(simp <;> omega),qP ⟨rfl,rfl,rfl,rfl,rfl,(qT (by omega))⟩ ⟨rfl,rfl,(xA hsn),(qW (by rw [hin];(try rw [if_pos (by omega)]);(try rw [if_neg (by omega),List.append_nil]);(try exact rfl)))⟩ rfl⟩
       ·try simp only [decide_eq_false_iff_not,Int.not_lt] at h50
        try simp only [zds] at h50
        refine qL ?_;refine qB ?_;refine zai (by first|omega|assumption|decide|(simp only [zds];omega)|(simp <;> omega)) ?_;exact ⟨i + 1,by omega,by first|omega|(simp <;> omega),qP ⟨rfl,rfl,rfl,rfl,rfl,(qT (by omega))⟩ ⟨rfl,rfl,(xA hsn),(qW (by rw [hin];(try rw [if_pos (by omega)]);(try rw [if_neg (by omega),List.append_nil]);(try exact rfl)))⟩ rfl⟩
     ·refine qK [0] (by kernel_rfl) rfl ?_;refine qK [5] (by kernel_rfl) rfl ?_;refine Or.inl ?_;refine zai (rfl) ?_;refine zei _ (zai (xR (yO L s i) hLi (by omega) (s.getD i ((0 : Int),(0 : Int),([] : List Fld))) hfe) ?_);refine qI 6 rfl rfl rfl (by kernel_rfl) ?_;refine qI 7 rfl rfl rfl (by kernel_rfl) ?_;refine qI 8 rfl rfl rfl (by kernel_rfl) ?_;refine qI 9 rfl rfl rfl (by kernel_rfl) ?_;refine qK [11] (by kernel_rfl) rfl ?_;refine qI 12 rfl rfl rfl (by kernel_rfl) ?_;refine qI 13 rfl rfl rfl (by kernel_rfl) ?_;refine qO (by kernel_rfl) ?_;refine qC ?_;refine qC ?_;refine qB ?_;refine qJ rfl (fun h44=>?_) (fun h44=>?_)
      ·try simp only [decide_eq_false_iff_not,Bool.not_eq_true'] at h44
       try simp only [zds] at h44
       have hiq : i = q:=(by rcases Nat.lt_or_ge i q with h1|h1;exact absurd (ht i h1) h44;omega);subst hiq;refine qC ?_;refine qB ?_;refine qM ?_;rfl
      ·try simp only [decide_eq_true_eq,Bool.not_eq_false'] at h44
       try simp only [zds] at h44
       have hlt : i < q:=(by rcases Nat.lt_or_ge i q with h1|h1;exact h1;have e1 : i = q:=(by omega);rw [e1] at h44;exact absurd h44 hb);refine qL ?_;refine qC ?_;refine qB ?_;refine qC ?_;refine qB ?_;refine qJ rfl (fun h50=>?_) (fun h50=>?_)
       ·try simp only [decide_eq_true_eq] at h50
        try simp only [zds] at h50
        refine qB ?_;refine zai (by first|exact qQ (by first|omega|(simp only [List.length_cons,List.length_nil];omega)|(simp;omega)) (by decide)|omega|assumption|decide|(simp only [zds];omega)|(simp <;> omega)) ?_;refine qB ?_;refine zai (by first|omega|assumption|decide|(simp only [zds];omega)|(simp <;> omega)) ?_;exact ⟨i + 1,by omega,by first|omega|(simp <;> omega),qP ⟨rfl,rfl,rfl,rfl,rfl,(qT (by omega))⟩ ⟨rfl,rfl,(xA hsn),(qW (by rw [hin];(try rw [if_pos (by omega)]);(try rw [if_neg (by omega),List.append_nil]);(try exact rfl)))⟩ rfl⟩
       ·try simp only [decide_eq_false_iff_not,Int.not_lt] at h50
        try simp only [zds] at h50
        refine qL ?_;refine qB ?_;refine zai (by first|omega|assumption|decide|(simp only [zds];omega)|(simp <;> omega)) ?_;exact ⟨i + 1,by omega,by first|omega|(simp <;> omega),qP ⟨rfl,rfl,rfl,rfl,rfl,(qT (by omega))⟩ ⟨rfl,rfl,(xA hsn),(qW (by rw [hin];(try rw [if_pos (by omega)]);(try rw [if_neg (by omega),List.append_nil]);(try exact rfl)))⟩ rfl⟩
   ·try simp only [decide_eq_false_iff_not,Int.not_lt] at h30
    try simp only [zds] at h30
    omega
theorem refDoOk_c {c : Nat} (L : Lst) (s : List Edt) (hL : LOk c L) (hc : c + s.length ≤ 200000) (hf : ∀ e ∈ s,yD e.2.2) (h : (chkB s).2 = 0) (ht : ∀ j,j < s.length → oneN (yO L s j) (s.getD j ((0 : Int),(0 : Int),([] : List Fld))) = 0) :
    qU Tryz.prog 14 [.agg (toL rRL (L.1,L.2.1)),.one (.sl rEdt s)] (.tup [(true,toL rRL ((yO L s s.length).1,(yO L s s.length).2.1)),(false,[.sl (.int .i64) (idsT L s s.length)]),(false,[.lit (.int .i64 (-9))]),(false,[.lit (.int .i64 0)])]):=by
  obtain ⟨hln,hgd⟩:=chkB_zero h;have hr:=refCheck9_c s hf (by omega);rw [chkB_good h] at hr;have hlen:=hL.len;refine yT (rs:=[.cell 4 28,.tmp 5,.tmp 6,.tmp 7]) Tryz.func14 rfl rfl rfl teOk rfl ?_;refine qC ?_;refine qB ?_;refine qC ?_;refine qC ?_;refine qB ?_;refine Or.inl ?_;refine zai (rfl) ?_;refine zei _ (zai (hr) ?_);refine qC ?_;refine qB ?_;refine qJ rfl (fun h22=>?_) (fun h22=>?_)
  ·try simp only [decide_eq_false_iff_not,Bool.not_eq_true'] at h22
   try simp only [zds] at h22
   simp at h22
  ·try simp only [decide_eq_true_eq,Bool.not_eq_false'] at h22
   try simp only [zds] at h22
   refine qL ?_;refine qC ?_;refine qB ?_;refine qC ?_;refine qB ?_;refine qC ?_;refine qC ?_;refine yP 11 3 (.int .i64) rfl ?_;refine qB ?_;refine qN ?_;refine qS (fun (i : Nat)=>i ≤ s.length) (fun (i : Nat)=>[(1,.one (.sl rEdt s)),(2,.one (.own 0 0)),(4,.one (.own 1 0)),(10,.one (.own 2 0)),(11,.one (.vec 3)),(12,ii .i64 i)]) (fun (i : Nat)=>[(0,.box 28 (toL rRL (L.1,L.2.1))),(1,.box 28 zRL9),(2,.box 28 (toL rRL ((yO L s i).1,(yO L s i).2.1))),(3,.vec 3 (.int .i64) (idsT L s i))]) 4 (fun (i : Nat)=>s.length - i) 0 (Nat.zero_le _) (qP ⟨rfl,rfl,rfl,rfl,rfl,rfl⟩ ⟨rfl,rfl,rfl,rfl⟩ rfl) ?_;intro i hI0;refine qC ?_;refine qC ?_;refine qB ?_;intro l7_2
   try simp only [zds] at l7_2
   refine qJ rfl (fun h30=>?_) (fun h30=>?_)
   ·try simp only [decide_eq_true_eq] at h30
    try simp only [zds] at h30
    have hil : i < s.length:=(by omega);obtain ⟨hLi,hfe⟩:=took hL hf hil;have hsn:=plays_snoc L hil;have hin:=idsT_snoc L s i;have hilen:=idsT_len L s i;refine qL ?_;refine qC ?_;refine qN ?_;refine qC ?_;refine yQ rfl ?_;refine qI 1 rfl rfl rfl (by kernel_rfl) ?_;refine qI 2 rfl rfl rfl (by kernel_rfl) ?_;refine qI 3 rfl rfl rfl (by kernel_rfl) ?_;refine zai (by first|omega|assumption|decide|(simp only [zds];omega)|(simp <;> omega)) ?_;refine qK [0,4,10] (by kernel_rfl) rfl ?_;refine zai ?_ ?_
    ·refine qK [4,10] (by kernel_rfl) rfl ?_;refine zai ?_ ?_
     ·refine qK [5,10] (by kernel_rfl) rfl ?_;refine zai ?_ ?_
      ·refine Or.inl ?_;refine zai (rfl) ?_;refine zei _ (zai (xR (yO L s i) hLi (by omega) (s.getD i ((0 : Int),(0 : Int),([] : List Fld))) hfe) ?_);refine qI 6 rfl rfl rfl (by kernel_rfl) ?_;refine qI 7 rfl rfl rfl (by kernel_rfl) ?_;refine qI 8 rfl rfl rfl (by kernel_rfl) ?_;refine qI 9 rfl rfl rfl (by kernel_rfl) ?_;refine qK [10] (by kernel_rfl) rfl ?_;refine qK [11] (by kernel_rfl) rfl ?_;refine qI 12 rfl rfl rfl (by kernel_rfl) ?_;refine qI 13 rfl rfl rfl (by kernel_rfl) ?_;refine qO (by kernel_rfl) ?_;refine qC ?_;refine qC ?_;refine qB ?_;refine qJ rfl (fun h44=>?_) (fun h44=>?_)
       ·try simp only [decide_eq_false_iff_not,Bool.not_eq_true'] at h44
        try simp only [zds] at h44
        exact absurd (ht i hil) h44
       ·try simp only [decide_eq_true_eq,Bool.not_eq_false'] at h44
        try simp only [zds] at h44
        refine qL ?_;refine qC ?_;refine qB ?_;refine qC ?_;refine qB ?_;refine qJ rfl (fun h50=>?_) (fun h50=>?_)
        ·try simp only [decide_eq_true_eq] at h50
         try simp only [zds] at h50
         refine qB ?_;refine zai (by first|exact qQ (by first|omega|(simp only [List.length_cons,List.length_nil];omega)|(simp;omega)) (by decide)|omega|assumption|decide|(simp only [zds];omega)|(simp <;> omega)) ?_;refine qB ?_;refine zai (by first|omega|assumption|decide|(simp only [zds];omega)|(simp <;> omega)) ?_;exact ⟨i + 1,by omega,by first|omega|(simp <;> omega),qP ⟨rfl,rfl,rfl,rfl,rfl,(qT (by omega))⟩ ⟨rfl,rfl,(xA hsn),(qW (by rw [hin];(try rw [if_pos (by omega)]);(try rw [if_neg (by omega),List.append_nil]);(try exact rfl)))⟩ rfl⟩
        ·try simp only [decide_eq_false_iff_not,Int.not_lt] at h50
         try simp only [zds] at h50
         refine qL ?_;refine qB ?_;refine zai (by first|omega|assumption|decide|(simp only [zds];omega)|(simp <;> omega)) ?_;exact ⟨i + 1,by omega,by first|omega|(simp <;> omega),qP ⟨rfl,rfl,rfl,rfl,rfl,(qT (by omega))⟩ ⟨rfl,rfl,(xA hsn),(qW (by rw [hin];(try rw [if_pos (by omega)]);(try rw [if_neg (by omega),List.append_nil]);(try exact rfl)))⟩ rfl⟩
      ·refine qK [5] (by kernel_rfl) rfl ?_;refine Or.inl ?_;refine zai (rfl) ?_;refine zei _ (zai (xR (yO L s i) hLi (by omega) (s.getD i ((0 : Int),(0 : Int),([] : List Fld))) hfe) ?_);refine qI 6 rfl rfl rfl (by kernel_rfl) ?_;refine qI 7 rfl rfl rfl (by kernel_rfl) ?_;refine qI 8 rfl rfl rfl (by kernel_rfl) ?_;refine qI 9 rfl rfl rfl (by kernel_rfl) ?_;refine qK [11] (by kernel_rfl) rfl ?_;refine qI 12 rfl rfl rfl (by kernel_rfl) ?_;refine qI 13 rfl rfl rfl (by kernel_rfl) ?_;refine qO (by kernel_rfl) ?_;refine qC ?_;refine qC ?_;refine qB ?_;refine qJ rfl (fun h44=>?_) (fun h44=>?_)
       ·try simp only [decide_eq_false_iff_not,Bool.not_eq_true'] at h44
        try simp only [zds] at h44
        exact absurd (ht i hil) h44
       ·try simp only [decide_eq_true_eq,Bool.not_eq_false'] at h44
        try simp only [zds] at h44
        refine qL ?_;refine qC ?_;refine qB ?_;refine qC ?_;refine qB ?_;refine qJ rfl (fun h50=>?_) (fun h50=>?_)
        ·try simp only [decide_eq_true_eq] at h50
         try simp only [zds] at h50
         refine qB ?_;refine zai (by first|exact qQ (by first|omega|(simp only [List.length_cons,List.length_nil];omega)|(simp;omega)) (by decide)|omega|assumption|decide|(simp only [zds];omega)|(simp <;> omega)) ?_;refine qB ?_;refine zai (by first|omega|assumption|decide|(simp only [zds];omega)|(simp <;> omega)) ?_;exact ⟨i + 1,by omega,by first|omega|(simp <;> omega),qP ⟨rfl,rfl,rfl,rfl,rfl,(qT (by omega))⟩ ⟨rfl,rfl,(xA hsn),(qW (by rw [hin];(try rw [if_pos (by omega)]);(try rw [if_neg (by omega),List.append_nil]);(try exact rfl)))⟩ rfl⟩
        ·try simp only [decide_eq_false_iff_not,Int.not_lt] at h50
         try simp only [zds] at h50
         refine qL ?_;refine qB ?_;refine zai (by first|omega|assumption|decide|(simp only [zds];omega)|(simp <;> omega)) ?_;exact ⟨i + 1,by omega,by first|omega|(simp <;> omega),qP ⟨rfl,rfl,rfl,rfl,rfl,(qT (by omega))⟩ ⟨rfl,rfl,(xA hsn),(qW (by rw [hin];(try rw [if_pos (by omega)]);(try rw [if_neg (by omega),List.append_nil]);(try exact rfl)))⟩ rfl⟩
     ·refine qK [4] (by kernel_rfl) rfl ?_;refine qK [5] (by kernel_rfl) rfl ?_;refine Or.inl ?_;refine zai (rfl) ?_;refine zei _ (zai (xR (yO L s i) hLi (by omega) (s.getD i ((0 : Int),(0 : Int),([] : List Fld))) hfe) ?_);refine qI 6 rfl rfl rfl (by kernel_rfl) ?_;refine qI 7 rfl rfl rfl (by kernel_rfl) ?_;refine qI 8 rfl rfl rfl (by kernel_rfl) ?_;refine qI 9 rfl rfl rfl (by kernel_rfl) ?_;refine qK [11] (by kernel_rfl) rfl ?_;refine qI 12 rfl rfl rfl (by kernel_rfl) ?_;refine qI 13 rfl rfl rfl (by kernel_rfl) ?_;refine qO (by kernel_rfl) ?_;refine qC ?_;refine qC ?_;refine qB ?_;refine qJ rfl (fun h44=>?_) (fun h44=>?_)
      ·try simp only [decide_eq_false_iff_not,Bool.not_eq_true'] at h44
       try simp only [zds] at h44
       exact absurd (ht i hil) h44
      ·try simp only [decide_eq_true_eq,Bool.not_eq_false'] at h44
       try simp only [zds] at h44
       refine qL ?_;refine qC ?_;refine qB ?_;refine qC ?_;refine qB ?_;refine qJ rfl (fun h50=>?_) (fun h50=>?_)
       ·try simp only [decide_eq_true_eq] at h50
        try simp only [zds] at h50
        refine qB ?_;refine zai (by first|exact qQ (by first|omega|(simp only [List.length_cons,List.length_nil];omega)|(simp;omega)) (by decide)|omega|assumption|decide|(simp only [zds];omega)|(simp <;> omega)) ?_;refine qB ?_;refine zai (by first|omega|assumption|decide|(simp only [zds];omega)|(simp <;> omega)) ?_;exact ⟨i + 1,by omega,by first|omega|(simp <;> omega),qP ⟨rfl,rfl,rfl,rfl,rfl,(qT (by omega))⟩ ⟨rfl,rfl,(xA hsn),(qW (by rw [hin];(try rw [if_pos (by omega)]);(try rw [if_neg (by omega),List.append_nil]);(try exact rfl)))⟩ rfl⟩
       ·try simp only [decide_eq_false_iff_not,Int.not_lt] at h50
        try simp only [zds] at h50
        refine qL ?_;refine qB ?_;refine zai (by first|omega|assumption|decide|(simp only [zds];omega)|(simp <;> omega)) ?_;exact ⟨i + 1,by omega,by first|omega|(simp <;> omega),qP ⟨rfl,rfl,rfl,rfl,rfl,(qT (by omega))⟩ ⟨rfl,rfl,(xA hsn),(qW (by rw [hin];(try rw [if_pos (by omega)]);(try rw [if_neg (by omega),List.append_nil]);(try exact rfl)))⟩ rfl⟩
    refine zai ?_ ?_
    ·refine qK [0,10] (by kernel_rfl) rfl ?_;refine zai ?_ ?_
     ·refine qK [5,10] (by kernel_rfl) rfl ?_;refine zai ?_ ?_
      ·refine Or.inl ?_;refine zai (rfl) ?_;refine zei _ (zai (xR (yO L s i) hLi (by omega) (s.getD i ((0 : Int),(0 : Int),([] : List Fld))) hfe) ?_);refine qI 6 rfl rfl rfl (by kernel_rfl) ?_;refine qI 7 rfl rfl rfl (by kernel_rfl) ?_;refine qI 8 rfl rfl rfl (by kernel_rfl) ?_;refine qI 9 rfl rfl rfl (by kernel_rfl) ?_;refine qK [10] (by kernel_rfl) rfl ?_;refine qK [11] (by kernel_rfl) rfl ?_;refine qI 12 rfl rfl rfl (by kernel_rfl) ?_;refine qI 13 rfl rfl rfl (by kernel_rfl) ?_;refine qO (by kernel_rfl) ?_;refine qC ?_;refine qC ?_;refine qB ?_;refine qJ rfl (fun h44=>?_) (fun h44=>?_)
       ·try simp only [decide_eq_false_iff_not,Bool.not_eq_true'] at h44
        try simp only [zds] at h44
        exact absurd (ht i hil) h44
       ·try simp only [decide_eq_true_eq,Bool.not_eq_false'] at h44
        try simp only [zds] at h44
        refine qL ?_;refine qC ?_;refine qB ?_;refine qC ?_;refine qB ?_;refine qJ rfl (fun h50=>?_) (fun h50=>?_)
        ·try simp only [decide_eq_true_eq] at h50
         try simp only [zds] at h50
         refine qB ?_;refine zai (by first|exact qQ (by first|omega|(simp only [List.length_cons,List.length_nil];omega)|(simp;omega)) (by decide)|omega|assumption|decide|(simp only [zds];omega)|(simp <;> omega)) ?_;refine qB ?_;refine zai (by first|omega|assumption|decide|(simp only [zds];omega)|(simp <;> omega)) ?_;exact ⟨i + 1,by omega,by first|omega|(simp <;> omega),qP ⟨rfl,rfl,rfl,rfl,rfl,(qT (by omega))⟩ ⟨rfl,rfl,(xA hsn),(qW (by rw [hin];(try rw [if_pos (by omega)]);(try rw [if_neg (by omega),List.append_nil]);(try exact rfl)))⟩ rfl⟩
        ·try simp only [decide_eq_false_iff_not,Int.not_lt] at h50
         try simp only [zds] at h50
         refine qL ?_;refine qB ?_;refine zai (by first|omega|assumption|decide|(simp only [zds];omega)|(simp <;> omega)) ?_;exact ⟨i + 1,by omega,by first|omega|(simp <;> omega),qP ⟨rfl,rfl,rfl,rfl,rfl,(qT (by omega))⟩ ⟨rfl,rfl,(xA hsn),(qW (by rw [hin];(try rw [if_pos (by omega)]);(try rw [if_neg (by omega),List.append_nil]);(try exact rfl)))⟩ rfl⟩
      ·refine qK [5] (by kernel_rfl) rfl ?_;refine Or.inl ?_;refine zai (rfl) ?_;refine zei _ (zai (xR (yO L s i) hLi (by omega) (s.getD i ((0 : Int),(0 : Int),([] : List Fld))) hfe) ?_);refine qI 6 rfl rfl rfl (by kernel_rfl) ?_;refine qI 7 rfl rfl rfl (by kernel_rfl) ?_;refine qI 8 rfl rfl rfl (by kernel_rfl) ?_;refine qI 9 rfl rfl rfl (by kernel_rfl) ?_;refine qK [11] (by kernel_rfl) rfl ?_;refine qI 12 rfl rfl rfl (by kernel_rfl) ?_;refine qI 13 rfl rfl rfl (by kernel_rfl) ?_;refine qO (by kernel_rfl) ?_;refine qC ?_;refine qC ?_;refine qB ?_;refine qJ rfl (fun h44=>?_) (fun h44=>?_)
       ·try simp only [decide_eq_false_iff_not,Bool.not_eq_true'] at h44
        try simp only [zds] at h44
        exact absurd (ht i hil) h44
       ·try simp only [decide_eq_true_eq,Bool.not_eq_false'] at h44
        try simp only [zds] at h44
        refine qL ?_;refine qC ?_;refine qB ?_;refine qC ?_;refine qB ?_;refine qJ rfl (fun h50=>?_) (fun h50=>?_)
        ·try simp only [decide_eq_true_eq] at h50
         try simp only [zds] at h50
         refine qB ?_;refine zai (by first|exact qQ (by first|omega|(simp only [List.length_cons,List.length_nil];omega)|(simp;omega)) (by decide)|omega|assumption|decide|(simp only [zds];omega)|(simp <;> omega)) ?_;refine qB ?_;refine zai (by first|omega|assumption|decide|(simp only [zds];omega)|(simp <;> omega)) ?_;exact ⟨i + 1,by omega,by first|omega|(simp <;> omega),qP ⟨rfl,rfl,rfl,rfl,rfl,(qT (by omega))⟩ ⟨rfl,rfl,(xA hsn),(qW (by rw [hin];(try rw [if_pos (by omega)]);(try rw [if_neg (by omega),List.append_nil]);(try exact rfl)))⟩ rfl⟩
        ·try simp only [decide_eq_false_iff_not,Int.not_lt] at h50
         try simp only [zds] at h50
         refine qL ?_;refine qB ?_;refine zai (by first|omega|assumption|decide|(simp only [zds];omega)|(simp <;> omega)) ?_;exact ⟨i + 1,by omega,by first|omega|(simp <;> omega),qP ⟨rfl,rfl,rfl,rfl,rfl,(qT (by omega))⟩ ⟨rfl,rfl,(xA hsn),(qW (by rw [hin];(try rw [if_pos (by omega)]);(try rw [if_neg (by omega),List.append_nil]);(try exact rfl)))⟩ rfl⟩
     ·refine qK [0] (by kernel_rfl) rfl ?_;refine qK [5] (by kernel_rfl) rfl ?_;refine Or.inl ?_;refine zai (rfl) ?_;refine zei _ (zai (xR (yO L s i) hLi (by omega) (s.getD i ((0 : Int),(0 : Int),([] : List Fld))) hfe) ?_);refine qI 6 rfl rfl rfl (by kernel_rfl) ?_;refine qI 7 rfl rfl rfl (by kernel_rfl) ?_;refine qI 8 rfl rfl rfl (by kernel_rfl) ?_;refine qI 9 rfl rfl rfl (by kernel_rfl) ?_;refine qK [11] (by kernel_rfl) rfl ?_;refine qI 12 rfl rfl rfl (by kernel_rfl) ?_;refine qI 13 rfl rfl rfl (by kernel_rfl) ?_;refine qO (by kernel_rfl) ?_;refine qC ?_;refine qC ?_;refine qB ?_;refine qJ rfl (fun h44=>?_) (fun h44=>?_)
      ·try simp only [decide_eq_false_iff_not,Bool.not_eq_true'] at h44
       try simp only [zds] at h44
       exact absurd (ht i hil) h44
      ·try simp only [decide_eq_true_eq,Bool.not_eq_false'] at h44
       try simp only [zds] at h44
       refine qL ?_;refine qC ?_;refine qB ?_;refine qC ?_;refine qB ?_;refine qJ rfl (fun h50=>?_) (fun h50=>?_)
       ·try simp only [decide_eq_true_eq] at h50
        try simp only [zds] at h50
        refine qB ?_;refine zai (by first|exact qQ (by first|omega|(simp only [List.length_cons,List.length_nil];omega)|(simp;omega)) (by decide)|omega|assumption|decide|(simp only [zds];omega)|(simp <;> omega)) ?_;refine qB ?_;refine zai (by first|omega|assumption|decide|(simp only [zds];omega)|(simp <;> omega)) ?_;exact ⟨i + 1,by omega,by first|omega|(simp <;> omega),qP ⟨rfl,rfl,rfl,rfl,rfl,(qT (by omega))⟩ ⟨rfl,rfl,(xA hsn),(qW (by rw [hin];(try rw [if_pos (by omega)]);(try rw [if_neg (by omega),List.append_nil]);(try exact rfl)))⟩ rfl⟩
       ·try simp only [decide_eq_false_iff_not,Int.not_lt] at h50
        try simp only [zds] at h50
        refine qL ?_;refine qB ?_;refine zai (by first|omega|assumption|decide|(simp only [zds];omega)|(simp <;> omega)) ?_;exact ⟨i + 1,by omega,by first|omega|(simp <;> omega),qP ⟨rfl,rfl,rfl,rfl,rfl,(qT (by omega))⟩ ⟨rfl,rfl,(xA hsn),(qW (by rw [hin];(try rw [if_pos (by omega)]);(try rw [if_neg (by omega),List.append_nil]);(try exact rfl)))⟩ rfl⟩
    ·refine qK [0,4] (by kernel_rfl) rfl ?_;refine zai ?_ ?_
     ·refine qK [4] (by kernel_rfl) rfl ?_;refine qK [5] (by kernel_rfl) rfl ?_;refine Or.inl ?_;refine zai (rfl) ?_;refine zei _ (zai (xR (yO L s i) hLi (by omega) (s.getD i ((0 : Int),(0 : Int),([] : List Fld))) hfe) ?_);refine qI 6 rfl rfl rfl (by kernel_rfl) ?_;refine qI 7 rfl rfl rfl (by kernel_rfl) ?_;refine qI 8 rfl rfl rfl (by kernel_rfl) ?_;refine qI 9 rfl rfl rfl (by kernel_rfl) ?_;refine qK [11] (by kernel_rfl) rfl ?_;refine qI 12 rfl rfl rfl (by kernel_rfl) ?_;refine qI 13 rfl rfl rfl (by kernel_rfl) ?_;refine qO (by kernel_rfl) ?_;refine qC ?_;refine qC ?_;refine qB ?_;refine qJ rfl (fun h44=>?_) (fun h44=>?_)
      ·try simp only [decide_eq_false_iff_not,Bool.not_eq_true'] at h44
       try simp only [zds] at h44
       exact absurd (ht i hil) h44
      ·try simp only [decide_eq_true_eq,Bool.not_eq_false'] at h44
       try simp only [zds] at h44
       refine qL ?_;refine qC ?_;refine qB ?_;refine qC ?_;refine qB ?_;refine qJ rfl (fun h50=>?_) (fun h50=>?_)
       ·try simp only [decide_eq_true_eq] at h50
        try simp only [zds] at h50
        refine qB ?_;refine zai (by first|exact qQ (by first|omega|(simp only [List.length_cons,List.length_nil];omega)|(simp;omega)) (by decide)|omega|assumption|decide|(simp only [zds];omega)|(simp <;> omega)) ?_;refine qB ?_;refine zai (by first|omega|assumption|decide|(simp only [zds];omega)|(simp <;> omega)) ?_;exact ⟨i + 1,by omega,by first|omega|(simp <;> omega),qP ⟨rfl,rfl,rfl,rfl,rfl,(qT (by omega))⟩ ⟨rfl,rfl,(xA hsn),(qW (by rw [hin];(try rw [if_pos (by omega)]);(try rw [if_neg (by omega),List.append_nil]);(try exact rfl)))⟩ rfl⟩
       ·try simp only [decide_eq_false_iff_not,Int.not_lt] at h50
        try simp only [zds] at h50
        refine qL ?_;refine qB ?_;refine zai (by first|omega|assumption|decide|(simp only [zds];omega)|(simp <;> omega)) ?_;exact ⟨i + 1,by omega,by first|omega|(simp <;> omega),qP ⟨rfl,rfl,rfl,rfl,rfl,(qT (by omega))⟩ ⟨rfl,rfl,(xA hsn),(qW (by rw [hin];(try rw [if_pos (by omega)]);(try rw [if_neg (by omega),List.append_nil]);(try exact rfl)))⟩ rfl⟩
     ·refine qK [0] (by kernel_rfl) rfl ?_;refine qK [5] (by kernel_rfl) rfl ?_;refine Or.inl ?_;refine zai (rfl) ?_;refine zei _ (zai (xR (yO L s i) hLi (by omega) (s.getD i ((0 : Int),(0 : Int),([] : List Fld))) hfe) ?_);refine qI 6 rfl rfl rfl (by kernel_rfl) ?_;refine qI 7 rfl rfl rfl (by kernel_rfl) ?_;refine qI 8 rfl rfl rfl (by kernel_rfl) ?_;refine qI 9 rfl rfl rfl (by kernel_rfl) ?_;refine qK [11] (by kernel_rfl) rfl ?_;refine qI 12 rfl rfl rfl (by kernel_rfl) ?_;refine qI 13 rfl rfl rfl (by kernel_rfl) ?_;refine qO (by kernel_rfl) ?_;refine qC ?_;refine qC ?_;refine qB ?_;refine qJ rfl (fun h44=>?_) (fun h44=>?_)
      ·try simp only [decide_eq_false_iff_not,Bool.not_eq_true'] at h44
       try simp only [zds] at h44
       exact absurd (ht i hil) h44
      ·try simp only [decide_eq_true_eq,Bool.not_eq_false'] at h44
       try simp only [zds] at h44
       refine qL ?_;refine qC ?_;refine qB ?_;refine qC ?_;refine qB ?_;refine qJ rfl (fun h50=>?_) (fun h50=>?_)
       ·try simp only [decide_eq_true_eq] at h50
        try simp only [zds] at h50
        refine qB ?_;refine zai (by first|exact qQ (by first|omega|(simp only [List.length_cons,List.length_nil];omega)|(simp;omega)) (by decide)|omega|assumption|decide|(simp only [zds];omega)|(simp <;> omega)) ?_;refine qB ?_;refine zai (by first|omega|assumption|decide|(simp only [zds];omega)|(simp <;> omega)) ?_;exact ⟨i + 1,by omega,by first|omega|(simp <;> omega),qP ⟨rfl,rfl,rfl,rfl,rfl,(qT (by omega))⟩ ⟨rfl,rfl,(xA hsn),(qW (by rw [hin];(try rw [if_pos (by omega)]);(try rw [if_neg (by omega),List.append_nil]);(try exact rfl)))⟩ rfl⟩
       ·try simp only [decide_eq_false_iff_not,Int.not_lt] at h50
        try simp only [zds] at h50
        refine qL ?_;refine qB ?_;refine zai (by first|omega|assumption|decide|(simp only [zds];omega)|(simp <;> omega)) ?_;exact ⟨i + 1,by omega,by first|omega|(simp <;> omega),qP ⟨rfl,rfl,rfl,rfl,rfl,(qT (by omega))⟩ ⟨rfl,rfl,(xA hsn),(qW (by rw [hin];(try rw [if_pos (by omega)]);(try rw [if_neg (by omega),List.append_nil]);(try exact rfl)))⟩ rfl⟩
   ·try simp only [decide_eq_false_iff_not,Int.not_lt] at h30
    try simp only [zds] at h30
    refine qV ?_;refine qC ?_;refine qB ?_;refine qM ?_;rw [show i = s.length by omega];exact rfl
abbrev lsO12 (L : Lst) : Obs:=[(1,.box 116 [.vec 2,.lit (.int .i64 L.2.1),.lit (.int .i64 L.2.2)]),(2,.vec 111 rEnt L.1)]
def getF (L : Lst) (id : Int) : Option (List Fld):=if atE L.1 id < 0 then none else some (getL L.1 id)
theorem getF_no {L : Lst} {id : Int} (h : atE L.1 id < 0) : getF L id = none:=if_pos h
theorem getF_pos {c : Nat} {L : Lst} (h : LOk c L) {id : Int} (hg : getF L id ≠ none) : 0 < id ∧ id < L.2.1 ∧ ¬ atE L.1 id < 0:=by
  rcases at_cases L.1 id with ⟨h1,_⟩|⟨i,h1,h2,h3,h4,_⟩
  · exact absurd (getF_no (by rw [h1];decide)) hg
  · refine ⟨h3,?_,by omega⟩;have:=(h.ids _ (yI h1 (((0 : Int),ByteArray.empty,([] : List Fld)),(0 : Int)))).2;rw [h4] at this;exact this
theorem getF_some {L : Lst} {id : Int} (h : ¬ atE L.1 id < 0) : getF L id ≠ none:=by unfold getF;rw [if_neg h];exact fun e=>by cases e
def repA (a : List Edt) (id : Int) : Bool:=a.any fun x=>decide (x.1 = 1) && decide (x.2.1 = id)
def delA (a : List Edt) (id : Int) : Bool:=a.any fun x=>decide (x.1 = 2) && decide (x.2.1 = id)
def tchA (a : List Edt) (id : Int) : Bool:=repA a id || delA a id
def insA : List Edt → Nat
  | []=>0
  | x :: r=>(if x.1 = 3 then 1 else 0) + insA r
def clsh (a : List Edt) (x : Edt) : Bool:=if x.1 = 1 then tchA a x.2.1 else if x.1 = 2 then tchA a x.2.1 && !delA a x.2.1 else if x.1 = 3 then delA a x.2.1 else false
def reb1 (next k : Int) (a : List Edt) (x : Edt) : List Edt:=if next ≤ x.2.1 then [(x.1,x.2.1 + k,x.2.2)] else if x.1 = 2 ∧ delA a x.2.1 = true then [] else [x]
def rebB (next : Int) (a b : List Edt) : List Edt:=b.flatMap (reb1 next (insA a) a)
def takes (L : Lst) : List Edt → Prop
  | []=>True
  | x :: r=>oneN L x = 0 ∧ takes (doL L x) r
def runL (L : Lst) (s : List Edt) : Lst:=s.foldl doL L
def kindsOk (s : List Edt) : Prop:=∀ x ∈ s,x.1 = 1 ∨ x.1 = 2 ∨ x.1 = 3
theorem takes_of : ∀ (s : List Edt) (L : Lst),(∀ j,j < s.length → oneN (yO L s j) (s.getD j ((0 : Int),(0 : Int),([] : List Fld))) = 0) → takes L s
  | [],_,_=>trivial
  | x :: r,L,h=>⟨h 0 (by simp),takes_of r (doL L x) fun j hj=>h (j + 1) (by simpa using hj)⟩
theorem kinds_good {s : List Edt} (h : (chkB s).2 = 0) : kindsOk s:=fun x hx=>by
  have hg:=(chkB_zero h).2 x hx;unfold goodN at hg
  by_cases h2 : x.1 = 2
  · exact .inr (.inl h2)
  · rw [if_neg h2] at hg
    by_cases h13 : x.1 = 1 ∨ x.1 = 3
    · exact h13.elim .inl fun h=>.inr (.inr h)
    · rw [if_neg h13] at hg;cases hg
structure Ran (L : Lst) (a : List Edt) (P : Lst) : Prop where
  next : P.2.1 = L.2.1 + (insA a : Int)
  unt : ∀ id,id < L.2.1 → tchA a id = false → getF P id = getF L id
  gone : ∀ id,id < L.2.1 → getF L id = none → getF P id = none
  del : ∀ id,id < L.2.1 → delA a id = true → getF P id = none
  keep : ∀ id,id < L.2.1 → getF L id ≠ none → delA a id = false → getF P id ≠ none
structure Sim (L P : Lst) (a : List Edt) (k : Int) (Q Y : Lst) (sk : Int) : Prop where
  old : ∀ id,id < L.2.1 → getF Y id = if tchA a id = true then getF P id else getF Q id
  mid : ∀ id,L.2.1 ≤ id → id < P.2.1 → getF Y id = getF P id
  new : ∀ id,L.2.1 ≤ id → getF Y (id + k) = getF Q id
  next : Y.2.1 = Q.2.1 + k
  mono : L.2.1 ≤ Q.2.1
  keep : ∀ id,id < L.2.1 → getF Q id ≠ none → getF L id ≠ none
  many : Y.2.2 - P.2.2 = Q.2.2 - L.2.2 + sk
def alS : List Edt:=[(2,1,[]),(1,1,[(⟨#[65]⟩,ByteArray.empty)])]
theorem txt_ok {L : Lst} (hl : L.1.length ≤ 1000000) (hs : szI (itmL L.1) ≤ 50000000) : szI (apartL (itmL L.1)) ≤ 100000000:=by
  have hal:=apart_len (itmL L.1) 1;have hil : (itmL L.1).length = L.1.length:=List.length_map _;show szI (apartK 1 (itmL L.1)) ≤ _;omega
def clear (next : Int) (a b : List Edt) : Prop:=∀ x ∈ b,x.2.1 < next → clsh a x = false
def whole (next : Int) (a b : List Edt) : Prop:=∀ x ∈ b,¬ (x.2.1 < next ∧ x.1 = 2 ∧ delA a x.2.1 = true)
def fullAt (Y : Lst) (s : List Edt) : Prop:=∃ q,q < s.length ∧ oneN (yO Y s q) (s.getD q ((0 : Int),(0 : Int),([] : List Fld))) = 11 ∧ (∀ j,j < q → oneN (yO Y s j) (s.getD j ((0 : Int),(0 : Int),([] : List Fld))) = 0) ∧ 400 ≤ (yO Y s q).2.2
def apartB (next : Int) (a b : List Edt) : Prop:=(∀ x ∈ b,x.2.1 < next → (x.1 ≠ 3 → tchA a x.2.1 = false) ∧ delA a x.2.1 = false) ∧ ∀ x ∈ a,x.2.1 < next → delA b x.2.1 = false
theorem reb_len (next k : Int) (a : List Edt) : ∀ (b : List Edt),(b.flatMap (reb1 next k a)).length ≤ b.length ∧ (whole next a b → (b.flatMap (reb1 next k a)).length = b.length)
  | []=>⟨Nat.le_refl _,fun _=>rfl⟩
  | x :: r=>by
    obtain ⟨h1,h2⟩:=reb_len next k a r;rw [List.flatMap_cons,List.length_append,List.length_cons];have h3 : (reb1 next k a x).length ≤ 1 ∧ (¬ (x.2.1 < next ∧ x.1 = 2 ∧ delA a x.2.1 = true) → (reb1 next k a x).length = 1):=by
      unfold reb1;split
      · exact ⟨Nat.le_refl _,fun _=>rfl⟩
      · split
        · rename_i h4 h5;exact ⟨Nat.zero_le _,fun h=>absurd ⟨by omega,h5⟩ h⟩
        · exact ⟨Nat.le_refl _,fun _=>rfl⟩
    refine ⟨by omega,fun hw=>?_⟩;have:=h2 fun e he=>hw e (List.mem_cons_of_mem _ he)
    have:=h3.2 (hw x List.mem_cons_self);omega
theorem index_Ed (f : FuncId) {κ : Nat} {β γ : Type} (S : Rd β) (y : β) (T : Rd γ) (z : γ) (l : List Edt) (p : Edt → Bool) (hp : ∀ x ∈ l,qU Tryz.prog f [.agg (toL rEdt x),.one (.addr S y),.one (.addr T z)] (ib (p x))) : qU Tryz.prog 99 [.one (.slk κ rEdt l),.one (.clo2 f (.addr S y) (.addr T z))] (ii .i64 (ixOf p l)):=by
  refine qR (rs:=[4]) Tryz.func99 rfl rfl rfl teOk rfl ?_;refine qC ?_;refine qB ?_;refine qC ?_;refine qC ?_;refine qB ?_;intro l1_1
  try simp only [zds] at l1_1
  refine qN ?_;refine qS (fun (i : Nat)=>i ≤ l.length ∧ (l.take i).any p = false) (fun (i : Nat)=>[(0,.one (.slk κ rEdt l)),(1,.one (.clo2 f (.addr S y) (.addr T z))),(7,ii .i64 l.length),(8,ii .i64 i)]) (fun (i : Nat)=>[]) 0 (fun (i : Nat)=>l.length - i) 0 (⟨Nat.zero_le _,rfl⟩) (qP ⟨rfl,rfl,rfl,rfl⟩ trivial rfl) ?_;intro i hI0;obtain ⟨hi,hn⟩:=hI0;refine qC ?_;refine qB ?_;refine qC ?_;refine qJ rfl (fun h9=>?_) (fun h9=>?_)
  ·try simp only [decide_eq_true_eq] at h9
   try simp only [zds] at h9
   refine qL ?_;refine qC ?_;refine qN ?_;refine qC ?_;refine qB ?_;refine qC ?_;refine qB ?_;refine zai (by first|omega|assumption|decide|(simp only [zds];omega)|(simp <;> omega)) ?_;refine Or.inl ?_;refine zai (rfl) ?_;refine zei _ (zai (hp _ (yI (show i < l.length by omega) _)) ?_);refine qJ rfl (fun h16=>?_) (fun h16=>?_)
   ·try simp only [zbq] at h16
    try simp only [Int.toNat_natCast,qH,qG,qE] at h16
    refine qC ?_;refine qB ?_;refine qM ?_;exact qT (ixOf_at ((0 : Int),(0 : Int),([] : List Fld)) (by omega) hn h16).symm
   ·try simp only [zbq] at h16
    try simp only [Int.toNat_natCast,qH,qG,qE] at h16
    refine qL ?_;refine qB ?_;refine zai (by first|omega|assumption|decide|(simp only [zds];omega)|(simp <;> omega)) ?_;exact ⟨i + 1,⟨by omega,by rw [take_any l p ((0 : Int),(0 : Int),([] : List Fld)) i (by omega),hn];exact h16⟩,by first|omega|(simp <;> omega),qP ⟨rfl,rfl,rfl,rfl⟩ trivial rfl⟩
  ·try simp only [decide_eq_false_iff_not,Int.not_lt] at h9
   try simp only [zds] at h9
   refine qV ?_;refine qC ?_;refine qB ?_;refine qM ?_;have e : i = l.length:=by omega
   subst e;rw [List.take_length] at hn;exact qT (ixOf_none hn).symm
theorem contains_Ed (f : FuncId) {κ : Nat} {β γ : Type} (S : Rd β) (y : β) (T : Rd γ) (z : γ) (l : List Edt) (p : Edt → Bool) (hp : ∀ x ∈ l,qU Tryz.prog f [.agg (toL rEdt x),.one (.addr S y),.one (.addr T z)] (ib (p x))) : qU Tryz.prog 102 [.one (.slk κ rEdt l),.one (.clo2 f (.addr S y) (.addr T z))] (ib (l.any p)):=by
  refine qR (rs:=[4]) Tryz.func102 rfl rfl rfl teOk rfl ?_;refine qC ?_;refine qB ?_;refine qC ?_;refine qB ?_;refine Or.inl ?_;refine zai (rfl) ?_;refine zei _ (zai (index_Ed f S y T z l p hp) ?_);refine qM ?_;exact ib_eq (ixOf_ge p l)
theorem does1_c (k id : Int) (x : Edt) : qU Tryz.prog 103 [.agg (toL rEdt x),.one (.addr (.int .i64) k),.one (.addr (.int .i64) id)] (ib (decide (x.1 = k) && decide (x.2.1 = id))):=by
  refine qR (rs:=[4]) Tryz.func103 rfl rfl rfl teOk rfl ?_;refine qC ?_;refine qB ?_;refine qC ?_;refine qB ?_;refine zai (fun h=>trivial) ?_;refine zai (fun h=>⟨⟨h,trivial⟩,trivial⟩) ?_;refine zai (fun h=>trivial) ?_;refine zai (fun h=>⟨⟨h,trivial⟩,⟨h,trivial⟩,trivial⟩) ?_;refine zai (by exact fun h=>h) ?_;refine qM ?_;exact ib_eq (by simp)
theorem does_c {κ : Nat} (a : List Edt) (k id : Int) : qU Tryz.prog 67 [.one (.slk κ rEdt a),ii .i64 k,ii .i64 id] (ib (a.any fun x=>decide (x.1 = k) && decide (x.2.1 = id))):=by
  refine qR (rs:=[6]) Tryz.func67 rfl rfl rfl teOk rfl ?_;refine qC ?_;refine qB ?_;refine qC ?_;refine qB ?_;refine Or.inl ?_;refine zai (rfl) ?_;refine zei _ (zai (contains_Ed _ (.int .i64) k (.int .i64) id a _ (fun x _=>does1_c k id x)) ?_);refine qM ?_;rfl
theorem deletes_c {κ : Nat} (a : List Edt) (id : Int) : qU Tryz.prog 33 [.one (.slk κ rEdt a),ii .i64 id] (ib (delA a id)):=by
  refine qR (rs:=[4]) Tryz.func33 rfl rfl rfl teOk rfl ?_;refine qC ?_;refine qB ?_;refine qC ?_;refine qB ?_;refine Or.inl ?_;refine zai (rfl) ?_;refine zei _ (zai (does_c a 2 id) ?_);refine qM ?_;rfl
theorem touches_c {κ : Nat} (a : List Edt) (id : Int) : qU Tryz.prog 30 [.one (.slk κ rEdt a),ii .i64 id] (ib (tchA a id)):=by
  have h1 : qU Tryz.prog 67 [.one (.slk κ rEdt a),ii .i64 1,ii .i64 id] (ib (repA a id)):=does_c a 1 id;refine qR (rs:=[4]) Tryz.func30 rfl rfl rfl teOk rfl ?_;refine qC ?_;refine qB ?_;refine qC ?_;refine qB ?_;refine Or.inl ?_;refine zai (rfl) ?_;refine zei _ (zai (h1) ?_);refine zai (fun h=>trivial) ?_;refine zai (fun h=>trivial) ?_;refine Or.inl ?_;refine zai (rfl) ?_;refine zei _ (zai (fun h=>⟨⟨⟨h,trivial⟩,⟨h,trivial⟩,trivial⟩,deletes_c a id⟩) ?_);refine zai (by first|(intro h;rw [h];rfl)|(intro h;cases h)) ?_;refine qM ?_;exact ib_eq (by unfold tchA;simp)
theorem insA_snoc : ∀ (a : List Edt) (i : Nat),i < a.length → insA (a.take (i + 1)) = insA (a.take i) + if (a.getD i ((0 : Int),(0 : Int),([] : List Fld))).1 = 3 then 1 else 0
  | x :: r,0,_=>by simp [insA]
  | x :: r,i + 1,h=>by
    have:=insA_snoc r i (by simpa using h);simp only [List.take_succ_cons,insA,List.getD_cons_succ] at this ⊢;rw [this];omega
theorem insA_le : ∀ (a : List Edt),insA a ≤ a.length
  | []=>Nat.le_refl _
  | x :: r=>by
    have:=insA_le r;simp only [insA,List.length_cons];split <;> omega
theorem inserts_c {κ : Nat} (a : List Edt) (hl : a.length ≤ 1000000) : qU Tryz.prog 34 [.one (.slk κ rEdt a)] (ii .i64 (insA a)):=by
  refine qR (rs:=[2]) Tryz.func34 rfl rfl rfl teOk rfl ?_;refine qC ?_;refine qB ?_;refine qC ?_;refine qB ?_;refine qC ?_;refine qC ?_;refine qB ?_;intro l2_1
  try simp only [zds] at l2_1
  refine qN ?_;refine qS (fun (i : Nat)=>i ≤ a.length) (fun (i : Nat)=>[(3,ii .i64 (insA (a.take i))),(6,.one (.slk κ rEdt a)),(7,ii .i64 a.length),(8,ii .i64 i)]) (fun (i : Nat)=>[]) 0 (fun (i : Nat)=>a.length - i) 0 (Nat.zero_le _) (qP ⟨rfl,rfl,rfl,rfl⟩ trivial rfl) ?_;intro i hI0;refine qC ?_;refine qB ?_;refine qC ?_;refine qJ rfl (fun h9=>?_) (fun h9=>?_)
  ·try simp only [decide_eq_true_eq] at h9
   try simp only [zds] at h9
   have hil : i < a.length:=(by omega);have hsn:=insA_snoc a i hil;have hle:=insA_le (a.take i);rw [List.length_take] at hle;refine qL ?_;refine qC ?_;refine qN ?_;refine qC ?_;refine qB ?_;refine zai (by first|omega|assumption|decide|(simp only [zds];omega)|(simp <;> omega)) ?_;refine qC ?_;refine qB ?_;refine qJ rfl (fun h14=>?_) (fun h14=>?_)
   ·try simp only [decide_eq_true_eq] at h14
    try simp only [Int.toNat_natCast,qH,qG,qE] at h14
    rw [if_pos h14] at hsn;refine qB ?_;refine zai (by first|omega|assumption|decide|(simp only [zds];omega)|(simp <;> omega)) ?_;refine qB ?_;refine zai (by first|omega|assumption|decide|(simp only [zds];omega)|(simp <;> omega)) ?_;exact ⟨i + 1,by omega,by first|omega|(simp <;> omega),qP ⟨(qT (by omega)),rfl,rfl,(qT (by omega))⟩ trivial rfl⟩
   ·try simp only [decide_eq_false_iff_not] at h14
    try simp only [Int.toNat_natCast,qH,qG,qE] at h14
    rw [if_neg h14] at hsn;refine qL ?_;refine qB ?_;refine zai (by first|omega|assumption|decide|(simp only [zds];omega)|(simp <;> omega)) ?_;exact ⟨i + 1,by omega,by first|omega|(simp <;> omega),qP ⟨(qT (by omega)),rfl,rfl,(qT (by omega))⟩ trivial rfl⟩
  ·try simp only [decide_eq_false_iff_not,Int.not_lt] at h9
   try simp only [zds] at h9
   refine qV ?_;refine qC ?_;refine qB ?_;refine qM ?_;rw [List.take_of_length_le (by omega)];exact rfl
theorem clashes_c {κ : Nat} (a : List Edt) (x : Edt) : qU Tryz.prog 101 [.one (.slk κ rEdt a),.agg (toL rEdt x)] (ib (clsh a x)):=by
  refine qR (rs:=[4]) Tryz.func101 rfl rfl rfl teOk rfl ?_;refine qC ?_;refine qB ?_;refine qC ?_;refine qC ?_;refine qB ?_;refine qN ?_;refine qC ?_;refine qB ?_;refine qJ rfl (fun h7=>?_) (fun h7=>?_)
  ·try simp only [decide_eq_true_eq] at h7
   try simp only [zds] at h7
   refine qC ?_;refine qB ?_;refine Or.inl ?_;refine zai (rfl) ?_;refine zei _ (zai (touches_c a x.2.1) ?_);refine qM ?_;unfold clsh;rw [if_pos h7];exact rfl
  ·try simp only [decide_eq_false_iff_not] at h7
   try simp only [zds] at h7
   refine qC ?_;refine qB ?_;refine qJ rfl (fun h13=>?_) (fun h13=>?_)
   ·try simp only [decide_eq_true_eq] at h13
    try simp only [zds] at h13
    refine qC ?_;refine qB ?_;refine Or.inl ?_;refine zai (rfl) ?_;refine zei _ (zai (touches_c a x.2.1) ?_);refine zai (fun h=>trivial) ?_;refine zai (fun h=>trivial) ?_;refine zai (fun h=>⟨⟨h,trivial⟩,trivial⟩) ?_;refine Or.inl ?_;refine zai (rfl) ?_;refine zei _ (zai (fun h=>⟨⟨⟨h,trivial⟩,⟨h,trivial⟩,trivial⟩,deletes_c a x.2.1⟩) ?_);refine zai (fun h=>⟨⟨h,trivial⟩,trivial⟩) ?_;refine zai (by exact fun h=>h) ?_;refine qM ?_;unfold clsh;rw [if_neg h7,if_pos h13];exact ib_eq (by simp)
   ·try simp only [decide_eq_false_iff_not] at h13
    try simp only [zds] at h13
    refine qC ?_;refine qB ?_;refine qJ rfl (fun h26=>?_) (fun h26=>?_)
    ·try simp only [decide_eq_true_eq] at h26
     try simp only [zds] at h26
     refine qC ?_;refine qB ?_;refine Or.inl ?_;refine zai (rfl) ?_;refine zei _ (zai (deletes_c a x.2.1) ?_);refine qM ?_;unfold clsh;rw [if_neg h7,if_neg h13,if_pos h26];exact rfl
    ·try simp only [decide_eq_false_iff_not] at h26
     try simp only [zds] at h26
     refine qL ?_;refine qC ?_;refine qB ?_;refine qM ?_;unfold clsh;rw [if_neg h7,if_neg h13,if_neg h26];exact rfl
def clashX (next : Int) (a : List Edt) (x : Edt) : Bool:=decide (x.2.1 < next) && clsh a x
theorem clash1_c {κ : Nat} (next : Int) (a : List Edt) (x : Edt) : qU Tryz.prog 100 [.agg (toL rEdt x),.one (.addr (.int .i64) next),.one (.addr (.slk κ rEdt) a)] (ib (clashX next a x)):=by
  refine qR (rs:=[4]) Tryz.func100 rfl rfl rfl teOk rfl ?_;refine qC ?_;refine qB ?_;refine qC ?_;refine qB ?_;refine zai (fun h=>trivial) ?_;refine zai (fun h=>trivial) ?_;refine Or.inl ?_;refine zai (rfl) ?_;refine zei _ (zai (fun h=>⟨⟨⟨h,trivial⟩,⟨h,trivial⟩,trivial⟩,clashes_c a x⟩) ?_);refine zai (by exact fun h=>h) ?_;refine qM ?_;exact ib_eq (by unfold clashX;simp)
def clashI (next : Int) (a b : List Edt) : Int:=ixOf (clashX next a) b
theorem clash_c {κ' : Nat} (next : Int) (a b : List Edt) : qU Tryz.prog 64 [ii .i64 next,.one (.sl rEdt a),.one (.slk κ' rEdt b)] (ii .i64 (clashI next a b)):=by
  refine qR (rs:=[6]) Tryz.func64 rfl rfl rfl teOk rfl ?_;refine qC ?_;refine qB ?_;refine qC ?_;refine qB ?_;refine Or.inl ?_;refine zai (rfl) ?_;refine zei _ (zai (index_Ed _ (.int .i64) next (.sl rEdt) a b (clashX next a) (fun x _=>clash1_c next a x)) ?_);refine qM ?_;rfl
theorem copyE_o (s : List Edt) (hf : ∀ e ∈ s,e.2.2.length ≤ 1000000) (hl : s.length ≤ 1000000) : yC Tryz.prog 65 [.one (.sl rEdt s)] [] 0 (.one (.vec 0)) [(0,.vec 46 rEdt s)] 1:=by
  refine qY (rs:=[2]) Tryz.func65 rfl rfl rfl teOk (by decide) rfl ?_;refine qC ?_;refine qB ?_;refine qC ?_;refine qB ?_;refine qC ?_;refine qC ?_;refine yP 3 46 rEdt rfl ?_;refine qB ?_;intro l2_1
  try simp only [zds] at l2_1
  refine qN ?_;refine qS (fun (i : Nat)=>i ≤ s.length) (fun (i : Nat)=>[(3,.one (.vec 0)),(6,.one (.sl rEdt s)),(7,ii .i64 s.length),(8,ii .i64 i)]) (fun (i : Nat)=>[(0,.vec 46 rEdt (s.take i))]) 1 (fun (i : Nat)=>s.length - i) 0 (Nat.zero_le _) (qP ⟨rfl,rfl,rfl,rfl⟩ rfl rfl) ?_;intro i hI0;refine qC ?_;refine qB ?_;refine qC ?_;refine qJ rfl (fun h9=>?_) (fun h9=>?_)
  ·try simp only [decide_eq_true_eq] at h9
   try simp only [zds] at h9
   have hil : i < s.length:=(by omega);refine qL ?_;refine qC ?_;refine qN ?_;refine qC ?_;refine qB ?_;refine zai (by first|omega|assumption|decide|(simp only [zds];omega)|(simp <;> omega)) ?_;refine qC ?_;refine qB ?_;refine Or.inl ?_;refine zai (rfl) ?_;refine zei _ (zai (clone_c (s.getD i ((0 : Int),(0 : Int),([] : List Fld))).2.2 (hf _ (yI hil ((0 : Int),(0 : Int),([] : List Fld))))) ?_);refine qB ?_;refine zai (by exact qQ (show (s.take i).length + 1 ≤ 1000000000 by rw [List.length_take];omega) (by decide)) ?_;refine qB ?_;refine zai (by first|omega|assumption|decide|(simp only [zds];omega)|(simp <;> omega)) ?_;exact ⟨i + 1,by omega,by first|omega|(simp <;> omega),qP ⟨rfl,rfl,rfl,(qT (by omega))⟩ (qW (by rw [← yG ((0 : Int),(0 : Int),([] : List Fld)) hil];try exact rfl)) rfl⟩
  ·try simp only [decide_eq_false_iff_not,Int.not_lt] at h9
   try simp only [zds] at h9
   refine qV ?_;refine qC ?_;refine qB ?_;refine qM ?_;rw [List.take_of_length_le (by omega)];exact ⟨rfl,rfl,rfl⟩
theorem copyE_c (s : List Edt) (hf : ∀ e ∈ s,e.2.2.length ≤ 1000000) (hl : s.length ≤ 1000000) : qU Tryz.prog 65 [.one (.sl rEdt s)] (.one (.sl rEdt s)):=by
  refine qR (rs:=[2]) Tryz.func65 rfl rfl rfl teOk rfl ?_;refine qC ?_;refine qB ?_;refine qC ?_;refine qB ?_;refine qC ?_;refine qC ?_;refine yP 3 46 rEdt rfl ?_;refine qB ?_;intro l2_1
  try simp only [zds] at l2_1
  refine qN ?_;refine qS (fun (i : Nat)=>i ≤ s.length) (fun (i : Nat)=>[(3,.one (.vec 0)),(6,.one (.sl rEdt s)),(7,ii .i64 s.length),(8,ii .i64 i)]) (fun (i : Nat)=>[(0,.vec 46 rEdt (s.take i))]) 1 (fun (i : Nat)=>s.length - i) 0 (Nat.zero_le _) (qP ⟨rfl,rfl,rfl,rfl⟩ rfl rfl) ?_;intro i hI0;refine qC ?_;refine qB ?_;refine qC ?_;refine qJ rfl (fun h9=>?_) (fun h9=>?_)
  ·try simp only [decide_eq_true_eq] at h9
   try simp only [zds] at h9
   have hil : i < s.length:=(by omega);refine qL ?_;refine qC ?_;refine qN ?_;refine qC ?_;refine qB ?_;refine zai (by first|omega|assumption|decide|(simp only [zds];omega)|(simp <;> omega)) ?_;refine qC ?_;refine qB ?_;refine Or.inl ?_;refine zai (rfl) ?_;refine zei _ (zai (clone_c (s.getD i ((0 : Int),(0 : Int),([] : List Fld))).2.2 (hf _ (yI hil ((0 : Int),(0 : Int),([] : List Fld))))) ?_);refine qB ?_;refine zai (by exact qQ (show (s.take i).length + 1 ≤ 1000000000 by rw [List.length_take];omega) (by decide)) ?_;refine qB ?_;refine zai (by first|omega|assumption|decide|(simp only [zds];omega)|(simp <;> omega)) ?_;exact ⟨i + 1,by omega,by first|omega|(simp <;> omega),qP ⟨rfl,rfl,rfl,(qT (by omega))⟩ (qW (by rw [← yG ((0 : Int),(0 : Int),([] : List Fld)) hil];try exact rfl)) rfl⟩
  ·try simp only [decide_eq_false_iff_not,Int.not_lt] at h9
   try simp only [zds] at h9
   refine qV ?_;refine qC ?_;refine qB ?_;refine qM ?_;rw [List.take_of_length_le (by omega)];exact rfl
theorem flat_snoc {α : Type} (f : Edt → List α) {b : List Edt} {i : Nat} (h : i < b.length) : (b.take (i + 1)).flatMap f = (b.take i).flatMap f ++ f (b.getD i ((0 : Int),(0 : Int),([] : List Fld))):=by
  rw [← yG ((0 : Int),(0 : Int),([] : List Fld)) h,List.flatMap_append];simp
theorem flat_len (next k : Int) (a b : List Edt) : (b.flatMap (reb1 next k a)).length ≤ b.length:=(reb_len next k a b).1
theorem rebase_c {κ : Nat} (next : Int) (a b : List Edt) (ha : a.length ≤ 1000000) (hb : b.length ≤ 1000000) (hf : ∀ e ∈ b,e.2.2.length ≤ 1000000) (hi : ∀ e ∈ b,e.2.1 ≤ 1000000) (hn : 0 ≤ next) : qU Tryz.prog 66 [ii .i64 next,.one (.slk κ rEdt a),.one (.sl rEdt b)] (.one (.sl rEdt (rebB next a b))):=by
  have hia:=insA_le a;refine qR (rs:=[6]) Tryz.func66 rfl rfl rfl teOk rfl ?_;refine qC ?_;refine qB ?_;refine qC ?_;refine qB ?_;refine qC ?_;refine qB ?_;refine Or.inl ?_;refine zai (rfl) ?_;refine zei _ (zai (inserts_c a ha) ?_);refine qC ?_;refine qC ?_;refine yP 7 46 rEdt rfl ?_;refine qB ?_;refine Or.inl ?_;refine zai (rfl) ?_;refine zei _ (zai (copyE_c b hf hb) ?_);intro l3_2
  try simp only [zds] at l3_2
  refine qN ?_;refine qS (fun (i : Nat)=>i ≤ b.length) (fun (i : Nat)=>[(0,ii .i64 next),(1,.one (.slk κ rEdt a)),(7,.one (.vec 0)),(8,ii .i64 (insA a)),(14,.one (.sl rEdt b)),(15,ii .i64 b.length),(16,ii .i64 i)]) (fun (i : Nat)=>[(0,.vec 46 rEdt ((b.take i).flatMap (reb1 next (insA a) a)))]) 1 (fun (i : Nat)=>b.length - i) 0 (Nat.zero_le _) (qP ⟨rfl,rfl,rfl,rfl,rfl,rfl,rfl⟩ rfl rfl) ?_;intro i hI0;refine qC ?_;refine qB ?_;refine qC ?_;refine qJ rfl (fun h17=>?_) (fun h17=>?_)
  ·try simp only [decide_eq_true_eq] at h17
   try simp only [zds] at h17
   have hil : i < b.length:=(by omega);have hsn:=flat_snoc (reb1 next (insA a) a) hil;have hbi:=hi _ (yI hil ((0 : Int),(0 : Int),([] : List Fld)));have hfl:=flat_len next (insA a) a (b.take i);rw [List.length_take] at hfl;refine qL ?_;refine qC ?_;refine qN ?_;refine qC ?_;refine qB ?_;refine zai (by first|omega|assumption|decide|(simp only [zds];omega)|(simp <;> omega)) ?_;refine qC ?_;refine qN ?_;refine qC ?_;refine qB ?_;refine qJ rfl (fun h20=>?_) (fun h20=>?_)
   ·try simp only [decide_eq_true_eq] at h20
    try simp only [Int.toNat_natCast,qH,qG,qE] at h20
    have hr1 : reb1 next (insA a) a (b.getD i ((0 : Int),(0 : Int),([] : List Fld))) = [((b.getD i ((0 : Int),(0 : Int),([] : List Fld))).1,(b.getD i ((0 : Int),(0 : Int),([] : List Fld))).2.1 + insA a,(b.getD i ((0 : Int),(0 : Int),([] : List Fld))).2.2)]:=(if_pos (by omega));refine qB ?_;refine zai (by show -9223372036854775808 ≤ (b.getD i ((0 : Int),(0 : Int),([] : List Fld))).2.1 + (insA a : Int) ∧ (b.getD i ((0 : Int),(0 : Int),([] : List Fld))).2.1 + (insA a : Int) ≤ 9223372036854775807;omega) ?_;refine qB ?_;refine zai (by exact qQ (show ((b.take i).flatMap (reb1 next (insA a) a)).length + 1 ≤ 1000000000 by omega) (by decide)) ?_;refine qB ?_;refine zai (by first|omega|assumption|decide|(simp only [zds];omega)|(simp <;> omega)) ?_;exact ⟨i + 1,by omega,by first|omega|(simp <;> omega),qP ⟨rfl,rfl,rfl,rfl,rfl,rfl,(qT (by omega))⟩ (qW (by rw [hsn];(first|rw [hr1]|rw [hr2,List.append_nil]|rw [hr3]);try exact rfl)) rfl⟩
   ·try simp only [decide_eq_false_iff_not,Int.not_le] at h20
    try simp only [Int.toNat_natCast,qH,qG,qE] at h20
    refine qC ?_;refine qB ?_;refine zai (fun h=>trivial) ?_;refine zai (fun h=>trivial) ?_;refine zai (fun h=>⟨⟨h,trivial⟩,trivial⟩) ?_;refine Or.inl ?_;refine zai (rfl) ?_;refine zei _ (zai (fun h=>⟨⟨⟨h,trivial⟩,⟨h,trivial⟩,trivial⟩,deletes_c a (b.getD i ((0 : Int),(0 : Int),([] : List Fld))).2.1⟩) ?_);refine zai (by exact fun h=>h) ?_;refine qJ rfl (fun h30=>?_) (fun h30=>?_)
    ·try simp only [decide_eq_true_eq,Bool.and_eq_true] at h30
     try simp only [Int.toNat_natCast,qH,qG,qE] at h30
     have hr2 : reb1 next (insA a) a (b.getD i ((0 : Int),(0 : Int),([] : List Fld))) = []:=(by unfold reb1;rw [if_neg (by omega),if_pos (by simpa using h30)]);refine qV ?_;refine qB ?_;refine zai (by first|omega|assumption|decide|(simp only [zds];omega)|(simp <;> omega)) ?_;exact ⟨i + 1,by omega,by first|omega|(simp <;> omega),qP ⟨rfl,rfl,rfl,rfl,rfl,rfl,(qT (by omega))⟩ (qW (by rw [hsn];(first|rw [hr1]|rw [hr2,List.append_nil]|rw [hr3]);try exact rfl)) rfl⟩
    ·try simp only [decide_eq_false_iff_not,Bool.and_eq_false_iff] at h30
     try simp only [Int.toNat_natCast,qH,qG,qE] at h30
     have hr3 : reb1 next (insA a) a (b.getD i ((0 : Int),(0 : Int),([] : List Fld))) = [b.getD i ((0 : Int),(0 : Int),([] : List Fld))]:=(by unfold reb1;rw [if_neg (by omega),if_neg (fun h=>by have h9:=h30;simp at h9;rcases h9 with h1|h1;exact h1 (by simpa using h.1);have h2:=h.2;simp at h2;rw [h1] at h2;cases h2)]);refine qL ?_;refine qB ?_;refine zai (by exact qQ (show ((b.take i).flatMap (reb1 next (insA a) a)).length + 1 ≤ 1000000000 by omega) (by decide)) ?_;refine qB ?_;refine zai (by first|omega|assumption|decide|(simp only [zds];omega)|(simp <;> omega)) ?_;exact ⟨i + 1,by omega,by first|omega|(simp <;> omega),qP ⟨rfl,rfl,rfl,rfl,rfl,rfl,(qT (by omega))⟩ (qW (by rw [hsn];(first|rw [hr1]|rw [hr2,List.append_nil]|rw [hr3]);try exact rfl)) rfl⟩
  ·try simp only [decide_eq_false_iff_not,Int.not_lt] at h17
   try simp only [zds] at h17
   refine qV ?_;refine qC ?_;refine qB ?_;refine qM ?_;rw [List.take_of_length_le (by omega)];exact rfl
theorem any_snoc {α : Type} (p : α → Bool) (l : List α) (d : α) (i : Nat) (h : i < l.length) : (l.take (i + 1)).any p = ((l.take i).any p || p (l.getD i d)):=take_any l p d i h
theorem what_c (a : List Edt) (id : Int) : qU Tryz.prog 110 [.one (.sl rEdt a),ii .i64 id] (.tup [(false,[.lit (.bool (repA a id))]),(false,[.lit (.bool (delA a id))])]):=by
  refine qR (rs:=[4,5]) Tryz.func110 rfl rfl rfl teOk rfl ?_;refine qC ?_;refine qB ?_;refine qC ?_;refine qB ?_;refine qC ?_;refine qB ?_;refine qC ?_;refine qC ?_;refine qB ?_;refine qN ?_;refine qS (fun (i : Nat)=>i ≤ a.length) (fun (i : Nat)=>[(0,.one (.sl rEdt a)),(1,ii .i64 id),(6,ib (repA (a.take i) id)),(7,ib (delA (a.take i) id)),(8,ii .i64 i)]) (fun (i : Nat)=>[]) 0 (fun (i : Nat)=>a.length - i) 0 (Nat.zero_le _) (qP ⟨rfl,rfl,rfl,rfl,rfl⟩ trivial rfl) ?_;intro i hI0;refine qC ?_;refine qC ?_;refine qB ?_;intro l4_2
  try simp only [zds] at l4_2
  refine qJ rfl (fun h12=>?_) (fun h12=>?_)
  ·try simp only [decide_eq_true_eq] at h12
   try simp only [zds] at h12
   have hil : i < a.length:=(by omega);have hr:=any_snoc (fun x : Edt=>decide (x.1 = 1) && decide (x.2.1 = id)) a ((0 : Int),(0 : Int),([] : List Fld)) i hil;have hd:=any_snoc (fun x : Edt=>decide (x.1 = 2) && decide (x.2.1 = id)) a ((0 : Int),(0 : Int),([] : List Fld)) i hil;refine qL ?_;refine qC ?_;refine qN ?_;refine qC ?_;refine qB ?_;refine zai (fun h=>trivial) ?_;refine zai (fun h=>trivial) ?_;refine zai (fun h=>⟨⟨⟨h,trivial⟩,⟨h,trivial⟩,trivial⟩,by first|omega|decide|(simp only [zds];omega)|(have h9:=of_decide_eq_true h;omega)|(simp [gq] at h;omega)⟩) ?_;refine zai (fun h=>⟨⟨h,trivial⟩,trivial⟩) ?_;refine zai (fun h=>⟨⟨h,trivial⟩,trivial⟩) ?_;refine zai (fun h=>⟨⟨h,trivial⟩,trivial⟩) ?_;refine zai (fun h=>⟨⟨h,trivial⟩,trivial⟩) ?_;refine zai (fun h=>trivial) ?_;refine zai (fun h=>trivial) ?_;refine zai (fun h=>⟨⟨⟨h,trivial⟩,⟨h,trivial⟩,trivial⟩,by first|omega|decide|(simp only [zds];omega)|(have h9:=of_decide_eq_true h;omega)|(simp [gq] at h;omega)⟩) ?_;refine zai (fun h=>⟨⟨h,trivial⟩,trivial⟩) ?_;refine zai (fun h=>⟨⟨h,trivial⟩,trivial⟩) ?_;refine zai (fun h=>trivial) ?_;refine zai (fun h=>⟨⟨h,trivial⟩,⟨h,trivial⟩,trivial⟩) ?_;refine zai (fun h=>⟨⟨⟨h,trivial⟩,trivial⟩,by first|exact fun h2=>h2|(intro h2;rw [h,h2];rfl)|(intro h2;cases h2)|(intro h2;simp_all [gq])⟩) ?_;refine zai (by first|(intro h;rw [h];rfl)|(intro h;cases h)) ?_;refine qB ?_;refine zai (fun h=>trivial) ?_;refine zai (fun h=>trivial) ?_;refine zai (fun h=>⟨⟨⟨h,trivial⟩,⟨h,trivial⟩,trivial⟩,by first|omega|decide|(simp only [zds];omega)|(have h9:=of_decide_eq_true h;omega)|(simp [gq] at h;omega)⟩) ?_;refine zai (fun h=>⟨⟨h,trivial⟩,trivial⟩) ?_;refine zai (fun h=>⟨⟨h,trivial⟩,trivial⟩) ?_;refine zai (fun h=>⟨⟨h,trivial⟩,trivial⟩) ?_;refine zai (fun h=>⟨⟨h,trivial⟩,trivial⟩) ?_;refine zai (fun h=>trivial) ?_;refine zai (fun h=>trivial) ?_;refine zai (fun h=>⟨⟨⟨h,trivial⟩,⟨h,trivial⟩,trivial⟩,by first|omega|decide|(simp only [zds];omega)|(have h9:=of_decide_eq_true h;omega)|(simp [gq] at h;omega)⟩) ?_;refine zai (fun h=>⟨⟨h,trivial⟩,trivial⟩) ?_;refine zai (fun h=>⟨⟨h,trivial⟩,trivial⟩) ?_;refine zai (fun h=>trivial) ?_;refine zai (fun h=>⟨⟨h,trivial⟩,⟨h,trivial⟩,trivial⟩) ?_;refine zai (fun h=>⟨⟨⟨h,trivial⟩,trivial⟩,by first|exact fun h2=>h2|(intro h2;rw [h,h2];rfl)|(intro h2;cases h2)|(intro h2;simp_all [gq])⟩) ?_;refine zai (by first|(intro h;rw [h];rfl)|(intro h;cases h)) ?_;refine qB ?_;refine zai (by first|omega|assumption|decide|(simp only [zds];omega)|(simp <;> omega)) ?_;exact ⟨i + 1,by omega,by first|omega|(simp <;> omega),qP ⟨rfl,rfl,(ib_eq (by unfold repA;rw [hr];simp;rfl)),(ib_eq (by unfold delA;rw [hd];simp;rfl)),(qT (by omega))⟩ trivial rfl⟩
  ·try simp only [decide_eq_false_iff_not,Int.not_lt] at h12
   try simp only [zds] at h12
   refine qV ?_;refine qC ?_;refine qB ?_;refine qM ?_;rw [List.take_of_length_le (by omega)];exact rfl
theorem refDeletes_c (a : List Edt) (id : Int) : qU Tryz.prog 111 [.one (.sl rEdt a),ii .i64 id] (ib (delA a id)):=by
  refine qR (rs:=[4]) Tryz.func111 rfl rfl rfl teOk rfl ?_;refine qC ?_;refine qB ?_;refine qC ?_;refine qB ?_;refine Or.inl ?_;refine zai (rfl) ?_;refine zei _ (zai (what_c a id) ?_);refine qC ?_;refine qB ?_;refine qM ?_;rfl
theorem refInserts_c (a : List Edt) (hl : a.length ≤ 1000000) : qU Tryz.prog 112 [.one (.sl rEdt a)] (ii .i64 (insA a)):=by
  refine qR (rs:=[2]) Tryz.func112 rfl rfl rfl teOk rfl ?_;refine qC ?_;refine qB ?_;refine qC ?_;refine qB ?_;refine qC ?_;refine qC ?_;refine qB ?_;refine qN ?_;refine qS (fun (i : Nat)=>i ≤ a.length) (fun (i : Nat)=>[(0,.one (.sl rEdt a)),(3,ii .i64 (insA (a.take i))),(4,ii .i64 i)]) (fun (i : Nat)=>[]) 0 (fun (i : Nat)=>a.length - i) 0 (Nat.zero_le _) (qP ⟨rfl,rfl,rfl⟩ trivial rfl) ?_;intro i hI0;refine qC ?_;refine qC ?_;refine qB ?_;intro l3_2
  try simp only [zds] at l3_2
  refine qJ rfl (fun h8=>?_) (fun h8=>?_)
  ·try simp only [decide_eq_true_eq] at h8
   try simp only [zds] at h8
   have hil : i < a.length:=(by omega);have hsn:=insA_snoc a i hil;have hle:=insA_le (a.take i);rw [List.length_take] at hle;refine qL ?_;refine qC ?_;refine qN ?_;refine qC ?_;refine qB ?_;refine zai (by first|omega|assumption|decide|(simp only [zds];omega)|(simp <;> omega)) ?_;refine qJ rfl (fun h16=>?_) (fun h16=>?_)
   ·try simp only [decide_eq_true_eq] at h16
    try simp only [Int.toNat_natCast,qH,qG,qE] at h16
    rw [if_pos h16] at hsn;refine qB ?_;refine zai (by first|omega|assumption|decide|(simp only [zds];omega)|(simp <;> omega)) ?_;refine qB ?_;refine zai (by first|omega|assumption|decide|(simp only [zds];omega)|(simp <;> omega)) ?_;exact ⟨i + 1,by omega,by first|omega|(simp <;> omega),qP ⟨rfl,(qT (by omega)),(qT (by omega))⟩ trivial rfl⟩
   ·try simp only [decide_eq_false_iff_not] at h16
    try simp only [Int.toNat_natCast,qH,qG,qE] at h16
    rw [if_neg h16] at hsn;refine qL ?_;refine qB ?_;refine zai (by first|omega|assumption|decide|(simp only [zds];omega)|(simp <;> omega)) ?_;exact ⟨i + 1,by omega,by first|omega|(simp <;> omega),qP ⟨rfl,(qT (by omega)),(qT (by omega))⟩ trivial rfl⟩
  ·try simp only [decide_eq_false_iff_not,Int.not_lt] at h8
   try simp only [zds] at h8
   refine qV ?_;refine qC ?_;refine qB ?_;refine qM ?_;rw [List.take_of_length_le (by omega)];exact rfl
theorem clash_bool (a : List Edt) (x : Edt) : ((decide (x.1 = 1) && (repA a x.2.1 || delA a x.2.1)) || ((decide (x.1 = 2) && repA a x.2.1) && !delA a x.2.1) || (decide (x.1 = 3) && delA a x.2.1)) = clsh a x:=by
  unfold clsh tchA
  by_cases h1 : x.1 = 1
  · simp [h1]
  · by_cases h2 : x.1 = 2
    · simp [h2];cases repA a x.2.1 <;> cases delA a x.2.1 <;> rfl
    · by_cases h3 : x.1 = 3
      · simp [h3]
      · simp [h1,h2,h3]
theorem clash_no {next : Int} {a : List Edt} {x : Edt} (h : ((¬ x.1 = 1 ∨ repA a x.2.1 = false ∧ delA a x.2.1 = false) ∧ ((¬ x.1 = 2 ∨ repA a x.2.1 = false) ∨ delA a x.2.1 = true)) ∧ (¬ x.1 = 3 ∨ delA a x.2.1 = false)) : clashX next a x = false:=by
  have e : clsh a x = false:=by
    unfold clsh tchA;split
    · rename_i h1;have h2:=h.1.1.resolve_left (fun h=>h h1);rw [h2.1,h2.2];rfl
    · split
      · rename_i h1;rcases h.1.2 with h2|h2
        · rw [h2.resolve_left (fun h=>h h1)];cases delA a x.2.1 <;> rfl
        · rw [h2];cases repA a x.2.1 <;> rfl
      · split
        · rename_i h1;exact h.2.resolve_left (fun h=>h h1)
        · rfl
  unfold clashX;rw [e,Bool.and_false]
theorem reb_drop {next k : Int} {a : List Edt} {x : Edt} (h : (x.2.1 < next ∧ x.1 = 2) ∧ delA a x.2.1 = true) : reb1 next k a x = []:=by
  unfold reb1;rw [if_neg (by omega),if_pos ⟨h.1.2,h.2⟩]
theorem reb_stay {next k : Int} {a : List Edt} {x : Edt} (h : (next ≤ x.2.1 ∨ ¬ x.1 = 2) ∨ delA a x.2.1 = false) (h2 : x.2.1 < next) : reb1 next k a x = [x]:=by
  unfold reb1;rw [if_neg (by omega),if_neg]
  rintro ⟨h3,h4⟩
  rcases h with (h|h)|h
  · omega
  · exact h h3
  · rw [h4] at h;cases h
theorem refClash_c (next : Int) (a b : List Edt) : qU Tryz.prog 70 [ii .i64 next,.one (.sl rEdt a),.one (.sl rEdt b)] (ii .i64 (clashI next a b)):=by
  refine qR (rs:=[6]) Tryz.func70 rfl rfl rfl teOk rfl ?_;refine qC ?_;refine qB ?_;refine qC ?_;refine qC ?_;refine qB ?_;refine qN ?_;refine qS (fun (i : Nat)=>i ≤ b.length ∧ (b.take i).any (clashX next a) = false) (fun (i : Nat)=>[(0,ii .i64 next),(1,.one (.sl rEdt a)),(2,.one (.sl rEdt b)),(7,ii .i64 i)]) (fun (i : Nat)=>[]) 0 (fun (i : Nat)=>b.length - i) 0 (⟨Nat.zero_le _,rfl⟩) (qP ⟨rfl,rfl,rfl,rfl⟩ trivial rfl) ?_;intro i hI0;obtain ⟨hi,hn⟩:=hI0;refine qC ?_;refine qC ?_;refine qB ?_;intro l2_2
  try simp only [zds] at l2_2
  refine qJ rfl (fun h13=>?_) (fun h13=>?_)
  ·try simp only [decide_eq_true_eq] at h13
   try simp only [zds] at h13
   have hil : i < b.length:=(by omega);have hsn:=any_snoc (clashX next a) b ((0 : Int),(0 : Int),([] : List Fld)) i hil;rw [hn,Bool.false_or] at hsn;have hcb:=clash_bool a (b.getD i ((0 : Int),(0 : Int),([] : List Fld)));refine qL ?_;refine qC ?_;refine qN ?_;refine qC ?_;refine qC ?_;refine qB ?_;refine zai (by first|omega|assumption|decide|(simp only [zds];omega)|(simp <;> omega)) ?_;refine qJ rfl (fun h22=>?_) (fun h22=>?_)
   ·try simp only [decide_eq_true_eq] at h22
    try simp only [Int.toNat_natCast,qH,qG,qE] at h22
    have hcx : clashX next a (b.getD i ((0 : Int),(0 : Int),([] : List Fld))) = false:=(by unfold clashX;rw [decide_eq_false (by omega)];rfl);refine qV ?_;refine qB ?_;refine zai (by first|omega|assumption|decide|(simp only [zds];omega)|(simp <;> omega)) ?_;exact ⟨i + 1,⟨by omega,by rw [hsn];exact hcx⟩,by first|omega|(simp <;> omega),qP ⟨rfl,rfl,rfl,(qT (by omega))⟩ trivial rfl⟩
   ·try simp only [decide_eq_false_iff_not,Int.not_le] at h22
    try simp only [Int.toNat_natCast,qH,qG,qE] at h22
    refine qL ?_;refine qC ?_;refine qB ?_;refine zai (by first|omega|assumption|decide|(simp only [zds];omega)|(simp <;> omega)) ?_;refine Or.inl ?_;refine zai (rfl) ?_;refine zei _ (zai (what_c a (b.getD i ((0 : Int),(0 : Int),([] : List Fld))).2.1) ?_);refine qC ?_;refine qB ?_;refine zai (by first|omega|assumption|decide|(simp only [zds];omega)|(simp <;> omega)) ?_;refine zai (fun h=>trivial) ?_;refine zai (fun h=>⟨⟨h,trivial⟩,trivial⟩) ?_;refine zai (fun h=>trivial) ?_;refine zai (fun h=>⟨⟨⟨h,trivial⟩,trivial⟩,by first|exact fun h2=>h2|(intro h2;rw [h,h2];rfl)|(intro h2;cases h2)|(intro h2;simp_all [gq])⟩) ?_;refine zai (by exact fun h=>h) ?_;refine zai (fun h=>trivial) ?_;refine zai (fun h=>trivial) ?_;refine zai (fun h=>⟨⟨⟨h,trivial⟩,⟨h,trivial⟩,trivial⟩,by first|omega|decide|(simp only [zds];omega)|(have h9:=of_decide_eq_true h;omega)|(simp [gq] at h;omega)⟩) ?_;refine zai (fun h=>⟨⟨h,trivial⟩,trivial⟩) ?_;refine zai (fun h=>⟨⟨h,trivial⟩,trivial⟩) ?_;refine zai (fun h=>⟨⟨h,trivial⟩,trivial⟩) ?_;refine zai (fun h=>⟨⟨h,trivial⟩,trivial⟩) ?_;refine zai (fun h=>trivial) ?_;refine zai (fun h=>⟨⟨⟨h,trivial⟩,trivial⟩,by first|exact fun h2=>h2|(intro h2;rw [h,h2];rfl)|(intro h2;cases h2)|(intro h2;simp_all [gq])⟩) ?_;refine zai (fun h=>⟨⟨h,trivial⟩,trivial⟩) ?_;refine zai (fun h=>trivial) ?_;refine zai (fun h=>⟨⟨h,trivial⟩,trivial⟩) ?_;refine zai (fun h=>⟨⟨⟨h,trivial⟩,trivial⟩,by first|exact fun h2=>h2|(intro h2;rw [h,h2];rfl)|(intro h2;cases h2)|(intro h2;simp_all [gq])⟩) ?_;refine zai (by first|(intro h;rw [h];rfl)|(intro h;cases h)) ?_;refine zai (fun h=>trivial) ?_;refine zai (fun h=>trivial) ?_;refine zai (fun h=>⟨⟨⟨h,trivial⟩,⟨h,trivial⟩,trivial⟩,by first|omega|decide|(simp only [zds];omega)|(have h9:=of_decide_eq_true h;omega)|(simp [gq] at h;omega)⟩) ?_;refine zai (fun h=>⟨⟨h,trivial⟩,trivial⟩) ?_;refine zai (fun h=>⟨⟨h,trivial⟩,trivial⟩) ?_;refine zai (fun h=>⟨⟨h,trivial⟩,trivial⟩) ?_;refine zai (fun h=>⟨⟨h,trivial⟩,trivial⟩) ?_;refine zai (fun h=>trivial) ?_;refine zai (fun h=>⟨⟨⟨h,trivial⟩,trivial⟩,by first|exact fun h2=>h2|(intro h2;rw [h,h2];rfl)|(intro h2;cases h2)|(intro h2;simp_all [gq])⟩) ?_;refine zai (by first|(intro h;rw [h];rfl)|(intro h;cases h)) ?_;refine qJ rfl (fun h70=>?_) (fun h70=>?_)
    ·try simp only [decide_eq_true_eq,Bool.and_eq_true,Bool.not_eq_true',Bool.or_eq_true] at h70
     try simp only [Int.toNat_natCast,qH,qG,qE] at h70
     have hcx : clashX next a (b.getD i ((0 : Int),(0 : Int),([] : List Fld))) = true:=(by unfold clashX;rw [decide_eq_true (by omega),← hcb];simpa using h70);refine qC ?_;refine qB ?_;refine qM ?_;exact qT (ixOf_at ((0 : Int),(0 : Int),([] : List Fld)) hil hn hcx).symm
    ·try simp only [decide_eq_false_iff_not,Bool.not_eq_false',Bool.or_eq_false_iff,Bool.and_eq_false_iff] at h70
     try simp only [Int.toNat_natCast,qH,qG,qE] at h70
     have hcx : clashX next a (b.getD i ((0 : Int),(0 : Int),([] : List Fld))) = false:=clash_no h70;refine qL ?_;refine qB ?_;refine zai (by first|omega|assumption|decide|(simp only [zds];omega)|(simp <;> omega)) ?_;exact ⟨i + 1,⟨by omega,by rw [hsn];exact hcx⟩,by first|omega|(simp <;> omega),qP ⟨rfl,rfl,rfl,(qT (by omega))⟩ trivial rfl⟩
  ·try simp only [decide_eq_false_iff_not,Int.not_lt] at h13
   try simp only [zds] at h13
   refine qV ?_;refine qC ?_;refine qB ?_;refine qM ?_;rw [List.take_of_length_le (by omega)] at hn;exact qT (ixOf_none hn).symm
theorem refRebase_c (next : Int) (a b : List Edt) (ha : a.length ≤ 1000000) (hb : b.length ≤ 1000000) (hi : ∀ e ∈ b,e.2.1 ≤ 1000000) (hn : 0 ≤ next) : qU Tryz.prog 71 [ii .i64 next,.one (.sl rEdt a),.one (.sl rEdt b)] (.one (.sl rEdt (rebB next a b))):=by
  have hia:=insA_le a;refine qR (rs:=[6]) Tryz.func71 rfl rfl rfl teOk rfl ?_;refine qC ?_;refine qB ?_;refine qC ?_;refine qB ?_;refine qC ?_;refine qC ?_;refine yP 7 46 rEdt rfl ?_;refine qB ?_;refine qN ?_;refine qS (fun (i : Nat)=>i ≤ b.length) (fun (i : Nat)=>[(0,ii .i64 next),(1,.one (.sl rEdt a)),(2,.one (.sl rEdt b)),(7,.one (.vec 0)),(8,ii .i64 i)]) (fun (i : Nat)=>[(0,.vec 46 rEdt ((b.take i).flatMap (reb1 next (insA a) a)))]) 1 (fun (i : Nat)=>b.length - i) 0 (Nat.zero_le _) (qP ⟨rfl,rfl,rfl,rfl,rfl⟩ rfl rfl) ?_;intro i hI0;refine qC ?_;refine qC ?_;refine qB ?_;intro l3_2
  try simp only [zds] at l3_2
  refine qJ rfl (fun h13=>?_) (fun h13=>?_)
  ·try simp only [decide_eq_true_eq] at h13
   try simp only [zds] at h13
   have hil : i < b.length:=(by omega);have hsn:=flat_snoc (reb1 next (insA a) a) hil;have hbi:=hi _ (yI hil ((0 : Int),(0 : Int),([] : List Fld)));have hfl:=flat_len next (insA a) a (b.take i);rw [List.length_take] at hfl;refine qL ?_;refine qC ?_;refine qN ?_;refine qC ?_;refine qB ?_;refine zai (by first|omega|assumption|decide|(simp only [zds];omega)|(simp <;> omega)) ?_;refine qC ?_;refine qC ?_;refine qB ?_;refine zai (fun h=>trivial) ?_;refine zai (fun h=>⟨⟨h,trivial⟩,trivial⟩) ?_;refine zai (fun h=>⟨⟨h,trivial⟩,trivial⟩) ?_;refine zai (by exact fun h=>h) ?_;refine zai (fun h=>trivial) ?_;refine zai (fun h=>trivial) ?_;refine zai (fun h=>⟨⟨h,trivial⟩,trivial⟩) ?_;refine Or.inl ?_;refine zai (rfl) ?_;refine zei _ (zai (fun h=>⟨⟨⟨h,trivial⟩,⟨h,trivial⟩,trivial⟩,refDeletes_c a (b.getD i ((0 : Int),(0 : Int),([] : List Fld))).2.1⟩) ?_);refine zai (by exact fun h=>h) ?_;refine qJ rfl (fun h34=>?_) (fun h34=>?_)
   ·try simp only [decide_eq_true_eq,Bool.and_eq_true] at h34
    try simp only [Int.toNat_natCast,qH,qG,qE] at h34
    have hr2 : reb1 next (insA a) a (b.getD i ((0 : Int),(0 : Int),([] : List Fld))) = []:=reb_drop h34;refine qV ?_;refine qB ?_;refine zai (by first|omega|assumption|decide|(simp only [zds];omega)|(simp <;> omega)) ?_;exact ⟨i + 1,by omega,by first|omega|(simp <;> omega),qP ⟨rfl,rfl,rfl,rfl,(qT (by omega))⟩ (qW (by rw [hsn];(first|rw [hr1]|rw [hr2,List.append_nil]|rw [hr3]);try exact rfl)) rfl⟩
   ·try simp only [decide_eq_false_iff_not,Bool.and_eq_false_iff,Int.not_lt] at h34
    try simp only [Int.toNat_natCast,qH,qG,qE] at h34
    refine qL ?_;refine qC ?_;refine qC ?_;refine qB ?_;refine qJ rfl (fun h38=>?_) (fun h38=>?_)
    ·try simp only [decide_eq_true_eq] at h38
     try simp only [Int.toNat_natCast,qH,qG,qE] at h38
     have hr1 : reb1 next (insA a) a (b.getD i ((0 : Int),(0 : Int),([] : List Fld))) = [((b.getD i ((0 : Int),(0 : Int),([] : List Fld))).1,(b.getD i ((0 : Int),(0 : Int),([] : List Fld))).2.1 + insA a,(b.getD i ((0 : Int),(0 : Int),([] : List Fld))).2.2)]:=(if_pos (by omega));refine yQ rfl ?_;refine qI 0 rfl rfl rfl (by kernel_rfl) ?_;refine qI 2 rfl rfl rfl (by kernel_rfl) ?_;refine qK [1,3] (by kernel_rfl) rfl ?_;refine zai ?_ ?_
     ·refine qK [3] (by kernel_rfl) rfl ?_;refine Or.inl ?_;refine zai (rfl) ?_;refine zei _ (zai (refInserts_c a ha) ?_);refine qI 4 rfl rfl rfl (by kernel_rfl) ?_;refine zai (by show -9223372036854775808 ≤ (b.getD i ((0 : Int),(0 : Int),([] : List Fld))).2.1 + (insA a : Int) ∧ (b.getD i ((0 : Int),(0 : Int),([] : List Fld))).2.1 + (insA a : Int) ≤ 9223372036854775807;omega) ?_;refine qI 5 rfl rfl rfl (by kernel_rfl) ?_;refine qK [6] (by kernel_rfl) rfl ?_;refine qO (by kernel_rfl) ?_;refine qB ?_;refine zai (by exact qQ (show ((b.take i).flatMap (reb1 next (insA a) a)).length + 1 ≤ 1000000000 by omega) (by decide)) ?_;refine qB ?_;refine zai (by first|omega|assumption|decide|(simp only [zds];omega)|(simp <;> omega)) ?_;exact ⟨i + 1,by omega,by first|omega|(simp <;> omega),qP ⟨rfl,rfl,rfl,rfl,(qT (by omega))⟩ (qW (by rw [hsn];(first|rw [hr1]|rw [hr2,List.append_nil]|rw [hr3]);try exact rfl)) rfl⟩
     ·refine Or.inl ?_;refine zai (rfl) ?_;refine zei _ (zai (refInserts_c a ha) ?_);refine qK [1] (by kernel_rfl) rfl ?_;refine qI 4 rfl rfl rfl (by kernel_rfl) ?_;refine zai (by show -9223372036854775808 ≤ (b.getD i ((0 : Int),(0 : Int),([] : List Fld))).2.1 + (insA a : Int) ∧ (b.getD i ((0 : Int),(0 : Int),([] : List Fld))).2.1 + (insA a : Int) ≤ 9223372036854775807;omega) ?_;refine qI 5 rfl rfl rfl (by kernel_rfl) ?_;refine qK [6] (by kernel_rfl) rfl ?_;refine qO (by kernel_rfl) ?_;refine qB ?_;refine zai (by exact qQ (show ((b.take i).flatMap (reb1 next (insA a) a)).length + 1 ≤ 1000000000 by omega) (by decide)) ?_;refine qB ?_;refine zai (by first|omega|assumption|decide|(simp only [zds];omega)|(simp <;> omega)) ?_;exact ⟨i + 1,by omega,by first|omega|(simp <;> omega),qP ⟨rfl,rfl,rfl,rfl,(qT (by omega))⟩ (qW (by rw [hsn];(first|rw [hr1]|rw [hr2,List.append_nil]|rw [hr3]);try exact rfl)) rfl⟩
    ·try simp only [decide_eq_false_iff_not,Int.not_le] at h38
     try simp only [Int.toNat_natCast,qH,qG,qE] at h38
     have hr3 : reb1 next (insA a) a (b.getD i ((0 : Int),(0 : Int),([] : List Fld))) = [b.getD i ((0 : Int),(0 : Int),([] : List Fld))]:=reb_stay h34 h38;refine qL ?_;refine qB ?_;refine zai (by exact qQ (show ((b.take i).flatMap (reb1 next (insA a) a)).length + 1 ≤ 1000000000 by omega) (by decide)) ?_;refine qB ?_;refine zai (by first|omega|assumption|decide|(simp only [zds];omega)|(simp <;> omega)) ?_;exact ⟨i + 1,by omega,by first|omega|(simp <;> omega),qP ⟨rfl,rfl,rfl,rfl,(qT (by omega))⟩ (qW (by rw [hsn];(first|rw [hr1]|rw [hr2,List.append_nil]|rw [hr3]);try exact rfl)) rfl⟩
  ·try simp only [decide_eq_false_iff_not,Int.not_lt] at h13
   try simp only [zds] at h13
   refine qV ?_;refine qC ?_;refine qB ?_;refine qM ?_;rw [List.take_of_length_le (by omega)];exact rfl
theorem erB_cases {p : Int × Int} (h : p.2 ≠ 0) : (∃ n,n ≠ 0 ∧ erB p = errN n ∧ p = (-9,n)) ∨ ∃ i n,n ≠ 0 ∧ erB p = errF i n ∧ p = (i,n):=by
  unfold erB;rw [if_neg h]
  by_cases h9 : p.1 = -9
  · rw [if_pos h9];exact .inl ⟨p.2,h,rfl,Prod.ext h9 rfl⟩
  · rw [if_neg h9];exact .inr ⟨p.1,p.2,h,rfl,rfl⟩
theorem doR_zero {L : Lst} {s : List Edt} (h : (doR L s).2 = 0) : (chkB s).2 = 0 ∧ ∀ j,j < s.length → oneN (yO L s j) (s.getD j ((0 : Int),(0 : Int),([] : List Fld))) = 0:=by
  by_cases hc : (chkB s).2 = 0
  · refine ⟨hc,?_⟩;rcases doR_cases L s hc with ⟨_,h1⟩|⟨i,_,h2,h3,_⟩
    · exact h1
    · rw [h2] at h;exact absurd h h3
  · unfold doR at h;rw [if_pos hc] at h;exact absurd h hc
theorem doR_takes {L : Lst} {s : List Edt} (h : (doR L s).2 = 0) : takes L s ∧ kindsOk s ∧ (1 ≤ s.length ∧ s.length ≤ 40) ∧ doR L s = (-9,0):=by
  obtain ⟨h1,h2⟩:=doR_zero h;refine ⟨takes_of s L h2,kinds_good h1,(chkB_zero h1).1,?_⟩;rcases doR_cases L s h1 with ⟨h3,_⟩|⟨i,_,h3,h4,_⟩
  · exact h3
  · rw [h3] at h;exact absurd h h4
theorem do_no {κ κ' k c : Nat} (L : Lst) (s : List Edt) (hL : LOk c L) (hc : c + s.length ≤ 200000) (hf : ∀ e ∈ s,yD e.2.2) (h : (doR L s).2 ≠ 0) : qU Tryz.prog 13 [.one (.adk k (rLst k) L),.one (.slk κ (rEdk κ') s)] (.tup [(false,[.lit (.pointer none)]),(false,[.lit (.slice none 0 0)]),(false,[erB (doR L s)])]):=by
  rcases chkB_cases s with ⟨h0,_⟩|h1|⟨i,n,hn,h2⟩
  · have h0' : (chkB s).2 = 0:=by rw [h0]
    rcases doR_cases L s h0' with ⟨h3,_⟩|⟨q,hq,h3,hb,ht⟩
    · rw [h3] at h;exact absurd rfl h
    · rw [h3,erB_f hb];exact doBad_c L s hL hc hf h0' q hq hb ht
  · have e : doR L s = (-9,1):=by unfold doR;rw [if_pos (by rw [h1];decide),h1]
    rw [e,erB_n (by decide)];exact doN_c L s hf (by omega) 1 (by decide) h1
  · have e : doR L s = ((i : Int),n):=by unfold doR;rw [if_pos (by rw [h2];exact hn),h2]
    rw [e,erB_f hn];exact doF_c L s hf (by omega) i n hn h2
theorem takes_le : ∀ (s : List Edt) {c : Nat} {L : Lst},LOk c L → (∀ e ∈ s,yD e.2.2) → takes L s → ∀ e ∈ s,e.2.1 ≤ c + s.length
  | [],_,_,_,_,_,e,he=>by cases he
  | x :: r,c,L,h,hf,ht,e,he=>by
    rcases List.mem_cons.1 he with rfl|he
    · have h0:=ht.1;have hnx:=h.next;have hat : ¬ atE L.1 e.2.1 < 0 → e.2.1 ≤ (c : Int):=fun hn=>by
        have:=(getF_pos h (getF_some hn)).2.1;omega
      rw [List.length_cons]
      suffices hs : e.2.1 ≤ (c : Int) by omega
      unfold oneN at h0;split at h0
      · split at h0
        · cases h0
        · rename_i hn;exact hat hn
      · split at h0
        · split at h0
          · cases h0
          · rename_i hn;exact hat hn
        · split at h0
          · cases h0
          · rename_i hn
            by_cases hz : e.2.1 = 0
            · omega
            · exact hat fun hlt=>hn ⟨hlt,hz⟩
    · have:=takes_le r (doL_ok h (hf x List.mem_cons_self)) (fun e he=>hf e (List.mem_cons_of_mem _ he)) ht.2 e he;rw [List.length_cons];omega
def mrgN (L : Lst) (a b : List Edt) : Int × Int :=
  if (doR L a).2 ≠ 0 then doR L a else if (doR L b).2 ≠ 0 then doR L b else if 0 ≤ clashI L.2.1 a b then (clashI L.2.1 a b,13) else if 40 < (a ++ rebB L.2.1 a b).length then (-9,1) else (-9,0)
abbrev nilE : Bool × List C:=(false,[.lit (.slice none 0 0)])
theorem mrgA_c {k c : Nat} (L : Lst) (a b : List Edt) (hL : LOk c L) (hc : c + a.length ≤ 200000) (hf : ∀ e ∈ a,yD e.2.2) (h : (doR L a).2 ≠ 0) : qU Tryz.prog 28 [.one (.adk k (rLst k) L),.one (.sl rEdt a),.one (.sl rEdt b)] (.tup [nilE,(false,[erB (doR L a)])]):=by
  have hd:=do_no (κ:=0) (κ':=0) (k:=k) L a hL hc hf h;rcases erB_cases h with ⟨n,hn,e,_⟩|⟨q,n,hn,e,_⟩
  · rw [e] at hd ⊢;refine qR (rs:=[6,7]) Tryz.func28 rfl rfl rfl teOk rfl ?_;refine qC ?_;refine qB ?_;refine qC ?_;refine qC ?_;refine qB ?_;refine qJ rfl (fun h16=>?_) (fun h16=>?_)
    ·try simp only [zbq] at h16
     try simp only [zds] at h16
     simp at h16
    ·skip
     refine qL ?_;refine qC ?_;refine qC ?_;refine qB ?_;intro l3_3
     try simp only [zds] at l3_3
     refine qN ?_;refine qS (fun (i : Nat)=>i = 0) (fun (i : Nat)=>[(0,.one (.adk k (rLst k) L)),(1,.one (.sl rEdt a)),(2,.one (.sl rEdt b)),(20,.one (.vec 0)),(21,ii .i64 2),(22,ii .i64 0)]) (fun (i : Nat)=>[(0,.vec 22 (.sl rEdt) [a,b])]) 1 (fun (i : Nat)=>0) 0 (rfl) (qP ⟨rfl,rfl,rfl,rfl,rfl,rfl⟩ rfl rfl) ?_;intro i hI0;refine qC ?_;refine qB ?_;refine qC ?_;refine qJ rfl (fun h23=>?_) (fun h23=>?_)
     ·try simp only [decide_eq_true_eq] at h23
      try simp only [zds] at h23
      refine qL ?_;refine qC ?_;refine qN ?_;refine qC ?_;refine qB ?_;refine zai (by first|omega|assumption|decide|(simp only [zds];omega)|(simp <;> omega)) ?_;refine zai (by first|omega|simp|decide) ?_;refine qC ?_;refine qB ?_;refine Or.inl ?_;refine zai (rfl) ?_;refine zei _ (zai (hd) ?_);refine qC ?_;refine qB ?_;refine qJ rfl (fun h34=>?_) (fun h34=>?_)
      ·skip
       refine qC ?_;refine qB ?_;refine qM ?_;rfl
      ·try simp only [zbq] at h34
       try simp only [zds] at h34
       simp at h34
     ·try simp only [decide_eq_false_iff_not,Int.not_lt] at h23
      try simp only [zds] at h23
      simp at h23
  · rw [e] at hd ⊢;refine qR (rs:=[6,7]) Tryz.func28 rfl rfl rfl teOk rfl ?_;refine qC ?_;refine qB ?_;refine qC ?_;refine qC ?_;refine qB ?_;refine qJ rfl (fun h16=>?_) (fun h16=>?_)
    ·try simp only [zbq] at h16
     try simp only [zds] at h16
     simp at h16
    ·skip
     refine qL ?_;refine qC ?_;refine qC ?_;refine qB ?_;intro l3_3
     try simp only [zds] at l3_3
     refine qN ?_;refine qS (fun (i : Nat)=>i = 0) (fun (i : Nat)=>[(0,.one (.adk k (rLst k) L)),(1,.one (.sl rEdt a)),(2,.one (.sl rEdt b)),(20,.one (.vec 0)),(21,ii .i64 2),(22,ii .i64 0)]) (fun (i : Nat)=>[(0,.vec 22 (.sl rEdt) [a,b])]) 1 (fun (i : Nat)=>0) 0 (rfl) (qP ⟨rfl,rfl,rfl,rfl,rfl,rfl⟩ rfl rfl) ?_;intro i hI0;refine qC ?_;refine qB ?_;refine qC ?_;refine qJ rfl (fun h23=>?_) (fun h23=>?_)
     ·try simp only [decide_eq_true_eq] at h23
      try simp only [zds] at h23
      refine qL ?_;refine qC ?_;refine qN ?_;refine qC ?_;refine qB ?_;refine zai (by first|omega|assumption|decide|(simp only [zds];omega)|(simp <;> omega)) ?_;refine zai (by first|omega|simp|decide) ?_;refine qC ?_;refine qB ?_;refine Or.inl ?_;refine zai (rfl) ?_;refine zei _ (zai (hd) ?_);refine qC ?_;refine qB ?_;refine qJ rfl (fun h34=>?_) (fun h34=>?_)
      ·skip
       refine qC ?_;refine qB ?_;refine qM ?_;rfl
      ·try simp only [zbq] at h34
       try simp only [zds] at h34
       simp at h34
     ·try simp only [decide_eq_false_iff_not,Int.not_lt] at h23
      try simp only [zds] at h23
      simp at h23
theorem mrgB_c {k c : Nat} (L : Lst) (a b : List Edt) (hL : LOk c L) (hc : c + a.length ≤ 200000) (hc2 : c + b.length ≤ 200000) (hf : ∀ e ∈ a,yD e.2.2) (hf2 : ∀ e ∈ b,yD e.2.2) (h0 : (doR L a).2 = 0) (h : (doR L b).2 ≠ 0) : qU Tryz.prog 28 [.one (.adk k (rLst k) L),.one (.sl rEdt a),.one (.sl rEdt b)] (.tup [nilE,(false,[erB (doR L b)])]):=by
  obtain ⟨h1,h2⟩:=doR_zero h0;have hok:=doOk_o (κ:=0) (κ':=0) (k:=k) L a hL hc hf h1 h2;have hd:=do_no (κ:=0) (κ':=0) (k:=k) L b hL hc2 hf2 h;rcases erB_cases h with ⟨n,hn,e,_⟩|⟨q,n,hn,e,_⟩
  · rw [e] at hd ⊢;refine qR (rs:=[6,7]) Tryz.func28 rfl rfl rfl teOk rfl ?_;refine qC ?_;refine qB ?_;refine qC ?_;refine qC ?_;refine qB ?_;refine qJ rfl (fun h16=>?_) (fun h16=>?_)
    ·try simp only [zbq] at h16
     try simp only [zds] at h16
     simp at h16
    ·skip
     refine qL ?_;refine qC ?_;refine qC ?_;refine qB ?_;intro l3_3
     try simp only [zds] at l3_3
     refine qN ?_;refine qS (fun (i : Nat)=>i ≤ 1) (fun (i : Nat)=>[(0,.one (.adk k (rLst k) L)),(1,.one (.sl rEdt a)),(2,.one (.sl rEdt b)),(20,.one (.vec 0)),(21,ii .i64 2),(22,ii .i64 i)]) (fun (i : Nat)=>[(0,.vec 22 (.sl rEdt) [a,b])]) 1 (fun (i : Nat)=>1 - i) 0 (Nat.zero_le _) (qP ⟨rfl,rfl,rfl,rfl,rfl,rfl⟩ rfl rfl) ?_;intro i hI0;refine qC ?_;refine qB ?_;refine qC ?_;refine qJ rfl (fun h23=>?_) (fun h23=>?_)
     ·try simp only [decide_eq_true_eq] at h23
      try simp only [zds] at h23
      refine qL ?_;refine qC ?_;refine qN ?_;refine qC ?_;obtain rfl|rfl : i = 0 ∨ i = 1:=by omega
      ·refine qB ?_;refine zai (by first|omega|assumption|decide|(simp only [zds];omega)|(simp <;> omega)) ?_;refine zai (by first|omega|simp|decide) ?_;refine qC ?_;refine qB ?_;refine Or.inr (Or.inl (zei [] (zei [] (zei _ (zei _ (zei _ (zei _ (zei _ (zai (hok) (zai rfl (zai True.intro (zai rfl ?_))))))))))));refine qC ?_;refine qB ?_;refine qJ rfl (fun h34=>?_) (fun h34=>?_)
       ·try simp only [Bool.not_eq_true'] at h34
        try simp only [zds] at h34
        simp at h34
       ·try simp only [Bool.not_eq_false'] at h34
        try simp only [zds] at h34
        refine qL ?_;refine qB ?_;refine zai (by first|omega|assumption|decide|(simp only [zds];omega)|(simp <;> omega)) ?_;exact ⟨1,by omega,by first|omega|(simp <;> omega),qP ⟨rfl,rfl,rfl,rfl,rfl,(qT (by omega))⟩ rfl rfl⟩
      ·refine qB ?_;refine zai (by first|omega|assumption|decide|(simp only [zds];omega)|(simp <;> omega)) ?_;refine zai (by first|omega|simp|decide) ?_;refine qC ?_;refine qB ?_;refine Or.inl ?_;refine zai (rfl) ?_;refine zei _ (zai (hd) ?_);refine qC ?_;refine qB ?_;refine qJ rfl (fun h34=>?_) (fun h34=>?_)
       ·skip
        refine qC ?_;refine qB ?_;refine qM ?_;rfl
       ·try simp only [zbq] at h34
        try simp only [zds] at h34
        simp at h34
     ·try simp only [decide_eq_false_iff_not,Int.not_lt] at h23
      try simp only [zds] at h23
      omega
  · rw [e] at hd ⊢;refine qR (rs:=[6,7]) Tryz.func28 rfl rfl rfl teOk rfl ?_;refine qC ?_;refine qB ?_;refine qC ?_;refine qC ?_;refine qB ?_;refine qJ rfl (fun h16=>?_) (fun h16=>?_)
    ·try simp only [zbq] at h16
     try simp only [zds] at h16
     simp at h16
    ·skip
     refine qL ?_;refine qC ?_;refine qC ?_;refine qB ?_;intro l3_3
     try simp only [zds] at l3_3
     refine qN ?_;refine qS (fun (i : Nat)=>i ≤ 1) (fun (i : Nat)=>[(0,.one (.adk k (rLst k) L)),(1,.one (.sl rEdt a)),(2,.one (.sl rEdt b)),(20,.one (.vec 0)),(21,ii .i64 2),(22,ii .i64 i)]) (fun (i : Nat)=>[(0,.vec 22 (.sl rEdt) [a,b])]) 1 (fun (i : Nat)=>1 - i) 0 (Nat.zero_le _) (qP ⟨rfl,rfl,rfl,rfl,rfl,rfl⟩ rfl rfl) ?_;intro i hI0;refine qC ?_;refine qB ?_;refine qC ?_;refine qJ rfl (fun h23=>?_) (fun h23=>?_)
     ·try simp only [decide_eq_true_eq] at h23
      try simp only [zds] at h23
      refine qL ?_;refine qC ?_;refine qN ?_;refine qC ?_;obtain rfl|rfl : i = 0 ∨ i = 1:=by omega
      ·refine qB ?_;refine zai (by first|omega|assumption|decide|(simp only [zds];omega)|(simp <;> omega)) ?_;refine zai (by first|omega|simp|decide) ?_;refine qC ?_;refine qB ?_;refine Or.inr (Or.inl (zei [] (zei [] (zei _ (zei _ (zei _ (zei _ (zei _ (zai (hok) (zai rfl (zai True.intro (zai rfl ?_))))))))))));refine qC ?_;refine qB ?_;refine qJ rfl (fun h34=>?_) (fun h34=>?_)
       ·try simp only [Bool.not_eq_true'] at h34
        try simp only [zds] at h34
        simp at h34
       ·try simp only [Bool.not_eq_false'] at h34
        try simp only [zds] at h34
        refine qL ?_;refine qB ?_;refine zai (by first|omega|assumption|decide|(simp only [zds];omega)|(simp <;> omega)) ?_;exact ⟨1,by omega,by first|omega|(simp <;> omega),qP ⟨rfl,rfl,rfl,rfl,rfl,(qT (by omega))⟩ rfl rfl⟩
      ·refine qB ?_;refine zai (by first|omega|assumption|decide|(simp only [zds];omega)|(simp <;> omega)) ?_;refine zai (by first|omega|simp|decide) ?_;refine qC ?_;refine qB ?_;refine Or.inl ?_;refine zai (rfl) ?_;refine zei _ (zai (hd) ?_);refine qC ?_;refine qB ?_;refine qJ rfl (fun h34=>?_) (fun h34=>?_)
       ·skip
        refine qC ?_;refine qB ?_;refine qM ?_;rfl
       ·try simp only [zbq] at h34
        try simp only [zds] at h34
        simp at h34
     ·try simp only [decide_eq_false_iff_not,Int.not_lt] at h23
      try simp only [zds] at h23
      omega
theorem mrgC_c {k c : Nat} (L : Lst) (a b : List Edt) (hL : LOk c L) (hc : c + a.length ≤ 200000) (hc2 : c + b.length ≤ 200000) (hf : ∀ e ∈ a,yD e.2.2) (hf2 : ∀ e ∈ b,yD e.2.2) (h0 : (doR L a).2 = 0) (h3 : (doR L b).2 = 0) (h : 0 ≤ clashI L.2.1 a b) : qU Tryz.prog 28 [.one (.adk k (rLst k) L),.one (.sl rEdt a),.one (.sl rEdt b)] (.tup [nilE,(false,[errF (clashI L.2.1 a b) 13])]):=by
  obtain ⟨h1,h2⟩:=doR_zero h0;obtain ⟨h4,h5⟩:=doR_zero h3;have hok:=doOk_o (κ:=0) (κ':=0) (k:=k) L a hL hc hf h1 h2;have hok2:=doOk_o (κ:=0) (κ':=0) (k:=k) L b hL hc2 hf2 h4 h5;refine qR (rs:=[6,7]) Tryz.func28 rfl rfl rfl teOk rfl ?_;refine qC ?_;refine qB ?_;refine qC ?_;refine qC ?_;refine qB ?_;refine qJ rfl (fun h16=>?_) (fun h16=>?_)
  ·try simp only [zbq] at h16
   try simp only [zds] at h16
   simp at h16
  ·skip
   refine qL ?_;refine qC ?_;refine qC ?_;refine qB ?_;intro l3_3
   try simp only [zds] at l3_3
   refine qN ?_;refine qS (fun (i : Nat)=>i ≤ 2) (fun (i : Nat)=>[(0,.one (.adk k (rLst k) L)),(1,.one (.sl rEdt a)),(2,.one (.sl rEdt b)),(20,.one (.vec 0)),(21,ii .i64 2),(22,ii .i64 i)]) (fun (i : Nat)=>[(0,.vec 22 (.sl rEdt) [a,b])]) 1 (fun (i : Nat)=>2 - i) 0 (Nat.zero_le _) (qP ⟨rfl,rfl,rfl,rfl,rfl,rfl⟩ rfl rfl) ?_;intro i hI0;refine qC ?_;refine qB ?_;refine qC ?_;refine qJ rfl (fun h23=>?_) (fun h23=>?_)
   ·try simp only [decide_eq_true_eq] at h23
    try simp only [zds] at h23
    refine qL ?_;refine qC ?_;refine qN ?_;refine qC ?_;obtain rfl|rfl : i = 0 ∨ i = 1:=by omega
    ·refine qB ?_;refine zai (by first|omega|assumption|decide|(simp only [zds];omega)|(simp <;> omega)) ?_;refine zai (by first|omega|simp|decide) ?_;refine qC ?_;refine qB ?_;refine Or.inr (Or.inl (zei [] (zei [] (zei _ (zei _ (zei _ (zei _ (zei _ (zai (hok) (zai rfl (zai True.intro (zai rfl ?_))))))))))));refine qC ?_;refine qB ?_;refine qJ rfl (fun h34=>?_) (fun h34=>?_)
     ·try simp only [Bool.not_eq_true'] at h34
      try simp only [zds] at h34
      simp at h34
     ·try simp only [Bool.not_eq_false'] at h34
      try simp only [zds] at h34
      refine qL ?_;refine qB ?_;refine zai (by first|omega|assumption|decide|(simp only [zds];omega)|(simp <;> omega)) ?_;exact ⟨1,by omega,by first|omega|(simp <;> omega),qP ⟨rfl,rfl,rfl,rfl,rfl,(qT (by omega))⟩ rfl rfl⟩
    ·refine qB ?_;refine zai (by first|omega|assumption|decide|(simp only [zds];omega)|(simp <;> omega)) ?_;refine zai (by first|omega|simp|decide) ?_;refine qC ?_;refine qB ?_;refine Or.inr (Or.inl (zei [] (zei [] (zei _ (zei _ (zei _ (zei _ (zei _ (zai (hok2) (zai rfl (zai True.intro (zai rfl ?_))))))))))));refine qC ?_;refine qB ?_;refine qJ rfl (fun h34=>?_) (fun h34=>?_)
     ·try simp only [Bool.not_eq_true'] at h34
      try simp only [zds] at h34
      simp at h34
     ·try simp only [Bool.not_eq_false'] at h34
      try simp only [zds] at h34
      refine qL ?_;refine qB ?_;refine zai (by first|omega|assumption|decide|(simp only [zds];omega)|(simp <;> omega)) ?_;exact ⟨2,by omega,by first|omega|(simp <;> omega),qP ⟨rfl,rfl,rfl,rfl,rfl,(qT (by omega))⟩ rfl rfl⟩
   ·try simp only [decide_eq_false_iff_not,Int.not_lt] at h23
    try simp only [zds] at h23
    refine qV ?_;refine qC ?_;refine qC ?_;refine qB ?_;refine Or.inl ?_;refine zai (rfl) ?_;refine zei _ (zai (next_c L.1 L.2.1 L.2.2) ?_);refine Or.inl ?_;refine zai (rfl) ?_;refine zei _ (zai (clash_c L.2.1 a b) ?_);refine qC ?_;refine qB ?_;refine qJ rfl (fun h43=>?_) (fun h43=>?_)
    ·try simp only [decide_eq_true_eq] at h43
     try simp only [zds] at h43
     refine qC ?_;refine qB ?_;refine qM ?_;rfl
    ·try simp only [decide_eq_false_iff_not,Int.not_le] at h43
     try simp only [zds] at h43
     exfalso
     omega
theorem mrgR_c {k c : Nat} (L : Lst) (a b : List Edt) (hL : LOk c L) (hc : c + a.length ≤ 200000) (hc2 : c + b.length ≤ 200000) (hf : ∀ e ∈ a,yD e.2.2) (hf2 : ∀ e ∈ b,yD e.2.2) (h0 : (doR L a).2 = 0) (h3 : (doR L b).2 = 0) (h : ¬ 0 ≤ clashI L.2.1 a b) (h40 : 40 < (a ++ rebB L.2.1 a b).length) : qU Tryz.prog 28 [.one (.adk k (rLst k) L),.one (.sl rEdt a),.one (.sl rEdt b)] (.tup [nilE,(false,[errN 1])]):=by
  obtain ⟨h1,h2⟩:=doR_zero h0;obtain ⟨h4,h5⟩:=doR_zero h3;have hok:=doOk_o (κ:=0) (κ':=0) (k:=k) L a hL hc hf h1 h2;have hok2:=doOk_o (κ:=0) (κ':=0) (k:=k) L b hL hc2 hf2 h4 h5;have hnx:=hL.next;have hle:=takes_le b hL hf2 (doR_takes h3).1;have hfl:=flat_len L.2.1 (insA a) a b;have hrb:=rebase_c (κ:=0) L.2.1 a b (by omega) (by omega) (fun e he=>Nat.le_trans (hf2 e he).1 (by decide)) (fun e he=>by have:=hle e he;omega) (by omega);have hcp:=copyE_o a (fun e he=>Nat.le_trans (hf e he).1 (by decide)) (by omega);have h40' : 40 < (a.length : Int) + (rebB L.2.1 a b).length:=by rw [List.length_append] at h40;omega
  have hrl : (rebB L.2.1 a b).length ≤ b.length:=hfl;refine qR (rs:=[6,7]) Tryz.func28 rfl rfl rfl teOk rfl ?_;refine qC ?_;refine qB ?_;refine qC ?_;refine qC ?_;refine qB ?_;refine qJ rfl (fun h16=>?_) (fun h16=>?_)
  ·try simp only [zbq] at h16
   try simp only [zds] at h16
   simp at h16
  ·skip
   refine qL ?_;refine qC ?_;refine qC ?_;refine qB ?_;intro l3_3
   try simp only [zds] at l3_3
   refine qN ?_;refine qS (fun (i : Nat)=>i ≤ 2) (fun (i : Nat)=>[(0,.one (.adk k (rLst k) L)),(1,.one (.sl rEdt a)),(2,.one (.sl rEdt b)),(20,.one (.vec 0)),(21,ii .i64 2),(22,ii .i64 i)]) (fun (i : Nat)=>[(0,.vec 22 (.sl rEdt) [a,b])]) 1 (fun (i : Nat)=>2 - i) 0 (Nat.zero_le _) (qP ⟨rfl,rfl,rfl,rfl,rfl,rfl⟩ rfl rfl) ?_;intro i hI0;refine qC ?_;refine qB ?_;refine qC ?_;refine qJ rfl (fun h23=>?_) (fun h23=>?_)
   ·try simp only [decide_eq_true_eq] at h23
    try simp only [zds] at h23
    refine qL ?_;refine qC ?_;refine qN ?_;refine qC ?_;obtain rfl|rfl : i = 0 ∨ i = 1:=by omega
    ·refine qB ?_;refine zai (by first|omega|assumption|decide|(simp only [zds];omega)|(simp <;> omega)) ?_;refine zai (by first|omega|simp|decide) ?_;refine qC ?_;refine qB ?_;refine Or.inr (Or.inl (zei [] (zei [] (zei _ (zei _ (zei _ (zei _ (zei _ (zai (hok) (zai rfl (zai True.intro (zai rfl ?_))))))))))));refine qC ?_;refine qB ?_;refine qJ rfl (fun h34=>?_) (fun h34=>?_)
     ·try simp only [Bool.not_eq_true'] at h34
      try simp only [zds] at h34
      simp at h34
     ·try simp only [Bool.not_eq_false'] at h34
      try simp only [zds] at h34
      refine qL ?_;refine qB ?_;refine zai (by first|omega|assumption|decide|(simp only [zds];omega)|(simp <;> omega)) ?_;exact ⟨1,by omega,by first|omega|(simp <;> omega),qP ⟨rfl,rfl,rfl,rfl,rfl,(qT (by omega))⟩ rfl rfl⟩
    ·refine qB ?_;refine zai (by first|omega|assumption|decide|(simp only [zds];omega)|(simp <;> omega)) ?_;refine zai (by first|omega|simp|decide) ?_;refine qC ?_;refine qB ?_;refine Or.inr (Or.inl (zei [] (zei [] (zei _ (zei _ (zei _ (zei _ (zei _ (zai (hok2) (zai rfl (zai True.intro (zai rfl ?_))))))))))));refine qC ?_;refine qB ?_;refine qJ rfl (fun h34=>?_) (fun h34=>?_)
     ·try simp only [Bool.not_eq_true'] at h34
      try simp only [zds] at h34
      simp at h34
     ·try simp only [Bool.not_eq_false'] at h34
      try simp only [zds] at h34
      refine qL ?_;refine qB ?_;refine zai (by first|omega|assumption|decide|(simp only [zds];omega)|(simp <;> omega)) ?_;exact ⟨2,by omega,by first|omega|(simp <;> omega),qP ⟨rfl,rfl,rfl,rfl,rfl,(qT (by omega))⟩ rfl rfl⟩
   ·try simp only [decide_eq_false_iff_not,Int.not_lt] at h23
    try simp only [zds] at h23
    refine qV ?_;refine qC ?_;refine qC ?_;refine qB ?_;refine Or.inl ?_;refine zai (rfl) ?_;refine zei _ (zai (next_c L.1 L.2.1 L.2.2) ?_);refine Or.inl ?_;refine zai (rfl) ?_;refine zei _ (zai (clash_c L.2.1 a b) ?_);refine qC ?_;refine qB ?_;refine qJ rfl (fun h43=>?_) (fun h43=>?_)
    ·try simp only [decide_eq_true_eq] at h43
     try simp only [zds] at h43
     exact absurd h43 h
    ·try simp only [decide_eq_false_iff_not,Int.not_le] at h43
     try simp only [zds] at h43
     refine qL ?_;refine qC ?_;refine qB ?_;refine Or.inr (Or.inl (zei [] (zei [] (zei _ (zei _ (zei _ (zei _ (zei _ (zai (hcp) (zai rfl (zai True.intro (zai rfl ?_))))))))))));refine Or.inl ?_;refine zai (rfl) ?_;refine zei _ (zai (next_c L.1 L.2.1 L.2.2) ?_);refine Or.inl ?_;refine zai (rfl) ?_;refine zei _ (zai (hrb) ?_);refine zai (by exact qQ (show a.length + (rebB L.2.1 a b).length ≤ 1000000000 by omega) (by decide)) ?_;refine qC ?_;refine qC ?_;refine qB ?_;intro l14_1
     try simp only [zds] at l14_1
     refine qJ rfl (fun h59=>?_) (fun h59=>?_)
     ·try simp only [decide_eq_true_eq] at h59
      try simp only [zds] at h59
      refine qC ?_;refine qB ?_;refine qM ?_;rfl
     ·try simp only [decide_eq_false_iff_not,Int.not_lt] at h59
      try simp only [zds] at h59
      exfalso
      simp [Rd.move_rfl] at h59;omega
theorem mrgO_c {k c : Nat} (L : Lst) (a b : List Edt) (hL : LOk c L) (hc : c + a.length ≤ 200000) (hc2 : c + b.length ≤ 200000) (hf : ∀ e ∈ a,yD e.2.2) (hf2 : ∀ e ∈ b,yD e.2.2) (h0 : (doR L a).2 = 0) (h3 : (doR L b).2 = 0) (h : ¬ 0 ≤ clashI L.2.1 a b) (h40 : ¬ 40 < (a ++ rebB L.2.1 a b).length) : qU Tryz.prog 28 [.one (.adk k (rLst k) L),.one (.sl rEdt a),.one (.sl rEdt b)] (.tup [(false,[.sl rEdt (a ++ rebB L.2.1 a b)]),(false,[.lit .nilIface])]):=by
  obtain ⟨h1,h2⟩:=doR_zero h0;obtain ⟨h4,h5⟩:=doR_zero h3;have hok:=doOk_o (κ:=0) (κ':=0) (k:=k) L a hL hc hf h1 h2;have hok2:=doOk_o (κ:=0) (κ':=0) (k:=k) L b hL hc2 hf2 h4 h5;have hnx:=hL.next;have hle:=takes_le b hL hf2 (doR_takes h3).1;have hfl:=flat_len L.2.1 (insA a) a b;have hrb:=rebase_c (κ:=0) L.2.1 a b (by omega) (by omega) (fun e he=>Nat.le_trans (hf2 e he).1 (by decide)) (fun e he=>by have:=hle e he;omega) (by omega);have hcp:=copyE_o a (fun e he=>Nat.le_trans (hf e he).1 (by decide)) (by omega);have h40' : ¬ 40 < (a.length : Int) + (rebB L.2.1 a b).length:=by rw [List.length_append] at h40;omega
  have hrl : (rebB L.2.1 a b).length ≤ b.length:=hfl;refine qR (rs:=[6,7]) Tryz.func28 rfl rfl rfl teOk rfl ?_;refine qC ?_;refine qB ?_;refine qC ?_;refine qC ?_;refine qB ?_;refine qJ rfl (fun h16=>?_) (fun h16=>?_)
  ·try simp only [zbq] at h16
   try simp only [zds] at h16
   simp at h16
  ·skip
   refine qL ?_;refine qC ?_;refine qC ?_;refine qB ?_;intro l3_3
   try simp only [zds] at l3_3
   refine qN ?_;refine qS (fun (i : Nat)=>i ≤ 2) (fun (i : Nat)=>[(0,.one (.adk k (rLst k) L)),(1,.one (.sl rEdt a)),(2,.one (.sl rEdt b)),(20,.one (.vec 0)),(21,ii .i64 2),(22,ii .i64 i)]) (fun (i : Nat)=>[(0,.vec 22 (.sl rEdt) [a,b])]) 1 (fun (i : Nat)=>2 - i) 0 (Nat.zero_le _) (qP ⟨rfl,rfl,rfl,rfl,rfl,rfl⟩ rfl rfl) ?_;intro i hI0;refine qC ?_;refine qB ?_;refine qC ?_;refine qJ rfl (fun h23=>?_) (fun h23=>?_)
   ·try simp only [decide_eq_true_eq] at h23
    try simp only [zds] at h23
    refine qL ?_;refine qC ?_;refine qN ?_;refine qC ?_;obtain rfl|rfl : i = 0 ∨ i = 1:=by omega
    ·refine qB ?_;refine zai (by first|omega|assumption|decide|(simp only [zds];omega)|(simp <;> omega)) ?_;refine zai (by first|omega|simp|decide) ?_;refine qC ?_;refine qB ?_;refine Or.inr (Or.inl (zei [] (zei [] (zei _ (zei _ (zei _ (zei _ (zei _ (zai (hok) (zai rfl (zai True.intro (zai rfl ?_))))))))))));refine qC ?_;refine qB ?_;refine qJ rfl (fun h34=>?_) (fun h34=>?_)
     ·try simp only [Bool.not_eq_true'] at h34
      try simp only [zds] at h34
      simp at h34
     ·try simp only [Bool.not_eq_false'] at h34
      try simp only [zds] at h34
      refine qL ?_;refine qB ?_;refine zai (by first|omega|assumption|decide|(simp only [zds];omega)|(simp <;> omega)) ?_;exact ⟨1,by omega,by first|omega|(simp <;> omega),qP ⟨rfl,rfl,rfl,rfl,rfl,(qT (by omega))⟩ rfl rfl⟩
    ·refine qB ?_;refine zai (by first|omega|assumption|decide|(simp only [zds];omega)|(simp <;> omega)) ?_;refine zai (by first|omega|simp|decide) ?_;refine qC ?_;refine qB ?_;refine Or.inr (Or.inl (zei [] (zei [] (zei _ (zei _ (zei _ (zei _ (zei _ (zai (hok2) (zai rfl (zai True.intro (zai rfl ?_))))))))))));refine qC ?_;refine qB ?_;refine qJ rfl (fun h34=>?_) (fun h34=>?_)
     ·try simp only [Bool.not_eq_true'] at h34
      try simp only [zds] at h34
      simp at h34
     ·try simp only [Bool.not_eq_false'] at h34
      try simp only [zds] at h34
      refine qL ?_;refine qB ?_;refine zai (by first|omega|assumption|decide|(simp only [zds];omega)|(simp <;> omega)) ?_;exact ⟨2,by omega,by first|omega|(simp <;> omega),qP ⟨rfl,rfl,rfl,rfl,rfl,(qT (by omega))⟩ rfl rfl⟩
   ·try simp only [decide_eq_false_iff_not,Int.not_lt] at h23
    try simp only [zds] at h23
    refine qV ?_;refine qC ?_;refine qC ?_;refine qB ?_;refine Or.inl ?_;refine zai (rfl) ?_;refine zei _ (zai (next_c L.1 L.2.1 L.2.2) ?_);refine Or.inl ?_;refine zai (rfl) ?_;refine zei _ (zai (clash_c L.2.1 a b) ?_);refine qC ?_;refine qB ?_;refine qJ rfl (fun h43=>?_) (fun h43=>?_)
    ·try simp only [decide_eq_true_eq] at h43
     try simp only [zds] at h43
     exact absurd h43 h
    ·try simp only [decide_eq_false_iff_not,Int.not_le] at h43
     try simp only [zds] at h43
     refine qL ?_;refine qC ?_;refine qB ?_;refine Or.inr (Or.inl (zei [] (zei [] (zei _ (zei _ (zei _ (zei _ (zei _ (zai (hcp) (zai rfl (zai True.intro (zai rfl ?_))))))))))));refine Or.inl ?_;refine zai (rfl) ?_;refine zei _ (zai (next_c L.1 L.2.1 L.2.2) ?_);refine Or.inl ?_;refine zai (rfl) ?_;refine zei _ (zai (hrb) ?_);refine zai (by exact qQ (show a.length + (rebB L.2.1 a b).length ≤ 1000000000 by omega) (by decide)) ?_;refine qC ?_;refine qC ?_;refine qB ?_;intro l14_1
     try simp only [zds] at l14_1
     refine qJ rfl (fun h59=>?_) (fun h59=>?_)
     ·try simp only [decide_eq_true_eq] at h59
      try simp only [zds] at h59
      exfalso
      simp [Rd.move_rfl] at h59;omega
     ·try simp only [decide_eq_false_iff_not,Int.not_lt] at h59
      try simp only [zds] at h59
      refine qL ?_;refine qC ?_;refine qB ?_;refine qM ?_;rfl
theorem mrgNil_c (a b : List Edt) : qU Tryz.prog 28 [.one (.lit (.pointer none)),.one (.sl rEdt a),.one (.sl rEdt b)] (.tup [nilE,(false,[errN 7])]):=by
  refine qR (rs:=[6,7]) Tryz.func28 rfl rfl rfl teOk rfl ?_;refine qC ?_;refine qB ?_;refine qC ?_;refine qC ?_;refine qB ?_;refine qJ rfl (fun h16=>?_) (fun h16=>?_)
  ·try simp only [Bool.not_eq_true'] at h16
   try simp only [zds] at h16
   refine qC ?_;refine qB ?_;refine qM ?_;rfl
  ·try simp only [Bool.not_eq_false'] at h16
   try simp only [zds] at h16
   simp at h16
theorem isN7_c : qU Tryz.prog 29 [.one (errN 7),ii .i64 7] (ib true):=by
  refine qR (rs:=[4]) Tryz.func29 rfl rfl rfl teOk rfl ?_;refine qC ?_;refine qB ?_;refine qC ?_;refine qB ?_;refine Or.inl ?_;refine zai (rfl) ?_;refine zei _ (zai (num_errno 7 (by decide)) ?_);refine qM ?_;rfl
def alMa : List Edt:=[(2,1,[])]
def alMb : List Edt:=[(1,1,[(⟨#[65]⟩,ByteArray.empty)])]
theorem alMa_ok : ∀ e ∈ alMa,yD e.2.2:=fun e he=>by rw [List.mem_singleton.1 he];exact ⟨by decide,by decide⟩
theorem alMb_ok : ∀ e ∈ alMb,yD e.2.2:=fun e he=>by rw [List.mem_singleton.1 he];exact ⟨by decide,by decide⟩
theorem alM_clash {k : Nat} : qU Tryz.prog 28 [.one (.adk k (rLst k) (al0,2,1)),.one (.sl rEdt alMa),.one (.sl rEdt alMb)] (.tup [nilE,(false,[errF 0 13])]):=by
  have hL : LOk 9000 (al0,2,1):=of_lok (s:=⟨#[65,58,32,49,10]⟩) (by decide) a1_parse7;have h:=mrgC_c (k:=k) (al0,2,1) alMa alMb hL (by decide) (by decide) alMa_ok alMb_ok (by decide +kernel) (by decide +kernel) (by decide +kernel);rw [show clashI 2 alMa alMb = 0 by decide +kernel] at h;exact h
theorem alive23_c : qU Tryz.prog 26 [] (ib true):=by
  have hof:=of_ok ⟨#[65,58,32,49,10]⟩ (by decide) a1_parse7;rw [show ofT [(3,⟨#[65,58,32,49,10]⟩,[(⟨#[65]⟩,⟨#[49]⟩)])] = (al0,2,1) from rfl] at hof;have hm:=alM_clash (k:=1);refine qR (rs:=[0]) Tryz.func26 rfl rfl rfl teOk rfl ?_;refine qC ?_;refine qB ?_;refine qC ?_;refine qB ?_;refine Or.inr (Or.inl (zei [] (zei [] (zei _ (zei _ (zei _ (zei _ (zei _ (zai (hof) (zai rfl (zai True.intro (zai rfl ?_))))))))))));refine qC ?_;refine qC ?_;refine qB ?_;refine zai (fun h=>trivial) ?_;refine zai (fun h=>⟨⟨h,trivial⟩,trivial⟩) ?_;refine zai (by first|(intro h;rw [h];rfl)|(intro h;cases h)) ?_;refine qJ rfl (fun h12=>?_) (fun h12=>?_)
  ·try simp only [Bool.not_eq_true',Bool.or_eq_true] at h12
   try simp only [zds] at h12
   simp at h12
  ·try simp only [Bool.not_eq_false',Bool.or_eq_false_iff] at h12
   try simp only [zds] at h12
   refine qL ?_;refine qC ?_;refine qB ?_;refine Or.inl ?_;refine zai (rfl) ?_;refine zei _ (zai (hm) ?_);refine qC ?_;refine qB ?_;refine Or.inl ?_;refine zai (rfl) ?_;refine zei _ (zai (is_fault 0 13 (by decide)) ?_);refine zai (fun h=>trivial) ?_;refine Or.inl ?_;refine zai (rfl) ?_;refine zei _ (zai (fun h=>⟨⟨⟨h,trivial⟩,trivial⟩,at_fault 0 13⟩) ?_);refine zai (fun h=>⟨⟨h,trivial⟩,trivial⟩) ?_;refine zai (by exact fun h=>h) ?_;refine qM ?_;rfl
theorem refDo_no {c : Nat} (L : Lst) (s : List Edt) (hL : LOk c L) (hc : c + s.length ≤ 200000) (hf : ∀ e ∈ s,yD e.2.2) (h : (doR L s).2 ≠ 0) : qU Tryz.prog 14 [.agg (toL rRL (L.1,L.2.1)),.one (.sl rEdt s)] (.tup [(true,toL rRL (L.1,L.2.1)),(false,[.lit (.slice none 0 0)]),(false,[.lit (.int .i64 (doR L s).1)]),(false,[.lit (.int .i64 (doR L s).2)])]):=by
  by_cases h0 : (chkB s).2 = 0
  · rcases doR_cases L s h0 with ⟨h3,_⟩|⟨q,hq,h3,hb,ht⟩
    · rw [h3] at h;exact absurd rfl h
    · rw [h3];exact refDoBad_c L s hL hc hf h0 q hq hb ht
  · have e : doR L s = chkB s:=by unfold doR;rw [if_pos h0]
    rw [e];exact refDoC_c L s hf (by omega) h0
theorem refMrgA_c {c : Nat} (L : Lst) (a b : List Edt) (hL : LOk c L) (hc : c + a.length ≤ 200000) (hf : ∀ e ∈ a,yD e.2.2) (h : (doR L a).2 ≠ 0) : qU Tryz.prog 36 [.agg (toL rRL (L.1,L.2.1)),.one (.sl rEdt a),.one (.sl rEdt b)] (.tup [nilE,(false,[.lit (.int .i64 (doR L a).1)]),(false,[.lit (.int .i64 (doR L a).2)])]):=by
  have hd:=refDo_no L a hL hc hf h;refine qR (rs:=[6,7,8]) Tryz.func36 rfl rfl rfl teOk rfl ?_;refine qC ?_;refine qB ?_;refine qC ?_;refine qC ?_;refine qB ?_;refine Or.inl ?_;refine zai (rfl) ?_;refine zei _ (zai (hd) ?_);refine qC ?_;refine qB ?_;refine qJ rfl (fun h28=>?_) (fun h28=>?_)
  ·try simp only [decide_eq_false_iff_not,Bool.not_eq_true'] at h28
   try simp only [zds] at h28
   refine qC ?_;refine qB ?_;refine qM ?_;rfl
  ·try simp only [decide_eq_true_eq,Bool.not_eq_false'] at h28
   try simp only [zds] at h28
   exact absurd h28 h
theorem refMrgB_c {c : Nat} (L : Lst) (a b : List Edt) (hL : LOk c L) (hc : c + a.length ≤ 200000) (hc2 : c + b.length ≤ 200000) (hf : ∀ e ∈ a,yD e.2.2) (hf2 : ∀ e ∈ b,yD e.2.2) (h0 : (doR L a).2 = 0) (h : (doR L b).2 ≠ 0) : qU Tryz.prog 36 [.agg (toL rRL (L.1,L.2.1)),.one (.sl rEdt a),.one (.sl rEdt b)] (.tup [nilE,(false,[.lit (.int .i64 (doR L b).1)]),(false,[.lit (.int .i64 (doR L b).2)])]):=by
  obtain ⟨h1,h2⟩:=doR_zero h0;have hok:=refDoOk_c L a hL hc hf h1 h2;have hd:=refDo_no L b hL hc2 hf2 h;refine qR (rs:=[6,7,8]) Tryz.func36 rfl rfl rfl teOk rfl ?_;refine qC ?_;refine qB ?_;refine qC ?_;refine qC ?_;refine qB ?_;refine Or.inl ?_;refine zai (rfl) ?_;refine zei _ (zai (hok) ?_);refine qC ?_;refine qB ?_;refine qJ rfl (fun h28=>?_) (fun h28=>?_)
  ·try simp only [decide_eq_false_iff_not,Bool.not_eq_true'] at h28
   try simp only [zds] at h28
   simp at h28
  ·try simp only [decide_eq_true_eq,Bool.not_eq_false'] at h28
   try simp only [zds] at h28
   refine qL ?_;refine qC ?_;refine qC ?_;refine qB ?_;refine Or.inl ?_;refine zai (rfl) ?_;refine zei _ (zai (hd) ?_);refine qC ?_;refine qB ?_;refine qJ rfl (fun h40=>?_) (fun h40=>?_)
   ·try simp only [decide_eq_false_iff_not,Bool.not_eq_true'] at h40
    try simp only [zds] at h40
    refine qC ?_;refine qB ?_;refine qM ?_;rfl
   ·try simp only [decide_eq_true_eq,Bool.not_eq_false'] at h40
    try simp only [zds] at h40
    exact absurd h40 h
theorem refMrgC_c {c : Nat} (L : Lst) (a b : List Edt) (hL : LOk c L) (hc : c + a.length ≤ 200000) (hc2 : c + b.length ≤ 200000) (hf : ∀ e ∈ a,yD e.2.2) (hf2 : ∀ e ∈ b,yD e.2.2) (h0 : (doR L a).2 = 0) (h3 : (doR L b).2 = 0) (h : 0 ≤ clashI L.2.1 a b) : qU Tryz.prog 36 [.agg (toL rRL (L.1,L.2.1)),.one (.sl rEdt a),.one (.sl rEdt b)] (.tup [nilE,(false,[.lit (.int .i64 (clashI L.2.1 a b))]),(false,[.lit (.int .i64 (13))])]):=by
  obtain ⟨h1,h2⟩:=doR_zero h0;obtain ⟨h4,h5⟩:=doR_zero h3;have hok:=refDoOk_c L a hL hc hf h1 h2;have hok2:=refDoOk_c L b hL hc2 hf2 h4 h5;have hnx:=hL.next;have hle:=takes_le b hL hf2 (doR_takes h3).1;have hrb:=refRebase_c L.2.1 a b (by omega) (by omega) (fun e he=>by have:=hle e he;omega) (by omega);have hrl : (rebB L.2.1 a b).length ≤ b.length:=flat_len L.2.1 (insA a) a b;refine qR (rs:=[6,7,8]) Tryz.func36 rfl rfl rfl teOk rfl ?_;refine qC ?_;refine qB ?_;refine qC ?_;refine qC ?_;refine qB ?_;refine Or.inl ?_;refine zai (rfl) ?_;refine zei _ (zai (hok) ?_);refine qC ?_;refine qB ?_;refine qJ rfl (fun h28=>?_) (fun h28=>?_)
  ·try simp only [decide_eq_false_iff_not,Bool.not_eq_true'] at h28
   try simp only [zds] at h28
   simp at h28
  ·try simp only [decide_eq_true_eq,Bool.not_eq_false'] at h28
   try simp only [zds] at h28
   refine qL ?_;refine qC ?_;refine qC ?_;refine qB ?_;refine Or.inl ?_;refine zai (rfl) ?_;refine zei _ (zai (hok2) ?_);refine qC ?_;refine qB ?_;refine qJ rfl (fun h40=>?_) (fun h40=>?_)
   ·try simp only [decide_eq_false_iff_not,Bool.not_eq_true'] at h40
    try simp only [zds] at h40
    simp at h40
   ·try simp only [decide_eq_true_eq,Bool.not_eq_false'] at h40
    try simp only [zds] at h40
    refine qL ?_;refine qC ?_;refine qC ?_;refine qB ?_;refine Or.inl ?_;refine zai (rfl) ?_;refine zei _ (zai (refClash_c L.2.1 a b) ?_);refine qC ?_;refine qB ?_;refine qJ rfl (fun h49=>?_) (fun h49=>?_)
    ·try simp only [decide_eq_true_eq] at h49
     try simp only [zds] at h49
     refine qC ?_;refine qB ?_;refine qM ?_;rfl
    ·try simp only [decide_eq_false_iff_not,Int.not_le] at h49
     try simp only [zds] at h49
     exfalso
     omega
theorem refMrgR_c {c : Nat} (L : Lst) (a b : List Edt) (hL : LOk c L) (hc : c + a.length ≤ 200000) (hc2 : c + b.length ≤ 200000) (hf : ∀ e ∈ a,yD e.2.2) (hf2 : ∀ e ∈ b,yD e.2.2) (h0 : (doR L a).2 = 0) (h3 : (doR L b).2 = 0) (h : ¬ 0 ≤ clashI L.2.1 a b) (hlen : 40 < (a ++ rebB L.2.1 a b).length) : qU Tryz.prog 36 [.agg (toL rRL (L.1,L.2.1)),.one (.sl rEdt a),.one (.sl rEdt b)] (.tup [nilE,(false,[.lit (.int .i64 (-9))]),(false,[.lit (.int .i64 (1))])]):=by
  obtain ⟨h1,h2⟩:=doR_zero h0;obtain ⟨h4,h5⟩:=doR_zero h3;have hok:=refDoOk_c L a hL hc hf h1 h2;have hok2:=refDoOk_c L b hL hc2 hf2 h4 h5;have hnx:=hL.next;have hle:=takes_le b hL hf2 (doR_takes h3).1;have hrb:=refRebase_c L.2.1 a b (by omega) (by omega) (fun e he=>by have:=hle e he;omega) (by omega);have hrl : (rebB L.2.1 a b).length ≤ b.length:=flat_len L.2.1 (insA a) a b;refine qR (rs:=[6,7,8]) Tryz.func36 rfl rfl rfl teOk rfl ?_;refine qC ?_;refine qB ?_;refine qC ?_;refine qC ?_;refine qB ?_;refine Or.inl ?_;refine zai (rfl) ?_;refine zei _ (zai (hok) ?_);refine qC ?_;refine qB ?_;refine qJ rfl (fun h28=>?_) (fun h28=>?_)
  ·try simp only [decide_eq_false_iff_not,Bool.not_eq_true'] at h28
   try simp only [zds] at h28
   simp at h28
  ·try simp only [decide_eq_true_eq,Bool.not_eq_false'] at h28
   try simp only [zds] at h28
   refine qL ?_;refine qC ?_;refine qC ?_;refine qB ?_;refine Or.inl ?_;refine zai (rfl) ?_;refine zei _ (zai (hok2) ?_);refine qC ?_;refine qB ?_;refine qJ rfl (fun h40=>?_) (fun h40=>?_)
   ·try simp only [decide_eq_false_iff_not,Bool.not_eq_true'] at h40
    try simp only [zds] at h40
    simp at h40
   ·try simp only [decide_eq_true_eq,Bool.not_eq_false'] at h40
    try simp only [zds] at h40
    refine qL ?_;refine qC ?_;refine qC ?_;refine qB ?_;refine Or.inl ?_;refine zai (rfl) ?_;refine zei _ (zai (refClash_c L.2.1 a b) ?_);refine qC ?_;refine qB ?_;refine qJ rfl (fun h49=>?_) (fun h49=>?_)
    ·try simp only [decide_eq_true_eq] at h49
     try simp only [zds] at h49
     exact absurd h49 h
    ·try simp only [decide_eq_false_iff_not,Int.not_le] at h49
     try simp only [zds] at h49
     refine qL ?_;refine qC ?_;refine yQ rfl ?_;refine qI 1 rfl rfl rfl (by kernel_rfl) ?_;refine qI 3 rfl rfl rfl (by kernel_rfl) ?_;refine qI 5 rfl rfl rfl (by kernel_rfl) ?_;refine qI 6 rfl rfl rfl (by kernel_rfl) ?_;refine qK [0,4] (by kernel_rfl) rfl ?_;refine zai ?_ ?_
     ·refine qK [2,4] (by kernel_rfl) rfl ?_;refine zai ?_ ?_
      ·refine zai (by exact qQ (show 0 + a.length ≤ 1000000000 by omega) (by decide)) ?_;refine qK [4] (by kernel_rfl) rfl ?_;refine qK [7] (by kernel_rfl) rfl ?_;refine Or.inl ?_;refine zai (rfl) ?_;refine zei _ (zai (hrb) ?_);refine qK [8] (by kernel_rfl) rfl ?_;refine zai (by exact qQ (show a.length + (rebB L.2.1 a b).length ≤ 1000000000 by omega) (by decide)) ?_;refine qI 9 rfl rfl rfl (by kernel_rfl) ?_;refine qO (by kernel_rfl) ?_;refine qC ?_;refine qC ?_;refine qB ?_;intro l11_1
       try simp only [zds] at l11_1
       refine qJ rfl (fun h62=>?_) (fun h62=>?_)
       ·try simp only [decide_eq_true_eq] at h62
        try simp only [zds] at h62
        refine qC ?_;refine qB ?_;refine qM ?_;rfl
       ·try simp only [decide_eq_false_iff_not,Int.not_lt] at h62
        try simp only [zds] at h62
        exfalso
        rw [List.length_append] at hlen;simp [Rd.move_rfl] at h62;omega
      ·refine qK [2] (by kernel_rfl) rfl ?_;refine zai (by exact qQ (show 0 + a.length ≤ 1000000000 by omega) (by decide)) ?_;refine qK [7] (by kernel_rfl) rfl ?_;refine Or.inl ?_;refine zai (rfl) ?_;refine zei _ (zai (hrb) ?_);refine qK [8] (by kernel_rfl) rfl ?_;refine zai (by exact qQ (show a.length + (rebB L.2.1 a b).length ≤ 1000000000 by omega) (by decide)) ?_;refine qI 9 rfl rfl rfl (by kernel_rfl) ?_;refine qO (by kernel_rfl) ?_;refine qC ?_;refine qC ?_;refine qB ?_;intro l11_1
       try simp only [zds] at l11_1
       refine qJ rfl (fun h62=>?_) (fun h62=>?_)
       ·try simp only [decide_eq_true_eq] at h62
        try simp only [zds] at h62
        refine qC ?_;refine qB ?_;refine qM ?_;rfl
       ·try simp only [decide_eq_false_iff_not,Int.not_lt] at h62
        try simp only [zds] at h62
        exfalso
        rw [List.length_append] at hlen;simp [Rd.move_rfl] at h62;omega
     ·refine qK [0] (by kernel_rfl) rfl ?_;refine qK [2] (by kernel_rfl) rfl ?_;refine zai (by exact qQ (show 0 + a.length ≤ 1000000000 by omega) (by decide)) ?_;refine qK [7] (by kernel_rfl) rfl ?_;refine Or.inl ?_;refine zai (rfl) ?_;refine zei _ (zai (hrb) ?_);refine qK [8] (by kernel_rfl) rfl ?_;refine zai (by exact qQ (show a.length + (rebB L.2.1 a b).length ≤ 1000000000 by omega) (by decide)) ?_;refine qI 9 rfl rfl rfl (by kernel_rfl) ?_;refine qO (by kernel_rfl) ?_;refine qC ?_;refine qC ?_;refine qB ?_;intro l11_1
      try simp only [zds] at l11_1
      refine qJ rfl (fun h62=>?_) (fun h62=>?_)
      ·try simp only [decide_eq_true_eq] at h62
       try simp only [zds] at h62
       refine qC ?_;refine qB ?_;refine qM ?_;rfl
      ·try simp only [decide_eq_false_iff_not,Int.not_lt] at h62
       try simp only [zds] at h62
       exfalso
       rw [List.length_append] at hlen;simp [Rd.move_rfl] at h62;omega
theorem refMrgO_c {c : Nat} (L : Lst) (a b : List Edt) (hL : LOk c L) (hc : c + a.length ≤ 200000) (hc2 : c + b.length ≤ 200000) (hf : ∀ e ∈ a,yD e.2.2) (hf2 : ∀ e ∈ b,yD e.2.2) (h0 : (doR L a).2 = 0) (h3 : (doR L b).2 = 0) (h : ¬ 0 ≤ clashI L.2.1 a b) (hlen : ¬ 40 < (a ++ rebB L.2.1 a b).length) : qU Tryz.prog 36 [.agg (toL rRL (L.1,L.2.1)),.one (.sl rEdt a),.one (.sl rEdt b)] (.tup [(false,[.sl rEdt (a ++ rebB L.2.1 a b)]),(false,[.lit (.int .i64 (-9))]),(false,[.lit (.int .i64 (0))])]):=by
  obtain ⟨h1,h2⟩:=doR_zero h0;obtain ⟨h4,h5⟩:=doR_zero h3;have hok:=refDoOk_c L a hL hc hf h1 h2;have hok2:=refDoOk_c L b hL hc2 hf2 h4 h5;have hnx:=hL.next;have hle:=takes_le b hL hf2 (doR_takes h3).1;have hrb:=refRebase_c L.2.1 a b (by omega) (by omega) (fun e he=>by have:=hle e he;omega) (by omega);have hrl : (rebB L.2.1 a b).length ≤ b.length:=flat_len L.2.1 (insA a) a b;refine qR (rs:=[6,7,8]) Tryz.func36 rfl rfl rfl teOk rfl ?_;refine qC ?_;refine qB ?_;refine qC ?_;refine qC ?_;refine qB ?_;refine Or.inl ?_;refine zai (rfl) ?_;refine zei _ (zai (hok) ?_);refine qC ?_;refine qB ?_;refine qJ rfl (fun h28=>?_) (fun h28=>?_)
  ·try simp only [decide_eq_false_iff_not,Bool.not_eq_true'] at h28
   try simp only [zds] at h28
   simp at h28
  ·try simp only [decide_eq_true_eq,Bool.not_eq_false'] at h28
   try simp only [zds] at h28
   refine qL ?_;refine qC ?_;refine qC ?_;refine qB ?_;refine Or.inl ?_;refine zai (rfl) ?_;refine zei _ (zai (hok2) ?_);refine qC ?_;refine qB ?_;refine qJ rfl (fun h40=>?_) (fun h40=>?_)
   ·try simp only [decide_eq_false_iff_not,Bool.not_eq_true'] at h40
    try simp only [zds] at h40
    simp at h40
   ·try simp only [decide_eq_true_eq,Bool.not_eq_false'] at h40
    try simp only [zds] at h40
    refine qL ?_;refine qC ?_;refine qC ?_;refine qB ?_;refine Or.inl ?_;refine zai (rfl) ?_;refine zei _ (zai (refClash_c L.2.1 a b) ?_);refine qC ?_;refine qB ?_;refine qJ rfl (fun h49=>?_) (fun h49=>?_)
    ·try simp only [decide_eq_true_eq] at h49
     try simp only [zds] at h49
     exact absurd h49 h
    ·try simp only [decide_eq_false_iff_not,Int.not_le] at h49
     try simp only [zds] at h49
     refine qL ?_;refine qC ?_;refine yQ rfl ?_;refine qI 1 rfl rfl rfl (by kernel_rfl) ?_;refine qI 3 rfl rfl rfl (by kernel_rfl) ?_;refine qI 5 rfl rfl rfl (by kernel_rfl) ?_;refine qI 6 rfl rfl rfl (by kernel_rfl) ?_;refine qK [0,4] (by kernel_rfl) rfl ?_;refine zai ?_ ?_
     ·refine qK [2,4] (by kernel_rfl) rfl ?_;refine zai ?_ ?_
      ·refine zai (by exact qQ (show 0 + a.length ≤ 1000000000 by omega) (by decide)) ?_;refine qK [4] (by kernel_rfl) rfl ?_;refine qK [7] (by kernel_rfl) rfl ?_;refine Or.inl ?_;refine zai (rfl) ?_;refine zei _ (zai (hrb) ?_);refine qK [8] (by kernel_rfl) rfl ?_;refine zai (by exact qQ (show a.length + (rebB L.2.1 a b).length ≤ 1000000000 by omega) (by decide)) ?_;refine qI 9 rfl rfl rfl (by kernel_rfl) ?_;refine qO (by kernel_rfl) ?_;refine qC ?_;refine qC ?_;refine qB ?_;intro l11_1
       try simp only [zds] at l11_1
       refine qJ rfl (fun h62=>?_) (fun h62=>?_)
       ·try simp only [decide_eq_true_eq] at h62
        try simp only [zds] at h62
        exfalso
        rw [List.length_append] at hlen;simp [Rd.move_rfl] at h62;omega
       ·try simp only [decide_eq_false_iff_not,Int.not_lt] at h62
        try simp only [zds] at h62
        refine qL ?_;refine qC ?_;refine qB ?_;refine qM ?_;rfl
      ·refine qK [2] (by kernel_rfl) rfl ?_;refine zai (by exact qQ (show 0 + a.length ≤ 1000000000 by omega) (by decide)) ?_;refine qK [7] (by kernel_rfl) rfl ?_;refine Or.inl ?_;refine zai (rfl) ?_;refine zei _ (zai (hrb) ?_);refine qK [8] (by kernel_rfl) rfl ?_;refine zai (by exact qQ (show a.length + (rebB L.2.1 a b).length ≤ 1000000000 by omega) (by decide)) ?_;refine qI 9 rfl rfl rfl (by kernel_rfl) ?_;refine qO (by kernel_rfl) ?_;refine qC ?_;refine qC ?_;refine qB ?_;intro l11_1
       try simp only [zds] at l11_1
       refine qJ rfl (fun h62=>?_) (fun h62=>?_)
       ·try simp only [decide_eq_true_eq] at h62
        try simp only [zds] at h62
        exfalso
        rw [List.length_append] at hlen;simp [Rd.move_rfl] at h62;omega
       ·try simp only [decide_eq_false_iff_not,Int.not_lt] at h62
        try simp only [zds] at h62
        refine qL ?_;refine qC ?_;refine qB ?_;refine qM ?_;rfl
     ·refine qK [0] (by kernel_rfl) rfl ?_;refine qK [2] (by kernel_rfl) rfl ?_;refine zai (by exact qQ (show 0 + a.length ≤ 1000000000 by omega) (by decide)) ?_;refine qK [7] (by kernel_rfl) rfl ?_;refine Or.inl ?_;refine zai (rfl) ?_;refine zei _ (zai (hrb) ?_);refine qK [8] (by kernel_rfl) rfl ?_;refine zai (by exact qQ (show a.length + (rebB L.2.1 a b).length ≤ 1000000000 by omega) (by decide)) ?_;refine qI 9 rfl rfl rfl (by kernel_rfl) ?_;refine qO (by kernel_rfl) ?_;refine qC ?_;refine qC ?_;refine qB ?_;intro l11_1
      try simp only [zds] at l11_1
      refine qJ rfl (fun h62=>?_) (fun h62=>?_)
      ·try simp only [decide_eq_true_eq] at h62
       try simp only [zds] at h62
       exfalso
       rw [List.length_append] at hlen;simp [Rd.move_rfl] at h62;omega
      ·try simp only [decide_eq_false_iff_not,Int.not_lt] at h62
       try simp only [zds] at h62
       refine qL ?_;refine qC ?_;refine qB ?_;refine qM ?_;rfl
theorem mrg_no {k c : Nat} (L : Lst) (a b : List Edt) (hL : LOk c L) (hc : c + a.length ≤ 200000) (hc2 : c + b.length ≤ 200000) (hf : ∀ e ∈ a,yD e.2.2) (hf2 : ∀ e ∈ b,yD e.2.2) (h : (mrgN L a b).2 ≠ 0) : qU Tryz.prog 28 [.one (.adk k (rLst k) L),.one (.sl rEdt a),.one (.sl rEdt b)] (.tup [nilE,(false,[erB (mrgN L a b)])]) ∧
    qU Tryz.prog 36 [.agg (toL rRL (L.1,L.2.1)),.one (.sl rEdt a),.one (.sl rEdt b)] (.tup [nilE,(false,[.lit (.int .i64 (mrgN L a b).1)]),(false,[.lit (.int .i64 (mrgN L a b).2)])]):=by
  unfold mrgN at h ⊢;split at h
  · rename_i h1;rw [if_pos h1];exact ⟨mrgA_c L a b hL hc hf h1,refMrgA_c L a b hL hc hf h1⟩
  · rename_i h1;have h1:=Classical.not_not.1 h1;rw [if_neg (fun h=>h h1)];split at h
    · rename_i h2;rw [if_pos h2];exact ⟨mrgB_c L a b hL hc hc2 hf hf2 h1 h2,refMrgB_c L a b hL hc hc2 hf hf2 h1 h2⟩
    · rename_i h2;have h2:=Classical.not_not.1 h2;rw [if_neg (fun h=>h h2)];split at h
      · rename_i h3;rw [if_pos h3];have e : erB (clashI L.2.1 a b,13) = errF (clashI L.2.1 a b) 13:=by unfold erB;rw [if_neg (show ¬ (13 : Int) = 0 by decide),if_neg (by show ¬ clashI L.2.1 a b = -9;omega)]
        rw [e];exact ⟨mrgC_c L a b hL hc hc2 hf hf2 h1 h2 h3,refMrgC_c L a b hL hc hc2 hf hf2 h1 h2 h3⟩
      · rename_i h3;rw [if_neg h3];split at h
        · rename_i h4;rw [if_pos h4];exact ⟨mrgR_c L a b hL hc hc2 hf hf2 h1 h2 h3 h4,refMrgR_c L a b hL hc hc2 hf hf2 h1 h2 h3 h4⟩
        · exact absurd rfl h
theorem mrg_ok {L : Lst} {a b : List Edt} (h : (mrgN L a b).2 = 0) : (doR L a).2 = 0 ∧ (doR L b).2 = 0 ∧ ¬ 0 ≤ clashI L.2.1 a b ∧ ¬ 40 < (a ++ rebB L.2.1 a b).length:=by
  unfold mrgN at h;split at h
  · rename_i h1;exact absurd h h1
  · rename_i h1;split at h
    · rename_i h2;exact absurd h h2
    · rename_i h2;split at h
      · cases h
      · rename_i h3;split at h
        · cases h
        · rename_i h4;exact ⟨Classical.not_not.1 h1,Classical.not_not.1 h2,h3,h4⟩
def getG (L : Lst) (id : Int) : List Fld × Bool:=(if atE L.1 id < 0 then [] else getL L.1 id,decide (0 ≤ atE L.1 id))
end Q
end Ab
end Go.Proofs.YtpfkncffaanjcaaGreatDoor
