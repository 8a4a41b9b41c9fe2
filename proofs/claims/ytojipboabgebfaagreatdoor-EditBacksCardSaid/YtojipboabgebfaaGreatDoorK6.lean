/-
  The texts of this proof, joined: abstract values, the library, the functions of the program and what they compute (part 6). No condition.
-/
import Derived.Test.YtojipboabgebfaaGreatDoorProg
import Derived.WalkKit
import Derived.LaidEql
import Derived.Stop.Asserts
import Derived.RowKitTokens
import Derived.WalkSpells
import Derived.Test.YtojipboabgebfaaGreatDoorK1
import Derived.Test.YtojipboabgebfaaGreatDoorK2
import Derived.Test.YtojipboabgebfaaGreatDoorK3
import Derived.Test.YtojipboabgebfaaGreatDoorK4
import Derived.Test.YtojipboabgebfaaGreatDoorK5
namespace Go.Proofs.YtojipboabgebfaaGreatDoor
open Go.RowKit
namespace Ab
set_option maxRecDepth 100000
namespace Q
theorem repl_len (es : List Ent) (k : Nat) (x : Itm) : (replE es k x).length = es.length:=List.length_set
theorem repl_at {es : List Ent} {k i : Nat} {x : Itm} (hk : k < es.length) (h : i < es.length) : (replE es k x).take (i + 1) = (replE es k x).take i ++ [if i = k then (x,(es.getD k (((0 : Int),ByteArray.empty,([] : List Fld)),(0 : Int))).2) else es.getD i (((0 : Int),ByteArray.empty,([] : List Fld)),(0 : Int))]:=by
  have h1 : i < (replE es k x).length:=by rw [repl_len];exact h
  rw [← yL (((0 : Int),ByteArray.empty,([] : List Fld)),(0 : Int)) h1]
  congr 2
  unfold replE;rw [List.getD_eq_getElem?_getD,List.getElem?_set]
  by_cases e : i = k
  · subst e;rw [if_pos rfl,if_pos hk,if_pos rfl];rfl
  · rw [if_neg (fun h=>e h.symm),if_neg e,← List.getD_eq_getElem?_getD]
theorem refRep_c (es : List Ent) (n id : Int) (f : List Fld) (hf : yO f) (hl : es.length ≤ 1000000) : qX Tryz.prog 85 [.agg (toL rRL (es,n)),ii .i64 id,.one (.sl rFld f)] (.tup [(true,toL rRL (refRep (es,n) id f).1),(false,[.lit (.int .i64 (refRep (es,n) id f).2.1)]),(false,[.lit (.int .i64 (refRep (es,n) id f).2.2)])]):=by
  have hat:=refFindAt_c es n id;have hck:=refChk_c f hf;unfold refRep
  by_cases h0 : atE es id < 0
  · simp only [if_pos h0];refine yV (rs:=[.cell 6 60,.tmp 7,.tmp 8]) Tryz.func85 rfl rfl rfl teOk rfl ?_;refine qB ?_;refine qB ?_;refine Or.inl ?_;refine zai (rfl) ?_;refine zei _ (zai (hat) ?_);refine qJ ?_;refine qB ?_;refine qK rfl (fun h19=>?_) (fun h19=>?_)
    ·try simp only [decide_eq_true_eq] at h19
     try simp only [zds] at h19
     refine qB ?_;refine qM ?_;rfl
    ·try simp only [decide_eq_false_iff_not,Int.not_lt] at h19
     try simp only [zds] at h19
     omega
  · simp only [if_neg h0]
    by_cases hc : (chkR f).2 ≠ 0
    · simp only [if_pos hc];refine yV (rs:=[.cell 6 60,.tmp 7,.tmp 8]) Tryz.func85 rfl rfl rfl teOk rfl ?_;refine qB ?_;refine qB ?_;refine Or.inl ?_;refine zai (rfl) ?_;refine zei _ (zai (hat) ?_);refine qJ ?_;refine qB ?_;refine qK rfl (fun h19=>?_) (fun h19=>?_)
      ·try simp only [decide_eq_true_eq] at h19
       try simp only [zds] at h19
       omega
      ·try simp only [decide_eq_false_iff_not,Int.not_lt] at h19
       try simp only [zds] at h19
       refine qL ?_;refine qB ?_;refine Or.inl ?_;refine zai (rfl) ?_;refine zei _ (zai (hck) ?_);refine qJ ?_;refine qB ?_;refine qK rfl (fun h27=>?_) (fun h27=>?_)
       ·try simp only [decide_eq_false_iff_not,Bool.not_eq_true'] at h27
        try simp only [zds] at h27
        refine qB ?_;refine qM ?_;rfl
       ·try simp only [decide_eq_true_eq,Bool.not_eq_false'] at h27
        try simp only [zds] at h27
        exact absurd h27 hc
    · simp only [if_neg hc];have hc : (chkR f).2 = 0:=Classical.not_not.1 hc;have hg:=(chk_good hc).1;obtain ⟨k,hk,he,_,_⟩:=at_lt h0;rw [he,Int.toNat_natCast];rw [he] at hat;refine yV (rs:=[.cell 6 60,.tmp 7,.tmp 8]) Tryz.func85 rfl rfl rfl teOk rfl ?_;refine qB ?_;refine qB ?_;refine Or.inl ?_;refine zai (rfl) ?_;refine zei _ (zai (hat) ?_);refine qJ ?_;refine qB ?_;refine qK rfl (fun h19=>?_) (fun h19=>?_)
      ·try simp only [decide_eq_true_eq] at h19
       try simp only [zds] at h19
       omega
      ·try simp only [decide_eq_false_iff_not,Int.not_lt] at h19
       try simp only [zds] at h19
       refine qL ?_;refine qB ?_;refine Or.inl ?_;refine zai (rfl) ?_;refine zei _ (zai (hck) ?_);refine qJ ?_;refine qB ?_;refine qK rfl (fun h27=>?_) (fun h27=>?_)
       ·try simp only [decide_eq_false_iff_not,Bool.not_eq_true'] at h27
        try simp only [zds] at h27
        exact absurd hc h27
       ·try simp only [decide_eq_true_eq,Bool.not_eq_false'] at h27
        try simp only [zds] at h27
        refine qL ?_;refine qB ?_;refine qJ ?_;refine qJ ?_;refine yI 2 0 142 rEnt rfl rfl rfl ?_;refine qI ?_;refine qQ ?_;refine qW (fun (i : Nat)=>i ≤ es.length) (fun (i : Nat)=>[(2,.one (.sl rFld f)),(3,.one (.own 0 0)),(6,.one (.own 1 0)),(9,ii .i64 k),(12,.one (.own 2 0)),(13,ii .i64 i)]) (fun (i : Nat)=>[(0,.box 60 (toL rRL (es,n))),(1,.box 60 [.lit (.slice none 0 0),.lit (.int .i64 0)]),(2,.box 60 [.vec 3,.lit (.int .i64 n)]),(3,.vec 142 rEnt ((replE es k (xS f)).take i))]) 4 (fun (i : Nat)=>es.length - i) 0 (Nat.zero_le _) (qP ⟨rfl,rfl,rfl,rfl,rfl,rfl⟩ ⟨rfl,rfl,rfl,rfl⟩ rfl) ?_;intro i hI0;refine qJ ?_;refine qB ?_;intro l9_3;refine qK rfl (fun h38=>?_) (fun h38=>?_)
        ·try simp only [decide_eq_true_eq] at h38
         try simp only [zds] at h38
         have hil : i < es.length:=(by omega);have hsn:=repl_at (x:=xS f) hk hil;refine qL ?_;refine qJ ?_;refine qQ ?_;refine qB ?_;refine zai (by first|omega|assumption|decide|(simp only [];omega)|(simp <;> omega)) ?_;refine qJ ?_;refine qB ?_;refine qK rfl (fun h48=>?_) (fun h48=>?_)
         ·try simp only [decide_eq_true_eq] at h48
          try simp only [zds] at h48
          have e1 : i = k:=(by omega);rw [if_pos e1] at hsn;subst e1;refine qI ?_;refine Or.inl ?_;refine zai (rfl) ?_;refine zei _ (zai (refItem_c f hg.2.2 hf.1) ?_);refine qI ?_;refine zai (by exact qO (show ((replE es _ (xS f)).take _).length + 1 ≤ 1000000000 by rw [List.length_take,repl_len];omega) (by decide)) ?_;refine qI ?_;refine zob ?_;exact ⟨i + 1,by omega,by first|omega|(simp <;> omega),qP ⟨rfl,rfl,rfl,rfl,rfl,(qT (by omega))⟩ ⟨rfl,rfl,rfl,(qR (by rw [hsn];exact rfl))⟩ rfl⟩
         ·try simp only [decide_eq_false_iff_not] at h48
          try simp only [zds] at h48
          rw [if_neg (fun e1=>h48 (by rw [e1]))] at hsn;refine qL ?_;refine qI ?_;refine zai (by exact qO (show ((replE es _ (xS f)).take _).length + 1 ≤ 1000000000 by rw [List.length_take,repl_len];omega) (by decide)) ?_;refine qI ?_;refine zob ?_;exact ⟨i + 1,by omega,by first|omega|(simp <;> omega),qP ⟨rfl,rfl,rfl,rfl,rfl,(qT (by omega))⟩ ⟨rfl,rfl,rfl,(qR (by rw [hsn];exact rfl))⟩ rfl⟩
        ·try simp only [decide_eq_false_iff_not,Int.not_lt] at h38
         try simp only [zds] at h38
         refine yA ?_;refine qB ?_;refine yH [3] ?_;refine qM ?_;rw [List.take_of_length_le (by rw [repl_len];omega)];exact rfl
theorem del_at {es : List Ent} {k i : Nat} (h : i < es.length) : delE (es.take (i + 1)) k = delE (es.take i) k ++ (if i = k then [] else [es.getD i (((0 : Int),ByteArray.empty,([] : List Fld)),(0 : Int))]):=by
  unfold delE;rw [← yL (((0 : Int),ByteArray.empty,([] : List Fld)),(0 : Int)) h,List.take_append,List.drop_append,List.length_take,Nat.min_eq_left (by omega)];rcases Nat.lt_trichotomy i k with h1|h1|h1
  · rw [if_neg (by omega)];have e1 : (es.take i).drop (k + 1) = []:=List.drop_of_length_le (by rw [List.length_take];omega);have e2 : [es.getD i (((0 : Int),ByteArray.empty,([] : List Fld)),(0 : Int))].take (k - i) = [es.getD i (((0 : Int),ByteArray.empty,([] : List Fld)),(0 : Int))]:=List.take_of_length_le (by simp;omega);have e3 : [es.getD i (((0 : Int),ByteArray.empty,([] : List Fld)),(0 : Int))].drop (k + 1 - i) = []:=List.drop_of_length_le (by simp;omega);rw [e1,e2,e3];simp
  · subst h1;rw [if_pos rfl];have e3 : [es.getD i (((0 : Int),ByteArray.empty,([] : List Fld)),(0 : Int))].drop (i + 1 - i) = []:=List.drop_of_length_le (by simp);rw [e3,Nat.sub_self];simp
  · rw [if_neg (by omega)];have e2 : [es.getD i (((0 : Int),ByteArray.empty,([] : List Fld)),(0 : Int))].take (k - i) = []:=by rw [show k - i = 0 by omega];rfl
    have e3 : [es.getD i (((0 : Int),ByteArray.empty,([] : List Fld)),(0 : Int))].drop (k + 1 - i) = [es.getD i (((0 : Int),ByteArray.empty,([] : List Fld)),(0 : Int))]:=by rw [show k + 1 - i = 0 by omega];rfl
    rw [e2,e3];simp
theorem del_le (es : List Ent) (k i : Nat) : (delE (es.take i) k).length ≤ es.length:=by
  unfold delE;rw [List.length_append,List.length_take,List.length_drop,List.length_take];omega
theorem refDel_c (es : List Ent) (n id : Int) (hl : es.length ≤ 1000000) : qX Tryz.prog 86 [.agg (toL rRL (es,n)),ii .i64 id] (.tup [(true,toL rRL (refDel (es,n) id).1),(false,[.lit (.int .i64 (refDel (es,n) id).2)])]):=by
  have hat:=refFindAt_c es n id;unfold refDel
  by_cases h0 : atE es id < 0
  · simp only [if_pos h0];refine yV (rs:=[.cell 4 60,.tmp 5]) Tryz.func86 rfl rfl rfl teOk rfl ?_;refine qB ?_;refine qB ?_;refine Or.inl ?_;refine zai (rfl) ?_;refine zei _ (zai (hat) ?_);refine qJ ?_;refine qB ?_;refine qK rfl (fun h13=>?_) (fun h13=>?_)
    ·try simp only [decide_eq_true_eq] at h13
     try simp only [zds] at h13
     refine qB ?_;refine qM ?_;rfl
    ·try simp only [decide_eq_false_iff_not,Int.not_lt] at h13
     try simp only [zds] at h13
     omega
  · simp only [if_neg h0];obtain ⟨k,hk,he,_,_⟩:=at_lt h0;rw [he,Int.toNat_natCast];rw [he] at hat;refine yV (rs:=[.cell 4 60,.tmp 5]) Tryz.func86 rfl rfl rfl teOk rfl ?_;refine qB ?_;refine qB ?_;refine Or.inl ?_;refine zai (rfl) ?_;refine zei _ (zai (hat) ?_);refine qJ ?_;refine qB ?_;refine qK rfl (fun h13=>?_) (fun h13=>?_)
    ·try simp only [decide_eq_true_eq] at h13
     try simp only [zds] at h13
     omega
    ·try simp only [decide_eq_false_iff_not,Int.not_lt] at h13
     try simp only [zds] at h13
     refine qL ?_;refine qB ?_;refine qJ ?_;refine qJ ?_;refine yI 2 0 142 rEnt rfl rfl rfl ?_;refine qI ?_;refine qQ ?_;refine qW (fun (i : Nat)=>i ≤ es.length) (fun (i : Nat)=>[(2,.one (.own 0 0)),(4,.one (.own 1 0)),(6,ii .i64 k),(7,.one (.own 2 0)),(8,ii .i64 i)]) (fun (i : Nat)=>[(0,.box 60 (toL rRL (es,n))),(1,.box 60 [.lit (.slice none 0 0),.lit (.int .i64 0)]),(2,.box 60 [.vec 3,.lit (.int .i64 n)]),(3,.vec 142 rEnt (delE (es.take i) k))]) 4 (fun (i : Nat)=>es.length - i) 0 (Nat.zero_le _) (qP ⟨rfl,rfl,rfl,rfl,rfl⟩ ⟨rfl,rfl,rfl,(qR (by simp [delE]))⟩ rfl) ?_;intro i hI0;refine qJ ?_;refine qB ?_;intro l6_3;refine qK rfl (fun h22=>?_) (fun h22=>?_)
     ·try simp only [decide_eq_true_eq] at h22
      try simp only [zds] at h22
      have hil : i < es.length:=(by omega);have hsn:=del_at (k:=k) hil;have hdl:=del_le es k i;refine qL ?_;refine qJ ?_;refine qQ ?_;refine qB ?_;refine qK rfl (fun h27=>?_) (fun h27=>?_)
      ·try simp only [decide_eq_false_iff_not,Bool.not_eq_true'] at h27
       try simp only [zds] at h27
       rw [if_neg (fun e1=>h27 (by rw [e1]))] at hsn;refine yK rfl ?_;refine qN 0 rfl ?_;refine qN 2 rfl ?_;refine qN 4 rfl ?_;refine qF [1,3] ?_;refine zai ?_ ?_
       ·refine qF [3] ?_;refine qN 5 rfl ?_;refine zai (by first|omega|assumption|decide|(simp only [];omega)|(simp <;> omega)) ?_;refine qF [6] ?_;refine qF [7] ?_;refine qF [8] ?_;refine zai (by exact qO (show (delE (es.take i) k).length + 1 ≤ 1000000000 by omega) (by decide)) ?_;refine qN 9 rfl ?_;refine qF [10] ?_;refine qS ?_;refine qI ?_;refine zob ?_;exact ⟨i + 1,by omega,by first|omega|(simp <;> omega),qP ⟨rfl,rfl,rfl,rfl,(qT (by omega))⟩ ⟨rfl,rfl,rfl,(qR (by rw [hsn];try exact rfl))⟩ rfl⟩
       ·refine qN 5 rfl ?_;refine zai (by first|omega|assumption|decide|(simp only [];omega)|(simp <;> omega)) ?_;refine qF [1,6] ?_;refine zai ?_ ?_
        ·refine qF [6] ?_;refine qF [7] ?_;refine qF [8] ?_;refine zai (by exact qO (show (delE (es.take i) k).length + 1 ≤ 1000000000 by omega) (by decide)) ?_;refine qN 9 rfl ?_;refine qF [10] ?_;refine qS ?_;refine qI ?_;refine zob ?_;exact ⟨i + 1,by omega,by first|omega|(simp <;> omega),qP ⟨rfl,rfl,rfl,rfl,(qT (by omega))⟩ ⟨rfl,rfl,rfl,(qR (by rw [hsn];try exact rfl))⟩ rfl⟩
        ·refine qF [1,7] ?_;refine zai ?_ ?_
         ·refine qF [7] ?_;refine qF [8] ?_;refine zai (by exact qO (show (delE (es.take i) k).length + 1 ≤ 1000000000 by omega) (by decide)) ?_;refine qN 9 rfl ?_;refine qF [10] ?_;refine qS ?_;refine qI ?_;refine zob ?_;exact ⟨i + 1,by omega,by first|omega|(simp <;> omega),qP ⟨rfl,rfl,rfl,rfl,(qT (by omega))⟩ ⟨rfl,rfl,rfl,(qR (by rw [hsn];try exact rfl))⟩ rfl⟩
         ·refine qF [1] ?_;refine qF [8] ?_;refine zai (by exact qO (show (delE (es.take i) k).length + 1 ≤ 1000000000 by omega) (by decide)) ?_;refine qN 9 rfl ?_;refine qF [10] ?_;refine qS ?_;refine qI ?_;refine zob ?_;exact ⟨i + 1,by omega,by first|omega|(simp <;> omega),qP ⟨rfl,rfl,rfl,rfl,(qT (by omega))⟩ ⟨rfl,rfl,rfl,(qR (by rw [hsn];try exact rfl))⟩ rfl⟩
      ·try simp only [decide_eq_true_eq,Bool.not_eq_false'] at h27
       try simp only [zds] at h27
       rw [if_pos (by omega),List.append_nil] at hsn;refine qL ?_;refine qI ?_;refine zob ?_;exact ⟨i + 1,by omega,by first|omega|(simp <;> omega),qP ⟨rfl,rfl,rfl,rfl,(qT (by omega))⟩ ⟨rfl,rfl,rfl,(qR (by rw [hsn];try exact rfl))⟩ rfl⟩
     ·try simp only [decide_eq_false_iff_not,Int.not_lt] at h22
      try simp only [zds] at h22
      refine yA ?_;refine qB ?_;refine yH [3] ?_;refine qM ?_;rw [List.take_of_length_le (show es.length ≤ i by omega)];exact rfl
def insT (es : List Ent) (j : Nat) (e : Ent) (i : Nat) : List Ent:=if i < j then es.take i else insE (es.take i) j e
theorem insT_snoc {es : List Ent} {j i : Nat} {e : Ent} (h : i < es.length) : insT es j e (i + 1) = insT es j e i ++ (if i + 1 = j then [es.getD i (((0 : Int),ByteArray.empty,([] : List Fld)),(0 : Int)),e] else [es.getD i (((0 : Int),ByteArray.empty,([] : List Fld)),(0 : Int))]):=by
  unfold insT insE;rcases Nat.lt_trichotomy (i + 1) j with h1|h1|h1
  · rw [if_pos h1,if_pos (by omega),if_neg (by omega),yL (((0 : Int),ByteArray.empty,([] : List Fld)),(0 : Int)) h]
  · subst h1;rw [if_neg (by omega),if_pos (by omega),if_pos rfl,← yL (((0 : Int),ByteArray.empty,([] : List Fld)),(0 : Int)) h];have e1 : (es.take i ++ [es.getD i (((0 : Int),ByteArray.empty,([] : List Fld)),(0 : Int))]).take (i + 1) = es.take i ++ [es.getD i (((0 : Int),ByteArray.empty,([] : List Fld)),(0 : Int))]:=List.take_of_length_le (by simp;omega);have e2 : (es.take i ++ [es.getD i (((0 : Int),ByteArray.empty,([] : List Fld)),(0 : Int))]).drop (i + 1) = []:=List.drop_of_length_le (by simp;omega);rw [e1,e2];simp
  · rw [if_neg (by omega),if_neg (by omega),if_neg (by omega),← yL (((0 : Int),ByteArray.empty,([] : List Fld)),(0 : Int)) h];have e1 : (es.take i ++ [es.getD i (((0 : Int),ByteArray.empty,([] : List Fld)),(0 : Int))]).take j = (es.take i).take j:=by rw [List.take_append_of_le_length (by rw [List.length_take];omega)]
    have e2 : (es.take i ++ [es.getD i (((0 : Int),ByteArray.empty,([] : List Fld)),(0 : Int))]).drop j = (es.take i).drop j ++ [es.getD i (((0 : Int),ByteArray.empty,([] : List Fld)),(0 : Int))]:=by rw [List.drop_append_of_le_length (by rw [List.length_take];omega)]
    rw [e1,e2];simp
theorem insT_le (es : List Ent) (j : Nat) (e : Ent) (i : Nat) : (insT es j e i).length ≤ es.length + 1:=by
  unfold insT insE;split
  · rw [List.length_take];omega
  · rw [List.length_append,List.length_cons,List.length_take,List.length_drop,List.length_take];omega
theorem insT_all {es : List Ent} {j i : Nat} {e : Ent} (hj : j ≤ es.length) (hi : es.length ≤ i) : insT es j e i = insE es j e:=by
  unfold insT;rw [if_neg (by omega),List.take_of_length_le hi]
theorem insT_0 (es : List Ent) (e : Ent) : insT es 0 e 0 = [e]:=by
  unfold insT insE;rw [if_neg (by omega)];simp
theorem insT_1 {es : List Ent} {j : Nat} {e : Ent} (hj : 0 < j) : insT es j e 0 = []:=by
  unfold insT;rw [if_pos hj];simp
theorem liveN_snoc {es : List Ent} {i : Nat} (h : i < es.length) : ((es.take (i + 1)).filter live).length = ((es.take i).filter live).length + if live (es.getD i (((0 : Int),ByteArray.empty,([] : List Fld)),(0 : Int))) then 1 else 0:=by
  rw [← yL (((0 : Int),ByteArray.empty,([] : List Fld)),(0 : Int)) h,List.filter_append,List.length_append]
  congr 1
  generalize es.getD i (((0 : Int),ByteArray.empty,([] : List Fld)),(0 : Int)) = x
  cases hx : live x
  · simp [hx]
  · simp [hx]
theorem liveN_le (es : List Ent) (i : Nat) : ((es.take i).filter live).length ≤ es.length:=by
  refine Nat.le_trans (List.length_filter_le _ _) ?_;rw [List.length_take];omega
theorem refLen_c (es : List Ent) (n : Int) (hl : es.length ≤ 1000000) : qX Tryz.prog 129 [.agg (toL rRL (es,n))] (ii .i64 ((es.filter live).length : Int)):=by
  refine qV (rs:=[2]) Tryz.func129 rfl rfl rfl teOk rfl ?_;refine qB ?_;refine qB ?_;refine qJ ?_;refine qB ?_;refine qQ ?_;refine qW (fun (i : Nat)=>i ≤ es.length) (fun (i : Nat)=>[(1,.one (.own 0 0)),(3,ii .i64 (((es.take i).filter live).length : Int)),(4,ii .i64 i)]) (fun (i : Nat)=>[(0,.box 60 (toL rRL (es,n)))]) 1 (fun (i : Nat)=>es.length - i) 0 (Nat.zero_le _) (qP ⟨rfl,rfl,rfl⟩ rfl rfl) ?_;intro i hI0;refine qJ ?_;refine qB ?_;intro l3_3;refine qK rfl (fun h9=>?_) (fun h9=>?_)
  ·try simp only [decide_eq_true_eq] at h9
   try simp only [zds] at h9
   have hil : i < es.length:=(by omega);have hsn:=liveN_snoc hil;have hsl:=liveN_le es i;refine qL ?_;refine qJ ?_;refine qQ ?_;refine qB ?_;refine zai (by first|omega|assumption|decide|(simp only [];omega)|(simp <;> omega)) ?_;refine qK rfl (fun h18=>?_) (fun h18=>?_)
   ·try simp only [decide_eq_true_eq] at h18
    try simp only [Int.toNat_natCast,qH,qG,qE,qD] at h18
    have hk : live (es.getD i (((0 : Int),ByteArray.empty,([] : List Fld)),(0 : Int))) = true:=decide_eq_true h18;rw [hk,if_pos rfl] at hsn;refine qI ?_;refine zob ?_;refine qI ?_;refine zob ?_;exact ⟨i + 1,by omega,by first|omega|(simp <;> omega),qP ⟨rfl,(qT (by omega)),(qT (by omega))⟩ rfl rfl⟩
   ·try simp only [decide_eq_false_iff_not,Int.not_lt] at h18
    try simp only [Int.toNat_natCast,qH,qG,qE,qD] at h18
    have hk : live (es.getD i (((0 : Int),ByteArray.empty,([] : List Fld)),(0 : Int))) = false:=decide_eq_false (by omega);rw [hk,if_neg Bool.false_ne_true] at hsn;refine qL ?_;refine qI ?_;refine zob ?_;exact ⟨i + 1,by omega,by first|omega|(simp <;> omega),qP ⟨rfl,(qT (by omega)),(qT (by omega))⟩ rfl rfl⟩
  ·try simp only [decide_eq_false_iff_not,Int.not_lt] at h9
   try simp only [zds] at h9
   refine yA ?_;refine qB ?_;refine qM ?_;rw [List.take_of_length_le (by omega)];exact rfl
theorem refIns_c (es : List Ent) (n id : Int) (f : List Fld) (hf : yO f) (hl : es.length ≤ 1000000) (hn : 0 ≤ n ∧ n ≤ 1000000000) : qX Tryz.prog 87 [.agg (toL rRL (es,n)),ii .i64 id,.one (.sl rFld f)] (.tup [(true,toL rRL (refIns (es,n) id f).1),(false,[.lit (.int .i64 (refIns (es,n) id f).2.1)]),(false,[.lit (.int .i64 (refIns (es,n) id f).2.2.1)]),(false,[.lit (.int .i64 (refIns (es,n) id f).2.2.2)])]):=by
  have hat:=refFindAt_c es n id;have hck:=refChk_c f hf;have hln:=refLen_c es n hl;unfold refIns
  by_cases h0 : atE es id < 0 ∧ id ≠ 0
  · simp only [if_pos h0];refine yV (rs:=[.cell 6 60,.tmp 7,.tmp 8,.tmp 9]) Tryz.func87 rfl rfl rfl teOk rfl ?_;refine qB ?_;refine qB ?_;refine Or.inl ?_;refine zai (rfl) ?_;refine zei _ (zai (hat) ?_);refine qJ ?_;refine qB ?_;refine zai (fun h=>trivial) ?_;refine zai (fun h=>⟨⟨h,trivial⟩,trivial⟩) ?_;refine zai (by exact fun h=>h) ?_;refine qK rfl (fun h24=>?_) (fun h24=>?_)
    ·try simp only [decide_eq_true_eq,decide_eq_false_iff_not,Bool.and_eq_true,Bool.not_eq_true'] at h24
     try simp only [zds] at h24
     refine qB ?_;refine qM ?_;rfl
    ·try simp only [decide_eq_true_eq,decide_eq_false_iff_not,Bool.not_eq_false',Bool.and_eq_false_iff,Int.not_lt] at h24
     try simp only [zds] at h24
     omega
  · simp only [if_neg h0]
    by_cases hc : (chkR f).2 ≠ 0
    · simp only [if_pos hc];refine yV (rs:=[.cell 6 60,.tmp 7,.tmp 8,.tmp 9]) Tryz.func87 rfl rfl rfl teOk rfl ?_;refine qB ?_;refine qB ?_;refine Or.inl ?_;refine zai (rfl) ?_;refine zei _ (zai (hat) ?_);refine qJ ?_;refine qB ?_;refine zai (fun h=>trivial) ?_;refine zai (fun h=>⟨⟨h,trivial⟩,trivial⟩) ?_;refine zai (by exact fun h=>h) ?_;refine qK rfl (fun h24=>?_) (fun h24=>?_)
      ·try simp only [decide_eq_true_eq,decide_eq_false_iff_not,Bool.and_eq_true,Bool.not_eq_true'] at h24
       try simp only [zds] at h24
       omega
      ·try simp only [decide_eq_true_eq,decide_eq_false_iff_not,Bool.not_eq_false',Bool.and_eq_false_iff,Int.not_lt] at h24
       try simp only [zds] at h24
       refine qL ?_;refine qB ?_;refine Or.inl ?_;refine zai (rfl) ?_;refine zei _ (zai (hck) ?_);refine qJ ?_;refine qB ?_;refine qK rfl (fun h32=>?_) (fun h32=>?_)
       ·try simp only [decide_eq_false_iff_not,Bool.not_eq_true'] at h32
        try simp only [zds] at h32
        refine qB ?_;refine qM ?_;rfl
       ·try simp only [decide_eq_true_eq,Bool.not_eq_false'] at h32
        try simp only [zds] at h32
        exact absurd h32 hc
    · simp only [if_neg hc];have hc : (chkR f).2 = 0:=Classical.not_not.1 hc;have hg:=(chk_good hc).1
      by_cases h4 : 400 ≤ ((es.filter live).length : Int)
      · simp only [if_pos h4];refine yV (rs:=[.cell 6 60,.tmp 7,.tmp 8,.tmp 9]) Tryz.func87 rfl rfl rfl teOk rfl ?_;refine qB ?_;refine qB ?_;refine Or.inl ?_;refine zai (rfl) ?_;refine zei _ (zai (hat) ?_);refine qJ ?_;refine qB ?_;refine zai (fun h=>trivial) ?_;refine zai (fun h=>⟨⟨h,trivial⟩,trivial⟩) ?_;refine zai (by exact fun h=>h) ?_;refine qK rfl (fun h24=>?_) (fun h24=>?_)
        ·try simp only [decide_eq_true_eq,decide_eq_false_iff_not,Bool.and_eq_true,Bool.not_eq_true'] at h24
         try simp only [zds] at h24
         omega
        ·try simp only [decide_eq_true_eq,decide_eq_false_iff_not,Bool.not_eq_false',Bool.and_eq_false_iff,Int.not_lt] at h24
         try simp only [zds] at h24
         refine qL ?_;refine qB ?_;refine Or.inl ?_;refine zai (rfl) ?_;refine zei _ (zai (hck) ?_);refine qJ ?_;refine qB ?_;refine qK rfl (fun h32=>?_) (fun h32=>?_)
         ·try simp only [decide_eq_false_iff_not,Bool.not_eq_true'] at h32
          try simp only [zds] at h32
          exact absurd hc h32
         ·try simp only [decide_eq_true_eq,Bool.not_eq_false'] at h32
          try simp only [zds] at h32
          refine qL ?_;refine qJ ?_;refine qB ?_;refine Or.inl ?_;refine zai (rfl) ?_;refine zei _ (zai (hln) ?_);refine qK rfl (fun h38=>?_) (fun h38=>?_)
          ·try simp only [decide_eq_true_eq] at h38
           try simp only [zds] at h38
           refine qB ?_;refine qM ?_;rfl
          ·try simp only [decide_eq_false_iff_not,Int.not_le] at h38
           try simp only [zds] at h38
           omega
      · simp only [if_neg h4];obtain ⟨j,hj,hje⟩ : ∃ j : Nat,j ≤ es.length ∧ atE es id + 1 = (j : Int):=by
          rcases at_cases es id with ⟨h1,_⟩|⟨i,h1,h2,_⟩
          · exact ⟨0,Nat.zero_le _,by omega⟩
          · exact ⟨i + 1,by omega,by omega⟩
        rw [hje,Int.toNat_natCast];refine yV (rs:=[.cell 6 60,.tmp 7,.tmp 8,.tmp 9]) Tryz.func87 rfl rfl rfl teOk rfl ?_;refine qB ?_;refine qB ?_;refine Or.inl ?_;refine zai (rfl) ?_;refine zei _ (zai (hat) ?_);refine qJ ?_;refine qB ?_;refine zai (fun h=>trivial) ?_;refine zai (fun h=>⟨⟨h,trivial⟩,trivial⟩) ?_;refine zai (by exact fun h=>h) ?_;refine qK rfl (fun h24=>?_) (fun h24=>?_)
        ·try simp only [decide_eq_true_eq,decide_eq_false_iff_not,Bool.and_eq_true,Bool.not_eq_true'] at h24
         try simp only [zds] at h24
         omega
        ·try simp only [decide_eq_true_eq,decide_eq_false_iff_not,Bool.not_eq_false',Bool.and_eq_false_iff,Int.not_lt] at h24
         try simp only [zds] at h24
         refine qL ?_;refine qB ?_;refine Or.inl ?_;refine zai (rfl) ?_;refine zei _ (zai (hck) ?_);refine qJ ?_;refine qB ?_;refine qK rfl (fun h32=>?_) (fun h32=>?_)
         ·try simp only [decide_eq_false_iff_not,Bool.not_eq_true'] at h32
          try simp only [zds] at h32
          exact absurd hc h32
         ·try simp only [decide_eq_true_eq,Bool.not_eq_false'] at h32
          try simp only [zds] at h32
          refine qL ?_;refine qJ ?_;refine qB ?_;refine Or.inl ?_;refine zai (rfl) ?_;refine zei _ (zai (hln) ?_);refine qK rfl (fun h38=>?_) (fun h38=>?_)
          ·try simp only [decide_eq_true_eq] at h38
           try simp only [zds] at h38
           omega
          ·try simp only [decide_eq_false_iff_not,Int.not_le] at h38
           try simp only [zds] at h38
           refine qL ?_;refine qB ?_;refine zob ?_;refine acode_cut (fun (u : Unit)=>True) (fun (u : Unit)=>[(3,.one (.own 0 0)),(6,.one (.own 1 0)),(10,ii .i64 (atE es id)),(13,.one (.own 2 0)),(14,.one (.own 4 0))]) (fun (u : Unit)=>[(0,.box 60 (toL rRL (es,n))),(1,.box 60 [.lit (.slice none 0 0),.lit (.int .i64 0)]),(2,.box 60 [.vec 3,.lit (.int .i64 (n + 1))]),(3,.vec 142 rEnt []),(4,.box 142 (toL rEnt (xS f,n)))]) 5 ?_ ?_
           ·refine yI 2 0 142 rEnt rfl rfl rfl ?_;refine yK rfl ?_;refine qN 0 rfl ?_;refine qN 2 rfl ?_;refine qF [1,3,5] ?_;refine zai ?_ ?_
            ·refine Or.inl ?_;refine zai (rfl) ?_;refine zei _ (zai (refItem_c f hg.2.2 hf.1) ?_);refine qF [3,5] ?_;refine zai ?_ ?_
             ·refine qF [4,5] ?_;refine zai ?_ ?_
              ·refine qF [5] ?_;refine qF [6] ?_;refine qS ?_;exact ⟨(),trivial,qP ⟨rfl,rfl,rfl,rfl,rfl⟩ ⟨rfl,rfl,rfl,rfl,rfl⟩ rfl⟩
              ·refine qF [4] ?_;refine qF [6] ?_;refine qS ?_;exact ⟨(),trivial,qP ⟨rfl,rfl,rfl,rfl,rfl⟩ ⟨rfl,rfl,rfl,rfl,rfl⟩ rfl⟩
             ·refine qF [3] ?_;refine qF [4] ?_;refine qF [6] ?_;refine qS ?_;exact ⟨(),trivial,qP ⟨rfl,rfl,rfl,rfl,rfl⟩ ⟨rfl,rfl,rfl,rfl,rfl⟩ rfl⟩
            refine zai ?_ ?_
            ·refine qF [1,5] ?_;refine zai ?_ ?_
             ·refine Or.inl ?_;refine zai (rfl) ?_;refine zei _ (zai (refItem_c f hg.2.2 hf.1) ?_);refine qF [4,5] ?_;refine zai ?_ ?_
              ·refine qF [5] ?_;refine qF [6] ?_;refine qS ?_;exact ⟨(),trivial,qP ⟨rfl,rfl,rfl,rfl,rfl⟩ ⟨rfl,rfl,rfl,rfl,rfl⟩ rfl⟩
              ·refine qF [4] ?_;refine qF [6] ?_;refine qS ?_;exact ⟨(),trivial,qP ⟨rfl,rfl,rfl,rfl,rfl⟩ ⟨rfl,rfl,rfl,rfl,rfl⟩ rfl⟩
             ·refine qF [1] ?_;refine Or.inl ?_;refine zai (rfl) ?_;refine zei _ (zai (refItem_c f hg.2.2 hf.1) ?_);refine qF [4] ?_;refine qF [6] ?_;refine qS ?_;exact ⟨(),trivial,qP ⟨rfl,rfl,rfl,rfl,rfl⟩ ⟨rfl,rfl,rfl,rfl,rfl⟩ rfl⟩
            ·refine qF [1,3] ?_;refine zai ?_ ?_
             ·refine Or.inl ?_;refine zai (rfl) ?_;refine zei _ (zai (refItem_c f hg.2.2 hf.1) ?_);refine qF [3] ?_;refine qF [4] ?_;refine qF [6] ?_;refine qS ?_;exact ⟨(),trivial,qP ⟨rfl,rfl,rfl,rfl,rfl⟩ ⟨rfl,rfl,rfl,rfl,rfl⟩ rfl⟩
             ·refine qF [1] ?_;refine Or.inl ?_;refine zai (rfl) ?_;refine zei _ (zai (refItem_c f hg.2.2 hf.1) ?_);refine qF [4] ?_;refine qF [6] ?_;refine qS ?_;exact ⟨(),trivial,qP ⟨rfl,rfl,rfl,rfl,rfl⟩ ⟨rfl,rfl,rfl,rfl,rfl⟩ rfl⟩
           ·intro u hcut11;refine acode_cut (fun (u : Unit)=>True) (fun (u : Unit)=>[(3,.one (.own 0 0)),(6,.one (.own 1 0)),(10,ii .i64 (atE es id)),(13,.one (.own 2 0)),(14,.one (.own 4 0))]) (fun (u : Unit)=>[(0,.box 60 (toL rRL (es,n))),(1,.box 60 [.lit (.slice none 0 0),.lit (.int .i64 0)]),(2,.box 60 [.vec 3,.lit (.int .i64 (n + 1))]),(3,.vec 142 rEnt (insT es j (xS f,n) 0)),(4,.box 142 (toL rEnt (xS f,n)))]) 5 ?_ ?_
            ·refine qB ?_;refine qK rfl (fun h50=>?_) (fun h50=>?_)
             ·try simp only [decide_eq_true_eq] at h50
              try simp only [zds] at h50
              refine qI ?_;refine zai (by first|exact qO (by first|omega|(simp only [List.length_cons,List.length_nil];omega)|(simp;omega)) (by decide)|omega|assumption|decide|(simp only [zds];omega)|(simp <;> omega)) ?_;exact ⟨(),trivial,qP ⟨rfl,rfl,rfl,rfl,rfl⟩ ⟨rfl,rfl,rfl,(qR (by rw [show j = 0 by omega,insT_0];exact rfl)),rfl⟩ rfl⟩
             ·try simp only [decide_eq_false_iff_not,Int.not_lt] at h50
              try simp only [zds] at h50
              refine qL ?_;exact ⟨(),trivial,qP ⟨rfl,rfl,rfl,rfl,rfl⟩ ⟨rfl,rfl,rfl,(qR (by rw [insT_1 (by omega)])),rfl⟩ rfl⟩
            ·intro u hcut13;refine qJ ?_;refine qB ?_;refine qQ ?_;refine qW (fun (i : Nat)=>i ≤ es.length) (fun (i : Nat)=>[(3,.one (.own 0 0)),(6,.one (.own 1 0)),(10,ii .i64 (atE es id)),(13,.one (.own 2 0)),(14,.one (.own 4 0)),(15,ii .i64 i)]) (fun (i : Nat)=>[(0,.box 60 (toL rRL (es,n))),(1,.box 60 [.lit (.slice none 0 0),.lit (.int .i64 0)]),(2,.box 60 [.vec 3,.lit (.int .i64 (n + 1))]),(3,.vec 142 rEnt (insT es j (xS f,n) i)),(4,.box 142 (toL rEnt (xS f,n)))]) 5 (fun (i : Nat)=>es.length - i) 0 (Nat.zero_le _) (qP ⟨rfl,rfl,rfl,rfl,rfl,rfl⟩ ⟨rfl,rfl,rfl,rfl,rfl⟩ rfl) ?_;intro i hI0;refine qJ ?_;refine qB ?_;intro l14_3;refine qK rfl (fun h61=>?_) (fun h61=>?_)
             ·try simp only [decide_eq_true_eq] at h61
              try simp only [zds] at h61
              have hil : i < es.length:=(by omega);have hsn:=insT_snoc (j:=j) (e:=(xS f,n)) hil;have hsl:=insT_le es j (xS f,n) i;refine qL ?_;refine qJ ?_;refine qQ ?_;refine qJ ?_;refine yK rfl ?_;refine qN 0 rfl ?_;refine qN 2 rfl ?_;refine qN 4 rfl ?_;refine qF [1,3] ?_;refine zai ?_ ?_
              ·refine qF [3] ?_;refine qN 5 rfl ?_;refine zai (by first|omega|assumption|decide|(simp only [];omega)|(simp <;> omega)) ?_;refine qF [6] ?_;refine qF [7] ?_;refine qF [8] ?_;refine zai (by exact qO (show (insT es j (xS f,n) i).length + 1 ≤ 1000000000 by omega) (by decide)) ?_;refine qN 9 rfl ?_;refine qF [10] ?_;refine qS ?_;refine qB ?_;refine qK rfl (fun h76=>?_) (fun h76=>?_)
               ·try simp only [decide_eq_true_eq] at h76
                try simp only [zds] at h76
                rw [if_pos (by omega)] at hsn;refine qI ?_;refine zai (by exact qO (by rw [List.length_append];show (insT es j (xS f,n) i).length + 1 + 1 ≤ 1000000000;omega) (by decide)) ?_;refine qI ?_;refine zob ?_;exact ⟨i + 1,by omega,by first|omega|(simp <;> omega),qP ⟨rfl,rfl,rfl,rfl,rfl,(qT (by omega))⟩ ⟨rfl,rfl,rfl,(qR (by rw [hsn];(try rw [List.append_assoc]);(try exact rfl))),rfl⟩ rfl⟩
               ·try simp only [decide_eq_false_iff_not] at h76
                try simp only [zds] at h76
                rw [if_neg (by omega)] at hsn;refine qL ?_;refine qI ?_;refine zob ?_;exact ⟨i + 1,by omega,by first|omega|(simp <;> omega),qP ⟨rfl,rfl,rfl,rfl,rfl,(qT (by omega))⟩ ⟨rfl,rfl,rfl,(qR (by rw [hsn];(try rw [List.append_assoc]);(try exact rfl))),rfl⟩ rfl⟩
              ·refine qN 5 rfl ?_;refine zai (by first|omega|assumption|decide|(simp only [];omega)|(simp <;> omega)) ?_;refine qF [1,6] ?_;refine zai ?_ ?_
               ·refine qF [6] ?_;refine qF [7] ?_;refine qF [8] ?_;refine zai (by exact qO (show (insT es j (xS f,n) i).length + 1 ≤ 1000000000 by omega) (by decide)) ?_;refine qN 9 rfl ?_;refine qF [10] ?_;refine qS ?_;refine qB ?_;refine qK rfl (fun h76=>?_) (fun h76=>?_)
                ·try simp only [decide_eq_true_eq] at h76
                 try simp only [zds] at h76
                 rw [if_pos (by omega)] at hsn;refine qI ?_;refine zai (by exact qO (by rw [List.length_append];show (insT es j (xS f,n) i).length + 1 + 1 ≤ 1000000000;omega) (by decide)) ?_;refine qI ?_;refine zob ?_;exact ⟨i + 1,by omega,by first|omega|(simp <;> omega),qP ⟨rfl,rfl,rfl,rfl,rfl,(qT (by omega))⟩ ⟨rfl,rfl,rfl,(qR (by rw [hsn];(try rw [List.append_assoc]);(try exact rfl))),rfl⟩ rfl⟩
                ·try simp only [decide_eq_false_iff_not] at h76
                 try simp only [zds] at h76
                 rw [if_neg (by omega)] at hsn;refine qL ?_;refine qI ?_;refine zob ?_;exact ⟨i + 1,by omega,by first|omega|(simp <;> omega),qP ⟨rfl,rfl,rfl,rfl,rfl,(qT (by omega))⟩ ⟨rfl,rfl,rfl,(qR (by rw [hsn];(try rw [List.append_assoc]);(try exact rfl))),rfl⟩ rfl⟩
               ·refine qF [1,7] ?_;refine zai ?_ ?_
                ·refine qF [7] ?_;refine qF [8] ?_;refine zai (by exact qO (show (insT es j (xS f,n) i).length + 1 ≤ 1000000000 by omega) (by decide)) ?_;refine qN 9 rfl ?_;refine qF [10] ?_;refine qS ?_;refine qB ?_;refine qK rfl (fun h76=>?_) (fun h76=>?_)
                 ·try simp only [decide_eq_true_eq] at h76
                  try simp only [zds] at h76
                  rw [if_pos (by omega)] at hsn;refine qI ?_;refine zai (by exact qO (by rw [List.length_append];show (insT es j (xS f,n) i).length + 1 + 1 ≤ 1000000000;omega) (by decide)) ?_;refine qI ?_;refine zob ?_;exact ⟨i + 1,by omega,by first|omega|(simp <;> omega),qP ⟨rfl,rfl,rfl,rfl,rfl,(qT (by omega))⟩ ⟨rfl,rfl,rfl,(qR (by rw [hsn];(try rw [List.append_assoc]);(try exact rfl))),rfl⟩ rfl⟩
                 ·try simp only [decide_eq_false_iff_not] at h76
                  try simp only [zds] at h76
                  rw [if_neg (by omega)] at hsn;refine qL ?_;refine qI ?_;refine zob ?_;exact ⟨i + 1,by omega,by first|omega|(simp <;> omega),qP ⟨rfl,rfl,rfl,rfl,rfl,(qT (by omega))⟩ ⟨rfl,rfl,rfl,(qR (by rw [hsn];(try rw [List.append_assoc]);(try exact rfl))),rfl⟩ rfl⟩
                ·refine qF [1] ?_;refine qF [8] ?_;refine zai (by exact qO (show (insT es j (xS f,n) i).length + 1 ≤ 1000000000 by omega) (by decide)) ?_;refine qN 9 rfl ?_;refine qF [10] ?_;refine qS ?_;refine qB ?_;refine qK rfl (fun h76=>?_) (fun h76=>?_)
                 ·try simp only [decide_eq_true_eq] at h76
                  try simp only [zds] at h76
                  rw [if_pos (by omega)] at hsn;refine qI ?_;refine zai (by exact qO (by rw [List.length_append];show (insT es j (xS f,n) i).length + 1 + 1 ≤ 1000000000;omega) (by decide)) ?_;refine qI ?_;refine zob ?_;exact ⟨i + 1,by omega,by first|omega|(simp <;> omega),qP ⟨rfl,rfl,rfl,rfl,rfl,(qT (by omega))⟩ ⟨rfl,rfl,rfl,(qR (by rw [hsn];(try rw [List.append_assoc]);(try exact rfl))),rfl⟩ rfl⟩
                 ·try simp only [decide_eq_false_iff_not] at h76
                  try simp only [zds] at h76
                  rw [if_neg (by omega)] at hsn;refine qL ?_;refine qI ?_;refine zob ?_;exact ⟨i + 1,by omega,by first|omega|(simp <;> omega),qP ⟨rfl,rfl,rfl,rfl,rfl,(qT (by omega))⟩ ⟨rfl,rfl,rfl,(qR (by rw [hsn];(try rw [List.append_assoc]);(try exact rfl))),rfl⟩ rfl⟩
             ·try simp only [decide_eq_false_iff_not,Int.not_lt] at h61
              try simp only [zds] at h61
              refine yA ?_;refine qJ ?_;refine yK rfl ?_;refine qN 1 rfl ?_;refine qF [0,2] ?_;refine zai ?_ ?_
              ·refine qF [2,3] ?_;refine zai ?_ ?_
               ·refine qF [3] ?_;refine qN 4 rfl ?_;refine qN 5 rfl ?_;refine qN 6 rfl ?_;refine qS ?_;refine yH [3] ?_;refine qM ?_;rw [insT_all hj (by omega)];exact rfl
               ·refine qF [2] ?_;refine qN 4 rfl ?_;refine qN 5 rfl ?_;refine qN 6 rfl ?_;refine qS ?_;refine yH [3] ?_;refine qM ?_;rw [insT_all hj (by omega)];exact rfl
              ·refine qF [0] ?_;refine qF [3] ?_;refine qN 4 rfl ?_;refine qN 5 rfl ?_;refine qN 6 rfl ?_;refine qS ?_;refine yH [3] ?_;refine qM ?_;rw [insT_all hj (by omega)];exact rfl
def doB (num at_ id bad at2 want : Int) : Bool:=((true && decide (num = bad)) && decide (at_ = at2)) && decide (id = want)
theorem chk_shape {f : List Fld} (h : (chkR f).2 ≠ 0) : (∃ k9,chkA f = errN k9 ∧ k9 ≠ 0 ∧ (-9 : Int) = (chkR f).1 ∧ k9 = (chkR f).2) ∨ ∃ a9 k9,chkA f = errF a9 k9 ∧ k9 ≠ 0 ∧ a9 = (chkR f).1 ∧ k9 = (chkR f).2:=by
  obtain ⟨e,he,hs⟩:=chk_bad h;rcases hs with ⟨n,hn,rfl,hr⟩|⟨i,n,hn,rfl,hr⟩
  · exact .inl ⟨n,he,hn,by rw [hr],by rw [hr]⟩
  · exact .inr ⟨i,n,he,hn,by rw [hr],by rw [hr]⟩
def yB (L : Lst) (s : List Edt) (i : Nat) : Lst:=(s.take i).foldl doL L
theorem plays_snoc (L : Lst) {s : List Edt} {i : Nat} (h : i < s.length) : yB L s (i + 1) = doL (yB L s i) (s.getD i ((0 : Int),(0 : Int),([] : List Fld))):=by
  unfold yB;rw [← yL ((0 : Int),(0 : Int),([] : List Fld)) h,List.foldl_append];rfl
theorem plays_ok {c : Nat} {L : Lst} {s : List Edt} (h : LOk c L) (hf : ∀ e ∈ s,yO e.2.2) : ∀ i,i ≤ s.length → LOk (c + i) (yB L s i)
  | 0,_=>by simpa [yB] using h
  | i + 1,hi=>by
    rw [plays_snoc L (by omega)];exact doL_ok (plays_ok h hf i (by omega)) (hf _ (yT (by omega) ((0 : Int),(0 : Int),([] : List Fld))))
theorem heavy_ok {s : List Edt} (h : heavyB s = false) : s.length ≤ 51 ∧ ∀ e ∈ s,muchB e.2.2 = false:=by
  unfold heavyB at h;simp only [Bool.or_eq_false_iff,decide_eq_false_iff_not] at h;exact ⟨by omega,fun e he=>by simpa using List.any_eq_false.1 h.2 e he⟩
theorem items_len {s : ByteArray} {l : List Itm} (hp : xG s = .inr l) : l.length ≤ 2 * s.size + 1:=by
  have h0:=parse_ref s;rw [hp] at h0;obtain ⟨h1,_⟩:=linesT_len s;have key : ∀ (L : List Lne) (t : RSt) (bh : Bool) (l : List Itm),runR bh t L = .inr l → l.length ≤ t.out.length + 1 + 2 * L.length:=by
    intro L
    induction L with
    | nil =>
      intro t bh l h;unfold runR at h;cases h;split <;> simp
    | cons a r ih =>
      intro t bh l h;unfold runR at h;split at h
      · cases h
      · have i1:=ih _ _ _ h;have so : (xH t a r).out.length ≤ t.out.length + 2:=by
          unfold xH;split
          · simp only;split <;> simp
          · split <;> simp
        rw [List.length_cons];omega
  have k1:=key _ _ _ _ h0.symm;simp only [rst0,List.length_nil] at k1;omega
theorem of_lok {s : ByteArray} {l : List Itm} (hs : s.size ≤ 4000) (hp : xG s = .inr l) : LOk 9000 (ofT l):=by
  have h1:=items_len hp;exact ofT_ok (by omega) fun x hx=>fldsOk_of (items_small hp x hx).1 (items_small hp x hx).2
theorem LOk.f1 {c : Nat} {L : Lst} (h : LOk c L) : ∀ e ∈ L.1,e.1.2.2.length ≤ 1000000:=fun e he=>Nat.le_trans (h.flds e he).1 (by decide)
end Q
end Ab
end Go.Proofs.YtojipboabgebfaaGreatDoor
namespace Go.Proofs.YtojipboabgebfaaGreatDoor
open Go.RowKit
namespace Ab
set_option maxRecDepth 100000
abbrev rEdk (κ : Nat) : Rd Edt:=.st (.int .i64) (.st (.int .i64) (.slk κ rFld))
namespace Q
def xZ (x : Edt) : Int:=if x.1 = 2 then (if 0 < x.2.2.length then 2 else 0) else if x.1 = 1 ∨ x.1 = 3 then (chkR x.2.2).2 else 2
def chkF (k : Int) : List Edt → Int × Int
  | []=>(-9,0)
  | x :: r=>if xZ x ≠ 0 then (k,xZ x) else chkF (k + 1) r
def chkB (l : List Edt) : Int × Int:=if l.length < 1 ∨ 40 < l.length then (-9,1) else chkF 0 l
theorem chkF_at : ∀ (l : List Edt) (i : Nat) (k : Int),i < l.length → (∀ e ∈ l.take i,xZ e = 0) → xZ (l.getD i ((0 : Int),(0 : Int),([] : List Fld))) ≠ 0 → chkF k l = (k + i,xZ (l.getD i ((0 : Int),(0 : Int),([] : List Fld))))
  | [],i,k,h,_,_=>by simp at h
  | f :: r,0,k,_,_,hb=>by
    unfold chkF;rw [if_pos (by simpa using hb)];simp
  | f :: r,i + 1,k,h,ht,hb=>by
    unfold chkF;rw [if_neg (by simpa using ht f (by simp))];rw [chkF_at r i (k + 1) (by simpa using h) (fun g hg=>ht g (by simp [hg])) (by simpa using hb)];simp only [List.getD_cons_succ]
    congr 1
    omega
theorem chkF_no : ∀ (l : List Edt) (k : Int),(∀ e ∈ l,xZ e = 0) → chkF k l = (-9,0)
  | [],_,_=>rfl
  | f :: r,k,h=>by
    unfold chkF;rw [if_neg (by simpa using h f (by simp))];exact chkF_no r (k + 1) (fun g hg=>h g (by simp [hg]))
theorem chkF_zero : ∀ (l : List Edt) (k : Int),(chkF k l).2 = 0 → ∀ e ∈ l,xZ e = 0
  | [],_,_,f,hf=>by cases hf
  | g :: r,k,h,f,hf=>by
    unfold chkF at h;split at h
    · rename_i hg;exact absurd h hg
    · rename_i hg;rcases List.mem_cons.1 hf with rfl|hf
      · exact Classical.not_not.1 hg
      · exact chkF_zero r (k + 1) h f hf
theorem chkB_rng {l : List Edt} (h : l.length < 1 ∨ 40 < l.length) : chkB l = (-9,1):=if_pos h
theorem chkB_at {l : List Edt} {i : Nat} (h1 : ¬ (l.length < 1 ∨ 40 < l.length)) (h : i < l.length) (ht : ∀ e ∈ l.take i,xZ e = 0) (hb : xZ (l.getD i ((0 : Int),(0 : Int),([] : List Fld))) ≠ 0) : chkB l = ((i : Int),xZ (l.getD i ((0 : Int),(0 : Int),([] : List Fld)))):=by
  unfold chkB;rw [if_neg h1,chkF_at l i 0 h ht hb,Int.zero_add]
theorem chkB_no {l : List Edt} (h1 : ¬ (l.length < 1 ∨ 40 < l.length)) (h : ∀ e ∈ l,xZ e = 0) : chkB l = (-9,0):=by
  unfold chkB;rw [if_neg h1,chkF_no l 0 h]
theorem chkB_zero {l : List Edt} (h : (chkB l).2 = 0) : (1 ≤ l.length ∧ l.length ≤ 40) ∧ ∀ e ∈ l,xZ e = 0:=by
  unfold chkB at h;split at h
  · cases h
  · exact ⟨by omega,chkF_zero l 0 h⟩
theorem chkB_good {l : List Edt} (h : (chkB l).2 = 0) : chkB l = (-9,0):=chkB_no (by have:=(chkB_zero h).1;omega) (chkB_zero h).2
theorem chkB_cases (l : List Edt) : (chkB l = (-9,0) ∧ (1 ≤ l.length ∧ l.length ≤ 40) ∧ ∀ e ∈ l,xZ e = 0) ∨ chkB l = (-9,1) ∨ ∃ (i : Nat) (n : Int),n ≠ 0 ∧ chkB l = ((i : Int),n):=by
  by_cases h : (chkB l).2 = 0
  · exact .inl ⟨chkB_good h,chkB_zero h⟩
  · by_cases h1 : l.length < 1 ∨ 40 < l.length
    · exact .inr (.inl (chkB_rng h1))
    · refine .inr (.inr ?_);have h2 : chkB l = chkF 0 l:=if_neg h1;rw [h2] at h ⊢;clear h1 h2;have key : ∀ (l : List Edt) (k : Nat),(chkF (k : Int) l).2 ≠ 0 → ∃ (i : Nat) (n : Int),n ≠ 0 ∧ chkF (k : Int) l = ((i : Int),n):=by
        intro l
        induction l with
        | nil=>intro k h;exact absurd rfl h
        | cons x r ih =>
          intro k h;unfold chkF at h ⊢;split at h
          · rename_i hg;rw [if_pos hg];exact ⟨k,_,hg,rfl⟩
          · rename_i hg;rw [if_neg hg];exact ih (k + 1) h
      exact key l 0 h
theorem take_good {l : List Edt} {i : Nat} (h : i < l.length) (ht : ∀ e ∈ l.take i,xZ e = 0) (hb : xZ (l.getD i ((0 : Int),(0 : Int),([] : List Fld))) = 0) : ∀ e ∈ l.take (i + 1),xZ e = 0:=by
  rw [← yL ((0 : Int),(0 : Int),([] : List Fld)) h];intro e he;rcases List.mem_append.1 he with he|he
  · exact ht e he
  · rw [List.mem_singleton.1 he];exact hb
def oneN (L : Lst) (e : Edt) : Int :=
  if e.1 = 1 then (if atE L.1 e.2.1 < 0 then 7 else (chkR e.2.2).2)
  else if e.1 = 2 then (if atE L.1 e.2.1 < 0 then 7 else 0)
  else if atE L.1 e.2.1 < 0 ∧ e.2.1 ≠ 0 then 7 else if (chkR e.2.2).2 ≠ 0 then (chkR e.2.2).2 else if 400 ≤ L.2.2 then 11 else 0
def newN (L : Lst) (e : Edt) : Int:=if e.1 = 1 ∨ e.1 = 2 then 0 else if oneN L e = 0 then L.2.1 else 0
def batK (k : Int) (L : Lst) : List Edt → Int × Int
  | []=>(-9,0)
  | x :: r=>if oneN L x ≠ 0 then (k,oneN L x) else batK (k + 1) (doL L x) r
def doR (L : Lst) (s : List Edt) : Int × Int:=if (chkB s).2 ≠ 0 then chkB s else batK 0 L s
def idsT (L : Lst) (s : List Edt) (i : Nat) : List Int:=((List.range i).map fun j=>newN (yB L s j) (s.getD j ((0 : Int),(0 : Int),([] : List Fld)))).filter posI
theorem idsT_snoc (L : Lst) (s : List Edt) (i : Nat) : idsT L s (i + 1) = idsT L s i ++ if 0 < newN (yB L s i) (s.getD i ((0 : Int),(0 : Int),([] : List Fld))) then [newN (yB L s i) (s.getD i ((0 : Int),(0 : Int),([] : List Fld)))] else []:=by
  unfold idsT;rw [List.range_succ,List.map_append,List.filter_append]
  congr 1
  simp only [List.map_cons,List.map_nil,List.filter_cons,List.filter_nil,posI,decide_eq_true_eq]
theorem idsT_len (L : Lst) (s : List Edt) (i : Nat) : (idsT L s i).length ≤ i:=by
  unfold idsT;have:=List.length_filter_le posI ((List.range i).map fun j=>newN (yB L s j) (s.getD j ((0 : Int),(0 : Int),([] : List Fld))));rw [List.length_map,List.length_range] at this;exact this
theorem plays_cons (L : Lst) (x : Edt) (r : List Edt) (i : Nat) : yB L (x :: r) (i + 1) = yB (doL L x) r i:=rfl
theorem batK_cases : ∀ (s : List Edt) (L : Lst) (k : Nat),(batK k L s = (-9,0) ∧ ∀ j,j < s.length → oneN (yB L s j) (s.getD j ((0 : Int),(0 : Int),([] : List Fld))) = 0) ∨
    ∃ (i : Nat),i < s.length ∧ batK k L s = (((k + i : Nat) : Int),oneN (yB L s i) (s.getD i ((0 : Int),(0 : Int),([] : List Fld)))) ∧ oneN (yB L s i) (s.getD i ((0 : Int),(0 : Int),([] : List Fld))) ≠ 0 ∧ ∀ j,j < i → oneN (yB L s j) (s.getD j ((0 : Int),(0 : Int),([] : List Fld))) = 0
  | [],_,_=>.inl ⟨rfl,fun j h=>by simp at h⟩
  | x :: r,L,k=>by
    by_cases h0 : oneN L x = 0
    · have e : batK k L (x :: r) = batK ((k + 1 : Nat) : Int) (doL L x) r:=by
        conv=>lhs;unfold batK
        rw [if_neg (by rw [h0];decide)];rfl
      rw [e];rcases batK_cases r (doL L x) (k + 1) with ⟨h1,h2⟩|⟨i,hi,h1,h2,h3⟩
      · refine .inl ⟨h1,fun j hj=>?_⟩;cases j with
        | zero=>exact h0
        | succ j=>exact h2 j (by simpa using hj)
      · refine .inr ⟨i + 1,by simpa using hi,?_,h2,fun j hj=>?_⟩
        · rw [h1];show (((k + 1 + i : Nat) : Int),_) = (((k + (i + 1) : Nat) : Int),oneN (yB (doL L x) r i) (r.getD i ((0 : Int),(0 : Int),([] : List Fld))))
          congr 1
          omega
        · cases j with
          | zero=>exact h0
          | succ j=>exact h3 j (by omega)
    · refine .inr ⟨0,by simp,?_,h0,fun j hj=>by omega⟩;unfold batK;rw [if_pos h0];rfl
theorem doR_cases (L : Lst) (s : List Edt) (hc : (chkB s).2 = 0) : (doR L s = (-9,0) ∧ ∀ j,j < s.length → oneN (yB L s j) (s.getD j ((0 : Int),(0 : Int),([] : List Fld))) = 0) ∨
    ∃ (i : Nat),i < s.length ∧ doR L s = ((i : Int),oneN (yB L s i) (s.getD i ((0 : Int),(0 : Int),([] : List Fld)))) ∧ oneN (yB L s i) (s.getD i ((0 : Int),(0 : Int),([] : List Fld))) ≠ 0 ∧ ∀ j,j < i → oneN (yB L s j) (s.getD j ((0 : Int),(0 : Int),([] : List Fld))) = 0:=by
  unfold doR;rw [if_neg (fun h=>h hc)];rcases batK_cases s L 0 with h|⟨i,h1,h2,h3⟩
  · exact .inl h
  · refine .inr ⟨i,h1,?_,h3⟩;rw [Nat.zero_add] at h2;exact h2
theorem ref_one {c : Nat} {L : Lst} (h : LOk c L) (e : Edt) :
    (e.1 = 1 → (refRep (L.1,L.2.1) e.2.1 e.2.2).2.2 = oneN L e ∧ ((refRep (L.1,L.2.1) e.2.1 e.2.2).1 = ((doL L e).1,(doL L e).2.1))) ∧
    (e.1 = 2 → (refDel (L.1,L.2.1) e.2.1).2 = oneN L e ∧ ((refDel (L.1,L.2.1) e.2.1).1 = ((doL L e).1,(doL L e).2.1))) ∧
    (e.1 ≠ 1 → e.1 ≠ 2 → (refIns (L.1,L.2.1) e.2.1 e.2.2).2.2.2 = oneN L e ∧ (refIns (L.1,L.2.1) e.2.1 e.2.2).2.1 = newN L e ∧ ((refIns (L.1,L.2.1) e.2.1 e.2.2).1 = ((doL L e).1,(doL L e).2.1))):=by
  have hmany:=h.many;have hids:=ids_len L.1;refine ⟨fun h1=>?_,fun h2=>?_,fun h1 h2=>?_⟩
  · unfold refRep oneN doL;simp only [if_pos h1]
    by_cases h3 : atE L.1 e.2.1 < 0
    · simp [h3]
    · by_cases h4 : (chkR e.2.2).2 ≠ 0
      · simp [h3,h4]
      · simp only [if_neg h3,if_neg h4];exact ⟨(Classical.not_not.1 h4).symm,trivial⟩
  · unfold refDel oneN doL;simp only [h2,if_neg (show ¬ (2 : Int) = 1 by decide),if_pos]
    by_cases h3 : atE L.1 e.2.1 < 0
    · simp [h3]
    · simp [h3]
  · unfold refIns newN oneN doL;simp only [if_neg h1,if_neg h2,if_neg (show ¬ (e.1 = 1 ∨ e.1 = 2) from fun h=>h.elim h1 h2)]
    by_cases h3 : atE L.1 e.2.1 < 0 ∧ e.2.1 ≠ 0
    · simp only [if_pos h3];simp
    · by_cases h4 : (chkR e.2.2).2 ≠ 0
      · simp only [if_neg h3,if_pos h4];simp [h4]
      · by_cases h5 : 400 ≤ L.2.2
        · have h6 : 400 ≤ ((L.1.filter live).length : Int):=by omega
          simp only [if_neg h3,if_neg h4,if_pos h5,if_pos h6];simp
        · have h6 : ¬ 400 ≤ ((L.1.filter live).length : Int):=by omega
          simp only [if_neg h3,if_neg h4,if_neg h5,if_neg h6];simp
end Q
end Ab
end Go.Proofs.YtojipboabgebfaaGreatDoor
namespace Go.Proofs.YtojipboabgebfaaGreatDoor
open Go.RowKit
namespace Ab
set_option maxRecDepth 100000
namespace Q
def getF (L : Lst) (id : Int) : Option (List Fld):=if atE L.1 id < 0 then none else some (getL L.1 id)
theorem stz_app (a b : List Ent) : stzL (a ++ b) = stzL a ++ stzL b:=by unfold stzL;rw [List.filter_append,List.map_append]
theorem stz_cons (e : Ent) (b : List Ent) : stzL (e :: b) = if live e then stzOf e :: stzL b else stzL b:=by
  unfold stzL;rw [List.filter_cons];split <;> rfl
theorem stz_num {es : List Ent} {x : Stz} (h : x ∈ stzL es) : x.1 ∈ nmsL es:=by
  rw [← ids_eq];unfold stzL at h;obtain ⟨e,he,rfl⟩:=List.mem_map.1 h;exact List.mem_map_of_mem he
theorem getF_at {L : Lst} {i : Nat} {id : Int} (hi : i < L.1.length) (he : atE L.1 id = i) : getF L id = some (L.1.getD i (((0 : Int),ByteArray.empty,([] : List Fld)),(0 : Int))).1.2.2:=by
  unfold getF getL;rw [if_neg (by omega),he,Int.toNat_natCast]
theorem getF_no {L : Lst} {id : Int} (h : atE L.1 id < 0) : getF L id = none:=if_pos h
theorem getF_iff {c : Nat} {L : Lst} (h : LOk c L) (id : Int) (f : List Fld) : getF L id = some f ↔ (id,f) ∈ stzL L.1:=by
  rcases at_cases L.1 id with ⟨h1,h2⟩|⟨i,h1,h2,h3,h4,h5⟩
  · rw [getF_no (by rw [h1];decide)];refine ⟨fun e=>(by cases e),fun hm=>?_⟩;unfold stzL at hm;obtain ⟨e,he,hx⟩:=List.mem_map.1 hm;have hl:=(List.mem_filter.1 he).2;have hx1 : e.2 = id:=congrArg Prod.fst hx;exact absurd hx1 (h2 e (List.mem_filter.1 he).1 (by rw [← hx1];exact of_decide_eq_true hl))
  · rw [getF_at h1 h2];have hsp:=del_split h1;have hlv : live (L.1.getD i (((0 : Int),ByteArray.empty,([] : List Fld)),(0 : Int))) = true:=decide_eq_true (by rw [h4];exact h3);have hst : stzL L.1 = stzL (L.1.take i) ++ stzOf (L.1.getD i (((0 : Int),ByteArray.empty,([] : List Fld)),(0 : Int))) :: stzL (L.1.drop (i + 1)):=by
      conv=>lhs;rw [hsp,stz_app,stz_cons,if_pos hlv]
    have hnm : nmsL L.1 = nmsL (L.1.take i) ++ id :: nmsL (L.1.drop (i + 1)):=by
      conv=>lhs;rw [hsp,ids_app,ids_cons,h4,if_pos h3]
    have hn:=h.nd;rw [hnm] at hn;obtain ⟨n1,n2,n3⟩:=List.nodup_append.1 hn;rw [hst];refine ⟨fun e=>?_,fun hm=>?_⟩
    · refine List.mem_append_right _ (List.mem_cons.2 (.inl ?_));rw [← Option.some.inj e,← h4];rfl
    · rcases List.mem_append.1 hm with hm|hm
      · exact absurd rfl (n3 _ (stz_num hm) _ List.mem_cons_self)
      · rcases List.mem_cons.1 hm with hm|hm
        · rw [show f = _ from congrArg Prod.snd hm];rfl
        · exact absurd (stz_num hm) (List.nodup_cons.1 n2).1
theorem getF_pos {c : Nat} {L : Lst} (h : LOk c L) {id : Int} (hg : getF L id ≠ none) : 0 < id ∧ id < L.2.1 ∧ ¬ atE L.1 id < 0:=by
  rcases at_cases L.1 id with ⟨h1,_⟩|⟨i,h1,h2,h3,h4,_⟩
  · exact absurd (getF_no (by rw [h1];decide)) hg
  · refine ⟨h3,?_,by omega⟩;have:=(h.ids _ (yT h1 (((0 : Int),ByteArray.empty,([] : List Fld)),(0 : Int)))).2;rw [h4] at this;exact this
theorem one_rep0 {L : Lst} {e : Edt} (h1 : e.1 = 1) (hg : ¬ atE L.1 e.2.1 < 0) (hc : (chkR e.2.2).2 = 0) : oneN L e = 0:=by
  unfold oneN;rw [if_pos h1,if_neg hg];exact hc
theorem one_del0 {L : Lst} {e : Edt} (h1 : e.1 = 2) (hg : ¬ atE L.1 e.2.1 < 0) : oneN L e = 0:=by
  unfold oneN;rw [if_neg (by omega),if_pos h1,if_neg hg]
theorem one_ins0 {L : Lst} {e : Edt} (h1 : e.1 ≠ 1) (h2 : e.1 ≠ 2) (hg : e.2.1 = 0 ∨ ¬ atE L.1 e.2.1 < 0) (hc : (chkR e.2.2).2 = 0) : oneN L e = if 400 ≤ L.2.2 then 11 else 0:=by
  unfold oneN;rw [if_neg h1,if_neg h2,if_neg (fun h=>hg.elim h.2 fun g=>g h.1),if_neg (fun h=>h hc)]
def repA (a : List Edt) (id : Int) : Bool:=a.any fun x=>decide (x.1 = 1) && decide (x.2.1 = id)
def delA (a : List Edt) (id : Int) : Bool:=a.any fun x=>decide (x.1 = 2) && decide (x.2.1 = id)
def tchA (a : List Edt) (id : Int) : Bool:=repA a id || delA a id
def insA : List Edt → Nat
  | []=>0
  | x :: r=>(if x.1 = 3 then 1 else 0) + insA r
def clsh (a : List Edt) (x : Edt) : Bool:=if x.1 = 1 then tchA a x.2.1 else if x.1 = 2 then tchA a x.2.1 && !delA a x.2.1 else if x.1 = 3 then delA a x.2.1 else false
def reb1 (next k : Int) (a : List Edt) (x : Edt) : List Edt:=if next ≤ x.2.1 then [(x.1,x.2.1 + k,x.2.2)] else if x.1 = 2 ∧ delA a x.2.1 = true then [] else [x]
def rebB (next : Int) (a b : List Edt) : List Edt:=b.flatMap (reb1 next (insA a) a)
def takes (L : Lst) : List Edt → Prop
  | []=>True
  | x :: r=>oneN L x = 0 ∧ takes (doL L x) r
def runL (L : Lst) (s : List Edt) : Lst:=s.foldl doL L
def kindsOk (s : List Edt) : Prop:=∀ x ∈ s,x.1 = 1 ∨ x.1 = 2 ∨ x.1 = 3
theorem takes_of : ∀ (s : List Edt) (L : Lst),(∀ j,j < s.length → oneN (yB L s j) (s.getD j ((0 : Int),(0 : Int),([] : List Fld))) = 0) → takes L s
  | [],_,_=>trivial
  | x :: r,L,h=>⟨h 0 (by simp),takes_of r (doL L x) fun j hj=>h (j + 1) (by simpa using hj)⟩
theorem takes_to : ∀ (s : List Edt) (L : Lst),takes L s → ∀ j,j < s.length → oneN (yB L s j) (s.getD j ((0 : Int),(0 : Int),([] : List Fld))) = 0
  | _ :: _,_,h,0,_=>h.1
  | x :: r,L,h,j + 1,hj=>takes_to r (doL L x) h.2 j (by simpa using hj)
theorem run_plays (L : Lst) (s : List Edt) : yB L s s.length = runL L s:=by unfold yB runL;rw [List.take_length]
theorem kinds_good {s : List Edt} (h : (chkB s).2 = 0) : kindsOk s:=fun x hx=>by
  have hg:=(chkB_zero h).2 x hx;unfold xZ at hg
  by_cases h2 : x.1 = 2
  · exact .inr (.inl h2)
  · rw [if_neg h2] at hg
    by_cases h13 : x.1 = 1 ∨ x.1 = 3
    · exact h13.elim .inl fun h=>.inr (.inr h)
    · rw [if_neg h13] at hg;cases hg
theorem run_ok {c : Nat} {L : Lst} : ∀ {s : List Edt},LOk c L → (∀ e ∈ s,yO e.2.2) → LOk (c + s.length) (runL L s)
  | s,h,hf=>by rw [← run_plays];exact plays_ok h hf s.length (Nat.le_refl _)
structure Ran (L : Lst) (a : List Edt) (P : Lst) : Prop where
  next : P.2.1 = L.2.1 + (insA a : Int)
  unt : ∀ id,id < L.2.1 → tchA a id = false → getF P id = getF L id
  gone : ∀ id,id < L.2.1 → getF L id = none → getF P id = none
  del : ∀ id,id < L.2.1 → delA a id = true → getF P id = none
  keep : ∀ id,id < L.2.1 → getF L id ≠ none → delA a id = false → getF P id ≠ none
structure Sim (L P : Lst) (a : List Edt) (k : Int) (Q Y : Lst) (sk : Int) : Prop where
  old : ∀ id,id < L.2.1 → getF Y id = if tchA a id = true then getF P id else getF Q id
  mid : ∀ id,L.2.1 ≤ id → id < P.2.1 → getF Y id = getF P id
  new : ∀ id,L.2.1 ≤ id → getF Y (id + k) = getF Q id
  next : Y.2.1 = Q.2.1 + k
  mono : L.2.1 ≤ Q.2.1
  keep : ∀ id,id < L.2.1 → getF Q id ≠ none → getF L id ≠ none
  many : Y.2.2 - P.2.2 = Q.2.2 - L.2.2 + sk
structure GC (p : PSt) : Prop where
  flds : ∀ f ∈ p.flds,yZ f = 0
  its : ∀ x ∈ p.its,x.1 = 3 → x.2.2 ≠ [] ∧ ∀ f ∈ x.2.2,yZ f = 0
theorem flush_gc {p q : PSt} (h : GC p) (hf : yY p = .inr q) : GC q:=by
  unfold yY at hf;split at hf
  · cases hf;exact h
  · split at hf
    · cases hf
    · rename_i hz;split at hf
      · cases hf
      · cases hf;refine ⟨fun f hf=>?_,h.its⟩;rcases List.mem_append.1 hf with hf|hf
        · exact h.flds f hf
        · rw [List.mem_singleton.1 hf];rcases unf_cases (p.lns.map ls) with ⟨n,hn,e⟩|⟨k,v,e,hk,hv⟩
          · rw [e] at hz;exact absurd (Classical.not_not.1 hz) (by show ¬ n = 0;omega)
          · rw [e,check_kv k v hk,if_neg (by omega)]
theorem close_gc {q : PSt} (h : GC q) : GC (xX q):=by
  unfold xX;split
  · exact ⟨fun f hf=>(by cases hf),h.its⟩
  · refine ⟨fun f hf=>(by cases hf),fun x hx h3=>?_⟩;rcases List.mem_append.1 hx with hx|hx
    · exact h.its x hx h3
    · rw [List.mem_singleton.1 hx] at h3 ⊢
      by_cases hn : q.flds = []
      · simp only [if_pos hn] at h3;cases h3
      · exact ⟨hn,h.flds⟩
theorem end_gc {p q : PSt} (h : GC p) (hf : endS p = .inr q) : GC q:=by
  unfold endS at hf;split at hf
  · cases hf
  · rename_i r e;cases hf;exact close_gc (flush_gc h e)
theorem ahead_gc {p q : PSt} {l : Lne} {k : Int} (h : GC p) (hf : xA p l k = .inr q) : GC q:=by
  unfold xA at hf;split at hf
  · split at hf
    · cases hf
    · have h2 : GC { p with lns:=p.lns ++ [l.2.2.1] }:=⟨h.flds,h.its⟩;split at hf
      · cases hf;exact h2
      · exact flush_gc h2 hf
  · split at hf
    · exact end_gc h hf
    · exact flush_gc h hf
theorem line_gc {p q : PSt} {l : Lne} {k : Int} (h : GC p) (hf : lineS p l k = .inr q) : GC q:=by
  unfold lineS at hf;split at hf
  · cases hf
  · split at hf
    · cases hf;refine ⟨h.flds,fun x hx h3=>?_⟩;rcases List.mem_append.1 hx with hx|hx
      · exact h.its x hx h3
      · rw [List.mem_singleton.1 hx] at h3;cases h3
    · split at hf
      · cases hf;exact ⟨h.flds,h.its⟩
      · cases hf;exact ⟨h.flds,h.its⟩
theorem run_gc : ∀ (L : List Lne) {p q : PSt},GC p → runS p L = .inr q → GC q
  | [],p,q,h,hf=>by cases hf;exact h
  | l :: r,p,q,h,hf=>by
    unfold runS at hf;split at hf
    · cases hf
    · rename_i t e;refine run_gc r ?_ hf;unfold xD at e;split at e
      · cases e
      · rename_i u e2;exact line_gc (ahead_gc h e2) e
theorem items_chk {s : ByteArray} {l : List Itm} (hp : xG s = .inr l) : ∀ x ∈ l,x.1 = 3 → yO x.2.2 ∧ (chkR x.2.2).2 = 0:=by
  intro x hx h3;have hg : x.2.2 ≠ [] ∧ ∀ f ∈ x.2.2,yZ f = 0:=by
    unfold xG at hp;split at hp
    · cases hp
    · rename_i p e;split at hp
      · cases hp
      · rename_i q e2;cases hp;exact (end_gc (run_gc _ ⟨fun f hf=>(by cases hf),fun x hx=>(by cases hx)⟩ e) e2).its x hx h3
  obtain ⟨h1,h2⟩:=items_small hp x hx;refine ⟨fldsOk_of h1 h2,?_⟩;unfold chkR;rw [if_neg hg.1,if_neg (by omega),badAt_no x.2.2 0 hg.2]
theorem num_rec : ∀ (l : List Itm) (n : Int),1 ≤ n → ∀ e ∈ numI n l,0 < e.2 → e.1 ∈ l ∧ e.1.1 = 3
  | [],_,_,e,he,_=>by cases he
  | x :: r,n,hn,e,he,hp=>by
    unfold numI at he;split at he
    · rename_i h;rcases List.mem_cons.1 he with rfl|he
      · exact ⟨List.mem_cons_self,of_decide_eq_true h⟩
      · obtain ⟨h1,h2⟩:=num_rec r (n + 1) (by omega) e he hp;exact ⟨List.mem_cons_of_mem _ h1,h2⟩
    · rcases List.mem_cons.1 he with rfl|he
      · exact absurd hp (by show ¬ (0 : Int) < 0;decide)
      · obtain ⟨h1,h2⟩:=num_rec r n hn e he hp;exact ⟨List.mem_cons_of_mem _ h1,h2⟩
theorem rows_chk {s : ByteArray} {l : List Itm} (hp : xG s = .inr l) : ∀ f ∈ rowsL (ofT l).1,yO f ∧ (chkR f).2 = 0:=by
  intro f hf;unfold rowsL stzL at hf;rw [List.map_map] at hf;obtain ⟨e,he,rfl⟩:=List.mem_map.1 hf;obtain ⟨h1,h2⟩:=List.mem_filter.1 he;obtain ⟨h3,h4⟩:=num_rec l 1 (Int.le_refl _) e h1 (of_decide_eq_true h2);exact items_chk hp e.1 h3 h4
end Q
end Ab
end Go.Proofs.YtojipboabgebfaaGreatDoor
namespace Go.Proofs.YtojipboabgebfaaGreatDoor
open Go.RowKit
namespace Ab
namespace Q
abbrev Fate:=List Fld × Bool
def keepM (M : List (Int × Fate)) (x : Edt) : List (Int × Fate) :=
  if x.1 = 2 then setM M x.2.1 ([],true) else if x.1 = 1 then (if (getM M x.2.1).isSome then M else setM M x.2.1 (x.2.2,false)) else M
def keepN (n : Int) (x : Edt) : Int:=if x.1 = 3 then n - 1 else n
def fatF (o : Option Fate) (f : List Fld) : List Fld:=match o with
  | some (g,false)=>g
  | _=>f
def keepY (n : Int) (M : List (Int × Fate)) (x : Edt) : Edt:=if x.1 = 3 then (x.1,x.2.1,fatF (getM M (n - 1)) x.2.2) else x
def keepB (f n : Int) (M : List (Int × Fate)) (x : Edt) : Bool:=if x.1 = 1 then !(getM M x.2.1).isSome && !(decide (f ≤ x.2.1) && decide (x.2.1 < n)) else true
def fateM : List Edt → List (Int × Fate)
  | []=>[]
  | x :: r=>keepM (fateM r) x
def insC : List Edt → Nat
  | []=>0
  | x :: r=>(if x.1 = 3 then 1 else 0) + insC r
def upN (n : Int) (x : Edt) : Int:=if x.1 = 3 then n + 1 else n
def sqL (f : Int) : Int → List Edt → List Edt
  | _,[]=>[]
  | n,x :: r=>(if keepB f (upN n x) (fateM r) x then [keepY (upN n x) (fateM r) x] else []) ++ sqL f (upN n x) r
theorem getM_set {α : Type} {n m : Int} {y : α} : ∀ {M : List (Int × α)},getM (setM M n y) m = if n = m then some y else getM M m
  | []=>by simp only [setM,getM]
  | e :: r=>by
    unfold setM
    by_cases h : e.1 = n
    · rw [if_pos h];simp only [getM]
      by_cases h2 : n = m
      · rw [if_pos h2,if_pos h2]
      · rw [if_neg h2,if_neg h2,if_neg (by rw [h];exact h2)]
    · rw [if_neg h];simp only [getM,getM_set (M:=r)]
      by_cases h2 : n = m
      · rw [if_neg (show ¬ e.1 = m by rw [← h2];exact h),if_pos h2,if_pos h2]
      · rw [if_neg h2,if_neg h2]
def fate (n : Int) : List Edt → Option Fate
  | []=>none
  | x :: r=>if x.1 = 2 ∧ x.2.1 = n then some ([],true) else if x.1 = 1 ∧ x.2.1 = n then (match fate n r with
    | some g=>some g
    | none=>some (x.2.2,false)) else fate n r
def sqz (next : Int) (l : List Edt) : List Edt:=if 1 ≤ next ∧ next ≤ 2147483648 then sqL next next l else []
end Q
end Ab
end Go.Proofs.YtojipboabgebfaaGreatDoor
namespace Go.Proofs.YtojipboabgebfaaGreatDoor
open Go.RowKit
namespace Ab
set_option maxRecDepth 100000
namespace Q
def wasL (L : Lst) (id : Int) : List Fld:=if atE L.1 id < 0 then [] else getL L.1 id
def ahdL (es : List Ent) (id : Int) : Int:=if 0 < plcL es id then ((stzL es).getD (plcL es id - 1).toNat ((0 : Int),([] : List Fld))).1 else 0
abbrev Stp:=Edt × List Fld × Int
def stpA (L : Lst) (x : Edt) : Stp:=((x.1,(if 0 < newN L x then newN L x else x.2.1),x.2.2),wasL L x.2.1,ahdL L.1 x.2.1)
def stps : Lst → List Edt → List Stp
  | _,[]=>[]
  | L,x :: r=>stpA L x :: stps (doL L x) r
abbrev Bst:=List (Int × Int) × Int × List Edt
def nmM (M : List (Int × Int)) (id : Int) : Int:=match getM M id with
  | some n=>n
  | none=>id
def bkS (s : Stp) (q : Bst) : Bst :=
  if s.1.1 = 1 then (q.1,q.2.1,q.2.2 ++ [(1,nmM q.1 s.1.2.1,s.2.1)])
  else if s.1.1 = 2 then (setM q.1 s.1.2.1 q.2.1,q.2.1 + 1,q.2.2 ++ [(3,nmM q.1 s.2.2,s.2.1)])
  else (q.1,q.2.1,q.2.2 ++ [(2,nmM q.1 s.1.2.1,[])])
def bkR (N : Int) (l : List Stp) : Bst:=l.foldr bkS ([],N,[])
def bkL (L : Lst) (s : List Edt) : List Edt:=(bkR (runL L s).2.1 (stps L s)).2.2
theorem nm_set (M : List (Int × Int)) (k v id : Int) : nmM (setM M k v) id = if k = id then v else nmM M id:=by
  unfold nmM;rw [getM_set]
  by_cases h : k = id
  · rw [if_pos h,if_pos h]
  · rw [if_neg h,if_neg h]
theorem bk_len (N : Int) : ∀ l : List Stp,(bkR N l).2.2.length = l.length
  | []=>rfl
  | s :: r=>by
    have ih:=bk_len N r;show (bkS s (bkR N r)).2.2.length = _;unfold bkS;split
    · simp only [List.length_append,List.length_cons,List.length_nil,ih]
    · split <;> simp only [List.length_append,List.length_cons,List.length_nil,ih]
theorem stps_len : ∀ (s : List Edt) (L : Lst),(stps L s).length = s.length
  | [],_=>rfl
  | x :: r,L=>by show (stps (doL L x) r).length + 1 = _;rw [stps_len r];rfl
theorem nd_split {k : Int} {a b : List Fld} : ∀ {A A2 B B2 : List Stz},(A ++ (k,a) :: B = A2 ++ (k,b) :: B2) → ((A ++ (k,a) :: B).map (·.1)).Nodup → A = A2 ∧ a = b ∧ B = B2
  | [],[],B,B2,h,_=>by
    injection h with h1 h2
    injection h1 with _ h1
    exact ⟨rfl,h1,h2⟩
  | [],y :: A2,B,B2,h,hn=>by
    injection h with h1 h2
    subst h1;rw [h2] at hn;simp at hn
  | x :: A,[],B,B2,h,hn=>by
    injection h with h1 h2
    subst h1;simp at hn
  | x :: A,y :: A2,B,B2,h,hn=>by
    injection h with h1 h2
    subst h1;obtain ⟨e1,e2,e3⟩:=nd_split h2 (by simp only [List.cons_append,List.map_cons] at hn;exact (List.nodup_cons.1 hn).2);exact ⟨by rw [e1],e2,e3⟩
theorem stz_nd {c : Nat} {L : Lst} (h : LOk c L) : ((stzL L.1).map (·.1)).Nodup:=by
  have e : (stzL L.1).map (·.1) = nmsL L.1:=by
    rw [← ids_eq];unfold stzL;rw [List.map_map];rfl
  rw [e];exact h.nd
theorem mem_at {c : Nat} {L : Lst} (h : LOk c L) {k : Int} {g : List Fld} (hm : (k,g) ∈ stzL L.1) : 0 < k ∧ ¬ atE L.1 k < 0:=by
  have hg:=(getF_iff h k g).2 hm;have:=getF_pos h (id:=k) (by rw [hg];simp);exact ⟨this.1,this.2.2⟩
theorem stz_rep {c : Nat} {L : Lst} {e : Edt} (h : LOk c L) (h1 : e.1 = 1) (h0 : oneN L e = 0) :
    ∃ A B,stzL L.1 = A ++ (e.2.1,wasL L e.2.1) :: B ∧ stzL (doL L e).1 = A ++ (e.2.1,e.2.2) :: B ∧ (doL L e).2 = L.2 ∧ 0 < e.2.1:=by
  unfold oneN at h0;rw [if_pos h1] at h0
  by_cases hat : atE L.1 e.2.1 < 0
  · rw [if_pos hat] at h0;cases h0
  · rw [if_neg hat] at h0;obtain ⟨i,hi,he,hp,hid⟩:=at_lt hat;have hd : doL L e = (replE L.1 i (xS e.2.2),L.2):=by
      unfold doL;rw [if_pos h1,if_neg hat,if_neg (by omega),he,Int.toNat_natCast]
    have hsp:=del_split hi;have hre : replE L.1 i (xS e.2.2) = L.1.take i ++ (xS e.2.2,e.2.1) :: L.1.drop (i + 1):=by
      unfold replE;rw [List.set_eq_take_append_cons_drop,if_pos hi,hid]
    have hw : stzOf (L.1.getD i (((0 : Int),ByteArray.empty,([] : List Fld)),(0 : Int))) = (e.2.1,wasL L e.2.1):=by
      unfold wasL getL stzOf;rw [if_neg hat,he,Int.toNat_natCast,hid]
    refine ⟨stzL (L.1.take i),stzL (L.1.drop (i + 1)),?_,?_,by rw [hd],hp⟩
    · rw [← hw]
      conv=>lhs;rw [hsp,stz_app,stz_cons,if_pos (show live (L.1.getD i (((0 : Int),ByteArray.empty,([] : List Fld)),(0 : Int))) = true from decide_eq_true (by rw [hid];exact hp))]
    · rw [hd];show stzL (replE L.1 i (xS e.2.2)) = _;rw [hre,stz_app,stz_cons,if_pos (show live (xS e.2.2,e.2.1) = true from decide_eq_true hp)];rfl
def lastI (A : List Stz) : Int:=(A.getLast?.getD ((0 : Int),([] : List Fld))).1
theorem ix_app {id : Int} {A : List Ent} {e : Ent} {B : List Ent} (hA : ∀ x ∈ A,x.2 ≠ id) (he : e.2 = id) : ixOf (hasId id) (A ++ e :: B) = A.length:=by
  refine ixOf_at (((0 : Int),ByteArray.empty,([] : List Fld)),(0 : Int)) (by rw [List.length_append,List.length_cons];omega) ?_ ?_
  · rw [List.take_left' rfl];simp only [List.any_eq_false];intro x hx
    simpa [hasId] using hA x hx
  · rw [List.getD_eq_getElem?_getD,List.getElem?_append_right (Nat.le_refl _),Nat.sub_self];simp [hasId,he]
theorem ahd_eq {c : Nat} {L : Lst} (h : LOk c L) {id : Int} {i : Nat} (hi : i < L.1.length) (hp : 0 < id) (hid : (L.1.getD i (((0 : Int),ByteArray.empty,([] : List Fld)),(0 : Int))).2 = id) : ahdL L.1 id = lastI (stzL (L.1.take i)):=by
  have hsp:=del_split hi;have hlv : live (L.1.getD i (((0 : Int),ByteArray.empty,([] : List Fld)),(0 : Int))) = true:=decide_eq_true (by rw [hid];exact hp);have hfl : L.1.filter live = (L.1.take i).filter live ++ L.1.getD i (((0 : Int),ByteArray.empty,([] : List Fld)),(0 : Int)) :: (L.1.drop (i + 1)).filter live:=by
    conv=>lhs;rw [hsp,List.filter_append,List.filter_cons,if_pos hlv]
  have hst : stzL L.1 = stzL (L.1.take i) ++ stzOf (L.1.getD i (((0 : Int),ByteArray.empty,([] : List Fld)),(0 : Int))) :: stzL (L.1.drop (i + 1)):=by
    conv=>lhs;rw [hsp,stz_app,stz_cons,if_pos hlv]
  have hnd:=stz_nd h;have hpl : plcL L.1 id = ((stzL (L.1.take i)).length : Int):=by
    unfold plcL;rw [hfl,ix_app (fun x hx e=>?_) hid]
    · unfold stzL;rw [List.length_map]
    · rw [hst,List.map_append,List.map_cons] at hnd;obtain ⟨_,_,n3⟩:=List.nodup_append.1 hnd;refine n3 x.2 ?_ (stzOf (L.1.getD i (((0 : Int),ByteArray.empty,([] : List Fld)),(0 : Int)))).1 List.mem_cons_self ?_
      · exact List.mem_map.2 ⟨stzOf x,List.mem_map_of_mem hx,rfl⟩
      · rw [e];exact hid.symm
  unfold ahdL;rw [hpl]
  generalize hA : stzL (L.1.take i) = A at hst ⊢
  rw [hst];unfold lastI;rcases List.eq_nil_or_concat A with rfl|⟨A',a,rfl⟩
  · rw [if_neg (by simp)];rfl
  · rw [if_pos (by simp)];simp only [List.concat_eq_append,List.length_append,List.length_cons,List.length_nil,List.getLast?_append,List.getLast?_singleton];rw [show (((A'.length + (0 + 1) : Nat) : Int) - 1).toNat = A'.length by omega,List.getD_eq_getElem?_getD,List.append_assoc,List.getElem?_append_right (Nat.le_refl _),Nat.sub_self];rfl
theorem stz_del {c : Nat} {L : Lst} {e : Edt} (h : LOk c L) (h1 : e.1 = 2) (h0 : oneN L e = 0) :
    ∃ A B,stzL L.1 = A ++ (e.2.1,wasL L e.2.1) :: B ∧ stzL (doL L e).1 = A ++ B ∧ (doL L e).2 = (L.2.1,L.2.2 - 1) ∧ 0 < e.2.1 ∧ ahdL L.1 e.2.1 = lastI A:=by
  unfold oneN at h0;rw [if_neg (by omega),if_pos h1] at h0
  by_cases hat : atE L.1 e.2.1 < 0
  · rw [if_pos hat] at h0;cases h0
  · obtain ⟨i,hi,he,hp,hid⟩:=at_lt hat;have hd : doL L e = (delE L.1 i,L.2.1,L.2.2 - 1):=by
      unfold doL;rw [if_neg (by omega),if_pos h1,if_neg hat,he,Int.toNat_natCast]
    have hsp:=del_split hi;have hw : stzOf (L.1.getD i (((0 : Int),ByteArray.empty,([] : List Fld)),(0 : Int))) = (e.2.1,wasL L e.2.1):=by
      unfold wasL getL stzOf;rw [if_neg hat,he,Int.toNat_natCast,hid]
    refine ⟨stzL (L.1.take i),stzL (L.1.drop (i + 1)),?_,?_,by rw [hd],hp,ahd_eq h hi hp hid⟩
    · rw [← hw]
      conv=>lhs;rw [hsp,stz_app,stz_cons,if_pos (show live (L.1.getD i (((0 : Int),ByteArray.empty,([] : List Fld)),(0 : Int))) = true from decide_eq_true (by rw [hid];exact hp))]
    · rw [hd];exact stz_app _ _
theorem stz_ins {c : Nat} {L : Lst} {e : Edt} (h : LOk c L) (h1 : e.1 ≠ 1) (h2 : e.1 ≠ 2) (h0 : oneN L e = 0) :
    (doL L e).2 = (L.2.1 + 1,L.2.2 + 1) ∧ L.2.2 < 400 ∧
    ((e.2.1 = 0 ∧ stzL (doL L e).1 = (L.2.1,e.2.2) :: stzL L.1) ∨ ∃ A B g,stzL L.1 = A ++ (e.2.1,g) :: B ∧ stzL (doL L e).1 = A ++ (e.2.1,g) :: (L.2.1,e.2.2) :: B):=by
  have hnx:=h.next;unfold oneN at h0;rw [if_neg h1,if_neg h2] at h0
  by_cases hat : atE L.1 e.2.1 < 0 ∧ e.2.1 ≠ 0
  · rw [if_pos hat] at h0;cases h0
  · rw [if_neg hat] at h0
    by_cases hc : (chkR e.2.2).2 ≠ 0
    · rw [if_pos hc] at h0;exact absurd h0 hc
    · rw [if_neg hc] at h0
      by_cases h4 : 400 ≤ L.2.2
      · rw [if_pos h4] at h0;cases h0
      · have hd : doL L e = (insE L.1 (atE L.1 e.2.1 + 1).toNat (xS e.2.2,L.2.1),L.2.1 + 1,L.2.2 + 1):=by
          unfold doL;rw [if_neg h1,if_neg h2,if_neg hat,if_neg hc,if_neg h4]
        have hlv : live (xS e.2.2,L.2.1) = true:=decide_eq_true (by show 0 < L.2.1;omega);refine ⟨by rw [hd],by omega,?_⟩;rw [hd]
        by_cases hz : e.2.1 = 0
        · refine .inl ⟨hz,?_⟩;have e0 : atE L.1 e.2.1 = -1:=by unfold atE;rw [if_pos (by omega)]
          rw [e0];show stzL (L.1.take 0 ++ (xS e.2.2,L.2.1) :: L.1.drop 0) = _;rw [List.take_zero,List.nil_append,List.drop_zero,stz_cons,if_pos hlv];rfl
        · have hat' : ¬ atE L.1 e.2.1 < 0:=fun g=>hat ⟨g,hz⟩
          obtain ⟨i,hi,he,hp,hid⟩:=at_lt hat';have hsp:=del_split hi;have hl2 : live (L.1.getD i (((0 : Int),ByteArray.empty,([] : List Fld)),(0 : Int))) = true:=decide_eq_true (by rw [hid];exact hp);refine .inr ⟨stzL (L.1.take i),stzL (L.1.drop (i + 1)),(L.1.getD i (((0 : Int),ByteArray.empty,([] : List Fld)),(0 : Int))).1.2.2,?_,?_⟩
          · conv=>lhs;rw [hsp,stz_app,stz_cons,if_pos hl2]
            unfold stzOf;rw [hid]
          · rw [he,show ((i : Int) + 1).toNat = i + 1 by omega];show stzL (L.1.take (i + 1) ++ (xS e.2.2,L.2.1) :: L.1.drop (i + 1)) = _;rw [stz_app,stz_cons,if_pos hlv,List.take_add_one,stz_app];rw [show L.1[i]?.toList = [L.1.getD i (((0 : Int),ByteArray.empty,([] : List Fld)),(0 : Int))] from by rw [List.getD_eq_getElem?_getD,List.getElem?_eq_getElem hi];rfl];rw [stz_cons,if_pos hl2];unfold stzOf;rw [hid];simp [stzL,xS]
theorem was_mem {c : Nat} {L : Lst} (h : LOk c L) {x : Stz} (hm : x ∈ stzL L.1) : yO x.2:=by
  unfold stzL at hm;obtain ⟨e,he,rfl⟩:=List.mem_map.1 hm;exact h.flds e (List.mem_filter.1 he).1
def renS (r : Int → Int) (A : List Stz) : List Stz:=A.map fun x=>(r x.1,x.2)
theorem ren_app (r : Int → Int) (A B : List Stz) : renS r (A ++ B) = renS r A ++ renS r B:=List.map_append
theorem ren_cons (r : Int → Int) (x : Stz) (B : List Stz) : renS r (x :: B) = (r x.1,x.2) :: renS r B:=rfl
theorem ren_set {M : List (Int × Int)} {k v : Int} {A : List Stz} (h : ∀ x ∈ A,x.1 ≠ k) : renS (nmM (setM M k v)) A = renS (nmM M) A:=by
  unfold renS;refine List.map_congr_left fun x hx=>?_
  rw [nm_set,if_neg (fun e=>h x hx e.symm)]
structure Bk (M : List (Int × Int)) (P Q : Lst) : Prop where
  st : stzL Q.1 = renS (nmM M) (stzL P.1)
  many : Q.2.2 = P.2.2
  low : ∀ id,id ≤ 0 → nmM M id = id
def Gd (L : Lst) : Prop:=(∀ x ∈ stzL L.1,(chkR x.2).2 = 0) ∧ L.2.2 ≤ 400
theorem gd_step {c : Nat} {P : Lst} {x : Edt} (hP : LOk c P) (hg : Gd P) (hx : oneN P x = 0) (hgx : xZ x = 0) : Gd (doL P x):=by
  by_cases h1 : x.1 = 1
  · obtain ⟨A,B,e1,e2,e3,e4⟩:=stz_rep hP h1 hx;have hc : (chkR x.2.2).2 = 0:=by unfold xZ at hgx;rw [if_neg (by omega),if_pos (.inl h1)] at hgx;exact hgx
    refine ⟨fun y hy=>?_,by rw [e3];exact hg.2⟩;rw [e2] at hy;rcases List.mem_append.1 hy with hy|hy
    · exact hg.1 y (by rw [e1];exact List.mem_append_left _ hy)
    · rcases List.mem_cons.1 hy with rfl|hy
      · exact hc
      · exact hg.1 y (by rw [e1];exact List.mem_append_right _ (List.mem_cons_of_mem _ hy))
  · by_cases h2 : x.1 = 2
    · obtain ⟨A,B,e1,e2,e3,e4,_⟩:=stz_del hP h2 hx;refine ⟨fun y hy=>?_,by rw [e3];show P.2.2 - 1 ≤ 400;have:=hg.2;omega⟩;rw [e2] at hy;rcases List.mem_append.1 hy with hy|hy
      · exact hg.1 y (by rw [e1];exact List.mem_append_left _ hy)
      · exact hg.1 y (by rw [e1];exact List.mem_append_right _ (List.mem_cons_of_mem _ hy))
    · obtain ⟨e3,e4,hh⟩:=stz_ins hP h1 h2 hx;have hc : (chkR x.2.2).2 = 0:=by
        unfold xZ at hgx;rw [if_neg h2] at hgx;split at hgx
        · exact hgx
        · cases hgx
      refine ⟨fun y hy=>?_,by rw [e3];show P.2.2 + 1 ≤ 400;omega⟩;rcases hh with ⟨_,e2⟩|⟨A,B,g,e1,e2⟩
      · rw [e2] at hy;rcases List.mem_cons.1 hy with rfl|hy
        · exact hc
        · exact hg.1 y hy
      · rw [e2] at hy;rcases List.mem_append.1 hy with hy|hy
        · exact hg.1 y (by rw [e1];exact List.mem_append_left _ hy)
        · rcases List.mem_cons.1 hy with rfl|hy
          · exact hg.1 _ (by rw [e1];exact List.mem_append_right _ List.mem_cons_self)
          · rcases List.mem_cons.1 hy with rfl|hy
            · exact hc
            · exact hg.1 y (by rw [e1];exact List.mem_append_right _ (List.mem_cons_of_mem _ hy))
theorem bk_one {c d : Nat} {P Q : Lst} {x : Edt} {q : Bst} (hP : LOk c P) (hQ : LOk d Q) (hg : Gd P) (hx : oneN P x = 0) (hf : yO x.2.2) (hkd : x.1 = 1 ∨ x.1 = 2 ∨ x.1 = 3) (hB : Bk q.1 (doL P x) Q) (hn : Q.2.1 = q.2.1) :
    ∃ y,(bkS (stpA P x) q).2.2 = q.2.2 ++ [y] ∧ oneN Q y = 0 ∧ xZ y = 0 ∧ yO y.2.2 ∧ Bk (bkS (stpA P x) q).1 P (doL Q y) ∧ (doL Q y).2.1 = (bkS (stpA P x) q).2.1:=by
  have hP' : LOk (c + 1) (doL P x):=doL_ok hP hf;have hndQ:=stz_nd hQ
  by_cases h1 : x.1 = 1
  · obtain ⟨A,B,e1,e2,e3,e4⟩:=stz_rep hP h1 hx;have hnew : newN P x = 0:=by unfold newN;rw [if_pos (.inl h1)]
    have hbs : bkS (stpA P x) q = (q.1,q.2.1,q.2.2 ++ [(1,nmM q.1 x.2.1,wasL P x.2.1)]):=by
      unfold bkS stpA;simp only [hnew,h1];rfl
    have hwc : (chkR (wasL P x.2.1)).2 = 0:=hg.1 (x.2.1,wasL P x.2.1) (by rw [e1];exact List.mem_append_right _ List.mem_cons_self);have hwf : yO (wasL P x.2.1):=was_mem hP (x:=(x.2.1,wasL P x.2.1)) (by rw [e1];exact List.mem_append_right _ List.mem_cons_self);have hst:=hB.st;rw [e2,ren_app,ren_cons] at hst;have hat:=mem_at hQ (k:=nmM q.1 x.2.1) (g:=x.2.2) (by rw [hst];exact List.mem_append_right _ List.mem_cons_self);have hy0 : oneN Q (1,nmM q.1 x.2.1,wasL P x.2.1) = 0:=one_rep0 rfl hat.2 hwc;obtain ⟨A2,B2,f1,f2,f3,_⟩:=stz_rep hQ rfl hy0;rw [hst] at f1 hndQ;obtain ⟨g1,g2,g3⟩:=nd_split f1 hndQ;rw [hbs];refine ⟨_,rfl,hy0,by unfold xZ;exact hwc,hwf,⟨?_,?_,hB.low⟩,?_⟩
    · rw [f2,← g1,← g3,e1,ren_app,ren_cons]
    · rw [f3,hB.many,e3]
    · rw [f3,hn]
  · by_cases h2 : x.1 = 2
    · obtain ⟨A,B,e1,e2,e3,e4,e5⟩:=stz_del hP h2 hx;have hnew : newN P x = 0:=by unfold newN;rw [if_pos (.inr h2)]
      have hbs : bkS (stpA P x) q = (setM q.1 x.2.1 q.2.1,q.2.1 + 1,q.2.2 ++ [(3,nmM q.1 (lastI A),wasL P x.2.1)]):=by
        unfold bkS stpA;simp only [hnew,h2,e5];rfl
      have hwc : (chkR (wasL P x.2.1)).2 = 0:=hg.1 (x.2.1,wasL P x.2.1) (by rw [e1];exact List.mem_append_right _ List.mem_cons_self);have hwf : yO (wasL P x.2.1):=was_mem hP (x:=(x.2.1,wasL P x.2.1)) (by rw [e1];exact List.mem_append_right _ List.mem_cons_self);have hst:=hB.st;rw [e2,ren_app] at hst;have hmQ : ¬ 400 ≤ Q.2.2:=by
        rw [hB.many,e3];show ¬ 400 ≤ P.2.2 - 1;have:=hg.2;omega
      have hndP:=stz_nd hP;rw [e1,List.map_append,List.map_cons] at hndP;obtain ⟨n1,n2,n3⟩:=List.nodup_append.1 hndP;have hA : ∀ y ∈ A,y.1 ≠ x.2.1:=fun y hy=>n3 y.1 (List.mem_map_of_mem hy) x.2.1 List.mem_cons_self
      have hBb : ∀ y ∈ B,y.1 ≠ x.2.1:=fun y hy e=>(List.nodup_cons.1 n2).1 (by rw [← e];exact List.mem_map_of_mem hy)
      have hahd : nmM q.1 (lastI A) = 0 ∧ A = [] ∨ ∃ A' g,A = A' ++ [(lastI A,g)]:=by
        rcases List.eq_nil_or_concat A with rfl|⟨A',⟨a,g⟩,rfl⟩
        · exact .inl ⟨hB.low 0 (Int.le_refl _),rfl⟩
        · refine .inr ⟨A',g,?_⟩;unfold lastI;simp
      have hy0 : oneN Q (3,nmM q.1 (lastI A),wasL P x.2.1) = 0:=by
        rw [one_ins0 (show (3 : Int) ≠ 1 by decide) (show (3 : Int) ≠ 2 by decide) ?_ hwc,if_neg hmQ];rcases hahd with ⟨h,_⟩|⟨A',g,hA'⟩
        · exact .inl h
        · refine .inr (mem_at hQ (k:=nmM q.1 (lastI A)) (g:=g) ?_).2;rw [hst];refine List.mem_append_left _ ?_;unfold renS;refine List.mem_map.2 ⟨(lastI A,g),?_,rfl⟩;rw [hA'];simp [lastI]
      obtain ⟨f3,_,hh⟩:=stz_ins hQ (e:=(3,nmM q.1 (lastI A),wasL P x.2.1)) (show (3 : Int) ≠ 1 by decide) (show (3 : Int) ≠ 2 by decide) hy0;rw [hbs];have hlow : ∀ id,id ≤ 0 → nmM (setM q.1 x.2.1 q.2.1) id = id:=fun id hid=>by rw [nm_set,if_neg (by omega),hB.low id hid]
      have hmany : (doL Q (3,nmM q.1 (lastI A),wasL P x.2.1)).2.2 = P.2.2:=by
        rw [f3];show Q.2.2 + 1 = _;rw [hB.many,e3];show P.2.2 - 1 + 1 = _;omega
      have hnext : (doL Q (3,nmM q.1 (lastI A),wasL P x.2.1)).2.1 = q.2.1 + 1:=by rw [f3,← hn]
      have hgy : xZ (3,nmM q.1 (lastI A),wasL P x.2.1) = 0:=by unfold xZ;exact hwc
      have hren : renS (nmM (setM q.1 x.2.1 q.2.1)) (stzL P.1) = renS (nmM q.1) A ++ (q.2.1,wasL P x.2.1) :: renS (nmM q.1) B:=by
        rw [e1,ren_app,ren_cons,ren_set hA,ren_set hBb];simp only [nm_set,if_pos]
      refine ⟨_,rfl,hy0,hgy,hwf,⟨?_,hmany,hlow⟩,hnext⟩;show stzL (doL Q _).1 = _;rw [hren];rcases hh with ⟨hz,f2⟩|⟨A2,B2,g,f1,f2⟩
      · rcases hahd with ⟨_,hA0⟩|⟨A',g,hA'⟩
        · rw [f2,hst,hA0,hn];rfl
        · exfalso
          have hpos:=(mem_at hQ (k:=nmM q.1 (lastI A)) (g:=g) (by
            rw [hst];refine List.mem_append_left _ ?_;unfold renS;refine List.mem_map.2 ⟨(lastI A,g),?_,rfl⟩;rw [hA'];simp [lastI])).1
          have hz' : nmM q.1 (lastI A) = 0:=hz;omega
      · rcases hahd with ⟨h0',hA0⟩|⟨A',g2,hA'⟩
        · exfalso
          have hpos:=(mem_at hQ (k:=nmM q.1 (lastI A)) (g:=g) (by rw [f1];exact List.mem_append_right _ List.mem_cons_self)).1;omega
        · have hrA : renS (nmM q.1) A = renS (nmM q.1) A' ++ [(nmM q.1 (lastI A),g2)]:=by
            conv=>lhs;rw [hA']
            rw [ren_app];rfl
          rw [hrA,List.append_assoc] at hst;have hst' : stzL Q.1 = renS (nmM q.1) A' ++ (nmM q.1 (lastI A),g2) :: renS (nmM q.1) B:=hst;rw [hst'] at f1 hndQ;obtain ⟨g1,g3,g4⟩:=nd_split f1 hndQ;rw [f2,← g1,← g3,← g4,hrA,hn,List.append_assoc];rfl
    · have h3 : x.1 = 3:=by omega
      obtain ⟨e3,e4,hh⟩:=stz_ins hP h1 h2 hx;have hnx:=hP.next;have hnew : newN P x = P.2.1:=by unfold newN;rw [if_neg (by omega),if_pos hx]
      have hbs : bkS (stpA P x) q = (q.1,q.2.1,q.2.2 ++ [(2,nmM q.1 P.2.1,[])]):=by
        unfold bkS stpA;simp only [hnew,h3,if_pos (show 0 < P.2.1 by omega)];rfl
      obtain ⟨A,B,e1,e2⟩ : ∃ A B,stzL P.1 = A ++ B ∧ stzL (doL P x).1 = A ++ (P.2.1,x.2.2) :: B:=by
        rcases hh with ⟨_,e2⟩|⟨A,B,g,e1,e2⟩
        · exact ⟨[],_,rfl,e2⟩
        · refine ⟨A ++ [(x.2.1,g)],B,by rw [e1,List.append_assoc];rfl,by rw [e2,List.append_assoc];rfl⟩
      have hst:=hB.st;rw [e2,ren_app,ren_cons] at hst;have hat:=mem_at hQ (k:=nmM q.1 P.2.1) (g:=x.2.2) (by rw [hst];exact List.mem_append_right _ List.mem_cons_self);have hy0 : oneN Q (2,nmM q.1 P.2.1,[]) = 0:=one_del0 rfl hat.2;obtain ⟨A2,B2,f1,f2,f3,_,_⟩:=stz_del hQ rfl hy0;rw [hst] at f1 hndQ;obtain ⟨g1,g2,g3⟩:=nd_split f1 hndQ;rw [hbs];refine ⟨_,rfl,hy0,rfl,⟨by simp,fun f hf=>by cases hf⟩,⟨?_,?_,hB.low⟩,?_⟩
      · rw [f2,← g1,← g3,e1,ren_app]
      · rw [f3];show Q.2.2 - 1 = _;rw [hB.many,e3];show P.2.2 + 1 - 1 = _;omega
      · rw [f3,← hn]
theorem takes_snoc : ∀ (a : List Edt) (L : Lst) (y : Edt),takes L a → oneN (runL L a) y = 0 → takes L (a ++ [y])
  | [],_,_,_,h=>⟨h,trivial⟩
  | x :: r,L,y,h,h2=>⟨h.1,takes_snoc r (doL L x) y h.2 h2⟩
theorem run_snoc (L : Lst) (a : List Edt) (y : Edt) : runL L (a ++ [y]) = doL (runL L a) y:=by unfold runL;rw [List.foldl_append];rfl
theorem bk_run : ∀ (s : List Edt) {c : Nat} {L : Lst},LOk c L → Gd L → takes L s → (∀ e ∈ s,xZ e = 0 ∧ yO e.2.2) → kindsOk s →
    ∃ d,LOk d (runL (runL L s) (bkL L s)) ∧ takes (runL L s) (bkL L s) ∧ (∀ e ∈ bkL L s,xZ e = 0 ∧ yO e.2.2) ∧ Bk (bkR (runL L s).2.1 (stps L s)).1 L (runL (runL L s) (bkL L s)) ∧ (runL (runL L s) (bkL L s)).2.1 = (bkR (runL L s).2.1 (stps L s)).2.1
  | [],c,L,h,_,_,_,_=>by
    refine ⟨c,h,trivial,(fun e he=>by cases he),⟨?_,rfl,fun id _=>rfl⟩,rfl⟩;show stzL L.1 = renS (nmM []) (stzL L.1);unfold renS
    conv=>lhs;rw [← List.map_id (stzL L.1)]
    exact List.map_congr_left fun x _=>rfl
  | x :: r,c,L,h,hg,ht,hf,hk=>by
    obtain ⟨hgx,hfx⟩:=hf x (by simp);have h':=doL_ok h hfx;obtain ⟨d,i1,i2,i3,i4,i5⟩:=bk_run r h' (gd_step h hg ht.1 hgx) ht.2 (fun e he=>hf e (by simp [he])) (fun e he=>hk e (by simp [he]));obtain ⟨y,y1,y2,y3,y4,y5,y6⟩:=bk_one h i1 hg ht.1 hfx (hk x (by simp)) i4 i5;have e1 : bkL L (x :: r) = bkL (doL L x) r ++ [y]:=y1;have e2 : runL L (x :: r) = runL (doL L x) r:=rfl;rw [e1,e2,run_snoc];refine ⟨d + 1,doL_ok i1 y4,takes_snoc _ _ _ i2 y2,fun e he=>?_,y5,y6⟩;rcases List.mem_append.1 he with he|he
    · exact i3 e he
    · rw [List.mem_singleton.1 he];exact ⟨y3,y4⟩
theorem bkL_len (L : Lst) (s : List Edt) : (bkL L s).length = s.length:=by
  unfold bkL;rw [bk_len,stps_len]
theorem bk_rows {M : List (Int × Int)} {P Q : Lst} (h : Bk M P Q) : rowsL Q.1 = rowsL P.1:=by
  unfold rowsL;rw [h.st];unfold renS;rw [List.map_map];rfl
theorem stps_get : ∀ (s : List Edt) (L : Lst) (i : Nat),i < s.length → (stps L s).getD i (((0 : Int),(0 : Int),([] : List Fld)),([] : List Fld),(0 : Int)) = stpA (yB L s i) (s.getD i ((0 : Int),(0 : Int),([] : List Fld)))
  | [],_,_,h=>by simp at h
  | x :: r,L,0,_=>rfl
  | x :: r,L,i + 1,h=>by
    rw [plays_cons];show (stps (doL L x) r).getD i (((0 : Int),(0 : Int),([] : List Fld)),([] : List Fld),(0 : Int)) = _;rw [stps_get r (doL L x) i (by simpa using h)];rfl
theorem plc_lt (es : List Ent) (id : Int) : plcL es id < ((stzL es).length : Int):=by
  unfold plcL stzL;rw [List.length_map];rcases ixOf_cases (hasId id) (es.filter live) (((0 : Int),ByteArray.empty,([] : List Fld)),(0 : Int)) with ⟨h1,_⟩|⟨i,h1,h2,_⟩
  · omega
  · omega
theorem stz_le (es : List Ent) : (stzL es).length ≤ es.length:=by
  unfold stzL;rw [List.length_map];exact List.length_filter_le _ _
theorem bk_back (N : Int) (l : List Stp) {i : Nat} (h : i < l.length) : bkR N (l.drop (l.length - (i + 1))) = bkS (l.getD (l.length - 1 - i) (((0 : Int),(0 : Int),([] : List Fld)),([] : List Fld),(0 : Int))) (bkR N (l.drop (l.length - i))):=by
  have e1 : l.drop (l.length - (i + 1)) = l.getD (l.length - 1 - i) (((0 : Int),(0 : Int),([] : List Fld)),([] : List Fld),(0 : Int)) :: l.drop (l.length - i):=by
    rw [List.drop_eq_getElem_cons (show l.length - (i + 1) < l.length by omega),List.getD_eq_getElem?_getD,List.getElem?_eq_getElem (show l.length - 1 - i < l.length by omega)]
    congr 1
    · simp only [Option.getD_some]
      congr 1
      omega
    · congr 1
      omega
  rw [e1];rfl
theorem bkR_len (N : Int) (l : List Stp) (i : Nat) : (bkR N (l.drop (l.length - i))).2.2.length ≤ i:=by
  rw [bk_len,List.length_drop];omega
theorem bkR_nx (N : Int) : ∀ (l : List Stp),N ≤ (bkR N l).2.1 ∧ (bkR N l).2.1 ≤ N + (l.length : Int)
  | []=>⟨Int.le_refl _,by show N ≤ N + 0;omega⟩
  | s :: r=>by
    have ih:=bkR_nx N r;have e : (bkR N (s :: r)) = bkS s (bkR N r):=rfl;rw [e,List.length_cons];unfold bkS;split
    · simp only;omega
    · split
      · simp only;omega
      · simp only;omega
theorem bkS1 {s : Stp} (q : Bst) (h : s.1.1 = 1) : bkS s q = (q.1,q.2.1,q.2.2 ++ [(1,nmM q.1 s.1.2.1,s.2.1)]):=by
  unfold bkS;rw [if_pos h]
theorem bkS2 {s : Stp} (q : Bst) (h : s.1.1 = 2) : bkS s q = (setM q.1 s.1.2.1 q.2.1,q.2.1 + 1,q.2.2 ++ [(3,nmM q.1 s.2.2,s.2.1)]):=by
  unfold bkS;rw [if_neg (by omega),if_pos h]
theorem bkS3 {s : Stp} (q : Bst) (h1 : ¬ s.1.1 = 1) (h2 : ¬ s.1.1 = 2) : bkS s q = (q.1,q.2.1,q.2.2 ++ [(2,nmM q.1 s.1.2.1,[])]):=by
  unfold bkS;rw [if_neg h1,if_neg h2]
def renT (ps : List (Int × Int)) (id : Int) : Int:=ps.foldl (fun a p=>if p.1 = id then p.2 else a) id
theorem ren_snoc (ps : List (Int × Int)) (p : Int × Int) (id : Int) : renT (ps ++ [p]) id = if p.1 = id then p.2 else renT ps id:=by
  unfold renT;rw [List.foldl_append];rfl
def rkS (s : Stp) (q : Bst) : Bst :=
  if s.1.1 = 1 then (q.1,q.2.1,q.2.2 ++ [(1,renT q.1 s.1.2.1,s.2.1)])
  else if s.1.1 = 2 then (q.1 ++ [(s.1.2.1,q.2.1)],q.2.1 + 1,q.2.2 ++ [(3,renT q.1 s.2.2,s.2.1)])
  else (q.1,q.2.1,q.2.2 ++ [(2,renT q.1 s.1.2.1,[])])
def rkR (N : Int) (l : List Stp) : Bst:=l.foldr rkS ([],N,[])
theorem rk_back (N : Int) (l : List Stp) {i : Nat} (h : i < l.length) : rkR N (l.drop (l.length - (i + 1))) = rkS (l.getD (l.length - 1 - i) (((0 : Int),(0 : Int),([] : List Fld)),([] : List Fld),(0 : Int))) (rkR N (l.drop (l.length - i))):=by
  have e1 : l.drop (l.length - (i + 1)) = l.getD (l.length - 1 - i) (((0 : Int),(0 : Int),([] : List Fld)),([] : List Fld),(0 : Int)) :: l.drop (l.length - i):=by
    rw [List.drop_eq_getElem_cons (show l.length - (i + 1) < l.length by omega),List.getD_eq_getElem?_getD,List.getElem?_eq_getElem (show l.length - 1 - i < l.length by omega)]
    congr 1
    · simp only [Option.getD_some]
      congr 1
      omega
    · congr 1
      omega
  rw [e1];rfl
theorem rk_eq (N : Int) : ∀ l : List Stp,(∀ id,renT (rkR N l).1 id = nmM (bkR N l).1 id) ∧ (rkR N l).2 = (bkR N l).2
  | []=>⟨fun _=>rfl,rfl⟩
  | s :: r=>by
    obtain ⟨h1,h2⟩:=rk_eq N r;have e1 : rkR N (s :: r) = rkS s (rkR N r):=rfl;have e2 : bkR N (s :: r) = bkS s (bkR N r):=rfl;rw [e1,e2];unfold rkS bkS;simp only [h1,h2];split
    · exact ⟨h1,rfl⟩
    · split
      · refine ⟨fun id=>?_,rfl⟩;simp only;rw [ren_snoc,nm_set,h1]
      · exact ⟨h1,rfl⟩
theorem rkS1 {s : Stp} (q : Bst) (h : s.1.1 = 1) : rkS s q = (q.1,q.2.1,q.2.2 ++ [(1,renT q.1 s.1.2.1,s.2.1)]):=by
  unfold rkS;rw [if_pos h]
theorem rkS2 {s : Stp} (q : Bst) (h : s.1.1 = 2) : rkS s q = (q.1 ++ [(s.1.2.1,q.2.1)],q.2.1 + 1,q.2.2 ++ [(3,renT q.1 s.2.2,s.2.1)]):=by
  unfold rkS;rw [if_neg (by omega),if_pos h]
theorem rkS3 {s : Stp} (q : Bst) (h1 : ¬ s.1.1 = 1) (h2 : ¬ s.1.1 = 2) : rkS s q = (q.1,q.2.1,q.2.2 ++ [(2,renT q.1 s.1.2.1,[])]):=by
  unfold rkS;rw [if_neg h1,if_neg h2]
theorem rkR_len (N : Int) (l : List Stp) : (rkR N l).2.2.length = l.length ∧ (rkR N l).1.length ≤ l.length ∧ N ≤ (rkR N l).2.1 ∧ (rkR N l).2.1 ≤ N + (l.length : Int):=by
  have h2:=(rk_eq N l).2;rw [h2];refine ⟨bk_len N l,?_,(bkR_nx N l).1,(bkR_nx N l).2⟩;clear h2
  induction l with
  | nil=>exact Nat.le_refl _
  | cons s r ih =>
    have e1 : rkR N (s :: r) = rkS s (rkR N r):=rfl;rw [e1,List.length_cons];unfold rkS;split
    · simp only;omega
    · split
      · simp only [List.length_append,List.length_cons,List.length_nil];omega
      · simp only;omega
end Q
end Ab
end Go.Proofs.YtojipboabgebfaaGreatDoor
namespace Go.Proofs.YtojipboabgebfaaGreatDoor.As
open Go.RowKit Go.Extern.Stop Go.Stop Go.Extern
theorem valueOf27 (t : Addr) (w : World) : (ReflectliteValue.unpack (.iface 262 (.pointer (some t)))).run Tryz.prog w
    = .ok (.agg #[.pointer (some ⟨4,262,none⟩),.pointer (some ⟨w.heap.size,0,none⟩),.int .u64 150]) (w.alloc (.cells #[.pointer (some t)] 262)):=by kernel_rfl
theorem type27 (a : Addr) (w : World) : (ReflectliteValue.methodAny (ReflectliteValue.valueError "reflectlite.Value.Type" 0) (fun t _ _ _ => ReflectliteType.toType t) #[.agg #[.pointer (some ⟨4, 262, none⟩), .pointer (some a), .int .u64 150]]).run Tryz.prog w
    = .ok (.iface 311 (.agg #[.pointer (some ⟨4,262,none⟩)])) w:=by kernel_rfl
theorem methodKind (h : Value) (w : World) : (Go.method 467 311 (.agg #[h]) "Kind").run Tryz.prog w = .ok (252, h) w := by kernel_rfl
theorem kind27 (w : World) : ((ReflectliteType.abiMethod fun t=>(fun a : Nat=>Value.int IntKind.u8 (a : Int)) <$> Rtype.kind t) #[.pointer (some ⟨4,262,none⟩)]).run Tryz.prog w = .ok (.int .u8 22) w:=by kernel_rfl
theorem kind25 (w : World) : ((ReflectliteType.abiMethod fun t=>(fun a : Nat=>Value.int IntKind.u8 (a : Int)) <$> Rtype.kind t) #[.pointer (some ⟨4,174,none⟩)]).run Tryz.prog w = .ok (.int .u8 22) w:=by kernel_rfl
theorem rlm (z : Sem Value) (f : TypeId → Addr → Nat → Nat → Sem Value) (v : Value) :
    ReflectliteValue.method z f #[v] = (do match ← ReflectliteValue.parts v with|none=>z|some (t,a,fl)=>f t a fl (fl % 32)):=rfl
theorem parts27 (a : Addr) (w : World) : (ReflectliteValue.parts (.agg #[.pointer (some ⟨4,262,none⟩),.pointer (some a),.int .u64 150])).run Tryz.prog w = .ok (some (262,a,150)) w:=by kernel_rfl
theorem isNil27 (a p : Addr) (W : World) (ha : W.cell? a = some (.pointer (some p))) :
    (ReflectliteValue.method (ReflectliteValue.valueError "reflectlite.Value.IsNil" 0) ReflectliteValue.isNil #[.agg #[.pointer (some ⟨4, 262, none⟩), .pointer (some a), .int .u64 150]]).run Tryz.prog W = .ok (.bool false) W := by
  rw [rlm];simp only [Sem.run_bind,parts27,Result.andThen];simp [ReflectliteValue.isNil,loadVar,isAgg,underlying,Tryz.underlying262,ha,Result.andThen]
theorem methodElem (h : Value) (w : World) : (Go.method 467 311 (.agg #[h]) "Elem").run Tryz.prog w = .ok (266, .agg #[h]) w := by kernel_rfl
theorem methodImplements (h : Value) (w : World) : (Go.method 467 311 (.agg #[h]) "Implements").run Tryz.prog w = .ok (267, .agg #[h]) w := by kernel_rfl
theorem methodAssignableTo (h : Value) (w : World) : (Go.method 467 311 (.agg #[h]) "AssignableTo").run Tryz.prog w = .ok (264, .agg #[h]) w := by kernel_rfl
theorem elem27 (w : World) : (ReflectliteType.method ReflectliteType.elem #[.agg #[.pointer (some ⟨4,262,none⟩)]]).run Tryz.prog w = .ok (.iface 311 (.agg #[.pointer (some ⟨4,174,none⟩)])) w:=by kernel_rfl
theorem implements25 (w : World) : (ReflectliteType.relation "Implements" ReflectliteType.implements_ #[.agg #[.pointer (some ⟨4, 174, none⟩)], .iface 311 (.agg #[.pointer (some ⟨4, 37, none⟩)])]).run Tryz.prog w = .ok (.bool true) w := by kernel_rfl
theorem typeOf25 (v : Value) (w : World) : (ReflectliteType.typeOf #[.iface 174 v]).run Tryz.prog w = .ok (.iface 311 (.agg #[.pointer (some ⟨4,174,none⟩)])) w:=by kernel_rfl
theorem assignable25 (w : World) : (ReflectliteType.relation "AssignableTo" ReflectliteType.assignableTo #[.agg #[.pointer (some ⟨4, 174, none⟩)], .iface 311 (.agg #[.pointer (some ⟨4, 174, none⟩)])]).run Tryz.prog w = .ok (.bool true) w := by kernel_rfl
theorem valueOf25 (e : Addr) (w : World) : (ReflectliteValue.unpack (.iface 174 (.pointer (some e)))).run Tryz.prog w
    = .ok (.agg #[.pointer (some ⟨4,174,none⟩),.pointer (some ⟨w.heap.size,0,none⟩),.int .u64 150]) (w.alloc (.cells #[.pointer (some e)] 174)):=by kernel_rfl
theorem elemOf27 (w : World) : (Rtype.elem? 262).run Tryz.prog w = .ok (some 174) w:=by kernel_rfl
theorem mk25 (p : Addr) (w : World) : (ReflectliteValue.mk 174 p ReflectliteValue.flagAddr).run Tryz.prog w = .ok (.agg #[.pointer (some ⟨4,174,none⟩),.pointer (some p),.int .u64 406]) w:=by kernel_rfl
theorem elemV27 (a p : Addr) (W : World) (ha : W.cell? a = some (.pointer (some p))) :
    (ReflectliteValue.method (ReflectliteValue.valueError "reflectlite.Value.Elem" 0) ReflectliteValue.elem #[.agg #[.pointer (some ⟨4, 262, none⟩), .pointer (some a), .int .u64 150]]).run Tryz.prog W
      = .ok (.agg #[.pointer (some ⟨4,174,none⟩),.pointer (some p),.int .u64 406]) W:=by
  rw [rlm];simp only [Sem.run_bind,parts27,Result.andThen];simp [ReflectliteValue.elem,loadVar,isAgg,underlying,Tryz.underlying262,ha,Result.andThen,elemOf27,mk25]
theorem rls (v x : Value) : ReflectliteValue.set #[v,x] = (do
    let (some (dst,a,fl),some (src,b,_)):=(← ReflectliteValue.parts v,← ReflectliteValue.parts x)
      | unsupported (.noEntry "extern/(internal/reflectlite.Value).Set.zeroValue")
    if fl / ReflectliteValue.flagAddr % 2 == 0 then unsupported (.noEntry "extern/(internal/reflectlite.Value).Set.unaddressable")
    let val ← loadVar src b
    if ← Rtype.directlyAssignable dst src then storeVar dst a val
    else if ← Rtype.implements dst src then
      if (← Rtype.kind src) == 20 then
        match val with
        | .nilIface => unsupported (.noEntry "extern/reflectlite: a nil value of one interface type handed on as a value of another")
        | _=>storeVar dst a val
      else storeVar dst a (.iface src val)
    else panicString ("reflectlite.Set: value of type " ++ (← Rtype.spelt src) ++ " is not assignable to type " ++ (← Rtype.spelt dst))
    pure (.tuple #[])):=rfl
theorem parts25a (a : Addr) (w : World) : (ReflectliteValue.parts (.agg #[.pointer (some ⟨4,174,none⟩),.pointer (some a),.int .u64 406])).run Tryz.prog w = .ok (some (174,a,406)) w:=by kernel_rfl
theorem parts25 (a : Addr) (w : World) : (ReflectliteValue.parts (.agg #[.pointer (some ⟨4,174,none⟩),.pointer (some a),.int .u64 150])).run Tryz.prog w = .ok (some (174,a,150)) w:=by kernel_rfl
theorem direct25 (w : World) : (Rtype.directlyAssignable 174 174).run Tryz.prog w = .ok true w:=by kernel_rfl
theorem set25 (ta b e : Addr) (old : Value) (W : World) (hb : W.cell? b = some (.pointer (some e))) (ht : W.cell? ta = some old) (hf : W.frozen? ta = false) :
    (ReflectliteValue.set #[.agg #[.pointer (some ⟨4,174,none⟩),.pointer (some ta),.int .u64 406],.agg #[.pointer (some ⟨4,174,none⟩),.pointer (some b),.int .u64 150]]).run Tryz.prog W
      = .ok (.tuple #[]) (W.setCell ta (.pointer (some e))):=by
  rw [rls];simp only [Sem.run_bind,parts25a,parts25,Result.andThen];simp [ReflectliteValue.flagAddr,loadVar,isAgg,underlying,Tryz.underlying174,hb,Result.andThen,direct25,storeVar,Value.cells,storeCells,Addr.add];rw [run_store Tryz.prog W ta _ _ (by rfl)];simp [ht,hf]
theorem typeOfN (v : Value) (w : World) : (ReflectliteType.typeOf #[.iface 45 v]).run Tryz.prog w = .ok (.iface 311 (.agg #[.pointer (some ⟨4,45,none⟩)])) w:=by kernel_rfl
theorem assignableN (w : World) : (ReflectliteType.relation "AssignableTo" ReflectliteType.assignableTo #[.agg #[.pointer (some ⟨4, 45, none⟩)], .iface 311 (.agg #[.pointer (some ⟨4, 174, none⟩)])]).run Tryz.prog w = .ok (.bool false) w := by kernel_rfl
theorem noAs (v : Value) (xT : TypeId) (w : World) : (Instr.typeAssert (.iface 45 v) xT 316 true).run Tryz.prog w = .ok (.tuple #[.nilIface,.bool false]) w:=run_typeAssert_lacksB Tryz.underlying316 (by kernel_rfl) (by kernel_rfl) v xT w
theorem noUnwrap (v : Value) (xT : TypeId) (w : World) : (Instr.typeAssert (.iface 45 v) xT 319 true).run Tryz.prog w = .ok (.tuple #[.nilIface,.bool false]) w:=run_typeAssert_lacksB Tryz.underlying319 (by kernel_rfl) (by kernel_rfl) v xT w
theorem noUnwraps (v : Value) (xT : TypeId) (w : World) : (Instr.typeAssert (.iface 45 v) xT 320 true).run Tryz.prog w = .ok (.tuple #[.nilIface,.bool false]) w:=run_typeAssert_lacksB Tryz.underlying320 (by kernel_rfl) (by kernel_rfl) v xT w
set_option maxHeartbeats 4000000 in
theorem as_hit (e t : Addr) (old : Value) (w : World) (hg : w.cell? ⟨0,0,none⟩ = some (.iface 311 (.agg #[.pointer (some ⟨4,37,none⟩)]))) (ht0 : w.cell? t = some old) (hf0 : w.frozen? t = false) :
    Calls Tryz.prog 167 #[.iface 174 (.pointer (some e)),.iface 262 (.pointer (some t))] w fun ev w'=>ev = .returned (.bool true) ∧ w' = ((((w.alloc (.cells #[.pointer (some t)] 262)).alloc (.cells #[.pointer (some ⟨4,262,none⟩),.pointer (some ⟨w.heap.size,0,none⟩),.int .u64 150] 288)).alloc (.cells #[.pointer (some ⟨4,262,none⟩),.pointer (some ⟨w.heap.size,0,none⟩),.int .u64 150] 288)).alloc (.cells #[.pointer (some e)] 174)).setCell t (.pointer (some e)):=by
  have h6 := @run_callFunc_extern Tryz.prog 190 _ (fun args => ReflectliteValue.unpack (args.getD 0 (.tuple #[]))) Tryz.func190 (by kernel_rfl) (by kernel_rfl) (by kernel_rfl) (by kernel_rfl);have h7 := @run_callFunc_extern Tryz.prog 191 _ (ReflectliteValue.methodAny (ReflectliteValue.valueError "reflectlite.Value.Type" 0) (fun t _ _ _ => ReflectliteType.toType t)) Tryz.func191 (by kernel_rfl) (by kernel_rfl) (by kernel_rfl) (by kernel_rfl);have h8 := @run_callFunc_extern Tryz.prog 192 _ (ReflectliteValue.method (ReflectliteValue.valueError "reflectlite.Value.IsNil" 0) ReflectliteValue.isNil) Tryz.func192 (by kernel_rfl) (by kernel_rfl) (by kernel_rfl) (by kernel_rfl);have h27 := @run_callFunc_extern Tryz.prog 252 _ (ReflectliteType.abiMethod fun t => do pure (.int .u8 (← Rtype.kind t))) Tryz.func252 (by kernel_rfl) (by kernel_rfl) (by kernel_rfl) (by kernel_rfl);have h37 := @run_callFunc_extern Tryz.prog 266 _ (ReflectliteType.method ReflectliteType.elem) Tryz.func266 (by kernel_rfl) (by kernel_rfl) (by kernel_rfl) (by kernel_rfl);have h38 := @run_callFunc_extern Tryz.prog 267 _ (ReflectliteType.relation "Implements" ReflectliteType.implements_) Tryz.func267 (by kernel_rfl) (by kernel_rfl) (by kernel_rfl) (by kernel_rfl);have h10 := @run_callFunc_extern Tryz.prog 212 _ ReflectliteType.typeOf Tryz.func212 (by kernel_rfl) (by kernel_rfl) (by kernel_rfl) (by kernel_rfl);have h35 := @run_callFunc_extern Tryz.prog 264 _ (ReflectliteType.relation "AssignableTo" ReflectliteType.assignableTo) Tryz.func264 (by kernel_rfl) (by kernel_rfl) (by kernel_rfl) (by kernel_rfl);have h11 := @run_callFunc_extern Tryz.prog 213 _ (ReflectliteValue.method (ReflectliteValue.valueError "reflectlite.Value.Elem" 0) ReflectliteValue.elem) Tryz.func213 (by kernel_rfl) (by kernel_rfl) (by kernel_rfl) (by kernel_rfl);have h12 := @run_callFunc_extern Tryz.prog 214 _ ReflectliteValue.set Tryz.func214 (by kernel_rfl) (by kernel_rfl) (by kernel_rfl) (by kernel_rfl);have tO := typeOf25;have mA := methodAssignableTo;have a25 := assignable25;have v25 := valueOf25;have f6 := valueOf27;have f7 := type27;have mK := methodKind;have mE := methodElem;have mI := methodImplements;have k27 := kind27;have k25 := kind25;have e27 := elem27;have i25 := implements25;have n8 := isNil27 ⟨w.heap.size, 0, none⟩ t ((w.alloc (.cells #[.pointer (some t)] 262)).alloc (.cells #[.pointer (some ⟨4, 262, none⟩), .pointer (some ⟨w.heap.size, 0, none⟩), .int .u64 150] 288)) (by simp);have hlt : 0 < w.heap.size := by
    rcases Nat.lt_or_ge 0 w.heap.size with h|h
    · exact h
    · simp [World.cell?,Array.getElem?_eq_none h] at hg
  have hg2 : ((w.alloc (.cells #[.pointer (some t)] 262)).alloc (.cells #[.pointer (some ⟨4,262,none⟩),.pointer (some ⟨w.heap.size,0,none⟩),.int .u64 150] 288)).cell? ⟨0,0,none⟩ = some (.iface 311 (.agg #[.pointer (some ⟨4,37,none⟩)])):=by
    rw [World.cell?_alloc_lt _ _ ⟨0,0,none⟩ (by simp),World.cell?_alloc_lt _ _ ⟨0,0,none⟩ hlt];exact hg
  have htl : t.block < w.heap.size:=by
    rcases Nat.lt_or_ge t.block w.heap.size with h|h
    · exact h
    · simp [World.cell?,Array.getElem?_eq_none h] at ht0
  have el:=elemV27 ⟨w.heap.size,0,none⟩ t (((w.alloc (.cells #[.pointer (some t)] 262)).alloc (.cells #[.pointer (some ⟨4,262,none⟩),.pointer (some ⟨w.heap.size,0,none⟩),.int .u64 150] 288)).alloc (.cells #[.pointer (some ⟨4,262,none⟩),.pointer (some ⟨w.heap.size,0,none⟩),.int .u64 150] 288)) (by rw [World.cell?_alloc_lt _ _ ⟨w.heap.size,0,none⟩ (by simp;omega)];simp);have st:=set25 t ⟨w.heap.size + 1 + 1 + 1,0,none⟩ e old ((((w.alloc (.cells #[.pointer (some t)] 262)).alloc (.cells #[.pointer (some ⟨4,262,none⟩),.pointer (some ⟨w.heap.size,0,none⟩),.int .u64 150] 288)).alloc (.cells #[.pointer (some ⟨4,262,none⟩),.pointer (some ⟨w.heap.size,0,none⟩),.int .u64 150] 288)).alloc (.cells #[.pointer (some e)] 174))
    (by rw [World.cell?_alloc_at _ _ _ _ (by simp)];rfl)
    (by rw [World.cell?_alloc_lt _ _ t (by simp;omega),World.cell?_alloc_lt _ _ t (by simp;omega),World.cell?_alloc_lt _ _ t (by simp;omega),World.cell?_alloc_lt _ _ t htl];exact ht0)
    (by rw [World.frozen?_alloc_old _ _ t (by simp;omega),World.frozen?_alloc_old _ _ t (by simp;omega),World.frozen?_alloc_old _ _ t (by simp;omega),World.frozen?_alloc_old _ _ t (Nat.ne_of_lt htl)];exact hf0)
  go_enter Tryz.func167,Tryz.ntmps167
  go_wp2
  refine wp_loop_rounds 1 ?_;rw [rounds_succ]
  go_wp2
  go_ret
  exact ⟨rfl,rfl⟩
set_option maxHeartbeats 4000000 in
theorem as_miss (v : Value) (t : Addr) (old : Value) (w : World) (hg : w.cell? ⟨0,0,none⟩ = some (.iface 311 (.agg #[.pointer (some ⟨4,37,none⟩)]))) (ht0 : w.cell? t = some old) (_ : w.frozen? t = false) :
    Calls Tryz.prog 167 #[.iface 45 v,.iface 262 (.pointer (some t))] w fun ev w'=>ev = .returned (.bool false) ∧ w' = ((w.alloc (.cells #[.pointer (some t)] 262)).alloc (.cells #[.pointer (some ⟨4,262,none⟩),.pointer (some ⟨w.heap.size,0,none⟩),.int .u64 150] 288)).alloc (.cells #[.pointer (some ⟨4,262,none⟩),.pointer (some ⟨w.heap.size,0,none⟩),.int .u64 150] 288):=by
  have h6 := @run_callFunc_extern Tryz.prog 190 _ (fun args => ReflectliteValue.unpack (args.getD 0 (.tuple #[]))) Tryz.func190 (by kernel_rfl) (by kernel_rfl) (by kernel_rfl) (by kernel_rfl);have h7 := @run_callFunc_extern Tryz.prog 191 _ (ReflectliteValue.methodAny (ReflectliteValue.valueError "reflectlite.Value.Type" 0) (fun t _ _ _ => ReflectliteType.toType t)) Tryz.func191 (by kernel_rfl) (by kernel_rfl) (by kernel_rfl) (by kernel_rfl);have h8 := @run_callFunc_extern Tryz.prog 192 _ (ReflectliteValue.method (ReflectliteValue.valueError "reflectlite.Value.IsNil" 0) ReflectliteValue.isNil) Tryz.func192 (by kernel_rfl) (by kernel_rfl) (by kernel_rfl) (by kernel_rfl);have h27 := @run_callFunc_extern Tryz.prog 252 _ (ReflectliteType.abiMethod fun t => do pure (.int .u8 (← Rtype.kind t))) Tryz.func252 (by kernel_rfl) (by kernel_rfl) (by kernel_rfl) (by kernel_rfl);have h37 := @run_callFunc_extern Tryz.prog 266 _ (ReflectliteType.method ReflectliteType.elem) Tryz.func266 (by kernel_rfl) (by kernel_rfl) (by kernel_rfl) (by kernel_rfl);have h38 := @run_callFunc_extern Tryz.prog 267 _ (ReflectliteType.relation "Implements" ReflectliteType.implements_) Tryz.func267 (by kernel_rfl) (by kernel_rfl) (by kernel_rfl) (by kernel_rfl);have h10 := @run_callFunc_extern Tryz.prog 212 _ ReflectliteType.typeOf Tryz.func212 (by kernel_rfl) (by kernel_rfl) (by kernel_rfl) (by kernel_rfl);have h35 := @run_callFunc_extern Tryz.prog 264 _ (ReflectliteType.relation "AssignableTo" ReflectliteType.assignableTo) Tryz.func264 (by kernel_rfl) (by kernel_rfl) (by kernel_rfl) (by kernel_rfl);have h11 := @run_callFunc_extern Tryz.prog 213 _ (ReflectliteValue.method (ReflectliteValue.valueError "reflectlite.Value.Elem" 0) ReflectliteValue.elem) Tryz.func213 (by kernel_rfl) (by kernel_rfl) (by kernel_rfl) (by kernel_rfl);have h12 := @run_callFunc_extern Tryz.prog 214 _ ReflectliteValue.set Tryz.func214 (by kernel_rfl) (by kernel_rfl) (by kernel_rfl) (by kernel_rfl);have tO := typeOfN;have q1 := noAs;have q2 := noUnwrap;have q3 := noUnwraps;have mA := methodAssignableTo;have a25 := assignableN;have v25 := valueOf25;have f6 := valueOf27;have f7 := type27;have mK := methodKind;have mE := methodElem;have mI := methodImplements;have k27 := kind27;have k25 := kind25;have e27 := elem27;have i25 := implements25;have n8 := isNil27 ⟨w.heap.size, 0, none⟩ t ((w.alloc (.cells #[.pointer (some t)] 262)).alloc (.cells #[.pointer (some ⟨4, 262, none⟩), .pointer (some ⟨w.heap.size, 0, none⟩), .int .u64 150] 288)) (by simp);have hlt : 0 < w.heap.size := by
    rcases Nat.lt_or_ge 0 w.heap.size with h|h
    · exact h
    · simp [World.cell?,Array.getElem?_eq_none h] at hg
  have hg2 : ((w.alloc (.cells #[.pointer (some t)] 262)).alloc (.cells #[.pointer (some ⟨4,262,none⟩),.pointer (some ⟨w.heap.size,0,none⟩),.int .u64 150] 288)).cell? ⟨0,0,none⟩ = some (.iface 311 (.agg #[.pointer (some ⟨4,37,none⟩)])):=by
    rw [World.cell?_alloc_lt _ _ ⟨0,0,none⟩ (by simp),World.cell?_alloc_lt _ _ ⟨0,0,none⟩ hlt];exact hg
  have htl : t.block < w.heap.size:=by
    rcases Nat.lt_or_ge t.block w.heap.size with h|h
    · exact h
    · simp [World.cell?,Array.getElem?_eq_none h] at ht0
  have el:=elemV27 ⟨w.heap.size,0,none⟩ t (((w.alloc (.cells #[.pointer (some t)] 262)).alloc (.cells #[.pointer (some ⟨4,262,none⟩),.pointer (some ⟨w.heap.size,0,none⟩),.int .u64 150] 288)).alloc (.cells #[.pointer (some ⟨4,262,none⟩),.pointer (some ⟨w.heap.size,0,none⟩),.int .u64 150] 288)) (by rw [World.cell?_alloc_lt _ _ ⟨w.heap.size,0,none⟩ (by simp;omega)];simp)
  go_enter Tryz.func167,Tryz.ntmps167
  go_wp2
  refine wp_loop_rounds 1 ?_;rw [rounds_succ]
  go_wp2
  go_ret
  exact ⟨rfl,rfl⟩
end Go.Proofs.YtojipboabgebfaaGreatDoor.As
namespace Go.Proofs.YtojipboabgebfaaGreatDoor
open Go.RowKit
namespace Ab
set_option maxRecDepth 100000
namespace Q
theorem errCell {ok : Oks} {w : World} (h : GlobAt ok w) : w.cell? ⟨0,0,none⟩ = some (.iface 311 (.agg #[.pointer (some ⟨3 + 1,37,none⟩)])):=h.2.2.2
theorem as_hit' {n0 : Nat} (e t : Addr) (old : Value) (w : World) (hg : w.cell? ⟨0,0,none⟩ = some (.iface 311 (.agg #[.pointer (some ⟨3 + 1,37,none⟩)]))) (ht : w.cell? t = some old) (hf : w.frozen? t = false) (h0 : n0 ≤ t.block) (h1 : n0 ≤ w.heap.size) :
    Calls Tryz.prog 167 #[.iface 174 (.pointer (some e)),.iface 262 (.pointer (some t))] w fun ev w'=>ev = .returned (.bool true) ∧ Below n0 w w' ∧ w'.cell? t = some (.pointer (some e)):=by
  have htl : t.block < w.heap.size:=by
    rcases Nat.lt_or_ge t.block w.heap.size with h|h
    · exact h
    · simp [World.cell?,Array.getElem?_eq_none h] at ht
  refine (As.as_hit e t old w hg ht hf).mono ?_
  rintro ev w' ⟨rfl,rfl⟩
  have hb:=((((Below.refl n0 w).alloc h1 (.cells #[.pointer (some t)] 262)).alloc (by simp;omega) (.cells #[.pointer (some ⟨3 + 1,262,none⟩),.pointer (some ⟨w.heap.size,0,none⟩),.int .u64 150] 288)).alloc (by simp;omega) (.cells #[.pointer (some ⟨3 + 1,262,none⟩),.pointer (some ⟨w.heap.size,0,none⟩),.int .u64 150] 288)).alloc (by simp;omega) (.cells #[.pointer (some e)] 174);refine ⟨rfl,hb.setCell h0 _,World.cell?_setCell_same _ _ _ (u:=old) ?_⟩;rw [World.cell?_alloc_lt _ _ t (by simp;omega),World.cell?_alloc_lt _ _ t (by simp;omega),World.cell?_alloc_lt _ _ t (by simp;omega),World.cell?_alloc_lt _ _ t htl];exact ht
theorem as_miss' {n0 : Nat} (v : Value) (t : Addr) (old : Value) (w : World) (hg : w.cell? ⟨0,0,none⟩ = some (.iface 311 (.agg #[.pointer (some ⟨3 + 1,37,none⟩)]))) (ht : w.cell? t = some old) (hf : w.frozen? t = false) (h1 : n0 ≤ w.heap.size) :
    Calls Tryz.prog 167 #[.iface 45 v,.iface 262 (.pointer (some t))] w fun ev w'=>ev = .returned (.bool false) ∧ Below n0 w w':=by
  refine (As.as_miss v t old w hg ht hf).mono ?_
  rintro ev w' ⟨rfl,rfl⟩
  exact ⟨rfl,(((Below.refl n0 w).alloc h1 _).alloc (by simp;omega) _).alloc (by simp;omega) _⟩
set_option maxHeartbeats 4000000 in
theorem bareN_calls (v : Value) (w : World) (hg : w.cell? ⟨0,0,none⟩ = some (.iface 311 (.agg #[.pointer (some ⟨3 + 1,37,none⟩)]))) (hlt : 0 < w.heap.size) :
    Calls Tryz.prog 140 #[.iface 45 v] w fun e w'=>e = .returned (.iface 45 v) ∧ Below w.heap.size w w':=by
  have hgA : (w.alloc (.cells #[.pointer none] 174)).cell? ⟨0,0,none⟩ = some (.iface 311 (.agg #[.pointer (some ⟨3 + 1,37,none⟩)])):=by
    rw [World.cell?_alloc_lt _ _ ⟨0,0,none⟩ hlt];exact hg
  have htA : (w.alloc (.cells #[.pointer none] 174)).cell? ⟨w.heap.size,0,none⟩ = some (.pointer none):=by simp
  have hfA : (w.alloc (.cells #[.pointer none] 174)).frozen? ⟨w.heap.size,0,none⟩ = false:=by simp
  have hbA : Below w.heap.size w (w.alloc (.cells #[.pointer none] 174)):=(Below.refl _ w).alloc (Nat.le_refl _) _
  go_enter Tryz.func140,Tryz.ntmps140
  go_wp2_with (go_at_call 167;refine (as_miss' (n0:=w.heap.size) v _ _ _ hgA htA hfA (by simp)).mono ?_;rintro e w' ⟨rfl,hb⟩)
  go_ret
  exact ⟨rfl,hbA.trans hb⟩
set_option maxHeartbeats 4000000 in
theorem bareF_calls (b off : Nat) (x : Value) (w : World) (hg : w.cell? ⟨0,0,none⟩ = some (.iface 311 (.agg #[.pointer (some ⟨3 + 1,37,none⟩)]))) (hlt : 0 < w.heap.size) (hx : w.cell? ⟨b,off + 1,none⟩ = some x) :
    Calls Tryz.prog 140 #[.iface 174 (.pointer (some ⟨b,off,none⟩))] w fun e w'=>e = .returned x ∧ Below w.heap.size w w':=by
  have hgA : (w.alloc (.cells #[.pointer none] 174)).cell? ⟨0,0,none⟩ = some (.iface 311 (.agg #[.pointer (some ⟨3 + 1,37,none⟩)])):=by
    rw [World.cell?_alloc_lt _ _ ⟨0,0,none⟩ hlt];exact hg
  have htA : (w.alloc (.cells #[.pointer none] 174)).cell? ⟨w.heap.size,0,none⟩ = some (.pointer none):=by simp
  have hfA : (w.alloc (.cells #[.pointer none] 174)).frozen? ⟨w.heap.size,0,none⟩ = false:=by simp
  have hbA : Below w.heap.size w (w.alloc (.cells #[.pointer none] 174)):=(Below.refl _ w).alloc (Nat.le_refl _) _
  go_enter Tryz.func140,Tryz.ntmps140
  go_wp2_with (go_at_call 167;refine (as_hit' (n0:=w.heap.size) ⟨b,off,none⟩ _ _ _ hgA htA hfA (by simp) (by simp)).mono ?_;rintro e w' ⟨rfl,hb,hc⟩;have hx2 : w'.cell? ⟨b,off + 1,none⟩ = some x:=cell_later (hbA.trans hb) hx)
  go_ret
  exact ⟨rfl,hbA.trans hb⟩
theorem bareN_c (n : Int) : qX Tryz.prog 140 [.one (errN n)] (.one (errN n)):=by
  refine ⟨⟨_,Tryz.func140,rfl,rfl⟩,fun ok w vs hg hvs=>?_⟩;obtain ⟨v,t,rfl,hv,ht⟩:=hvs;rw [show t = [] from ht,show v = _ from hv];exact (bareN_calls (.int .i64 n) w (errCell hg) (Nat.lt_of_lt_of_le (by decide) hg.2.1)).mono fun e w' ⟨he,hb⟩=>⟨_,he,hb,rfl⟩
theorem bareF_c (a n : Int) : qX Tryz.prog 140 [.one (errF a n)] (.one (errN n)):=by
  refine ⟨⟨_,Tryz.func140,rfl,rfl⟩,fun ok w vs hg hvs=>?_⟩;obtain ⟨v,t,rfl,⟨u,rfl,b,off,cs,rfl,_,hlt,hc,hr⟩,ht⟩:=hvs;obtain ⟨c,d,rfl,h1,h2⟩:=hr;rw [show t = [] from ht];have hx : w.cell? ⟨b,off + 1,none⟩ = some (.iface 45 (.int .i64 n)):=by
    rw [hc.2 1 (by decide),show c = _ from h1,show d = _ from h2.1];rfl
  exact (bareF_calls b off _ w (errCell hg) (Nat.lt_of_lt_of_le (by decide) hg.2.1) hx).mono fun e w' ⟨he,hb⟩=>⟨_,he,hb,rfl⟩
end Q
end Ab
end Go.Proofs.YtojipboabgebfaaGreatDoor
namespace Go.Proofs.YtojipboabgebfaaGreatDoor
open Go.RowKit
namespace Ab
set_option maxRecDepth 100000
abbrev rItm3 : Rd Itm:=rItm.kd 3
namespace Q
end Q
end Ab
end Go.Proofs.YtojipboabgebfaaGreatDoor
namespace Go.Proofs.YtojipboabgebfaaGreatDoor
open Go.RowKit
namespace Ab
set_option maxRecDepth 100000
namespace Q
theorem a1_parse7 : xG ⟨#[65,58,32,49,10]⟩ = .inr [(3,⟨#[65,58,32,49,10]⟩,[(⟨#[65]⟩,⟨#[49]⟩)])]:=by decide +kernel
def al0 : List Ent:=[((3,⟨#[65,58,32,49,10]⟩,[(⟨#[65]⟩,⟨#[49]⟩)]),1)]
def alF : List Fld:=[(⟨#[66]⟩,⟨#[50]⟩)]
def al1 : List Ent:=insE al0 0 (xS alF,2)
theorem stz_len (es : List Ent) : (stzL es).length = (es.filter live).length:=List.length_map _
theorem stz_at {es : List Ent} {i : Nat} (h : i < (stzL es).length) : (stzL es).getD i ((0 : Int),([] : List Fld)) = stzOf ((es.filter live).getD i (((0 : Int),ByteArray.empty,([] : List Fld)),(0 : Int))):=by
  have h1 : i < (es.filter live).length:=by rw [← stz_len];exact h
  rw [← getD_get h ((0 : Int),([] : List Fld)),← getD_get h1 (((0 : Int),ByteArray.empty,([] : List Fld)),(0 : Int))];exact List.getElem_map stzOf
structure SeenI (es : List Ent) (n : Int) (i : Nat) (sn : List Bool) : Prop where
  le : i ≤ (stzL es).length
  len : sn.length = n.toNat
  seen : ∀ k : Nat,sn.getD k false = true → ∃ j,j < i ∧ ((stzL es).getD j ((0 : Int),([] : List Fld))).1 = k
theorem SeenI.next {es : List Ent} {n : Int} {i : Nat} {sn : List Bool} (h : SeenI es n i sn) (hi : i < (stzL es).length) (hp : 0 < ((stzL es).getD i ((0 : Int),([] : List Fld))).1) : SeenI es n (i + 1) (sn.set (((stzL es).getD i ((0 : Int),([] : List Fld))).1).toNat true):=by
  refine ⟨hi,by rw [List.length_set];exact h.len,fun k hk=>?_⟩
  by_cases e : (((stzL es).getD i ((0 : Int),([] : List Fld))).1).toNat = k
  · exact ⟨i,Nat.lt_succ_self _,by omega⟩
  · rw [List.getD_eq_getElem?_getD,List.getElem?_set_ne e,← List.getD_eq_getElem?_getD] at hk;obtain ⟨j,hj,h2⟩:=h.seen k hk;exact ⟨j,by omega,h2⟩
theorem lsvec_eq {L M : Lst} (h : M = L) : some (Ob.vec 138 rEnt L.1) = some (Ob.vec 138 rEnt M.1):=by rw [h]
abbrev rStz3 : Rd Stz:=rStz.kd 3
theorem refGet_c (es : List Ent) (n id : Int) (h : ¬ atE es id < 0) : qX Tryz.prog 96 [.agg (toL rRL (es,n)),ii .i64 id] (.tup [(true,toL rItm (es.getD (atE es id).toNat (((0 : Int),ByteArray.empty,([] : List Fld)),(0 : Int))).1),(false,[.lit (.bool true)])]):=by
  obtain ⟨i,hi,he,_,_⟩:=at_lt h;have hat:=refFindAt_c es n id;rw [he] at hat ⊢;rw [Int.toNat_natCast];refine yV (rs:=[.cell 4 136,.tmp 5]) Tryz.func96 rfl rfl rfl teOk rfl ?_;refine qB ?_;refine qB ?_;refine Or.inl ?_;refine zai (rfl) ?_;refine zei _ (zai (hat) ?_);refine qJ ?_;refine qB ?_;refine qK rfl (fun h11=>?_) (fun h11=>?_)
  ·try simp only [decide_eq_true_eq] at h11
   try simp only [zds] at h11
   omega
  ·try simp only [decide_eq_false_iff_not,Int.not_lt] at h11
   try simp only [zds] at h11
   refine qL ?_;refine qB ?_;refine zai (by first|omega|assumption|decide|(simp only [];omega)|(simp <;> omega)) ?_;refine qM ?_;rfl
theorem refGet_no (es : List Ent) (n id : Int) (h : atE es id < 0) : qX Tryz.prog 96 [.agg (toL rRL (es,n)),ii .i64 id] (.tup [(true,[.lit (.int .i64 0),.lit (.string ⟨#[]⟩),.lit (.slice none 0 0)]),(false,[.lit (.bool false)])]):=by
  have hat:=refFindAt_c es n id;refine yV (rs:=[.cell 4 136,.tmp 5]) Tryz.func96 rfl rfl rfl teOk rfl ?_;refine qB ?_;refine qB ?_;refine Or.inl ?_;refine zai (rfl) ?_;refine zei _ (zai (hat) ?_);refine qJ ?_;refine qB ?_;refine qK rfl (fun h11=>?_) (fun h11=>?_)
  ·try simp only [decide_eq_true_eq] at h11
   try simp only [zds] at h11
   refine qB ?_;refine qM ?_;rfl
  ·try simp only [decide_eq_false_iff_not,Int.not_lt] at h11
   try simp only [zds] at h11
   omega
theorem refPlc_c (es : List Ent) (n id : Int) (hl : es.length ≤ 1000000) : qX Tryz.prog 98 [.agg (toL rRL (es,n)),ii .i64 id] (ii .i64 (plcL es id)):=by
  have hsl:=stz_len es;refine qV (rs:=[4]) Tryz.func98 rfl rfl rfl teOk rfl ?_;refine qB ?_;refine qB ?_;refine Or.inl ?_;refine zai (rfl) ?_;refine zei _ (zai (refStz_c es n hl) ?_);refine qJ ?_;refine qB ?_;refine qQ ?_;refine qW (fun (i : Nat)=>i ≤ (stzL es).length ∧ ((es.filter live).take i).any (hasId id) = false) (fun (i : Nat)=>[(1,ii .i64 id),(5,.one (.sl rStz (stzL es))),(6,ii .i64 i)]) (fun (i : Nat)=>[]) 0 (fun (i : Nat)=>(stzL es).length - i) 0 (⟨Nat.zero_le _,rfl⟩) (qP ⟨rfl,rfl,rfl⟩ trivial rfl) ?_;intro i hI0;obtain ⟨hi,hn⟩:=hI0;refine qJ ?_;refine qB ?_;intro l3_2
  try simp only [zds] at l3_2
  refine qK rfl (fun h12=>?_) (fun h12=>?_)
  ·try simp only [decide_eq_true_eq] at h12
   try simp only [zds] at h12
   have hil : i < (stzL es).length:=(by omega);have hst:=stz_at hil;refine qL ?_;refine qJ ?_;refine qQ ?_;refine qB ?_;refine zob ?_;refine qK rfl (fun h21=>?_) (fun h21=>?_)
   ·try simp only [decide_eq_true_eq] at h21
    try simp only [Int.toNat_natCast,qH,qG,qD] at h21
    have hh : hasId id ((es.filter live).getD i (((0 : Int),ByteArray.empty,([] : List Fld)),(0 : Int))) = true:=decide_eq_true (by rw [← h21,hst];rfl);refine qB ?_;refine qM ?_;exact qT (ixOf_at (((0 : Int),ByteArray.empty,([] : List Fld)),(0 : Int)) (by omega) hn hh).symm
   ·try simp only [decide_eq_false_iff_not] at h21
    try simp only [Int.toNat_natCast,qH,qG,qD] at h21
    have hh : hasId id ((es.filter live).getD i (((0 : Int),ByteArray.empty,([] : List Fld)),(0 : Int))) = false:=decide_eq_false (fun e=>h21 (by rw [hst];exact e));refine qL ?_;refine qI ?_;refine zob ?_;exact ⟨i + 1,⟨by omega,by rw [take_any _ (hasId id) (((0 : Int),ByteArray.empty,([] : List Fld)),(0 : Int)) i (by omega),hn,hh];rfl⟩,by first|omega|(simp <;> omega),qP ⟨rfl,rfl,(qT (by omega))⟩ trivial rfl⟩
  ·try simp only [decide_eq_false_iff_not,Int.not_lt] at h12
   try simp only [zds] at h12
   refine yA ?_;refine qB ?_;refine qM ?_;rw [show i = (es.filter live).length by omega,List.take_length] at hn;rw [show plcL es id = -1 from ixOf_none hn];exact rfl
def goodA (x : Edt) : C:=if x.1 = 2 then (if 0 < x.2.2.length then errN 2 else .lit .nilIface) else if x.1 = 1 ∨ x.1 = 3 then chkA x.2.2 else errN 2
theorem goodA_cases (x : Edt) : (xZ x = 0 ∧ goodA x = .lit .nilIface) ∨ (∃ n,n ≠ 0 ∧ xZ x = n ∧ goodA x = errN n) ∨ ∃ a n,n ≠ 0 ∧ xZ x = n ∧ goodA x = errF a n:=by
  unfold xZ goodA
  by_cases h2 : x.1 = 2
  · simp only [if_pos h2]
    by_cases h3 : 0 < x.2.2.length
    · simp only [if_pos h3];exact .inr (.inl ⟨2,by decide,rfl,rfl⟩)
    · simp only [if_neg h3];exact .inl ⟨trivial,trivial⟩
  · simp only [if_neg h2]
    by_cases h3 : x.1 = 1 ∨ x.1 = 3
    · simp only [if_pos h3]
      by_cases hc : (chkR x.2.2).2 = 0
      · exact .inl ⟨hc,(chk_good hc).2.2⟩
      · obtain ⟨e,he,hs⟩:=chk_bad hc;rcases hs with ⟨n,hn,rfl,hr⟩|⟨i,n,hn,rfl,hr⟩
        · exact .inr (.inl ⟨n,hn,by rw [hr],he⟩)
        · exact .inr (.inr ⟨i,n,hn,by rw [hr],he⟩)
    · simp only [if_neg h3];exact .inr (.inl ⟨2,by decide,rfl,rfl⟩)
theorem goodA_2 {x : Edt} (h : x.1 = 2) (h3 : 0 < x.2.2.length) : goodA x = errN 2:=by unfold goodA;rw [if_pos h,if_pos h3]
theorem goodA_20 {x : Edt} (h : x.1 = 2) (h3 : ¬ 0 < x.2.2.length) : goodA x = .lit .nilIface:=by unfold goodA;rw [if_pos h,if_neg h3]
theorem goodA_13 {x : Edt} (h : x.1 = 1 ∨ x.1 = 3) : goodA x = chkA x.2.2:=by unfold goodA;rw [if_neg (by omega),if_pos h]
theorem goodA_no {x : Edt} (h : x.1 ≠ 2) (h3 : ¬ (x.1 = 1 ∨ x.1 = 3)) : goodA x = errN 2:=by unfold goodA;rw [if_neg h,if_neg h3]
theorem chkA_cases (l : List Fld) : chkA l = .lit .nilIface ∨ (∃ n,chkA l = errN n) ∨ ∃ a n,chkA l = errF a n:=by
  unfold chkA;split
  · exact .inl rfl
  · split
    · exact .inr (.inl ⟨_,rfl⟩)
    · exact .inr (.inr ⟨_,_,rfl⟩)
theorem good_c {κ : Nat} (x : Edt) (hf : yO x.2.2) : qX Tryz.prog 139 [.agg (toL (rEdk κ) x)] (.one (goodA x)):=by
  refine qV (rs:=[2]) Tryz.func139 rfl rfl rfl teOk rfl ?_;refine qB ?_;refine qJ ?_;refine qB ?_;refine qQ ?_;refine qB ?_;refine qK rfl (fun h5=>?_) (fun h5=>?_)
  ·try simp only [decide_eq_true_eq] at h5
   try simp only [zds] at h5
   refine qJ ?_;refine qB ?_;intro l3_2
   try simp only [zds] at l3_2
   refine qK rfl (fun h10=>?_) (fun h10=>?_)
   ·try simp only [decide_eq_true_eq] at h10
    try simp only [zds] at h10
    refine qB ?_;refine qM ?_;rw [goodA_2 h5 (by omega)];rfl
   ·try simp only [decide_eq_false_iff_not,Int.not_lt] at h10
    try simp only [zds] at h10
    refine qL ?_;refine qB ?_;refine qM ?_;rw [goodA_20 h5 (by omega)];rfl
  ·try simp only [decide_eq_false_iff_not] at h5
   try simp only [zds] at h5
   refine qJ ?_;refine qB ?_;refine qK rfl (fun h12=>?_) (fun h12=>?_)
   ·try simp only [decide_eq_true_eq] at h12
    try simp only [zds] at h12
    refine qL ?_;refine qK rfl (fun h12=>?_) (fun h12=>?_)
    ·try simp only [decide_eq_true_eq] at h12
     try simp only [zds] at h12
     refine qJ ?_;have hk:=pcheck_c (κ:=κ) x.2.2 hf ; rcases chkA_cases x.2.2 with hA|⟨n,hA⟩|⟨a,n,hA⟩ <;> rw [hA] at hk
     ·refine qI ?_;refine Or.inl ?_;refine zai (rfl) ?_;refine zei _ (zai (hk) ?_);refine qM ?_;rw [goodA_13 (by omega),hA];rfl
     ·refine qI ?_;refine Or.inl ?_;refine zai (rfl) ?_;refine zei _ (zai (hk) ?_);refine qM ?_;rw [goodA_13 (by omega),hA];rfl
     ·refine qI ?_;refine Or.inl ?_;refine zai (rfl) ?_;refine zei _ (zai (hk) ?_);refine qM ?_;rw [goodA_13 (by omega),hA];rfl
    ·try simp only [decide_eq_false_iff_not] at h12
     try simp only [zds] at h12
     omega
   ·try simp only [decide_eq_false_iff_not] at h12
    try simp only [zds] at h12
    refine qI ?_;refine qK rfl (fun h12=>?_) (fun h12=>?_)
    ·try simp only [decide_eq_true_eq] at h12
     try simp only [zds] at h12
     refine qJ ?_;have hk:=pcheck_c (κ:=κ) x.2.2 hf ; rcases chkA_cases x.2.2 with hA|⟨n,hA⟩|⟨a,n,hA⟩ <;> rw [hA] at hk
     ·refine qI ?_;refine Or.inl ?_;refine zai (rfl) ?_;refine zei _ (zai (hk) ?_);refine qM ?_;rw [goodA_13 (by omega),hA];rfl
     ·refine qI ?_;refine Or.inl ?_;refine zai (rfl) ?_;refine zei _ (zai (hk) ?_);refine qM ?_;rw [goodA_13 (by omega),hA];rfl
     ·refine qI ?_;refine Or.inl ?_;refine zai (rfl) ?_;refine zei _ (zai (hk) ?_);refine qM ?_;rw [goodA_13 (by omega),hA];rfl
    ·try simp only [decide_eq_false_iff_not] at h12
     try simp only [zds] at h12
     skip
     refine qL ?_;refine qB ?_;refine qM ?_;rw [goodA_no (by omega) (by omega)];rfl
theorem faultN_c (i n : Int) : qX Tryz.prog 102 [ii .i64 i,.one (errN n)] (.one (errF i n)):=by
  refine qV (rs:=[4]) Tryz.func102 rfl rfl rfl teOk rfl ?_;refine qB ?_;refine qB ?_;refine Or.inl ?_;refine zai (rfl) ?_;refine zei _ (zai (bareN_c n) ?_);refine qM ?_;rfl
theorem faultF_c (i a n : Int) : qX Tryz.prog 102 [ii .i64 i,.one (errF a n)] (.one (errF i n)):=by
  refine qV (rs:=[4]) Tryz.func102 rfl rfl rfl teOk rfl ?_;refine qB ?_;refine qB ?_;refine Or.inl ?_;refine zai (rfl) ?_;refine zei _ (zai (bareF_c a n) ?_);refine qM ?_;rfl
def erB (p : Int × Int) : C:=if p.2 = 0 then .lit .nilIface else if p.1 = -9 then errN p.2 else errF p.1 p.2
theorem erB_z : erB (-9,0) = .lit .nilIface:=rfl
theorem erB_n {n : Int} (h : n ≠ 0) : erB (-9,n) = errN n:=by unfold erB;rw [if_neg h,if_pos rfl]
theorem erB_f {i : Nat} {n : Int} (h : n ≠ 0) : erB ((i : Int),n) = errF i n:=by unfold erB;rw [if_neg h,if_neg (show ¬ (i : Int) = -9 by omega)]
theorem check_c9 {κ κ' : Nat} (s : List Edt) (hf : ∀ e ∈ s,yO e.2.2) (hl : s.length ≤ 1000000) : qX Tryz.prog 100 [.one (.slk κ (rEdk κ') s)] (.one (erB (chkB s))):=by
  refine qV (rs:=[2]) Tryz.func100 rfl rfl rfl teOk rfl ?_;refine qB ?_;refine qJ ?_;refine qB ?_;intro l1_1
  try simp only [zds] at l1_1
  refine zai (fun h=>trivial) ?_;refine zai (fun h=>⟨⟨h,trivial⟩,trivial⟩) ?_;refine zai (fun h=>⟨⟨h,trivial⟩,trivial⟩) ?_;refine zai (by first|(intro h;rw [h];rfl)|(intro h;cases h)) ?_;refine qK rfl (fun h13=>?_) (fun h13=>?_)
  ·try simp only [decide_eq_true_eq,Bool.or_eq_true] at h13
   try simp only [zds] at h13
   refine qB ?_;refine qM ?_;rw [chkB_rng (by omega),erB_n (by decide)];rfl
  ·try simp only [decide_eq_false_iff_not,Bool.or_eq_false_iff,Int.not_lt] at h13
   try simp only [zds] at h13
   refine qL ?_;refine qJ ?_;refine qB ?_;intro l3_1
   try simp only [zds] at l3_1
   refine qQ ?_;refine qW (fun (i : Nat)=>i ≤ s.length ∧ ∀ e ∈ s.take i,xZ e = 0) (fun (i : Nat)=>[(15,.one (.slk κ (rEdk κ') s)),(16,ii .i64 s.length),(17,ii .i64 i)]) (fun (i : Nat)=>[]) 0 (fun (i : Nat)=>s.length - i) 0 (⟨Nat.zero_le _,by simp⟩) (qP ⟨rfl,rfl,rfl⟩ trivial rfl) ?_;intro i hI0;obtain ⟨hi,hall⟩:=hI0;refine qB ?_;refine qJ ?_;refine qK rfl (fun h18=>?_) (fun h18=>?_)
   ·try simp only [decide_eq_true_eq] at h18
    try simp only [zds] at h18
    have hlt : i < s.length:=(by omega);have hm:=hf _ (yT hlt ((0 : Int),(0 : Int),([] : List Fld)));have hg:=good_c (κ:=κ') (s.getD i ((0 : Int),(0 : Int),([] : List Fld))) hm;refine qL ?_;refine qJ ?_;refine qQ ?_;refine qB ?_;refine zob ?_;refine qJ ?_;rcases goodA_cases (s.getD i ((0 : Int),(0 : Int),([] : List Fld))) with ⟨hz,hA⟩|⟨n,hn,hz,hA⟩|⟨a,n,hn,hz,hA⟩ <;> rw [hA] at hg
    ·refine qI ?_;refine Or.inl ?_;refine zai (rfl) ?_;refine zei _ (zai (hg) ?_);refine qB ?_;refine qK rfl (fun h25=>?_) (fun h25=>?_)
     ·try simp only [Bool.not_eq_true'] at h25
      try simp only [zds] at h25
      cases h25
     ·try simp only [Bool.not_eq_false'] at h25
      try simp only [zds] at h25
      refine qL ?_;refine qI ?_;refine zob ?_;exact ⟨i + 1,⟨by omega,take_good hlt hall hz⟩,by first|omega|(simp <;> omega),qP ⟨rfl,rfl,(qT (by omega))⟩ trivial rfl⟩
    ·refine qI ?_;refine Or.inl ?_;refine zai (rfl) ?_;refine zei _ (zai (hg) ?_);refine qB ?_;refine qK rfl (fun h25=>?_) (fun h25=>?_)
     ·skip
      refine qB ?_;refine Or.inl ?_;refine zai (rfl) ?_;refine zei _ (zai (faultN_c i n) ?_);refine qM ?_;rw [chkB_at (by omega) hlt hall (by rw [hz];exact hn),hz,erB_f hn];rfl
     ·try simp only [zbq] at h25
      try simp only [zds] at h25
      cases h25
    ·refine qI ?_;refine Or.inl ?_;refine zai (rfl) ?_;refine zei _ (zai (hg) ?_);refine qB ?_;refine qK rfl (fun h25=>?_) (fun h25=>?_)
     ·skip
      refine qB ?_;refine Or.inl ?_;refine zai (rfl) ?_;refine zei _ (zai (faultF_c i a n) ?_);refine qM ?_;rw [chkB_at (by omega) hlt hall (by rw [hz];exact hn),hz,erB_f hn];rfl
     ·try simp only [zbq] at h25
      try simp only [zds] at h25
      cases h25
   ·try simp only [decide_eq_false_iff_not,Int.not_lt] at h18
    try simp only [zds] at h18
    refine yA ?_;refine qB ?_;refine qM ?_;rw [List.take_of_length_le (by omega)] at hall;rw [chkB_no (by omega) hall,erB_z];rfl
theorem refGood9_c (x : Edt) (hf : yO x.2.2) : qX Tryz.prog 138 [.agg (toL rEdt x)] (ii .i64 (xZ x)):=by
  have hk:=refChk_c x.2.2 hf;refine qV (rs:=[2]) Tryz.func138 rfl rfl rfl teOk rfl ?_;refine qB ?_;refine qJ ?_;refine qB ?_;refine zai (fun h=>trivial) ?_;refine zai (fun h=>⟨⟨h,trivial⟩,trivial⟩) ?_;refine zai (fun h=>⟨⟨h,trivial⟩,trivial⟩) ?_;refine zai (by first|(intro h;rw [h];rfl)|(intro h;cases h)) ?_;refine zai (fun h=>trivial) ?_;refine zai (fun h=>⟨⟨h,trivial⟩,trivial⟩) ?_;refine zai (fun h=>⟨⟨h,trivial⟩,trivial⟩) ?_;refine zai (fun h=>⟨⟨h,trivial⟩,trivial⟩) ?_;refine zai (fun h=>trivial) ?_;refine zai (fun h=>⟨⟨h,trivial⟩,trivial⟩) ?_;refine zai (fun h=>⟨⟨h,trivial⟩,trivial⟩) ?_;refine zai (fun h=>⟨⟨h,trivial⟩,trivial⟩) ?_;refine zai (fun h=>⟨⟨⟨h,trivial⟩,trivial⟩,by first|exact fun h2=>h2|(intro h2;rw [h,h2];rfl)|(intro h2;cases h2)|(intro h2;simp_all [gq])⟩) ?_;refine zai (by first|(intro h;rw [h];rfl)|(intro h;cases h)) ?_;refine qK rfl (fun h23=>?_) (fun h23=>?_)
  ·try simp only [decide_eq_true_eq,Bool.and_eq_true,Bool.or_eq_true] at h23
   try simp only [zds] at h23
   refine qB ?_;refine qM ?_;exact qT (by unfold xZ;split <;> (try split) <;> omega)
  ·try simp only [decide_eq_false_iff_not,Bool.or_eq_false_iff,Bool.and_eq_false_iff,Int.not_lt] at h23
   try simp only [zds] at h23
   refine qL ?_;refine qJ ?_;refine qB ?_;refine qK rfl (fun h26=>?_) (fun h26=>?_)
   ·try simp only [decide_eq_true_eq] at h26
    try simp only [zds] at h26
    refine qB ?_;refine qM ?_;exact qT (by unfold xZ;rw [if_pos h26,if_neg (by omega)])
   ·try simp only [decide_eq_false_iff_not] at h26
    try simp only [zds] at h26
    refine qL ?_;refine qB ?_;refine Or.inl ?_;refine zai (rfl) ?_;refine zei _ (zai (hk) ?_);refine qB ?_;refine qM ?_;exact qT (by unfold xZ;rw [if_neg h26,if_pos (by omega)])
theorem refCheck9_c (s : List Edt) (hf : ∀ e ∈ s,yO e.2.2) (hl : s.length ≤ 1000000) : qX Tryz.prog 95 [.one (.sl rEdt s)] (.tup [(false,[.lit (.int .i64 (chkB s).1)]),(false,[.lit (.int .i64 (chkB s).2)])]):=by
  refine qV (rs:=[2,3]) Tryz.func95 rfl rfl rfl teOk rfl ?_;refine qB ?_;refine qJ ?_;refine qB ?_;intro l1_1
  try simp only [zds] at l1_1
  refine zai (fun h=>trivial) ?_;refine zai (fun h=>⟨⟨h,trivial⟩,trivial⟩) ?_;refine zai (fun h=>⟨⟨h,trivial⟩,trivial⟩) ?_;refine zai (by first|(intro h;rw [h];rfl)|(intro h;cases h)) ?_;refine qK rfl (fun h13=>?_) (fun h13=>?_)
  ·try simp only [decide_eq_true_eq,Bool.or_eq_true] at h13
   try simp only [zds] at h13
   refine qB ?_;refine qM ?_;rw [chkB_rng (by omega)];rfl
  ·try simp only [decide_eq_false_iff_not,Bool.or_eq_false_iff,Int.not_lt] at h13
   try simp only [zds] at h13
   refine qL ?_;refine qJ ?_;refine qB ?_;refine qQ ?_;refine qW (fun (i : Nat)=>i ≤ s.length ∧ ∀ e ∈ s.take i,xZ e = 0) (fun (i : Nat)=>[(0,.one (.sl rEdt s)),(4,ii .i64 i)]) (fun (i : Nat)=>[]) 0 (fun (i : Nat)=>s.length - i) 0 (⟨Nat.zero_le _,by simp⟩) (qP ⟨rfl,rfl⟩ trivial rfl) ?_;intro i hI0;obtain ⟨hi,hall⟩:=hI0;refine qJ ?_;refine qB ?_;intro l4_2
   try simp only [zds] at l4_2
   refine qK rfl (fun h17=>?_) (fun h17=>?_)
   ·try simp only [decide_eq_true_eq] at h17
    try simp only [zds] at h17
    have hlt : i < s.length:=(by omega);have hm:=hf _ (yT hlt ((0 : Int),(0 : Int),([] : List Fld)));refine qL ?_;refine qJ ?_;refine qQ ?_;refine qB ?_;refine zob ?_;refine Or.inl ?_;refine zai (rfl) ?_;refine zei _ (zai (refGood9_c (s.getD i ((0 : Int),(0 : Int),([] : List Fld))) hm) ?_);refine qB ?_;refine qK rfl (fun h26=>?_) (fun h26=>?_)
    ·try simp only [decide_eq_false_iff_not,Bool.not_eq_true'] at h26
     try simp only [zds] at h26
     refine qB ?_;refine qM ?_;rw [chkB_at (by omega) hlt hall (by omega)];rfl
    ·try simp only [decide_eq_true_eq,Bool.not_eq_false'] at h26
     try simp only [zds] at h26
     refine qL ?_;refine qI ?_;refine zob ?_;exact ⟨i + 1,⟨by omega,take_good hlt hall (by omega)⟩,by first|omega|(simp <;> omega),qP ⟨rfl,(qT (by omega))⟩ trivial rfl⟩
   ·try simp only [decide_eq_false_iff_not,Int.not_lt] at h17
    try simp only [zds] at h17
    refine yA ?_;refine qB ?_;refine qM ?_;rw [List.take_of_length_le (by omega)] at hall;rw [chkB_no (by omega) hall];rfl
theorem edits_c {κ κ' : Nat} (a b : List Edt) : qX Tryz.prog 12 [.one (.slk κ (rEdk κ') a),.one (.sl rEdt b)] (ib (decide (a = b))):=by
  refine qV (rs:=[4]) Tryz.func12 rfl rfl rfl teOk rfl ?_;refine qB ?_;refine qJ ?_;refine qB ?_;intro l1_1
  try simp only [zds] at l1_1
  intro l1_3
  try simp only [zds] at l1_3
  refine qK rfl (fun h10=>?_) (fun h10=>?_)
  ·try simp only [decide_eq_false_iff_not,Bool.not_eq_true'] at h10
   try simp only [zds] at h10
   refine qB ?_;refine qM ?_;exact ib_eq (decide_eq_false (fun e=>by rw [e] at h10;omega)).symm
  ·try simp only [decide_eq_true_eq,Bool.not_eq_false'] at h10
   try simp only [zds] at h10
   refine qL ?_;refine qJ ?_;refine qB ?_;intro l3_1
   try simp only [zds] at l3_1
   refine qQ ?_;refine qW (fun (i : Nat)=>i ≤ a.length ∧ a.take i = b.take i) (fun (i : Nat)=>[(0,.one (.slk κ (rEdk κ') a)),(1,.one (.sl rEdt b)),(12,ii .i64 a.length),(13,ii .i64 i)]) (fun (i : Nat)=>[]) 0 (fun (i : Nat)=>a.length - i) 0 (⟨Nat.zero_le _,by simp⟩) (qP ⟨rfl,rfl,rfl,rfl⟩ trivial rfl) ?_;intro i hI0;obtain ⟨hi,ht⟩:=hI0;refine qB ?_;refine qJ ?_;refine qK rfl (fun h14=>?_) (fun h14=>?_)
   ·try simp only [decide_eq_true_eq] at h14
    try simp only [zds] at h14
    have hla : i < a.length:=(by omega);have hlb : i < b.length:=(by omega);refine qL ?_;refine qJ ?_;refine qQ ?_;refine qB ?_;refine qJ ?_;refine acode_draw rfl (by kernel_rfl) ?_;refine zob ?_;refine zob ?_;refine zai (fun h=>trivial) ?_;refine zai (fun h=>trivial) ?_;refine zai (fun h=>⟨⟨⟨h,trivial⟩,⟨h,trivial⟩,trivial⟩,by first|omega|decide|(simp only [zds];omega)|(have h9:=of_decide_eq_true h;omega)|(simp [gq] at h;omega)⟩) ?_;refine zai (fun h=>⟨⟨h,trivial⟩,trivial⟩) ?_;refine zai (fun h=>⟨⟨h,trivial⟩,trivial⟩) ?_;refine zai (fun h=>trivial) ?_;refine zai (fun h=>trivial) ?_;refine zai (fun h=>⟨⟨⟨h,trivial⟩,⟨h,trivial⟩,trivial⟩,by first|omega|decide|(simp only [zds];omega)|(have h9:=of_decide_eq_true h;omega)|(simp [gq] at h;omega)⟩) ?_;refine zai (fun h=>⟨⟨h,trivial⟩,trivial⟩) ?_;refine zai (fun h=>⟨⟨h,trivial⟩,trivial⟩) ?_;refine zai (fun h=>⟨⟨h,trivial⟩,⟨h,trivial⟩,trivial⟩) ?_;refine zai (by first|(intro h;rw [h];rfl)|(intro h;cases h)) ?_;refine zai (fun h=>trivial) ?_;refine zai (fun h=>trivial) ?_;refine zai (fun h=>⟨⟨⟨h,trivial⟩,⟨h,trivial⟩,trivial⟩,by first|omega|decide|(simp only [zds];omega)|(have h9:=of_decide_eq_true h;omega)|(simp [gq] at h;omega)⟩) ?_;refine zai (fun h=>⟨⟨h,trivial⟩,trivial⟩) ?_;refine zai (fun h=>⟨⟨h,trivial⟩,trivial⟩) ?_;refine zai (fun h=>trivial) ?_;refine zai (fun h=>trivial) ?_;refine zai (fun h=>⟨⟨⟨h,trivial⟩,⟨h,trivial⟩,trivial⟩,by first|omega|decide|(simp only [zds];omega)|(have h9:=of_decide_eq_true h;omega)|(simp [gq] at h;omega)⟩) ?_;refine zai (fun h=>⟨⟨h,trivial⟩,trivial⟩) ?_;refine zai (fun h=>⟨⟨h,trivial⟩,trivial⟩) ?_;refine zai (rfl) ?_;refine zei _ (zai (fun h=>⟨⟨⟨h,trivial⟩,⟨h,trivial⟩,trivial⟩,fieldsk_c (κ:=κ') (a.getD i ((0 : Int),(0 : Int),([] : List Fld))).2.2 (b.getD i ((0 : Int),(0 : Int),([] : List Fld))).2.2⟩) ?_);refine zai (fun h=>⟨⟨h,trivial⟩,trivial⟩) ?_;refine zai (by first|(intro h;rw [h];rfl)|(intro h;cases h)) ?_;refine qK rfl (fun h53=>?_) (fun h53=>?_)
    ·try simp only [decide_eq_false_iff_not,Bool.not_eq_true',Bool.or_eq_true] at h53
     try simp only [Int.toNat_natCast,qH,qG,qD] at h53
     refine qB ?_;refine qM ?_;exact ib_eq (decide_eq_false (ne_at (i:=i) ((0 : Int),(0 : Int),([] : List Fld)) (fun e=>by rcases h53 with (h|h)|h;exact h (congrArg Prod.fst e);exact h (congrArg (fun p=>p.2.1) e);exact h (congrArg (fun p=>p.2.2) e)))).symm
    ·try simp only [decide_eq_true_eq,Bool.not_eq_false',Bool.or_eq_false_iff] at h53
     try simp only [Int.toNat_natCast,qH,qG,qD] at h53
     refine qL ?_;refine qI ?_;refine zob ?_;exact ⟨i + 1,⟨by omega,list_ext_take ((0 : Int),(0 : Int),([] : List Fld)) hla hlb ht (Prod.ext h53.1.1 (Prod.ext h53.1.2 h53.2))⟩,by first|omega|(simp <;> omega),qP ⟨rfl,rfl,rfl,(qT (by omega))⟩ trivial rfl⟩
   ·try simp only [decide_eq_false_iff_not,Int.not_lt] at h14
    try simp only [zds] at h14
    refine yA ?_;refine qB ?_;refine qM ?_;exact ib_eq (decide_eq_true (by rw [List.take_of_length_le (by omega),List.take_of_length_le (by omega)] at ht;exact ht)).symm
theorem oneRep_z {κ : Nat} (L L' : Lst) (id : Int) (f : List Fld) (h : yE Tryz.prog 42 [.one (.own 0 0),ii .i64 id,.one (.slk κ rFld f)] (lsO L) 2 (.one (.lit .nilIface)) (lsO L') 2) : yE Tryz.prog 101 [.one (.own 0 0),.agg (toL (rEdk κ) ((1 : Int),id,f))] (lsO L) 2 (.tup [(false,[.lit (.int .i64 0)]),(false,[.lit .nilIface])]) (lsO L') 2:=by
  refine yC (rs:=[4,5]) Tryz.func101 rfl rfl rfl teOk (by decide) rfl ?_;refine qB ?_;refine qJ ?_;refine qB ?_;refine qQ ?_;refine qB ?_;refine qK rfl (fun h8=>?_) (fun h8=>?_)
  ·try simp only [decide_eq_true_eq] at h8
   try simp only [zds] at h8
   refine qB ?_;refine Or.inr (Or.inl (zei [] (zei [0,1] (zei _ (zei _ (zei _ (zei _ (zei _ (zai (h) (zai rfl (zai (zai (zai rfl rfl) (zai (zai rfl rfl) True.intro)) (zai rfl ?_))))))))))));refine qM ?_;exact ⟨rfl,⟨rfl,rfl⟩,rfl⟩
  ·try simp only [decide_eq_false_iff_not] at h8
   try simp only [zds] at h8
   simp at h8
theorem oneDel_z {κ : Nat} (L L' : Lst) (id : Int) (f : List Fld) (h : yE Tryz.prog 43 [.one (.own 0 0),ii .i64 id] (lsO L) 2 (.one (.lit .nilIface)) (lsO L') 2) : yE Tryz.prog 101 [.one (.own 0 0),.agg (toL (rEdk κ) ((2 : Int),id,f))] (lsO L) 2 (.tup [(false,[.lit (.int .i64 0)]),(false,[.lit .nilIface])]) (lsO L') 2:=by
  refine yC (rs:=[4,5]) Tryz.func101 rfl rfl rfl teOk (by decide) rfl ?_;refine qB ?_;refine qJ ?_;refine qB ?_;refine qQ ?_;refine qB ?_;refine qK rfl (fun h8=>?_) (fun h8=>?_)
  ·try simp only [decide_eq_true_eq] at h8
   try simp only [zds] at h8
   simp at h8
  ·try simp only [decide_eq_false_iff_not] at h8
   try simp only [zds] at h8
   refine qB ?_;refine qK rfl (fun h16=>?_) (fun h16=>?_)
   ·try simp only [decide_eq_true_eq] at h16
    try simp only [zds] at h16
    refine qB ?_;refine Or.inr (Or.inl (zei [] (zei [0,1] (zei _ (zei _ (zei _ (zei _ (zei _ (zai (h) (zai rfl (zai (zai (zai rfl rfl) (zai (zai rfl rfl) True.intro)) (zai rfl ?_))))))))))));refine qM ?_;exact ⟨rfl,⟨rfl,rfl⟩,rfl⟩
   ·try simp only [decide_eq_false_iff_not] at h16
    try simp only [zds] at h16
    simp at h16
theorem oneIns_z {κ : Nat} (L L' : Lst) (k id m : Int) (f : List Fld) (h1 : k ≠ 1) (h2 : k ≠ 2) (h : yE Tryz.prog 44 [.one (.own 0 0),ii .i64 id,.one (.slk κ rFld f)] (lsO L) 2 (.tup [(false,[.lit (.int .i64 m)]),(false,[.lit .nilIface])]) (lsO L') 2) : yE Tryz.prog 101 [.one (.own 0 0),.agg (toL (rEdk κ) (k,id,f))] (lsO L) 2 (.tup [(false,[.lit (.int .i64 m)]),(false,[.lit .nilIface])]) (lsO L') 2:=by
  refine yC (rs:=[4,5]) Tryz.func101 rfl rfl rfl teOk (by decide) rfl ?_;refine qB ?_;refine qJ ?_;refine qB ?_;refine qQ ?_;refine qB ?_;refine qK rfl (fun h8=>?_) (fun h8=>?_)
  ·try simp only [decide_eq_true_eq] at h8
   try simp only [zds] at h8
   exact absurd h8 h1
  ·try simp only [decide_eq_false_iff_not] at h8
   try simp only [zds] at h8
   refine qB ?_;refine qK rfl (fun h16=>?_) (fun h16=>?_)
   ·try simp only [decide_eq_true_eq] at h16
    try simp only [zds] at h16
    exact absurd h16 h2
   ·try simp only [decide_eq_false_iff_not] at h16
    try simp only [zds] at h16
    refine qL ?_;refine qB ?_;refine Or.inr (Or.inl (zei [] (zei [0,1] (zei _ (zei _ (zei _ (zei _ (zei _ (zai (h) (zai rfl (zai (zai (zai rfl rfl) (zai (zai rfl rfl) True.intro)) (zai rfl ?_))))))))))));refine qM ?_;exact ⟨rfl,⟨rfl,rfl⟩,rfl⟩
theorem oneRep_n {κ : Nat} (L L' : Lst) (k9 : Int) (id : Int) (f : List Fld) (h : yE Tryz.prog 42 [.one (.own 0 0),ii .i64 id,.one (.slk κ rFld f)] (lsO L) 2 (.one (errN k9)) (lsO L') 2) : yE Tryz.prog 101 [.one (.own 0 0),.agg (toL (rEdk κ) ((1 : Int),id,f))] (lsO L) 2 (.tup [(false,[.lit (.int .i64 0)]),(false,[errN k9])]) (lsO L') 2:=by
  refine yC (rs:=[4,5]) Tryz.func101 rfl rfl rfl teOk (by decide) rfl ?_;refine qB ?_;refine qJ ?_;refine qB ?_;refine qQ ?_;refine qB ?_;refine qK rfl (fun h8=>?_) (fun h8=>?_)
  ·try simp only [decide_eq_true_eq] at h8
   try simp only [zds] at h8
   refine qB ?_;refine Or.inr (Or.inl (zei [] (zei [0,1] (zei _ (zei _ (zei _ (zei _ (zei _ (zai (h) (zai rfl (zai (zai (zai rfl rfl) (zai (zai rfl rfl) True.intro)) (zai rfl ?_))))))))))));refine qM ?_;exact ⟨rfl,⟨rfl,rfl⟩,rfl⟩
  ·try simp only [decide_eq_false_iff_not] at h8
   try simp only [zds] at h8
   simp at h8
theorem oneDel_n {κ : Nat} (L L' : Lst) (k9 : Int) (id : Int) (f : List Fld) (h : yE Tryz.prog 43 [.one (.own 0 0),ii .i64 id] (lsO L) 2 (.one (errN k9)) (lsO L') 2) : yE Tryz.prog 101 [.one (.own 0 0),.agg (toL (rEdk κ) ((2 : Int),id,f))] (lsO L) 2 (.tup [(false,[.lit (.int .i64 0)]),(false,[errN k9])]) (lsO L') 2:=by
  refine yC (rs:=[4,5]) Tryz.func101 rfl rfl rfl teOk (by decide) rfl ?_;refine qB ?_;refine qJ ?_;refine qB ?_;refine qQ ?_;refine qB ?_;refine qK rfl (fun h8=>?_) (fun h8=>?_)
  ·try simp only [decide_eq_true_eq] at h8
   try simp only [zds] at h8
   simp at h8
  ·try simp only [decide_eq_false_iff_not] at h8
   try simp only [zds] at h8
   refine qB ?_;refine qK rfl (fun h16=>?_) (fun h16=>?_)
   ·try simp only [decide_eq_true_eq] at h16
    try simp only [zds] at h16
    refine qB ?_;refine Or.inr (Or.inl (zei [] (zei [0,1] (zei _ (zei _ (zei _ (zei _ (zei _ (zai (h) (zai rfl (zai (zai (zai rfl rfl) (zai (zai rfl rfl) True.intro)) (zai rfl ?_))))))))))));refine qM ?_;exact ⟨rfl,⟨rfl,rfl⟩,rfl⟩
   ·try simp only [decide_eq_false_iff_not] at h16
    try simp only [zds] at h16
    simp at h16
theorem oneIns_n {κ : Nat} (L L' : Lst) (k9 : Int) (k id m : Int) (f : List Fld) (h1 : k ≠ 1) (h2 : k ≠ 2) (h : yE Tryz.prog 44 [.one (.own 0 0),ii .i64 id,.one (.slk κ rFld f)] (lsO L) 2 (.tup [(false,[.lit (.int .i64 m)]),(false,[errN k9])]) (lsO L') 2) : yE Tryz.prog 101 [.one (.own 0 0),.agg (toL (rEdk κ) (k,id,f))] (lsO L) 2 (.tup [(false,[.lit (.int .i64 m)]),(false,[errN k9])]) (lsO L') 2:=by
  refine yC (rs:=[4,5]) Tryz.func101 rfl rfl rfl teOk (by decide) rfl ?_;refine qB ?_;refine qJ ?_;refine qB ?_;refine qQ ?_;refine qB ?_;refine qK rfl (fun h8=>?_) (fun h8=>?_)
  ·try simp only [decide_eq_true_eq] at h8
   try simp only [zds] at h8
   exact absurd h8 h1
  ·try simp only [decide_eq_false_iff_not] at h8
   try simp only [zds] at h8
   refine qB ?_;refine qK rfl (fun h16=>?_) (fun h16=>?_)
   ·try simp only [decide_eq_true_eq] at h16
    try simp only [zds] at h16
    exact absurd h16 h2
   ·try simp only [decide_eq_false_iff_not] at h16
    try simp only [zds] at h16
    refine qL ?_;refine qB ?_;refine Or.inr (Or.inl (zei [] (zei [0,1] (zei _ (zei _ (zei _ (zei _ (zei _ (zai (h) (zai rfl (zai (zai (zai rfl rfl) (zai (zai rfl rfl) True.intro)) (zai rfl ?_))))))))))));refine qM ?_;exact ⟨rfl,⟨rfl,rfl⟩,rfl⟩
theorem oneRep_f {κ : Nat} (L L' : Lst) (a9 k9 : Int) (id : Int) (f : List Fld) (h : yE Tryz.prog 42 [.one (.own 0 0),ii .i64 id,.one (.slk κ rFld f)] (lsO L) 2 (.one (errF a9 k9)) (lsO L') 2) : yE Tryz.prog 101 [.one (.own 0 0),.agg (toL (rEdk κ) ((1 : Int),id,f))] (lsO L) 2 (.tup [(false,[.lit (.int .i64 0)]),(false,[errF a9 k9])]) (lsO L') 2:=by
  refine yC (rs:=[4,5]) Tryz.func101 rfl rfl rfl teOk (by decide) rfl ?_;refine qB ?_;refine qJ ?_;refine qB ?_;refine qQ ?_;refine qB ?_;refine qK rfl (fun h8=>?_) (fun h8=>?_)
  ·try simp only [decide_eq_true_eq] at h8
   try simp only [zds] at h8
   refine qB ?_;refine Or.inr (Or.inl (zei [] (zei [0,1] (zei _ (zei _ (zei _ (zei _ (zei _ (zai (h) (zai rfl (zai (zai (zai rfl rfl) (zai (zai rfl rfl) True.intro)) (zai rfl ?_))))))))))));refine qM ?_;exact ⟨rfl,⟨rfl,rfl⟩,rfl⟩
  ·try simp only [decide_eq_false_iff_not] at h8
   try simp only [zds] at h8
   simp at h8
theorem oneIns_f {κ : Nat} (L L' : Lst) (a9 k9 : Int) (k id m : Int) (f : List Fld) (h1 : k ≠ 1) (h2 : k ≠ 2) (h : yE Tryz.prog 44 [.one (.own 0 0),ii .i64 id,.one (.slk κ rFld f)] (lsO L) 2 (.tup [(false,[.lit (.int .i64 m)]),(false,[errF a9 k9])]) (lsO L') 2) : yE Tryz.prog 101 [.one (.own 0 0),.agg (toL (rEdk κ) (k,id,f))] (lsO L) 2 (.tup [(false,[.lit (.int .i64 m)]),(false,[errF a9 k9])]) (lsO L') 2:=by
  refine yC (rs:=[4,5]) Tryz.func101 rfl rfl rfl teOk (by decide) rfl ?_;refine qB ?_;refine qJ ?_;refine qB ?_;refine qQ ?_;refine qB ?_;refine qK rfl (fun h8=>?_) (fun h8=>?_)
  ·try simp only [decide_eq_true_eq] at h8
   try simp only [zds] at h8
   exact absurd h8 h1
  ·try simp only [decide_eq_false_iff_not] at h8
   try simp only [zds] at h8
   refine qB ?_;refine qK rfl (fun h16=>?_) (fun h16=>?_)
   ·try simp only [decide_eq_true_eq] at h16
    try simp only [zds] at h16
    exact absurd h16 h2
   ·try simp only [decide_eq_false_iff_not] at h16
    try simp only [zds] at h16
    refine qL ?_;refine qB ?_;refine Or.inr (Or.inl (zei [] (zei [0,1] (zei _ (zei _ (zei _ (zei _ (zei _ (zai (h) (zai rfl (zai (zai (zai rfl rfl) (zai (zai rfl rfl) True.intro)) (zai rfl ?_))))))))))));refine qM ?_;exact ⟨rfl,⟨rfl,rfl⟩,rfl⟩
theorem one_cases {κ c : Nat} {L : Lst} (h : LOk c L) (hc : c ≤ 200000) (e : Edt) (hf : yO e.2.2) :
    (oneN L e = 0 ∧ yE Tryz.prog 101 [.one (.own 0 0),.agg (toL (rEdk κ) e)] (lsO L) 2 (.tup [(false,[.lit (.int .i64 (newN L e))]),(false,[.lit .nilIface])]) (lsO (doL L e)) 2) ∨
    (∃ k9,k9 ≠ 0 ∧ oneN L e = k9 ∧ yE Tryz.prog 101 [.one (.own 0 0),.agg (toL (rEdk κ) e)] (lsO L) 2 (.tup [(false,[.lit (.int .i64 0)]),(false,[errN k9])]) (lsO L) 2) ∨
    (∃ a9 k9,k9 ≠ 0 ∧ oneN L e = k9 ∧ yE Tryz.prog 101 [.one (.own 0 0),.agg (toL (rEdk κ) e)] (lsO L) 2 (.tup [(false,[.lit (.int .i64 0)]),(false,[errF a9 k9])]) (lsO L) 2):=by
  obtain ⟨es,n,m⟩:=L;obtain ⟨k,id,f⟩:=e;have hmany:=h.many;have hnx:=h.next;have hln:=h.len;have hids:=ids_len es;have hil:=List.length_filter_le live es;simp only at hmany hnx hln hf;unfold newN oneN doL;simp only
  by_cases h1 : k = 1
  · subst h1;simp only [if_pos,true_or]
    by_cases h0 : atE es id < 0
    · simp only [if_pos h0];exact .inr (.inl ⟨7,by decide,rfl,oneRep_n _ _ 7 id f (lRep_no es n m id f h0)⟩)
    · simp only [if_neg h0]
      by_cases hck : (chkR f).2 ≠ 0
      · have hb:=lRep_bad (κ:=κ) es n m id f (by omega) hf hck;rcases chk_shape hck with ⟨k9,g1,g2,g3,g4⟩|⟨a9,k9,g1,g2,g3,g4⟩
        · rw [g1] at hb;exact .inr (.inl ⟨k9,g2,g4.symm,oneRep_n _ _ k9 id f hb⟩)
        · rw [g1] at hb;exact .inr (.inr ⟨a9,k9,g2,g4.symm,oneRep_f _ _ a9 k9 id f hb⟩)
      · have hck' : (chkR f).2 = 0:=Classical.not_not.1 hck;simp only [if_neg hck];obtain ⟨i,hi,he,_,_⟩:=at_lt h0;rw [he,Int.toNat_natCast];exact .inl ⟨hck',oneRep_z _ _ id f (lRep_ok es n m id f i hi he hf hck')⟩
  · by_cases h2 : k = 2
    · subst h2;simp only [if_neg (show ¬ (2 : Int) = 1 by decide),if_pos,or_true]
      by_cases h0 : atE es id < 0
      · simp only [if_pos h0];exact .inr (.inl ⟨7,by decide,rfl,oneDel_n _ _ 7 id f (lDel_no es n m id h0)⟩)
      · simp only [if_neg h0];obtain ⟨i,hi,he,_,_⟩:=at_lt h0;rw [he,Int.toNat_natCast];exact .inl ⟨trivial,oneDel_z _ _ id f (lDel_ok es n m id i hi he (by omega) (by omega))⟩
    · simp only [if_neg h1,if_neg h2,if_neg (show ¬ (k = 1 ∨ k = 2) from fun h=>h.elim h1 h2)]
      by_cases h0 : atE es id < 0 ∧ id ≠ 0
      · simp only [if_pos h0];exact .inr (.inl ⟨7,by decide,rfl,oneIns_n _ _ 7 k id 0 f h1 h2 (lIns_no es n m id f h0.1 h0.2)⟩)
      · simp only [if_neg h0]
        by_cases hck : (chkR f).2 ≠ 0
        · have hb:=lIns_bad (κ:=κ) es n m id f h0 hf hck;simp only [if_pos hck];rcases chk_shape hck with ⟨k9,g1,g2,g3,g4⟩|⟨a9,k9,g1,g2,g3,g4⟩
          · rw [g1] at hb;exact .inr (.inl ⟨k9,g2,g4.symm,oneIns_n _ _ k9 k id 0 f h1 h2 hb⟩)
          · rw [g1] at hb;exact .inr (.inr ⟨a9,k9,g2,g4.symm,oneIns_f _ _ a9 k9 k id 0 f h1 h2 hb⟩)
        · have hck' : (chkR f).2 = 0:=Classical.not_not.1 hck;simp only [if_neg hck]
          by_cases h4 : 400 ≤ m
          · simp only [if_pos h4];exact .inr (.inl ⟨11,by decide,rfl,oneIns_n _ _ 11 k id 0 f h1 h2 (lIns_full es n m id f h0 hf hck' h4)⟩)
          · simp only [if_neg h4];obtain ⟨j,hj,hje⟩ : ∃ j : Nat,j ≤ es.length ∧ atE es id + 1 = (j : Int):=by
              rcases at_cases es id with ⟨h1,_⟩|⟨i,h1,h2,_⟩
              · exact ⟨0,Nat.zero_le _,by omega⟩
              · exact ⟨i + 1,by omega,by omega⟩
            rw [hje,Int.toNat_natCast];exact .inl ⟨trivial,oneIns_z _ _ k id n f h1 h2 (lIns_ok es n m id f j hj h0 hje hf hck' (by omega) (by omega) (by omega))⟩
theorem doN_c {κ κ' k : Nat} (L : Lst) (s : List Edt) (hf : ∀ e ∈ s,yO e.2.2) (hl : s.length ≤ 1000000) (n : Int) (hn : n ≠ 0) (h : chkB s = (-9,n)) : qX Tryz.prog 57 [.one (.adk k (rLst k) L),.one (.slk κ (rEdk κ') s)] (.tup [(false,[.lit (.pointer none)]),(false,[.lit (.slice none 0 0)]),(false,[errN n])]):=by
  have hk:=check_c9 (κ:=κ) (κ':=κ') s hf hl;rw [h,erB_n hn] at hk;refine qV (rs:=[4,5,6]) Tryz.func57 rfl rfl rfl teOk rfl ?_;refine qB ?_;refine qJ ?_;refine qB ?_;refine Or.inl ?_;refine zai (rfl) ?_;refine zei _ (zai (hk) ?_);refine qB ?_;refine qK rfl (fun h17=>?_) (fun h17=>?_)
  ·skip
   refine qB ?_;refine qM ?_;rfl
  ·try simp only [zbq] at h17
   try simp only [zds] at h17
   simp at h17
theorem doF_c {κ κ' k : Nat} (L : Lst) (s : List Edt) (hf : ∀ e ∈ s,yO e.2.2) (hl : s.length ≤ 1000000) (i : Nat) (n : Int) (hn : n ≠ 0) (h : chkB s = ((i : Int),n)) : qX Tryz.prog 57 [.one (.adk k (rLst k) L),.one (.slk κ (rEdk κ') s)] (.tup [(false,[.lit (.pointer none)]),(false,[.lit (.slice none 0 0)]),(false,[errF i n])]):=by
  have hk:=check_c9 (κ:=κ) (κ':=κ') s hf hl;rw [h,erB_f hn] at hk;refine qV (rs:=[4,5,6]) Tryz.func57 rfl rfl rfl teOk rfl ?_;refine qB ?_;refine qJ ?_;refine qB ?_;refine Or.inl ?_;refine zai (rfl) ?_;refine zei _ (zai (hk) ?_);refine qB ?_;refine qK rfl (fun h17=>?_) (fun h17=>?_)
  ·skip
   refine qB ?_;refine qM ?_;rfl
  ·try simp only [zbq] at h17
   try simp only [zds] at h17
   simp at h17
theorem lsbox0_eq {L M : Lst} (h : M = L) : some (Ob.box 134 [.vec 0,.lit (.int .i64 L.2.1),.lit (.int .i64 L.2.2)]) = some (Ob.box 134 [.vec 0,.lit (.int .i64 M.2.1),.lit (.int .i64 M.2.2)]):=by rw [h]
theorem took {c : Nat} {L : Lst} {s : List Edt} (h : LOk c L) (hf : ∀ e ∈ s,yO e.2.2) {i : Nat} (hi : i < s.length) : LOk (c + i) (yB L s i) ∧ yO (s.getD i ((0 : Int),(0 : Int),([] : List Fld))).2.2:=⟨plays_ok h hf i (by omega),hf _ (yT hi ((0 : Int),(0 : Int),([] : List Fld)))⟩
theorem doBad_c {κ κ' k c : Nat} (L : Lst) (s : List Edt) (hL : LOk c L) (hc : c + s.length ≤ 200000) (hf : ∀ e ∈ s,yO e.2.2) (h : (chkB s).2 = 0) (q : Nat) (hq : q < s.length) (hb : oneN (yB L s q) (s.getD q ((0 : Int),(0 : Int),([] : List Fld))) ≠ 0) (ht : ∀ j,j < q → oneN (yB L s j) (s.getD j ((0 : Int),(0 : Int),([] : List Fld))) = 0) :
    qX Tryz.prog 57 [.one (.adk k (rLst k) L),.one (.slk κ (rEdk κ') s)] (.tup [(false,[.lit (.pointer none)]),(false,[.lit (.slice none 0 0)]),(false,[errF q (oneN (yB L s q) (s.getD q ((0 : Int),(0 : Int),([] : List Fld))))])]):=by
  obtain ⟨hln,hgd⟩:=chkB_zero h;have hk:=check_c9 (κ:=κ) (κ':=κ') s hf (by omega);rw [chkB_good h,erB_z] at hk;have hlen:=hL.len;have hcp:=copyL_o (k:=k) L.1 L.2.1 L.2.2 (by omega);refine qV (rs:=[4,5,6]) Tryz.func57 rfl rfl rfl teOk rfl ?_;refine qB ?_;refine qJ ?_;refine qB ?_;refine Or.inl ?_;refine zai (rfl) ?_;refine zei _ (zai (hk) ?_);refine qB ?_;refine qK rfl (fun h17=>?_) (fun h17=>?_)
  ·try simp only [Bool.not_eq_true'] at h17
   try simp only [zds] at h17
   cases h17
  ·try simp only [Bool.not_eq_false'] at h17
   try simp only [zds] at h17
   refine qL ?_;refine qB ?_;refine Or.inr (Or.inl (zei [] (zei [] (zei _ (zei _ (zei _ (zei _ (zei _ (zai (hcp) (zai rfl (zai True.intro (zai rfl ?_))))))))))));refine qB ?_;refine qJ ?_;refine qJ ?_;refine yW 9 3 (.int .i64) rfl ?_;refine qI ?_;intro l6_1
   try simp only [zds] at l6_1
   refine qQ ?_;refine qW (fun (i : Nat)=>i ≤ q) (fun (i : Nat)=>[(8,.one (.own 1 0)),(9,.one (.vec 2)),(21,.one (.slk κ (rEdk κ') s)),(22,ii .i64 s.length),(23,ii .i64 i)]) (fun (i : Nat)=>[(0,.vec 138 rEnt (yB L s i).1),(1,.box 134 [.vec 0,.lit (.int .i64 (yB L s i).2.1),.lit (.int .i64 (yB L s i).2.2)]),(2,.vec 3 (.int .i64) (idsT L s i))]) 3 (fun (i : Nat)=>q - i) 0 (Nat.zero_le _) (qP ⟨rfl,rfl,rfl,rfl,rfl⟩ ⟨rfl,rfl,rfl⟩ rfl) ?_;intro i hI0;refine qB ?_;refine qJ ?_;refine qK rfl (fun h24=>?_) (fun h24=>?_)
   ·try simp only [decide_eq_true_eq] at h24
    try simp only [zds] at h24
    have hil : i < s.length:=(by omega);obtain ⟨hLi,hfe⟩:=took hL hf hil;have hsn:=plays_snoc L hil;have hin:=idsT_snoc L s i;have hilen:=idsT_len L s i;refine qL ?_;refine qJ ?_;refine qQ ?_;refine qB ?_;refine zob ?_;refine qJ ?_;rcases one_cases (κ:=κ') hLi (by omega) (s.getD i ((0 : Int),(0 : Int),([] : List Fld))) hfe with ⟨hz,ho⟩|⟨n,hn,hz,ho⟩|⟨a,n,hn,hz,ho⟩
    ·refine qI ?_;refine Or.inr (Or.inl (zei [] (zei [1,0] (zei _ (zei _ (zei _ (zei _ (zei _ (zai (ho) (zai rfl (zai (zai (zai rfl rfl) (zai (zai rfl rfl) True.intro)) (zai rfl ?_))))))))))));refine qJ ?_;refine qB ?_;refine qK rfl (fun h35=>?_) (fun h35=>?_)
     ·try simp only [Bool.not_eq_true'] at h35
      try simp only [zds] at h35
      cases h35
     ·try simp only [Bool.not_eq_false'] at h35
      try simp only [zds] at h35
      have hlt : i < q:=(by rcases Nat.lt_or_ge i q with h1|h1;exact h1;have e1 : i = q:=(by omega);rw [e1] at hz;exact absurd hz hb);refine qL ?_;refine qB ?_;refine qK rfl (fun h40=>?_) (fun h40=>?_)
      ·try simp only [decide_eq_true_eq] at h40
       try simp only [zds] at h40
       refine qI ?_;refine zai (by first|exact qO (by first|omega|(simp only [List.length_cons,List.length_nil];omega)|(simp;omega)) (by decide)|omega|assumption|decide|(simp only [zds];omega)|(simp <;> omega)) ?_;refine qI ?_;refine zob ?_;exact ⟨i + 1,by omega,by first|omega|(simp <;> omega),qP ⟨rfl,rfl,rfl,rfl,(qT (by omega))⟩ ⟨(lsvec_eq hsn),(lsbox0_eq hsn),(qR (by rw [hin,if_pos (by omega)];try exact rfl))⟩ rfl⟩
      ·try simp only [decide_eq_false_iff_not,Int.not_lt] at h40
       try simp only [zds] at h40
       refine qL ?_;refine qI ?_;refine zob ?_;exact ⟨i + 1,by omega,by first|omega|(simp <;> omega),qP ⟨rfl,rfl,rfl,rfl,(qT (by omega))⟩ ⟨(lsvec_eq hsn),(lsbox0_eq hsn),(qR (by rw [hin,if_neg (by omega),List.append_nil]))⟩ rfl⟩
    ·refine qI ?_;refine Or.inr (Or.inl (zei [] (zei [1,0] (zei _ (zei _ (zei _ (zei _ (zei _ (zai (ho) (zai rfl (zai (zai (zai rfl rfl) (zai (zai rfl rfl) True.intro)) (zai rfl ?_))))))))))));refine qJ ?_;refine qB ?_;refine qK rfl (fun h35=>?_) (fun h35=>?_)
     ·skip
      have hiq : i = q:=(by rcases Nat.lt_or_ge i q with h1|h1;exact absurd ((ht i h1).symm.trans hz) (by omega);omega);subst hiq;refine qB ?_;refine Or.inl ?_;refine zai (rfl) ?_;refine zei _ (zai (faultN_c i n) ?_);refine qM ?_;rw [hz];exact rfl
     ·try simp only [zbq] at h35
      try simp only [zds] at h35
      simp at h35
    ·refine qI ?_;refine Or.inr (Or.inl (zei [] (zei [1,0] (zei _ (zei _ (zei _ (zei _ (zei _ (zai (ho) (zai rfl (zai (zai (zai rfl rfl) (zai (zai rfl rfl) True.intro)) (zai rfl ?_))))))))))));refine qJ ?_;refine qB ?_;refine qK rfl (fun h35=>?_) (fun h35=>?_)
     ·skip
      have hiq : i = q:=(by rcases Nat.lt_or_ge i q with h1|h1;exact absurd ((ht i h1).symm.trans hz) (by omega);omega);subst hiq;refine qB ?_;refine Or.inl ?_;refine zai (rfl) ?_;refine zei _ (zai (faultF_c i a n) ?_);refine qM ?_;rw [hz];exact rfl
     ·try simp only [zbq] at h35
      try simp only [zds] at h35
      simp at h35
   ·try simp only [decide_eq_false_iff_not,Int.not_lt] at h24
    try simp only [zds] at h24
    omega
theorem doOk_o {κ κ' k c : Nat} (L : Lst) (s : List Edt) (hL : LOk c L) (hc : c + s.length ≤ 200000) (hf : ∀ e ∈ s,yO e.2.2) (h : (chkB s).2 = 0) (ht : ∀ j,j < s.length → oneN (yB L s j) (s.getD j ((0 : Int),(0 : Int),([] : List Fld))) = 0) :
    yE Tryz.prog 57 [.one (.adk k (rLst k) L),.one (.slk κ (rEdk κ') s)] [] 0 (.tup [(false,[.own 1 0]),(false,[.sl (.int .i64) (idsT L s s.length)]),(false,[.lit .nilIface])]) [(1,.box 134 [.vec 0,.lit (.int .i64 (yB L s s.length).2.1),.lit (.int .i64 (yB L s s.length).2.2)]),(0,.vec 138 rEnt (yB L s s.length).1)] 2:=by
  obtain ⟨hln,hgd⟩:=chkB_zero h;have hk:=check_c9 (κ:=κ) (κ':=κ') s hf (by omega);rw [chkB_good h,erB_z] at hk;have hlen:=hL.len;have hcp:=copyL_o (k:=k) L.1 L.2.1 L.2.2 (by omega);refine yC (rs:=[4,5,6]) Tryz.func57 rfl rfl rfl teOk (by decide) rfl ?_;refine qB ?_;refine qJ ?_;refine qB ?_;refine Or.inl ?_;refine zai (rfl) ?_;refine zei _ (zai (hk) ?_);refine qB ?_;refine qK rfl (fun h17=>?_) (fun h17=>?_)
  ·try simp only [Bool.not_eq_true'] at h17
   try simp only [zds] at h17
   cases h17
  ·try simp only [Bool.not_eq_false'] at h17
   try simp only [zds] at h17
   refine qL ?_;refine qB ?_;refine Or.inr (Or.inl (zei [] (zei [] (zei _ (zei _ (zei _ (zei _ (zei _ (zai (hcp) (zai rfl (zai True.intro (zai rfl ?_))))))))))));refine qB ?_;refine qJ ?_;refine qJ ?_;refine yW 9 3 (.int .i64) rfl ?_;refine qI ?_;intro l6_1
   try simp only [zds] at l6_1
   refine qQ ?_;refine qW (fun (i : Nat)=>i ≤ s.length) (fun (i : Nat)=>[(8,.one (.own 1 0)),(9,.one (.vec 2)),(21,.one (.slk κ (rEdk κ') s)),(22,ii .i64 s.length),(23,ii .i64 i)]) (fun (i : Nat)=>[(0,.vec 138 rEnt (yB L s i).1),(1,.box 134 [.vec 0,.lit (.int .i64 (yB L s i).2.1),.lit (.int .i64 (yB L s i).2.2)]),(2,.vec 3 (.int .i64) (idsT L s i))]) 3 (fun (i : Nat)=>s.length - i) 0 (Nat.zero_le _) (qP ⟨rfl,rfl,rfl,rfl,rfl⟩ ⟨rfl,rfl,rfl⟩ rfl) ?_;intro i hI0;refine qB ?_;refine qJ ?_;refine qK rfl (fun h24=>?_) (fun h24=>?_)
   ·try simp only [decide_eq_true_eq] at h24
    try simp only [zds] at h24
    have hil : i < s.length:=(by omega);obtain ⟨hLi,hfe⟩:=took hL hf hil;have hsn:=plays_snoc L hil;have hin:=idsT_snoc L s i;have hilen:=idsT_len L s i;refine qL ?_;refine qJ ?_;refine qQ ?_;refine qB ?_;refine zob ?_;refine qJ ?_;rcases one_cases (κ:=κ') hLi (by omega) (s.getD i ((0 : Int),(0 : Int),([] : List Fld))) hfe with ⟨hz,ho⟩|⟨n,hn,hz,ho⟩|⟨a,n,hn,hz,ho⟩
    ·refine qI ?_;refine Or.inr (Or.inl (zei [] (zei [1,0] (zei _ (zei _ (zei _ (zei _ (zei _ (zai (ho) (zai rfl (zai (zai (zai rfl rfl) (zai (zai rfl rfl) True.intro)) (zai rfl ?_))))))))))));refine qJ ?_;refine qB ?_;refine qK rfl (fun h35=>?_) (fun h35=>?_)
     ·try simp only [Bool.not_eq_true'] at h35
      try simp only [zds] at h35
      cases h35
     ·try simp only [Bool.not_eq_false'] at h35
      try simp only [zds] at h35
      refine qL ?_;refine qB ?_;refine qK rfl (fun h40=>?_) (fun h40=>?_)
      ·try simp only [decide_eq_true_eq] at h40
       try simp only [zds] at h40
       refine qI ?_;refine zai (by first|exact qO (by first|omega|(simp only [List.length_cons,List.length_nil];omega)|(simp;omega)) (by decide)|omega|assumption|decide|(simp only [zds];omega)|(simp <;> omega)) ?_;refine qI ?_;refine zob ?_;exact ⟨i + 1,by omega,by first|omega|(simp <;> omega),qP ⟨rfl,rfl,rfl,rfl,(qT (by omega))⟩ ⟨(lsvec_eq hsn),(lsbox0_eq hsn),(qR (by rw [hin,if_pos (by omega)];try exact rfl))⟩ rfl⟩
      ·try simp only [decide_eq_false_iff_not,Int.not_lt] at h40
       try simp only [zds] at h40
       refine qL ?_;refine qI ?_;refine zob ?_;exact ⟨i + 1,by omega,by first|omega|(simp <;> omega),qP ⟨rfl,rfl,rfl,rfl,(qT (by omega))⟩ ⟨(lsvec_eq hsn),(lsbox0_eq hsn),(qR (by rw [hin,if_neg (by omega),List.append_nil]))⟩ rfl⟩
    ·refine qI ?_;refine Or.inr (Or.inl (zei [] (zei [1,0] (zei _ (zei _ (zei _ (zei _ (zei _ (zai (ho) (zai rfl (zai (zai (zai rfl rfl) (zai (zai rfl rfl) True.intro)) (zai rfl ?_))))))))))));refine qJ ?_;refine qB ?_;refine qK rfl (fun h35=>?_) (fun h35=>?_)
     ·skip
      exact absurd ((ht i hil).symm.trans hz) (by omega)
     ·try simp only [zbq] at h35
      try simp only [zds] at h35
      simp at h35
    ·refine qI ?_;refine Or.inr (Or.inl (zei [] (zei [1,0] (zei _ (zei _ (zei _ (zei _ (zei _ (zai (ho) (zai rfl (zai (zai (zai rfl rfl) (zai (zai rfl rfl) True.intro)) (zai rfl ?_))))))))))));refine qJ ?_;refine qB ?_;refine qK rfl (fun h35=>?_) (fun h35=>?_)
     ·skip
      exact absurd ((ht i hil).symm.trans hz) (by omega)
     ·try simp only [zbq] at h35
      try simp only [zds] at h35
      simp at h35
   ·try simp only [decide_eq_false_iff_not,Int.not_lt] at h24
    try simp only [zds] at h24
    refine yA ?_;refine qB ?_;refine yH [2] ?_;refine qM ?_;rw [show i = s.length by omega];exact ⟨rfl,⟨rfl,rfl⟩,rfl⟩
end Q
end Ab
end Go.Proofs.YtojipboabgebfaaGreatDoor
namespace Go.Proofs.YtojipboabgebfaaGreatDoor
open Go.RowKit
namespace Ab
set_option maxRecDepth 100000
abbrev rStp : Rd Q.Stp:=.st rEdt (.st (.sl rFld) (.int .i64))
namespace Q
theorem qU {α : Type} {g : Bool} {R : Rd α} {xs ys : List (Int × α)} (h : xs = ys) : some (Ob.map g R xs) = some (Ob.map g R ys):=by rw [h]
theorem ahead_c {k : Nat} (L : Lst) (id : Int) (hl : L.1.length ≤ 1000000) (hf : ∀ e ∈ L.1,e.1.2.2.length ≤ 1000000) : qX Tryz.prog 136 [.one (.adk k (rLst k) L),ii .i64 id] (ii .i64 (ahdL L.1 id)):=by
  have hst:=stanzasL_c (k:=k) L.1 L.2.1 L.2.2 hl hf;have hpl:=placeL_c (k:=k) L.1 L.2.1 L.2.2 id hl;have hlt:=plc_lt L.1 id;have hle:=stz_le L.1;refine qV (rs:=[4]) Tryz.func136 rfl rfl rfl teOk rfl ?_;refine qB ?_;refine qB ?_;refine Or.inl ?_;refine zai (rfl) ?_;refine zei _ (zai (hst) ?_);refine qJ ?_;refine qB ?_;refine Or.inl ?_;refine zai (rfl) ?_;refine zei _ (zai (hpl) ?_);refine qB ?_;refine qK rfl (fun h13=>?_) (fun h13=>?_)
  ·try simp only [decide_eq_true_eq] at h13
   try simp only [zds] at h13
   refine qB ?_;refine zob ?_;refine zai (by omega) ?_;refine qM ?_;exact qT (by unfold ahdL;rw [if_pos h13];exact rfl)
  ·try simp only [decide_eq_false_iff_not,Int.not_lt] at h13
   try simp only [zds] at h13
   refine qL ?_;refine qB ?_;refine qM ?_;exact qT (by unfold ahdL;rw [if_neg (by omega)])
theorem one_ok0 {κ c : Nat} {L : Lst} (h : LOk c L) (hc : c ≤ 200000) (e : Edt) (hf : yO e.2.2) (h0 : oneN L e = 0) : yE Tryz.prog 101 [.one (.own 0 0),.agg (toL (rEdk κ) e)] (lsO L) 2 (.tup [(false,[.lit (.int .i64 (newN L e))]),(false,[.lit .nilIface])]) (lsO (doL L e)) 2:=by
  rcases one_cases (κ:=κ) h hc e hf with ⟨_,ho⟩|⟨n,hn,hz,_⟩|⟨a,n,hn,hz,_⟩
  · exact ho
  · exact absurd (hz.symm.trans h0) hn
  · exact absurd (hz.symm.trans h0) hn
set_option maxHeartbeats 8000000 in
theorem steps_c {k κ c : Nat} (L : Lst) (s : List Edt) (hL : LOk c L) (hc : c + s.length ≤ 200000) (hf : ∀ e ∈ s,yO e.2.2) (ht : ∀ j,j < s.length → oneN (yB L s j) (s.getD j ((0 : Int),(0 : Int),([] : List Fld))) = 0) :
    qX Tryz.prog 94 [.one (.adk k (rLst k) L),.one (.slk κ rEdt s)] (.one (.sl rStp (stps L s))):=by
  have hlen:=hL.len;have hcp:=copyL_o (k:=k) L.1 L.2.1 L.2.2 (by omega);have hsl:=stps_len s L;refine qV (rs:=[4]) Tryz.func94 rfl rfl rfl teOk rfl ?_;refine qB ?_;refine qB ?_;refine Or.inr (Or.inl (zei [] (zei [] (zei _ (zei _ (zei _ (zei _ (zei _ (zai (hcp) (zai rfl (zai True.intro (zai rfl ?_))))))))))));refine qB ?_;refine qJ ?_;refine qJ ?_;refine yW 6 169 rStp rfl ?_;refine qI ?_;intro l3_1
  try simp only [zds] at l3_1
  refine qQ ?_;refine qW (fun (i : Nat)=>i ≤ s.length) (fun (i : Nat)=>[(5,.one (.own 1 0)),(6,.one (.vec 2)),(14,.one (.slk κ rEdt s)),(15,ii .i64 s.length),(16,ii .i64 i)]) (fun (i : Nat)=>[(0,.vec 138 rEnt (yB L s i).1),(1,.box 134 [.vec 0,.lit (.int .i64 (yB L s i).2.1),.lit (.int .i64 (yB L s i).2.2)]),(2,.vec 169 rStp ((stps L s).take i))]) 3 (fun (i : Nat)=>s.length - i) 0 (Nat.zero_le _) (qP ⟨rfl,rfl,rfl,rfl,rfl⟩ ⟨rfl,rfl,rfl⟩ rfl) ?_;intro i hI0;refine qB ?_;refine qJ ?_;refine qK rfl (fun h17=>?_) (fun h17=>?_)
  ·try simp only [decide_eq_true_eq] at h17
   try simp only [zds] at h17
   have hil : i < s.length:=(by omega);obtain ⟨hLi,hfe⟩:=took hL hf hil;have hsn:=plays_snoc L hil;have hx0:=ht i hil;have hLl:=hLi.len;have hgt:=stps_get s L i hil;have htk:=yL (l:=stps L s) (((0 : Int),(0 : Int),([] : List Fld)),([] : List Fld),(0 : Int)) (show i < (stps L s).length by omega);rw [hgt] at htk;have hah:=ahead_c (k:=1) (yB L s i) (s.getD i ((0 : Int),(0 : Int),([] : List Fld))).2.1 (by omega) hLi.f1;have hge:=get_c (k:=1) (yB L s i).1 (yB L s i).2.1 (yB L s i).2.2 (s.getD i ((0 : Int),(0 : Int),([] : List Fld))).2.1 hLi.f1;refine qL ?_;refine qJ ?_;refine qQ ?_;refine qB ?_;refine zob ?_;refine acode_cut (fun (u : Unit)=>True) (fun (u : Unit)=>[(5,.one (.own 1 0)),(6,.one (.vec 2)),(8,.one (.own 3 0)),(9,.one (.own 4 0)),(14,.one (.slk κ rEdt s)),(15,ii .i64 s.length),(16,ii .i64 i)]) (fun (u : Unit)=>[(0,.vec 138 rEnt (yB L s i).1),(1,.box 134 [.vec 0,.lit (.int .i64 (yB L s i).2.1),.lit (.int .i64 (yB L s i).2.2)]),(2,.vec 169 rStp ((stps L s).take i)),(3,.box 31 (toL rEdt (s.getD i ((0 : Int),(0 : Int),([] : List Fld))))),(4,.box 169 [.lit (.int .i64 (s.getD i ((0 : Int),(0 : Int),([] : List Fld))).1),.lit (.int .i64 (s.getD i ((0 : Int),(0 : Int),([] : List Fld))).2.1),.sl rFld (s.getD i ((0 : Int),(0 : Int),([] : List Fld))).2.2,.lit (.slice none 0 0),.lit (.int .i64 (ahdL (yB L s i).1 (s.getD i ((0 : Int),(0 : Int),([] : List Fld))).2.1))])]) 5 ?_ ?_
   ·refine yK rfl ?_;refine qN 1 rfl ?_;refine qN 2 rfl ?_;refine qF [0,3,6] ?_;refine zai ?_ ?_
    ·refine qF [3,6] ?_;refine zai ?_ ?_
     ·refine qF [4,6] ?_;refine zai ?_ ?_
      ·refine Or.inl ?_;refine zai (rfl) ?_;refine zei _ (zai (hah) ?_);refine qF [5,6] ?_;refine zai ?_ ?_
       ·refine qF [6] ?_;refine qF [7] ?_;refine qS ?_;exact ⟨(),trivial,qP ⟨rfl,rfl,rfl,rfl,rfl,rfl,rfl⟩ ⟨rfl,rfl,rfl,rfl,rfl⟩ rfl⟩
       ·refine qF [5] ?_;refine qF [7] ?_;refine qS ?_;exact ⟨(),trivial,qP ⟨rfl,rfl,rfl,rfl,rfl,rfl,rfl⟩ ⟨rfl,rfl,rfl,rfl,rfl⟩ rfl⟩
      ·refine qF [4] ?_;refine Or.inl ?_;refine zai (rfl) ?_;refine zei _ (zai (hah) ?_);refine qF [5] ?_;refine qF [7] ?_;refine qS ?_;exact ⟨(),trivial,qP ⟨rfl,rfl,rfl,rfl,rfl,rfl,rfl⟩ ⟨rfl,rfl,rfl,rfl,rfl⟩ rfl⟩
     ·refine qF [3] ?_;refine qF [4] ?_;refine Or.inl ?_;refine zai (rfl) ?_;refine zei _ (zai (hah) ?_);refine qF [5] ?_;refine qF [7] ?_;refine qS ?_;exact ⟨(),trivial,qP ⟨rfl,rfl,rfl,rfl,rfl,rfl,rfl⟩ ⟨rfl,rfl,rfl,rfl,rfl⟩ rfl⟩
    refine zai ?_ ?_
    ·refine qF [0,4,6] ?_;refine zai ?_ ?_
     ·refine qF [4,6] ?_;refine zai ?_ ?_
      ·refine Or.inl ?_;refine zai (rfl) ?_;refine zei _ (zai (hah) ?_);refine qF [5,6] ?_;refine zai ?_ ?_
       ·refine qF [6] ?_;refine qF [7] ?_;refine qS ?_;exact ⟨(),trivial,qP ⟨rfl,rfl,rfl,rfl,rfl,rfl,rfl⟩ ⟨rfl,rfl,rfl,rfl,rfl⟩ rfl⟩
       ·refine qF [5] ?_;refine qF [7] ?_;refine qS ?_;exact ⟨(),trivial,qP ⟨rfl,rfl,rfl,rfl,rfl,rfl,rfl⟩ ⟨rfl,rfl,rfl,rfl,rfl⟩ rfl⟩
      ·refine qF [4] ?_;refine Or.inl ?_;refine zai (rfl) ?_;refine zei _ (zai (hah) ?_);refine qF [5] ?_;refine qF [7] ?_;refine qS ?_;exact ⟨(),trivial,qP ⟨rfl,rfl,rfl,rfl,rfl,rfl,rfl⟩ ⟨rfl,rfl,rfl,rfl,rfl⟩ rfl⟩
     refine zai ?_ ?_
     ·refine Or.inl ?_;refine zai (rfl) ?_;refine zei _ (zai (hah) ?_);refine qF [0,6] ?_;refine zai ?_ ?_
      ·refine qF [5,6] ?_;refine zai ?_ ?_
       ·refine qF [6] ?_;refine qF [7] ?_;refine qS ?_;exact ⟨(),trivial,qP ⟨rfl,rfl,rfl,rfl,rfl,rfl,rfl⟩ ⟨rfl,rfl,rfl,rfl,rfl⟩ rfl⟩
       ·refine qF [5] ?_;refine qF [7] ?_;refine qS ?_;exact ⟨(),trivial,qP ⟨rfl,rfl,rfl,rfl,rfl,rfl,rfl⟩ ⟨rfl,rfl,rfl,rfl,rfl⟩ rfl⟩
      ·refine qF [0] ?_;refine qF [5] ?_;refine qF [7] ?_;refine qS ?_;exact ⟨(),trivial,qP ⟨rfl,rfl,rfl,rfl,rfl,rfl,rfl⟩ ⟨rfl,rfl,rfl,rfl,rfl⟩ rfl⟩
     ·refine qF [0,4] ?_;refine zai ?_ ?_
      ·refine qF [4] ?_;refine Or.inl ?_;refine zai (rfl) ?_;refine zei _ (zai (hah) ?_);refine qF [5] ?_;refine qF [7] ?_;refine qS ?_;exact ⟨(),trivial,qP ⟨rfl,rfl,rfl,rfl,rfl,rfl,rfl⟩ ⟨rfl,rfl,rfl,rfl,rfl⟩ rfl⟩
      ·refine Or.inl ?_;refine zai (rfl) ?_;refine zei _ (zai (hah) ?_);refine qF [0] ?_;refine qF [5] ?_;refine qF [7] ?_;refine qS ?_;exact ⟨(),trivial,qP ⟨rfl,rfl,rfl,rfl,rfl,rfl,rfl⟩ ⟨rfl,rfl,rfl,rfl,rfl⟩ rfl⟩
    ·refine qF [0,3] ?_;refine zai ?_ ?_
     ·refine qF [3] ?_;refine qF [4] ?_;refine Or.inl ?_;refine zai (rfl) ?_;refine zei _ (zai (hah) ?_);refine qF [5] ?_;refine qF [7] ?_;refine qS ?_;exact ⟨(),trivial,qP ⟨rfl,rfl,rfl,rfl,rfl,rfl,rfl⟩ ⟨rfl,rfl,rfl,rfl,rfl⟩ rfl⟩
     ·refine qF [0,4] ?_;refine zai ?_ ?_
      ·refine qF [4] ?_;refine Or.inl ?_;refine zai (rfl) ?_;refine zei _ (zai (hah) ?_);refine qF [5] ?_;refine qF [7] ?_;refine qS ?_;exact ⟨(),trivial,qP ⟨rfl,rfl,rfl,rfl,rfl,rfl,rfl⟩ ⟨rfl,rfl,rfl,rfl,rfl⟩ rfl⟩
      ·refine Or.inl ?_;refine zai (rfl) ?_;refine zei _ (zai (hah) ?_);refine qF [0] ?_;refine qF [5] ?_;refine qF [7] ?_;refine qS ?_;exact ⟨(),trivial,qP ⟨rfl,rfl,rfl,rfl,rfl,rfl,rfl⟩ ⟨rfl,rfl,rfl,rfl,rfl⟩ rfl⟩
   ·intro u hcut7;refine qB ?_;refine Or.inr (Or.inr (Or.inl ?_));refine zai rfl ?_;refine zei _ (zai (hge) ?_);refine qJ ?_;refine qB ?_;refine Or.inr (Or.inl (zei [] (zei [1,0] (zei _ (zei _ (zei _ (zei _ (zei _ (zai (one_ok0 (κ:=0) hLi (by omega) (s.getD i ((0 : Int),(0 : Int),([] : List Fld))) hfe hx0) (zai rfl (zai (zai (zai rfl rfl) (zai (zai rfl rfl) True.intro)) (zai rfl ?_))))))))))));refine qB ?_;refine qK rfl (fun h41=>?_) (fun h41=>?_)
    ·try simp only [decide_eq_true_eq] at h41
     try simp only [zds] at h41
     refine qI ?_;refine qI ?_;refine zai (by exact qO (show ((stps L s).take i).length + 1 ≤ 1000000000 by rw [List.length_take];omega) (by decide)) ?_;refine qI ?_;refine zob ?_;exact ⟨i + 1,by omega,by first|omega|(simp <;> omega),qP ⟨rfl,rfl,rfl,rfl,(qT (by omega))⟩ ⟨(lsvec_eq hsn),(lsbox0_eq hsn),(qR (by rw [← htk];unfold stpA wasL;first|(rw [if_pos h41];exact rfl)|(rw [if_neg (show ¬ 0 < newN (yB L s i) (s.getD i ((0 : Int),(0 : Int),([] : List Fld))) by omega)];exact rfl)))⟩ rfl⟩
    ·try simp only [decide_eq_false_iff_not,Int.not_lt] at h41
     try simp only [zds] at h41
     refine qL ?_;refine qI ?_;refine zai (by exact qO (show ((stps L s).take i).length + 1 ≤ 1000000000 by rw [List.length_take];omega) (by decide)) ?_;refine qI ?_;refine zob ?_;exact ⟨i + 1,by omega,by first|omega|(simp <;> omega),qP ⟨rfl,rfl,rfl,rfl,(qT (by omega))⟩ ⟨(lsvec_eq hsn),(lsbox0_eq hsn),(qR (by rw [← htk];unfold stpA wasL;first|(rw [if_pos h41];exact rfl)|(rw [if_neg (show ¬ 0 < newN (yB L s i) (s.getD i ((0 : Int),(0 : Int),([] : List Fld))) by omega)];exact rfl)))⟩ rfl⟩
  ·try simp only [decide_eq_false_iff_not,Int.not_lt] at h17
   try simp only [zds] at h17
   refine yA ?_;refine qB ?_;refine yH [2] ?_;refine qM ?_;rw [show i = s.length by omega];rw [show s.length = (stps L s).length by omega];rw [List.take_length];exact rfl
def mpO (M : List (Int × Int)) : Obs:=[(0,.box 162 [.mp 1]),(1,.map false (.int .i64) M)]
theorem qY (M : List (Int × Int)) (id : Int) : yE Tryz.prog 92 [ii .i64 id,.one (.own 0 0)] (mpO M) 2 (ii .i64 (nmM M id)) (mpO M) 2:=by
  refine yC (rs:=[3]) Tryz.func92 rfl rfl rfl teOk (by decide) rfl ?_;refine qB ?_;refine qJ ?_;refine qB ?_;refine qB ?_;refine qK rfl (fun h12=>?_) (fun h12=>?_)
  ·try simp only [zbq] at h12
   try simp only [zds] at h12
   refine qB ?_;refine qM ?_;have e : nmM M id = (getM M id).getD 0:=(by unfold nmM;cases hg : getM M id with|none=>(rw [hg] at h12;cases h12)|some n=>rfl);rw [e];exact ⟨rfl,⟨rfl,rfl⟩,rfl⟩
  ·try simp only [zbq] at h12
   try simp only [zds] at h12
   refine qL ?_;refine qB ?_;refine qM ?_;have e : nmM M id = id:=(by unfold nmM;cases hg : getM M id with|none=>rfl|some n=>(rw [hg] at h12;cases h12));rw [e];exact ⟨rfl,⟨rfl,rfl⟩,rfl⟩
def itS (l : List Stp) : List (List A):=(List.range l.length).map fun j=>[ii .i64 ((l.length - 1 - j : Nat) : Int),.agg (toL rStp (l.getD (l.length - 1 - j) (((0 : Int),(0 : Int),([] : List Fld)),([] : List Fld),(0 : Int))))]
theorem itS_len (l : List Stp) : (itS l).length = l.length:=by unfold itS;rw [List.length_map,List.length_range]
theorem itS_get (l : List Stp) {i : Nat} (h : i < (itS l).length) : (itS l)[i] = [ii .i64 ((l.length - 1 - i : Nat) : Int),.agg (toL rStp (l.getD (l.length - 1 - i) (((0 : Int),(0 : Int),([] : List Fld)),([] : List Fld),(0 : Int))))]:=by
  simp only [itS,List.getElem_map,List.getElem_range]
theorem itS_at (l : List Stp) {p : Nat} (h : p < l.length) : ∃ hk : l.length - (p + 1) < (itS l).length,(itS l)[l.length - (p + 1)] = [ii .i64 (p : Int),.agg (toL rStp (l.getD p (((0 : Int),(0 : Int),([] : List Fld)),([] : List Fld),(0 : Int))))]:=by
  refine ⟨by rw [itS_len];omega,?_⟩;simp only [itS,List.getElem_map,List.getElem_range];rw [show l.length - 1 - (l.length - (p + 1)) = p by omega]
theorem backS_iter (l : List Stp) : AIter Tryz.prog 135 [.one (.addr (.sl rStp) l)] (itS l):=by
  refine aiter_of Tryz.func135 rfl rfl rfl teOk rfl ?_;intro ll ι Pr J U n0 hU hab hy;refine xC ?_;refine xP hab hU rfl ?_;refine qI ?_;intro hln;have hln : l.length ≤ 9223372036854775807:=hln;refine zai (by omega) ?_;refine ⟨_,_,_,le_refl,?_⟩;refine acodeY_block ?_;refine acodeY_loop (κ:=Nat) (fun i=>i ≤ l.length) (fun i=>l.length - i) (fun i=>[(0,.one (.lit (.func (.yield ll) #[] #[]))),(1,.one (.addr (.sl rStp) l)),(3,ii .i64 ((i : Int) - 1))]) (fun _=>[]) 0 (fun i=>i) l.length (Nat.le_refl _) hab hU (qP ⟨rfl,rfl,rfl⟩ trivial rfl) (Nat.sub_self _) ?_;intro i hi;have hi : i ≤ l.length:=hi;refine xC ?_;refine xC ?_;refine xP hab hU rfl ?_;refine qI ?_;refine ⟨_,_,_,le_refl,?_⟩;refine acodeY_cond rfl (fun hc=>?_) (fun hc=>?_)
  ·have hc : (0 : Int) ≤ (i : Int) - 1:=of_decide_eq_true hc;obtain ⟨p,rfl⟩ : ∃ p,i = p + 1:=⟨i - 1,by omega⟩;have hpl : p < l.length:=by omega
   obtain ⟨hk,hx⟩:=itS_at l hpl;rw [show ((p + 1 : Nat) : Int) - 1 = (p : Int) by omega];refine acodeY_skip ?_;refine xC ?_;refine acodeY_block ?_;refine xC ?_;refine acodeY_yield (pre:=[_,_,_,_,_,_]) (post:=[_]) _ rfl rfl rfl hab hU hy hk ?_;refine zai (by first|omega|(simp only [Int.toNat_natCast];omega)) ?_;refine ⟨_,_,_,le_refl,rfl,?_,by rw [hx];rfl,?_⟩
   ·rw [hx];rfl
   ·intro st;refine ⟨_,_,_,le_refl,?_⟩;refine acodeY_cond rfl (fun ht=>?_) (fun ht=>?_)
    ·refine acodeY_ret ?_;rw [Bool.not_not] at ht;subst ht;exact ⟨.inl rfl,fun e=>by cases e⟩
    ·rw [Bool.not_not] at ht;subst ht;refine acodeY_skip ?_;refine xP hab hU rfl ?_;refine qI ?_;refine zai (by omega) ?_;refine ⟨_,_,_,?_,⟨p,by omega,Nat.lt_succ_self _,rfl,by omega,rfl,rfl,rfl⟩⟩;exact qP ⟨rfl,rfl,rfl⟩ trivial rfl
  ·have hc : ¬ (0 : Int) ≤ (i : Int) - 1:=of_decide_eq_false hc;refine acodeY_exit ?_;exact ⟨.inr rfl,fun _=>by rw [itS_len];omega⟩
theorem backS_c (l : List Stp) : qX Tryz.prog 93 [.one (.sl rStp l)] (.one (.clo 135 (.addr (.sl rStp) l))):=by
  refine qV (rs:=[2]) Tryz.func93 rfl rfl rfl teOk rfl ?_;refine qB ?_;refine qB ?_;refine yH [0] ?_;refine qM ?_;rfl
theorem backN_c {κ k : Nat} (L : Lst) (s : List Edt) (hf : ∀ e ∈ s,yO e.2.2) (hl : s.length ≤ 1000000) (n : Int) (hn : n ≠ 0) (h : chkB s = (-9,n)) : qX Tryz.prog 52 [.one (.adk k (rLst k) L),.one (.slk κ rEdt s)] (.tup [(false,[.lit (.slice none 0 0)]),(false,[errN n])]):=by
  have hk:=doN_c (κ:=κ) (κ':=0) (k:=k) L s hf hl n hn h;refine qV (rs:=[4,5]) Tryz.func52 rfl rfl rfl teOk rfl ?_;refine qB ?_;refine qB ?_;refine Or.inl ?_;refine zai (rfl) ?_;refine zei _ (zai (hk) ?_);refine qJ ?_;refine qB ?_;refine qK rfl (fun h23=>?_) (fun h23=>?_)
  ·skip
   refine qB ?_;refine qM ?_;rfl
  ·try simp only [zbq] at h23
   try simp only [zds] at h23
   simp at h23
theorem backF_c {κ k : Nat} (L : Lst) (s : List Edt) (hf : ∀ e ∈ s,yO e.2.2) (hl : s.length ≤ 1000000) (i : Nat) (n : Int) (hn : n ≠ 0) (h : chkB s = ((i : Int),n)) : qX Tryz.prog 52 [.one (.adk k (rLst k) L),.one (.slk κ rEdt s)] (.tup [(false,[.lit (.slice none 0 0)]),(false,[errF i n])]):=by
  have hk:=doF_c (κ:=κ) (κ':=0) (k:=k) L s hf hl i n hn h;refine qV (rs:=[4,5]) Tryz.func52 rfl rfl rfl teOk rfl ?_;refine qB ?_;refine qB ?_;refine Or.inl ?_;refine zai (rfl) ?_;refine zei _ (zai (hk) ?_);refine qJ ?_;refine qB ?_;refine qK rfl (fun h23=>?_) (fun h23=>?_)
  ·skip
   refine qB ?_;refine qM ?_;rfl
  ·try simp only [zbq] at h23
   try simp only [zds] at h23
   simp at h23
theorem backB_c {κ k c : Nat} (L : Lst) (s : List Edt) (hL : LOk c L) (hc : c + s.length ≤ 200000) (hf : ∀ e ∈ s,yO e.2.2) (h : (chkB s).2 = 0) (q : Nat) (hq : q < s.length) (hb : oneN (yB L s q) (s.getD q ((0 : Int),(0 : Int),([] : List Fld))) ≠ 0) (ht : ∀ j,j < q → oneN (yB L s j) (s.getD j ((0 : Int),(0 : Int),([] : List Fld))) = 0) :
    qX Tryz.prog 52 [.one (.adk k (rLst k) L),.one (.slk κ rEdt s)] (.tup [(false,[.lit (.slice none 0 0)]),(false,[errF q (oneN (yB L s q) (s.getD q ((0 : Int),(0 : Int),([] : List Fld))))])]):=by
  have hk:=doBad_c (κ:=κ) (κ':=0) (k:=k) L s hL hc hf h q hq hb ht;refine qV (rs:=[4,5]) Tryz.func52 rfl rfl rfl teOk rfl ?_;refine qB ?_;refine qB ?_;refine Or.inl ?_;refine zai (rfl) ?_;refine zei _ (zai (hk) ?_);refine qJ ?_;refine qB ?_;refine qK rfl (fun h23=>?_) (fun h23=>?_)
  ·skip
   refine qB ?_;refine qM ?_;rfl
  ·try simp only [zbq] at h23
   try simp only [zds] at h23
   simp at h23
set_option maxHeartbeats 8000000 in
theorem back_c {k κ c : Nat} (L : Lst) (s : List Edt) (hL : LOk c L) (hc : c + s.length ≤ 200000) (hf : ∀ e ∈ s,yO e.2.2) (h : (chkB s).2 = 0) (ht : ∀ j,j < s.length → oneN (yB L s j) (s.getD j ((0 : Int),(0 : Int),([] : List Fld))) = 0) :
    qX Tryz.prog 52 [.one (.adk k (rLst k) L),.one (.slk κ rEdt s)] (.tup [(false,[.sl rEdt (bkL L s)]),(false,[.lit .nilIface])]):=by
  have hdo:=doOk_o (k:=k) (κ:=κ) (κ':=0) L s hL hc hf h ht;have hst:=steps_c (k:=k) (κ:=κ) L s hL hc hf ht;have hpl:=(plays_ok hL hf s.length (Nat.le_refl _)).next;have hbe : bkL L s = (bkR (yB L s s.length).2.1 (stps L s)).2.2:=by unfold bkL;rw [run_plays]
  have hsl:=stps_len s L;obtain ⟨N,hN⟩ : ∃ N,(yB L s s.length).2.1 = N:=⟨_,rfl⟩;rw [hN] at hdo hpl hbe;obtain ⟨T,hT⟩ : ∃ T,stps L s = T:=⟨_,rfl⟩;rw [hT] at hst hbe hsl;refine qV (rs:=[4,5]) Tryz.func52 rfl rfl rfl teOk rfl ?_;refine qB ?_;refine qB ?_;refine Or.inr (Or.inl (zei [] (zei [] (zei _ (zei _ (zei _ (zei _ (zei _ (zai (hdo) (zai rfl (zai True.intro (zai rfl ?_))))))))))));refine qJ ?_;refine qB ?_;refine qK rfl (fun h23=>?_) (fun h23=>?_)
  ·try simp only [Bool.not_eq_true'] at h23
   try simp only [zds] at h23
   simp at h23
  ·try simp only [Bool.not_eq_false'] at h23
   try simp only [zds] at h23
   refine qL ?_;refine qB ?_;refine Or.inr (Or.inr (Or.inl ?_));refine zai rfl ?_;refine zei _ (zai (next_c (yB L s s.length).1 N (yB L s s.length).2.2) ?_);refine qB ?_;refine qB ?_;refine qB ?_;refine qJ ?_;refine qB ?_;refine Or.inl ?_;refine zai (rfl) ?_;refine zei _ (zai (hst) ?_);refine Or.inl ?_;refine zai (rfl) ?_;refine zei _ (zai (backS_c T) ?_);refine qQ ?_;refine yI 6 0 31 rEdt rfl rfl rfl ?_;refine acode_range (caps:=[.one (.addr (.sl rStp) T)]) (xs:=itS T) [(9,.one (.own 2 0)),(10,.one (.own 4 0)),(11,.one (.own 5 0)),(12,.one (.own 6 0)),(32,.one (.clo 135 (.addr (.sl rStp) T)))] 8 (fun st j (i : Nat)=>st = false ∧ i = j) (fun i=>[(0,.vec 138 rEnt (yB L s s.length).1),(1,.box 134 [.vec 0,.lit (.int .i64 N),.lit (.int .i64 (yB L s s.length).2.2)]),(2,.box 3 [.lit (.int .i64 (bkR N (T.drop (T.length - i))).2.1)]),(3,.map false (.int .i64) (bkR N (T.drop (T.length - i))).1),(4,.box 162 [.mp 3]),(5,.box 83 [.clo 92 (.own 4 0)]),(6,.box 22 [.vec 7]),(7,.vec 31 rEdt (bkR N (T.drop (T.length - i))).2.2)]) (fun _=>.ret) 0 rfl rfl (backS_iter T) (qP ⟨rfl,rfl,rfl,rfl,rfl⟩ ⟨rfl,rfl,(by rw [Nat.sub_zero,List.drop_length];rfl),qU (by rw [Nat.sub_zero,List.drop_length];rfl),rfl,rfl,rfl,qR (by rw [Nat.sub_zero,List.drop_length];rfl)⟩ rfl) ⟨rfl,rfl⟩ (fun j hj=>by simp [itS]) rfl rfl rfl (fun _ _ _=>rfl) rfl ?_ ?_ ?_
   ·intro j i hk hp;obtain ⟨_,rfl⟩:=hp;have hx:=itS_get T hk;rw [itS_len] at hk;rw [hx];have eS:=bk_back N T hk;have hbl:=bkR_len N T i;have hbn:=bkR_nx N (T.drop (T.length - i));rw [List.length_drop] at hbn;obtain ⟨q,hq⟩ : ∃ q,bkR N (T.drop (T.length - i)) = q:=⟨_,rfl⟩;rw [hq] at eS hbl hbn ⊢;refine qI ?_;refine qQ ?_;refine qB ?_;refine qQ ?_;refine qB ?_;refine qK rfl (fun h47=>?_) (fun h47=>?_)
    ·try simp only [decide_eq_true_eq] at h47
     try simp only [zds] at h47
     rw [bkS1 q h47] at eS;refine yK rfl ?_;refine qN 2 rfl ?_;refine qN 3 rfl ?_;refine qN 6 rfl ?_;refine qF [0,1,4,7] ?_;refine zai ?_ ?_
     ·refine qF [1,4,7] ?_;refine zai ?_ ?_
      ·refine qF [4,7] ?_;refine zai ?_ ?_
       ·refine qF [5,7] ?_;refine zai ?_ ?_
        ·refine Or.inr (Or.inl (zei [] (zei [4,3] (zei _ (zei _ (zei _ (zei _ (zei _ (zai (qY q.1 (T.getD (T.length - 1 - i) (((0 : Int),(0 : Int),([] : List Fld)),([] : List Fld),(0 : Int))).1.2.1) (zai rfl (zai (zai (zai rfl rfl) (zai (zai rfl rfl) True.intro)) (zai rfl ?_))))))))))));refine qF [7] ?_;refine qF [8] ?_;refine qF [9] ?_;refine qF [10] ?_;refine zai (by exact qO (show q.2.2.length + 1 ≤ 1000000000 by omega) (by decide)) ?_;refine qF [11] ?_;refine qS ?_;exact ⟨i + 1,⟨rfl,rfl⟩,qP trivial ⟨rfl,rfl,(by rw [eS];try exact rfl),qU (by rw [eS]),rfl,rfl,rfl,qR (by rw [eS];try exact rfl)⟩ rfl⟩
        ·refine qF [5] ?_;refine Or.inr (Or.inl (zei [] (zei [4,3] (zei _ (zei _ (zei _ (zei _ (zei _ (zai (qY q.1 (T.getD (T.length - 1 - i) (((0 : Int),(0 : Int),([] : List Fld)),([] : List Fld),(0 : Int))).1.2.1) (zai rfl (zai (zai (zai rfl rfl) (zai (zai rfl rfl) True.intro)) (zai rfl ?_))))))))))));refine qF [8] ?_;refine qF [9] ?_;refine qF [10] ?_;refine zai (by exact qO (show q.2.2.length + 1 ≤ 1000000000 by omega) (by decide)) ?_;refine qF [11] ?_;refine qS ?_;exact ⟨i + 1,⟨rfl,rfl⟩,qP trivial ⟨rfl,rfl,(by rw [eS];try exact rfl),qU (by rw [eS]),rfl,rfl,rfl,qR (by rw [eS];try exact rfl)⟩ rfl⟩
       ·refine qF [4] ?_;refine qF [5] ?_;refine Or.inr (Or.inl (zei [] (zei [4,3] (zei _ (zei _ (zei _ (zei _ (zei _ (zai (qY q.1 (T.getD (T.length - 1 - i) (((0 : Int),(0 : Int),([] : List Fld)),([] : List Fld),(0 : Int))).1.2.1) (zai rfl (zai (zai (zai rfl rfl) (zai (zai rfl rfl) True.intro)) (zai rfl ?_))))))))))));refine qF [8] ?_;refine qF [9] ?_;refine qF [10] ?_;refine zai (by exact qO (show q.2.2.length + 1 ≤ 1000000000 by omega) (by decide)) ?_;refine qF [11] ?_;refine qS ?_;exact ⟨i + 1,⟨rfl,rfl⟩,qP trivial ⟨rfl,rfl,(by rw [eS];try exact rfl),qU (by rw [eS]),rfl,rfl,rfl,qR (by rw [eS];try exact rfl)⟩ rfl⟩
      refine zai ?_ ?_
      ·refine qF [1,7] ?_;refine zai ?_ ?_
       ·refine qF [5,7] ?_;refine zai ?_ ?_
        ·refine Or.inr (Or.inl (zei [] (zei [4,3] (zei _ (zei _ (zei _ (zei _ (zei _ (zai (qY q.1 (T.getD (T.length - 1 - i) (((0 : Int),(0 : Int),([] : List Fld)),([] : List Fld),(0 : Int))).1.2.1) (zai rfl (zai (zai (zai rfl rfl) (zai (zai rfl rfl) True.intro)) (zai rfl ?_))))))))))));refine qF [7] ?_;refine qF [8] ?_;refine qF [9] ?_;refine qF [10] ?_;refine zai (by exact qO (show q.2.2.length + 1 ≤ 1000000000 by omega) (by decide)) ?_;refine qF [11] ?_;refine qS ?_;exact ⟨i + 1,⟨rfl,rfl⟩,qP trivial ⟨rfl,rfl,(by rw [eS];try exact rfl),qU (by rw [eS]),rfl,rfl,rfl,qR (by rw [eS];try exact rfl)⟩ rfl⟩
        ·refine qF [5] ?_;refine Or.inr (Or.inl (zei [] (zei [4,3] (zei _ (zei _ (zei _ (zei _ (zei _ (zai (qY q.1 (T.getD (T.length - 1 - i) (((0 : Int),(0 : Int),([] : List Fld)),([] : List Fld),(0 : Int))).1.2.1) (zai rfl (zai (zai (zai rfl rfl) (zai (zai rfl rfl) True.intro)) (zai rfl ?_))))))))))));refine qF [8] ?_;refine qF [9] ?_;refine qF [10] ?_;refine zai (by exact qO (show q.2.2.length + 1 ≤ 1000000000 by omega) (by decide)) ?_;refine qF [11] ?_;refine qS ?_;exact ⟨i + 1,⟨rfl,rfl⟩,qP trivial ⟨rfl,rfl,(by rw [eS];try exact rfl),qU (by rw [eS]),rfl,rfl,rfl,qR (by rw [eS];try exact rfl)⟩ rfl⟩
       ·refine qF [1] ?_;refine qF [5] ?_;refine Or.inr (Or.inl (zei [] (zei [4,3] (zei _ (zei _ (zei _ (zei _ (zei _ (zai (qY q.1 (T.getD (T.length - 1 - i) (((0 : Int),(0 : Int),([] : List Fld)),([] : List Fld),(0 : Int))).1.2.1) (zai rfl (zai (zai (zai rfl rfl) (zai (zai rfl rfl) True.intro)) (zai rfl ?_))))))))))));refine qF [8] ?_;refine qF [9] ?_;refine qF [10] ?_;refine zai (by exact qO (show q.2.2.length + 1 ≤ 1000000000 by omega) (by decide)) ?_;refine qF [11] ?_;refine qS ?_;exact ⟨i + 1,⟨rfl,rfl⟩,qP trivial ⟨rfl,rfl,(by rw [eS];try exact rfl),qU (by rw [eS]),rfl,rfl,rfl,qR (by rw [eS];try exact rfl)⟩ rfl⟩
      ·refine qF [1,4] ?_;refine zai ?_ ?_
       ·refine qF [4] ?_;refine qF [5] ?_;refine Or.inr (Or.inl (zei [] (zei [4,3] (zei _ (zei _ (zei _ (zei _ (zei _ (zai (qY q.1 (T.getD (T.length - 1 - i) (((0 : Int),(0 : Int),([] : List Fld)),([] : List Fld),(0 : Int))).1.2.1) (zai rfl (zai (zai (zai rfl rfl) (zai (zai rfl rfl) True.intro)) (zai rfl ?_))))))))))));refine qF [8] ?_;refine qF [9] ?_;refine qF [10] ?_;refine zai (by exact qO (show q.2.2.length + 1 ≤ 1000000000 by omega) (by decide)) ?_;refine qF [11] ?_;refine qS ?_;exact ⟨i + 1,⟨rfl,rfl⟩,qP trivial ⟨rfl,rfl,(by rw [eS];try exact rfl),qU (by rw [eS]),rfl,rfl,rfl,qR (by rw [eS];try exact rfl)⟩ rfl⟩
       ·refine qF [1] ?_;refine qF [5] ?_;refine Or.inr (Or.inl (zei [] (zei [4,3] (zei _ (zei _ (zei _ (zei _ (zei _ (zai (qY q.1 (T.getD (T.length - 1 - i) (((0 : Int),(0 : Int),([] : List Fld)),([] : List Fld),(0 : Int))).1.2.1) (zai rfl (zai (zai (zai rfl rfl) (zai (zai rfl rfl) True.intro)) (zai rfl ?_))))))))))));refine qF [8] ?_;refine qF [9] ?_;refine qF [10] ?_;refine zai (by exact qO (show q.2.2.length + 1 ≤ 1000000000 by omega) (by decide)) ?_;refine qF [11] ?_;refine qS ?_;exact ⟨i + 1,⟨rfl,rfl⟩,qP trivial ⟨rfl,rfl,(by rw [eS];try exact rfl),qU (by rw [eS]),rfl,rfl,rfl,qR (by rw [eS];try exact rfl)⟩ rfl⟩
     refine zai ?_ ?_
     ·refine qF [0,4,7] ?_;refine zai ?_ ?_
      ·refine qF [4,7] ?_;refine zai ?_ ?_
       ·refine qF [5,7] ?_;refine zai ?_ ?_
        ·refine Or.inr (Or.inl (zei [] (zei [4,3] (zei _ (zei _ (zei _ (zei _ (zei _ (zai (qY q.1 (T.getD (T.length - 1 - i) (((0 : Int),(0 : Int),([] : List Fld)),([] : List Fld),(0 : Int))).1.2.1) (zai rfl (zai (zai (zai rfl rfl) (zai (zai rfl rfl) True.intro)) (zai rfl ?_))))))))))));refine qF [7] ?_;refine qF [8] ?_;refine qF [9] ?_;refine qF [10] ?_;refine zai (by exact qO (show q.2.2.length + 1 ≤ 1000000000 by omega) (by decide)) ?_;refine qF [11] ?_;refine qS ?_;exact ⟨i + 1,⟨rfl,rfl⟩,qP trivial ⟨rfl,rfl,(by rw [eS];try exact rfl),qU (by rw [eS]),rfl,rfl,rfl,qR (by rw [eS];try exact rfl)⟩ rfl⟩
        ·refine qF [5] ?_;refine Or.inr (Or.inl (zei [] (zei [4,3] (zei _ (zei _ (zei _ (zei _ (zei _ (zai (qY q.1 (T.getD (T.length - 1 - i) (((0 : Int),(0 : Int),([] : List Fld)),([] : List Fld),(0 : Int))).1.2.1) (zai rfl (zai (zai (zai rfl rfl) (zai (zai rfl rfl) True.intro)) (zai rfl ?_))))))))))));refine qF [8] ?_;refine qF [9] ?_;refine qF [10] ?_;refine zai (by exact qO (show q.2.2.length + 1 ≤ 1000000000 by omega) (by decide)) ?_;refine qF [11] ?_;refine qS ?_;exact ⟨i + 1,⟨rfl,rfl⟩,qP trivial ⟨rfl,rfl,(by rw [eS];try exact rfl),qU (by rw [eS]),rfl,rfl,rfl,qR (by rw [eS];try exact rfl)⟩ rfl⟩
       ·refine qF [4] ?_;refine qF [5] ?_;refine Or.inr (Or.inl (zei [] (zei [4,3] (zei _ (zei _ (zei _ (zei _ (zei _ (zai (qY q.1 (T.getD (T.length - 1 - i) (((0 : Int),(0 : Int),([] : List Fld)),([] : List Fld),(0 : Int))).1.2.1) (zai rfl (zai (zai (zai rfl rfl) (zai (zai rfl rfl) True.intro)) (zai rfl ?_))))))))))));refine qF [8] ?_;refine qF [9] ?_;refine qF [10] ?_;refine zai (by exact qO (show q.2.2.length + 1 ≤ 1000000000 by omega) (by decide)) ?_;refine qF [11] ?_;refine qS ?_;exact ⟨i + 1,⟨rfl,rfl⟩,qP trivial ⟨rfl,rfl,(by rw [eS];try exact rfl),qU (by rw [eS]),rfl,rfl,rfl,qR (by rw [eS];try exact rfl)⟩ rfl⟩
      refine zai ?_ ?_
      ·refine qF [0,5,7] ?_;refine zai ?_ ?_
       ·refine qF [5,7] ?_;refine zai ?_ ?_
        ·refine Or.inr (Or.inl (zei [] (zei [4,3] (zei _ (zei _ (zei _ (zei _ (zei _ (zai (qY q.1 (T.getD (T.length - 1 - i) (((0 : Int),(0 : Int),([] : List Fld)),([] : List Fld),(0 : Int))).1.2.1) (zai rfl (zai (zai (zai rfl rfl) (zai (zai rfl rfl) True.intro)) (zai rfl ?_))))))))))));refine qF [7] ?_;refine qF [8] ?_;refine qF [9] ?_;refine qF [10] ?_;refine zai (by exact qO (show q.2.2.length + 1 ≤ 1000000000 by omega) (by decide)) ?_;refine qF [11] ?_;refine qS ?_;exact ⟨i + 1,⟨rfl,rfl⟩,qP trivial ⟨rfl,rfl,(by rw [eS];try exact rfl),qU (by rw [eS]),rfl,rfl,rfl,qR (by rw [eS];try exact rfl)⟩ rfl⟩
        ·refine qF [5] ?_;refine Or.inr (Or.inl (zei [] (zei [4,3] (zei _ (zei _ (zei _ (zei _ (zei _ (zai (qY q.1 (T.getD (T.length - 1 - i) (((0 : Int),(0 : Int),([] : List Fld)),([] : List Fld),(0 : Int))).1.2.1) (zai rfl (zai (zai (zai rfl rfl) (zai (zai rfl rfl) True.intro)) (zai rfl ?_))))))))))));refine qF [8] ?_;refine qF [9] ?_;refine qF [10] ?_;refine zai (by exact qO (show q.2.2.length + 1 ≤ 1000000000 by omega) (by decide)) ?_;refine qF [11] ?_;refine qS ?_;exact ⟨i + 1,⟨rfl,rfl⟩,qP trivial ⟨rfl,rfl,(by rw [eS];try exact rfl),qU (by rw [eS]),rfl,rfl,rfl,qR (by rw [eS];try exact rfl)⟩ rfl⟩
       refine zai ?_ ?_
       ·refine Or.inr (Or.inl (zei [] (zei [4,3] (zei _ (zei _ (zei _ (zei _ (zei _ (zai (qY q.1 (T.getD (T.length - 1 - i) (((0 : Int),(0 : Int),([] : List Fld)),([] : List Fld),(0 : Int))).1.2.1) (zai rfl (zai (zai (zai rfl rfl) (zai (zai rfl rfl) True.intro)) (zai rfl ?_))))))))))));refine qF [0,7] ?_;refine zai ?_ ?_
        ·refine qF [7] ?_;refine qF [8] ?_;refine qF [9] ?_;refine qF [10] ?_;refine zai (by exact qO (show q.2.2.length + 1 ≤ 1000000000 by omega) (by decide)) ?_;refine qF [11] ?_;refine qS ?_;exact ⟨i + 1,⟨rfl,rfl⟩,qP trivial ⟨rfl,rfl,(by rw [eS];try exact rfl),qU (by rw [eS]),rfl,rfl,rfl,qR (by rw [eS];try exact rfl)⟩ rfl⟩
        ·refine qF [0,8] ?_;refine zai ?_ ?_
         ·refine qF [8] ?_;refine qF [9] ?_;refine qF [10] ?_;refine zai (by exact qO (show q.2.2.length + 1 ≤ 1000000000 by omega) (by decide)) ?_;refine qF [11] ?_;refine qS ?_;exact ⟨i + 1,⟨rfl,rfl⟩,qP trivial ⟨rfl,rfl,(by rw [eS];try exact rfl),qU (by rw [eS]),rfl,rfl,rfl,qR (by rw [eS];try exact rfl)⟩ rfl⟩
         ·refine qF [0,9] ?_;refine zai ?_ ?_
          ·refine qF [9] ?_;refine qF [10] ?_;refine zai (by exact qO (show q.2.2.length + 1 ≤ 1000000000 by omega) (by decide)) ?_;refine qF [11] ?_;refine qS ?_;exact ⟨i + 1,⟨rfl,rfl⟩,qP trivial ⟨rfl,rfl,(by rw [eS];try exact rfl),qU (by rw [eS]),rfl,rfl,rfl,qR (by rw [eS];try exact rfl)⟩ rfl⟩
          ·refine qF [0] ?_;refine qF [10] ?_;refine zai (by exact qO (show q.2.2.length + 1 ≤ 1000000000 by omega) (by decide)) ?_;refine qF [11] ?_;refine qS ?_;exact ⟨i + 1,⟨rfl,rfl⟩,qP trivial ⟨rfl,rfl,(by rw [eS];try exact rfl),qU (by rw [eS]),rfl,rfl,rfl,qR (by rw [eS];try exact rfl)⟩ rfl⟩
       ·refine qF [0,5] ?_;refine zai ?_ ?_
        ·refine qF [5] ?_;refine Or.inr (Or.inl (zei [] (zei [4,3] (zei _ (zei _ (zei _ (zei _ (zei _ (zai (qY q.1 (T.getD (T.length - 1 - i) (((0 : Int),(0 : Int),([] : List Fld)),([] : List Fld),(0 : Int))).1.2.1) (zai rfl (zai (zai (zai rfl rfl) (zai (zai rfl rfl) True.intro)) (zai rfl ?_))))))))))));refine qF [8] ?_;refine qF [9] ?_;refine qF [10] ?_;refine zai (by exact qO (show q.2.2.length + 1 ≤ 1000000000 by omega) (by decide)) ?_;refine qF [11] ?_;refine qS ?_;exact ⟨i + 1,⟨rfl,rfl⟩,qP trivial ⟨rfl,rfl,(by rw [eS];try exact rfl),qU (by rw [eS]),rfl,rfl,rfl,qR (by rw [eS];try exact rfl)⟩ rfl⟩
        ·refine Or.inr (Or.inl (zei [] (zei [4,3] (zei _ (zei _ (zei _ (zei _ (zei _ (zai (qY q.1 (T.getD (T.length - 1 - i) (((0 : Int),(0 : Int),([] : List Fld)),([] : List Fld),(0 : Int))).1.2.1) (zai rfl (zai (zai (zai rfl rfl) (zai (zai rfl rfl) True.intro)) (zai rfl ?_))))))))))));refine qF [0,8] ?_;refine zai ?_ ?_
         ·refine qF [8] ?_;refine qF [9] ?_;refine qF [10] ?_;refine zai (by exact qO (show q.2.2.length + 1 ≤ 1000000000 by omega) (by decide)) ?_;refine qF [11] ?_;refine qS ?_;exact ⟨i + 1,⟨rfl,rfl⟩,qP trivial ⟨rfl,rfl,(by rw [eS];try exact rfl),qU (by rw [eS]),rfl,rfl,rfl,qR (by rw [eS];try exact rfl)⟩ rfl⟩
         ·refine qF [0,9] ?_;refine zai ?_ ?_
          ·refine qF [9] ?_;refine qF [10] ?_;refine zai (by exact qO (show q.2.2.length + 1 ≤ 1000000000 by omega) (by decide)) ?_;refine qF [11] ?_;refine qS ?_;exact ⟨i + 1,⟨rfl,rfl⟩,qP trivial ⟨rfl,rfl,(by rw [eS];try exact rfl),qU (by rw [eS]),rfl,rfl,rfl,qR (by rw [eS];try exact rfl)⟩ rfl⟩
          ·refine qF [0] ?_;refine qF [10] ?_;refine zai (by exact qO (show q.2.2.length + 1 ≤ 1000000000 by omega) (by decide)) ?_;refine qF [11] ?_;refine qS ?_;exact ⟨i + 1,⟨rfl,rfl⟩,qP trivial ⟨rfl,rfl,(by rw [eS];try exact rfl),qU (by rw [eS]),rfl,rfl,rfl,qR (by rw [eS];try exact rfl)⟩ rfl⟩
      ·refine qF [0,4] ?_;refine zai ?_ ?_
       ·refine qF [4] ?_;refine qF [5] ?_;refine Or.inr (Or.inl (zei [] (zei [4,3] (zei _ (zei _ (zei _ (zei _ (zei _ (zai (qY q.1 (T.getD (T.length - 1 - i) (((0 : Int),(0 : Int),([] : List Fld)),([] : List Fld),(0 : Int))).1.2.1) (zai rfl (zai (zai (zai rfl rfl) (zai (zai rfl rfl) True.intro)) (zai rfl ?_))))))))))));refine qF [8] ?_;refine qF [9] ?_;refine qF [10] ?_;refine zai (by exact qO (show q.2.2.length + 1 ≤ 1000000000 by omega) (by decide)) ?_;refine qF [11] ?_;refine qS ?_;exact ⟨i + 1,⟨rfl,rfl⟩,qP trivial ⟨rfl,rfl,(by rw [eS];try exact rfl),qU (by rw [eS]),rfl,rfl,rfl,qR (by rw [eS];try exact rfl)⟩ rfl⟩
       ·refine qF [0,5] ?_;refine zai ?_ ?_
        ·refine qF [5] ?_;refine Or.inr (Or.inl (zei [] (zei [4,3] (zei _ (zei _ (zei _ (zei _ (zei _ (zai (qY q.1 (T.getD (T.length - 1 - i) (((0 : Int),(0 : Int),([] : List Fld)),([] : List Fld),(0 : Int))).1.2.1) (zai rfl (zai (zai (zai rfl rfl) (zai (zai rfl rfl) True.intro)) (zai rfl ?_))))))))))));refine qF [8] ?_;refine qF [9] ?_;refine qF [10] ?_;refine zai (by exact qO (show q.2.2.length + 1 ≤ 1000000000 by omega) (by decide)) ?_;refine qF [11] ?_;refine qS ?_;exact ⟨i + 1,⟨rfl,rfl⟩,qP trivial ⟨rfl,rfl,(by rw [eS];try exact rfl),qU (by rw [eS]),rfl,rfl,rfl,qR (by rw [eS];try exact rfl)⟩ rfl⟩
        ·refine Or.inr (Or.inl (zei [] (zei [4,3] (zei _ (zei _ (zei _ (zei _ (zei _ (zai (qY q.1 (T.getD (T.length - 1 - i) (((0 : Int),(0 : Int),([] : List Fld)),([] : List Fld),(0 : Int))).1.2.1) (zai rfl (zai (zai (zai rfl rfl) (zai (zai rfl rfl) True.intro)) (zai rfl ?_))))))))))));refine qF [0,8] ?_;refine zai ?_ ?_
         ·refine qF [8] ?_;refine qF [9] ?_;refine qF [10] ?_;refine zai (by exact qO (show q.2.2.length + 1 ≤ 1000000000 by omega) (by decide)) ?_;refine qF [11] ?_;refine qS ?_;exact ⟨i + 1,⟨rfl,rfl⟩,qP trivial ⟨rfl,rfl,(by rw [eS];try exact rfl),qU (by rw [eS]),rfl,rfl,rfl,qR (by rw [eS];try exact rfl)⟩ rfl⟩
         ·refine qF [0,9] ?_;refine zai ?_ ?_
          ·refine qF [9] ?_;refine qF [10] ?_;refine zai (by exact qO (show q.2.2.length + 1 ≤ 1000000000 by omega) (by decide)) ?_;refine qF [11] ?_;refine qS ?_;exact ⟨i + 1,⟨rfl,rfl⟩,qP trivial ⟨rfl,rfl,(by rw [eS];try exact rfl),qU (by rw [eS]),rfl,rfl,rfl,qR (by rw [eS];try exact rfl)⟩ rfl⟩
          ·refine qF [0] ?_;refine qF [10] ?_;refine zai (by exact qO (show q.2.2.length + 1 ≤ 1000000000 by omega) (by decide)) ?_;refine qF [11] ?_;refine qS ?_;exact ⟨i + 1,⟨rfl,rfl⟩,qP trivial ⟨rfl,rfl,(by rw [eS];try exact rfl),qU (by rw [eS]),rfl,rfl,rfl,qR (by rw [eS];try exact rfl)⟩ rfl⟩
     refine zai ?_ ?_
     ·refine qF [0,1,7] ?_;refine zai ?_ ?_
      ·refine qF [1,7] ?_;refine zai ?_ ?_
       ·refine qF [5,7] ?_;refine zai ?_ ?_
        ·refine Or.inr (Or.inl (zei [] (zei [4,3] (zei _ (zei _ (zei _ (zei _ (zei _ (zai (qY q.1 (T.getD (T.length - 1 - i) (((0 : Int),(0 : Int),([] : List Fld)),([] : List Fld),(0 : Int))).1.2.1) (zai rfl (zai (zai (zai rfl rfl) (zai (zai rfl rfl) True.intro)) (zai rfl ?_))))))))))));refine qF [7] ?_;refine qF [8] ?_;refine qF [9] ?_;refine qF [10] ?_;refine zai (by exact qO (show q.2.2.length + 1 ≤ 1000000000 by omega) (by decide)) ?_;refine qF [11] ?_;refine qS ?_;exact ⟨i + 1,⟨rfl,rfl⟩,qP trivial ⟨rfl,rfl,(by rw [eS];try exact rfl),qU (by rw [eS]),rfl,rfl,rfl,qR (by rw [eS];try exact rfl)⟩ rfl⟩
        ·refine qF [5] ?_;refine Or.inr (Or.inl (zei [] (zei [4,3] (zei _ (zei _ (zei _ (zei _ (zei _ (zai (qY q.1 (T.getD (T.length - 1 - i) (((0 : Int),(0 : Int),([] : List Fld)),([] : List Fld),(0 : Int))).1.2.1) (zai rfl (zai (zai (zai rfl rfl) (zai (zai rfl rfl) True.intro)) (zai rfl ?_))))))))))));refine qF [8] ?_;refine qF [9] ?_;refine qF [10] ?_;refine zai (by exact qO (show q.2.2.length + 1 ≤ 1000000000 by omega) (by decide)) ?_;refine qF [11] ?_;refine qS ?_;exact ⟨i + 1,⟨rfl,rfl⟩,qP trivial ⟨rfl,rfl,(by rw [eS];try exact rfl),qU (by rw [eS]),rfl,rfl,rfl,qR (by rw [eS];try exact rfl)⟩ rfl⟩
       ·refine qF [1] ?_;refine qF [5] ?_;refine Or.inr (Or.inl (zei [] (zei [4,3] (zei _ (zei _ (zei _ (zei _ (zei _ (zai (qY q.1 (T.getD (T.length - 1 - i) (((0 : Int),(0 : Int),([] : List Fld)),([] : List Fld),(0 : Int))).1.2.1) (zai rfl (zai (zai (zai rfl rfl) (zai (zai rfl rfl) True.intro)) (zai rfl ?_))))))))))));refine qF [8] ?_;refine qF [9] ?_;refine qF [10] ?_;refine zai (by exact qO (show q.2.2.length + 1 ≤ 1000000000 by omega) (by decide)) ?_;refine qF [11] ?_;refine qS ?_;exact ⟨i + 1,⟨rfl,rfl⟩,qP trivial ⟨rfl,rfl,(by rw [eS];try exact rfl),qU (by rw [eS]),rfl,rfl,rfl,qR (by rw [eS];try exact rfl)⟩ rfl⟩
      refine zai ?_ ?_
      ·refine qF [0,5,7] ?_;refine zai ?_ ?_
       ·refine qF [5,7] ?_;refine zai ?_ ?_
        ·refine Or.inr (Or.inl (zei [] (zei [4,3] (zei _ (zei _ (zei _ (zei _ (zei _ (zai (qY q.1 (T.getD (T.length - 1 - i) (((0 : Int),(0 : Int),([] : List Fld)),([] : List Fld),(0 : Int))).1.2.1) (zai rfl (zai (zai (zai rfl rfl) (zai (zai rfl rfl) True.intro)) (zai rfl ?_))))))))))));refine qF [7] ?_;refine qF [8] ?_;refine qF [9] ?_;refine qF [10] ?_;refine zai (by exact qO (show q.2.2.length + 1 ≤ 1000000000 by omega) (by decide)) ?_;refine qF [11] ?_;refine qS ?_;exact ⟨i + 1,⟨rfl,rfl⟩,qP trivial ⟨rfl,rfl,(by rw [eS];try exact rfl),qU (by rw [eS]),rfl,rfl,rfl,qR (by rw [eS];try exact rfl)⟩ rfl⟩
        ·refine qF [5] ?_;refine Or.inr (Or.inl (zei [] (zei [4,3] (zei _ (zei _ (zei _ (zei _ (zei _ (zai (qY q.1 (T.getD (T.length - 1 - i) (((0 : Int),(0 : Int),([] : List Fld)),([] : List Fld),(0 : Int))).1.2.1) (zai rfl (zai (zai (zai rfl rfl) (zai (zai rfl rfl) True.intro)) (zai rfl ?_))))))))))));refine qF [8] ?_;refine qF [9] ?_;refine qF [10] ?_;refine zai (by exact qO (show q.2.2.length + 1 ≤ 1000000000 by omega) (by decide)) ?_;refine qF [11] ?_;refine qS ?_;exact ⟨i + 1,⟨rfl,rfl⟩,qP trivial ⟨rfl,rfl,(by rw [eS];try exact rfl),qU (by rw [eS]),rfl,rfl,rfl,qR (by rw [eS];try exact rfl)⟩ rfl⟩
       refine zai ?_ ?_
       ·refine Or.inr (Or.inl (zei [] (zei [4,3] (zei _ (zei _ (zei _ (zei _ (zei _ (zai (qY q.1 (T.getD (T.length - 1 - i) (((0 : Int),(0 : Int),([] : List Fld)),([] : List Fld),(0 : Int))).1.2.1) (zai rfl (zai (zai (zai rfl rfl) (zai (zai rfl rfl) True.intro)) (zai rfl ?_))))))))))));refine qF [0,7] ?_;refine zai ?_ ?_
        ·refine qF [7] ?_;refine qF [8] ?_;refine qF [9] ?_;refine qF [10] ?_;refine zai (by exact qO (show q.2.2.length + 1 ≤ 1000000000 by omega) (by decide)) ?_;refine qF [11] ?_;refine qS ?_;exact ⟨i + 1,⟨rfl,rfl⟩,qP trivial ⟨rfl,rfl,(by rw [eS];try exact rfl),qU (by rw [eS]),rfl,rfl,rfl,qR (by rw [eS];try exact rfl)⟩ rfl⟩
        ·refine qF [0,8] ?_;refine zai ?_ ?_
         ·refine qF [8] ?_;refine qF [9] ?_;refine qF [10] ?_;refine zai (by exact qO (show q.2.2.length + 1 ≤ 1000000000 by omega) (by decide)) ?_;refine qF [11] ?_;refine qS ?_;exact ⟨i + 1,⟨rfl,rfl⟩,qP trivial ⟨rfl,rfl,(by rw [eS];try exact rfl),qU (by rw [eS]),rfl,rfl,rfl,qR (by rw [eS];try exact rfl)⟩ rfl⟩
         ·refine qF [0,9] ?_;refine zai ?_ ?_
          ·refine qF [9] ?_;refine qF [10] ?_;refine zai (by exact qO (show q.2.2.length + 1 ≤ 1000000000 by omega) (by decide)) ?_;refine qF [11] ?_;refine qS ?_;exact ⟨i + 1,⟨rfl,rfl⟩,qP trivial ⟨rfl,rfl,(by rw [eS];try exact rfl),qU (by rw [eS]),rfl,rfl,rfl,qR (by rw [eS];try exact rfl)⟩ rfl⟩
          ·refine qF [0] ?_;refine qF [10] ?_;refine zai (by exact qO (show q.2.2.length + 1 ≤ 1000000000 by omega) (by decide)) ?_;refine qF [11] ?_;refine qS ?_;exact ⟨i + 1,⟨rfl,rfl⟩,qP trivial ⟨rfl,rfl,(by rw [eS];try exact rfl),qU (by rw [eS]),rfl,rfl,rfl,qR (by rw [eS];try exact rfl)⟩ rfl⟩
       ·refine qF [0,5] ?_;refine zai ?_ ?_
        ·refine qF [5] ?_;refine Or.inr (Or.inl (zei [] (zei [4,3] (zei _ (zei _ (zei _ (zei _ (zei _ (zai (qY q.1 (T.getD (T.length - 1 - i) (((0 : Int),(0 : Int),([] : List Fld)),([] : List Fld),(0 : Int))).1.2.1) (zai rfl (zai (zai (zai rfl rfl) (zai (zai rfl rfl) True.intro)) (zai rfl ?_))))))))))));refine qF [8] ?_;refine qF [9] ?_;refine qF [10] ?_;refine zai (by exact qO (show q.2.2.length + 1 ≤ 1000000000 by omega) (by decide)) ?_;refine qF [11] ?_;refine qS ?_;exact ⟨i + 1,⟨rfl,rfl⟩,qP trivial ⟨rfl,rfl,(by rw [eS];try exact rfl),qU (by rw [eS]),rfl,rfl,rfl,qR (by rw [eS];try exact rfl)⟩ rfl⟩
        ·refine Or.inr (Or.inl (zei [] (zei [4,3] (zei _ (zei _ (zei _ (zei _ (zei _ (zai (qY q.1 (T.getD (T.length - 1 - i) (((0 : Int),(0 : Int),([] : List Fld)),([] : List Fld),(0 : Int))).1.2.1) (zai rfl (zai (zai (zai rfl rfl) (zai (zai rfl rfl) True.intro)) (zai rfl ?_))))))))))));refine qF [0,8] ?_;refine zai ?_ ?_
         ·refine qF [8] ?_;refine qF [9] ?_;refine qF [10] ?_;refine zai (by exact qO (show q.2.2.length + 1 ≤ 1000000000 by omega) (by decide)) ?_;refine qF [11] ?_;refine qS ?_;exact ⟨i + 1,⟨rfl,rfl⟩,qP trivial ⟨rfl,rfl,(by rw [eS];try exact rfl),qU (by rw [eS]),rfl,rfl,rfl,qR (by rw [eS];try exact rfl)⟩ rfl⟩
         ·refine qF [0,9] ?_;refine zai ?_ ?_
          ·refine qF [9] ?_;refine qF [10] ?_;refine zai (by exact qO (show q.2.2.length + 1 ≤ 1000000000 by omega) (by decide)) ?_;refine qF [11] ?_;refine qS ?_;exact ⟨i + 1,⟨rfl,rfl⟩,qP trivial ⟨rfl,rfl,(by rw [eS];try exact rfl),qU (by rw [eS]),rfl,rfl,rfl,qR (by rw [eS];try exact rfl)⟩ rfl⟩
          ·refine qF [0] ?_;refine qF [10] ?_;refine zai (by exact qO (show q.2.2.length + 1 ≤ 1000000000 by omega) (by decide)) ?_;refine qF [11] ?_;refine qS ?_;exact ⟨i + 1,⟨rfl,rfl⟩,qP trivial ⟨rfl,rfl,(by rw [eS];try exact rfl),qU (by rw [eS]),rfl,rfl,rfl,qR (by rw [eS];try exact rfl)⟩ rfl⟩
      ·refine qF [0,1] ?_;refine zai ?_ ?_
       ·refine qF [1] ?_;refine qF [5] ?_;refine Or.inr (Or.inl (zei [] (zei [4,3] (zei _ (zei _ (zei _ (zei _ (zei _ (zai (qY q.1 (T.getD (T.length - 1 - i) (((0 : Int),(0 : Int),([] : List Fld)),([] : List Fld),(0 : Int))).1.2.1) (zai rfl (zai (zai (zai rfl rfl) (zai (zai rfl rfl) True.intro)) (zai rfl ?_))))))))))));refine qF [8] ?_;refine qF [9] ?_;refine qF [10] ?_;refine zai (by exact qO (show q.2.2.length + 1 ≤ 1000000000 by omega) (by decide)) ?_;refine qF [11] ?_;refine qS ?_;exact ⟨i + 1,⟨rfl,rfl⟩,qP trivial ⟨rfl,rfl,(by rw [eS];try exact rfl),qU (by rw [eS]),rfl,rfl,rfl,qR (by rw [eS];try exact rfl)⟩ rfl⟩
       ·refine qF [0,5] ?_;refine zai ?_ ?_
        ·refine qF [5] ?_;refine Or.inr (Or.inl (zei [] (zei [4,3] (zei _ (zei _ (zei _ (zei _ (zei _ (zai (qY q.1 (T.getD (T.length - 1 - i) (((0 : Int),(0 : Int),([] : List Fld)),([] : List Fld),(0 : Int))).1.2.1) (zai rfl (zai (zai (zai rfl rfl) (zai (zai rfl rfl) True.intro)) (zai rfl ?_))))))))))));refine qF [8] ?_;refine qF [9] ?_;refine qF [10] ?_;refine zai (by exact qO (show q.2.2.length + 1 ≤ 1000000000 by omega) (by decide)) ?_;refine qF [11] ?_;refine qS ?_;exact ⟨i + 1,⟨rfl,rfl⟩,qP trivial ⟨rfl,rfl,(by rw [eS];try exact rfl),qU (by rw [eS]),rfl,rfl,rfl,qR (by rw [eS];try exact rfl)⟩ rfl⟩
        ·refine Or.inr (Or.inl (zei [] (zei [4,3] (zei _ (zei _ (zei _ (zei _ (zei _ (zai (qY q.1 (T.getD (T.length - 1 - i) (((0 : Int),(0 : Int),([] : List Fld)),([] : List Fld),(0 : Int))).1.2.1) (zai rfl (zai (zai (zai rfl rfl) (zai (zai rfl rfl) True.intro)) (zai rfl ?_))))))))))));refine qF [0,8] ?_;refine zai ?_ ?_
         ·refine qF [8] ?_;refine qF [9] ?_;refine qF [10] ?_;refine zai (by exact qO (show q.2.2.length + 1 ≤ 1000000000 by omega) (by decide)) ?_;refine qF [11] ?_;refine qS ?_;exact ⟨i + 1,⟨rfl,rfl⟩,qP trivial ⟨rfl,rfl,(by rw [eS];try exact rfl),qU (by rw [eS]),rfl,rfl,rfl,qR (by rw [eS];try exact rfl)⟩ rfl⟩
         ·refine qF [0,9] ?_;refine zai ?_ ?_
          ·refine qF [9] ?_;refine qF [10] ?_;refine zai (by exact qO (show q.2.2.length + 1 ≤ 1000000000 by omega) (by decide)) ?_;refine qF [11] ?_;refine qS ?_;exact ⟨i + 1,⟨rfl,rfl⟩,qP trivial ⟨rfl,rfl,(by rw [eS];try exact rfl),qU (by rw [eS]),rfl,rfl,rfl,qR (by rw [eS];try exact rfl)⟩ rfl⟩
          ·refine qF [0] ?_;refine qF [10] ?_;refine zai (by exact qO (show q.2.2.length + 1 ≤ 1000000000 by omega) (by decide)) ?_;refine qF [11] ?_;refine qS ?_;exact ⟨i + 1,⟨rfl,rfl⟩,qP trivial ⟨rfl,rfl,(by rw [eS];try exact rfl),qU (by rw [eS]),rfl,rfl,rfl,qR (by rw [eS];try exact rfl)⟩ rfl⟩
     ·refine qF [0,1,4] ?_;refine zai ?_ ?_
      ·refine qF [1,4] ?_;refine zai ?_ ?_
       ·refine qF [4] ?_;refine qF [5] ?_;refine Or.inr (Or.inl (zei [] (zei [4,3] (zei _ (zei _ (zei _ (zei _ (zei _ (zai (qY q.1 (T.getD (T.length - 1 - i) (((0 : Int),(0 : Int),([] : List Fld)),([] : List Fld),(0 : Int))).1.2.1) (zai rfl (zai (zai (zai rfl rfl) (zai (zai rfl rfl) True.intro)) (zai rfl ?_))))))))))));refine qF [8] ?_;refine qF [9] ?_;refine qF [10] ?_;refine zai (by exact qO (show q.2.2.length + 1 ≤ 1000000000 by omega) (by decide)) ?_;refine qF [11] ?_;refine qS ?_;exact ⟨i + 1,⟨rfl,rfl⟩,qP trivial ⟨rfl,rfl,(by rw [eS];try exact rfl),qU (by rw [eS]),rfl,rfl,rfl,qR (by rw [eS];try exact rfl)⟩ rfl⟩
       ·refine qF [1] ?_;refine qF [5] ?_;refine Or.inr (Or.inl (zei [] (zei [4,3] (zei _ (zei _ (zei _ (zei _ (zei _ (zai (qY q.1 (T.getD (T.length - 1 - i) (((0 : Int),(0 : Int),([] : List Fld)),([] : List Fld),(0 : Int))).1.2.1) (zai rfl (zai (zai (zai rfl rfl) (zai (zai rfl rfl) True.intro)) (zai rfl ?_))))))))))));refine qF [8] ?_;refine qF [9] ?_;refine qF [10] ?_;refine zai (by exact qO (show q.2.2.length + 1 ≤ 1000000000 by omega) (by decide)) ?_;refine qF [11] ?_;refine qS ?_;exact ⟨i + 1,⟨rfl,rfl⟩,qP trivial ⟨rfl,rfl,(by rw [eS];try exact rfl),qU (by rw [eS]),rfl,rfl,rfl,qR (by rw [eS];try exact rfl)⟩ rfl⟩
      refine zai ?_ ?_
      ·refine qF [0,4] ?_;refine zai ?_ ?_
       ·refine qF [4] ?_;refine qF [5] ?_;refine Or.inr (Or.inl (zei [] (zei [4,3] (zei _ (zei _ (zei _ (zei _ (zei _ (zai (qY q.1 (T.getD (T.length - 1 - i) (((0 : Int),(0 : Int),([] : List Fld)),([] : List Fld),(0 : Int))).1.2.1) (zai rfl (zai (zai (zai rfl rfl) (zai (zai rfl rfl) True.intro)) (zai rfl ?_))))))))))));refine qF [8] ?_;refine qF [9] ?_;refine qF [10] ?_;refine zai (by exact qO (show q.2.2.length + 1 ≤ 1000000000 by omega) (by decide)) ?_;refine qF [11] ?_;refine qS ?_;exact ⟨i + 1,⟨rfl,rfl⟩,qP trivial ⟨rfl,rfl,(by rw [eS];try exact rfl),qU (by rw [eS]),rfl,rfl,rfl,qR (by rw [eS];try exact rfl)⟩ rfl⟩
       ·refine qF [0,5] ?_;refine zai ?_ ?_
        ·refine qF [5] ?_;refine Or.inr (Or.inl (zei [] (zei [4,3] (zei _ (zei _ (zei _ (zei _ (zei _ (zai (qY q.1 (T.getD (T.length - 1 - i) (((0 : Int),(0 : Int),([] : List Fld)),([] : List Fld),(0 : Int))).1.2.1) (zai rfl (zai (zai (zai rfl rfl) (zai (zai rfl rfl) True.intro)) (zai rfl ?_))))))))))));refine qF [8] ?_;refine qF [9] ?_;refine qF [10] ?_;refine zai (by exact qO (show q.2.2.length + 1 ≤ 1000000000 by omega) (by decide)) ?_;refine qF [11] ?_;refine qS ?_;exact ⟨i + 1,⟨rfl,rfl⟩,qP trivial ⟨rfl,rfl,(by rw [eS];try exact rfl),qU (by rw [eS]),rfl,rfl,rfl,qR (by rw [eS];try exact rfl)⟩ rfl⟩
        ·refine Or.inr (Or.inl (zei [] (zei [4,3] (zei _ (zei _ (zei _ (zei _ (zei _ (zai (qY q.1 (T.getD (T.length - 1 - i) (((0 : Int),(0 : Int),([] : List Fld)),([] : List Fld),(0 : Int))).1.2.1) (zai rfl (zai (zai (zai rfl rfl) (zai (zai rfl rfl) True.intro)) (zai rfl ?_))))))))))));refine qF [0,8] ?_;refine zai ?_ ?_
         ·refine qF [8] ?_;refine qF [9] ?_;refine qF [10] ?_;refine zai (by exact qO (show q.2.2.length + 1 ≤ 1000000000 by omega) (by decide)) ?_;refine qF [11] ?_;refine qS ?_;exact ⟨i + 1,⟨rfl,rfl⟩,qP trivial ⟨rfl,rfl,(by rw [eS];try exact rfl),qU (by rw [eS]),rfl,rfl,rfl,qR (by rw [eS];try exact rfl)⟩ rfl⟩
         ·refine qF [0,9] ?_;refine zai ?_ ?_
          ·refine qF [9] ?_;refine qF [10] ?_;refine zai (by exact qO (show q.2.2.length + 1 ≤ 1000000000 by omega) (by decide)) ?_;refine qF [11] ?_;refine qS ?_;exact ⟨i + 1,⟨rfl,rfl⟩,qP trivial ⟨rfl,rfl,(by rw [eS];try exact rfl),qU (by rw [eS]),rfl,rfl,rfl,qR (by rw [eS];try exact rfl)⟩ rfl⟩
          ·refine qF [0] ?_;refine qF [10] ?_;refine zai (by exact qO (show q.2.2.length + 1 ≤ 1000000000 by omega) (by decide)) ?_;refine qF [11] ?_;refine qS ?_;exact ⟨i + 1,⟨rfl,rfl⟩,qP trivial ⟨rfl,rfl,(by rw [eS];try exact rfl),qU (by rw [eS]),rfl,rfl,rfl,qR (by rw [eS];try exact rfl)⟩ rfl⟩
      ·refine qF [0,1] ?_;refine zai ?_ ?_
       ·refine qF [1] ?_;refine qF [5] ?_;refine Or.inr (Or.inl (zei [] (zei [4,3] (zei _ (zei _ (zei _ (zei _ (zei _ (zai (qY q.1 (T.getD (T.length - 1 - i) (((0 : Int),(0 : Int),([] : List Fld)),([] : List Fld),(0 : Int))).1.2.1) (zai rfl (zai (zai (zai rfl rfl) (zai (zai rfl rfl) True.intro)) (zai rfl ?_))))))))))));refine qF [8] ?_;refine qF [9] ?_;refine qF [10] ?_;refine zai (by exact qO (show q.2.2.length + 1 ≤ 1000000000 by omega) (by decide)) ?_;refine qF [11] ?_;refine qS ?_;exact ⟨i + 1,⟨rfl,rfl⟩,qP trivial ⟨rfl,rfl,(by rw [eS];try exact rfl),qU (by rw [eS]),rfl,rfl,rfl,qR (by rw [eS];try exact rfl)⟩ rfl⟩
       ·refine qF [0,5] ?_;refine zai ?_ ?_
        ·refine qF [5] ?_;refine Or.inr (Or.inl (zei [] (zei [4,3] (zei _ (zei _ (zei _ (zei _ (zei _ (zai (qY q.1 (T.getD (T.length - 1 - i) (((0 : Int),(0 : Int),([] : List Fld)),([] : List Fld),(0 : Int))).1.2.1) (zai rfl (zai (zai (zai rfl rfl) (zai (zai rfl rfl) True.intro)) (zai rfl ?_))))))))))));refine qF [8] ?_;refine qF [9] ?_;refine qF [10] ?_;refine zai (by exact qO (show q.2.2.length + 1 ≤ 1000000000 by omega) (by decide)) ?_;refine qF [11] ?_;refine qS ?_;exact ⟨i + 1,⟨rfl,rfl⟩,qP trivial ⟨rfl,rfl,(by rw [eS];try exact rfl),qU (by rw [eS]),rfl,rfl,rfl,qR (by rw [eS];try exact rfl)⟩ rfl⟩
        ·refine Or.inr (Or.inl (zei [] (zei [4,3] (zei _ (zei _ (zei _ (zei _ (zei _ (zai (qY q.1 (T.getD (T.length - 1 - i) (((0 : Int),(0 : Int),([] : List Fld)),([] : List Fld),(0 : Int))).1.2.1) (zai rfl (zai (zai (zai rfl rfl) (zai (zai rfl rfl) True.intro)) (zai rfl ?_))))))))))));refine qF [0,8] ?_;refine zai ?_ ?_
         ·refine qF [8] ?_;refine qF [9] ?_;refine qF [10] ?_;refine zai (by exact qO (show q.2.2.length + 1 ≤ 1000000000 by omega) (by decide)) ?_;refine qF [11] ?_;refine qS ?_;exact ⟨i + 1,⟨rfl,rfl⟩,qP trivial ⟨rfl,rfl,(by rw [eS];try exact rfl),qU (by rw [eS]),rfl,rfl,rfl,qR (by rw [eS];try exact rfl)⟩ rfl⟩
         ·refine qF [0,9] ?_;refine zai ?_ ?_
          ·refine qF [9] ?_;refine qF [10] ?_;refine zai (by exact qO (show q.2.2.length + 1 ≤ 1000000000 by omega) (by decide)) ?_;refine qF [11] ?_;refine qS ?_;exact ⟨i + 1,⟨rfl,rfl⟩,qP trivial ⟨rfl,rfl,(by rw [eS];try exact rfl),qU (by rw [eS]),rfl,rfl,rfl,qR (by rw [eS];try exact rfl)⟩ rfl⟩
          ·refine qF [0] ?_;refine qF [10] ?_;refine zai (by exact qO (show q.2.2.length + 1 ≤ 1000000000 by omega) (by decide)) ?_;refine qF [11] ?_;refine qS ?_;exact ⟨i + 1,⟨rfl,rfl⟩,qP trivial ⟨rfl,rfl,(by rw [eS];try exact rfl),qU (by rw [eS]),rfl,rfl,rfl,qR (by rw [eS];try exact rfl)⟩ rfl⟩
    ·try simp only [decide_eq_false_iff_not] at h47
     try simp only [zds] at h47
     refine qB ?_;refine qK rfl (fun h60=>?_) (fun h60=>?_)
     ·try simp only [decide_eq_true_eq] at h60
      try simp only [zds] at h60
      rw [bkS2 q h60] at eS;refine qJ ?_;refine yK rfl ?_;refine qN 2 rfl ?_;refine qN 5 rfl ?_;refine qF [0,1,3,6] ?_;refine zai ?_ ?_
      ·refine qF [1,3,6] ?_;refine zai ?_ ?_
       ·refine qF [3,6] ?_;refine zai ?_ ?_
        ·refine qF [4,6] ?_;refine zai ?_ ?_
         ·refine Or.inr (Or.inl (zei [] (zei [4,3] (zei _ (zei _ (zei _ (zei _ (zei _ (zai (qY q.1 (T.getD (T.length - 1 - i) (((0 : Int),(0 : Int),([] : List Fld)),([] : List Fld),(0 : Int))).2.2) (zai rfl (zai (zai (zai rfl rfl) (zai (zai rfl rfl) True.intro)) (zai rfl ?_))))))))))));refine qF [6] ?_;refine qF [7] ?_;refine qF [8] ?_;refine qF [9] ?_;refine zai (by exact qO (show q.2.2.length + 1 ≤ 1000000000 by omega) (by decide)) ?_;refine qF [10] ?_;refine qS ?_;refine qB ?_;refine qI ?_;refine zai (by omega) ?_;exact ⟨i + 1,⟨rfl,rfl⟩,qP trivial ⟨rfl,rfl,(by rw [eS];try exact rfl),qU (by rw [eS]),rfl,rfl,rfl,qR (by rw [eS];try exact rfl)⟩ rfl⟩
         ·refine qF [4] ?_;refine Or.inr (Or.inl (zei [] (zei [4,3] (zei _ (zei _ (zei _ (zei _ (zei _ (zai (qY q.1 (T.getD (T.length - 1 - i) (((0 : Int),(0 : Int),([] : List Fld)),([] : List Fld),(0 : Int))).2.2) (zai rfl (zai (zai (zai rfl rfl) (zai (zai rfl rfl) True.intro)) (zai rfl ?_))))))))))));refine qF [7] ?_;refine qF [8] ?_;refine qF [9] ?_;refine zai (by exact qO (show q.2.2.length + 1 ≤ 1000000000 by omega) (by decide)) ?_;refine qF [10] ?_;refine qS ?_;refine qB ?_;refine qI ?_;refine zai (by omega) ?_;exact ⟨i + 1,⟨rfl,rfl⟩,qP trivial ⟨rfl,rfl,(by rw [eS];try exact rfl),qU (by rw [eS]),rfl,rfl,rfl,qR (by rw [eS];try exact rfl)⟩ rfl⟩
        ·refine qF [3] ?_;refine qF [4] ?_;refine Or.inr (Or.inl (zei [] (zei [4,3] (zei _ (zei _ (zei _ (zei _ (zei _ (zai (qY q.1 (T.getD (T.length - 1 - i) (((0 : Int),(0 : Int),([] : List Fld)),([] : List Fld),(0 : Int))).2.2) (zai rfl (zai (zai (zai rfl rfl) (zai (zai rfl rfl) True.intro)) (zai rfl ?_))))))))))));refine qF [7] ?_;refine qF [8] ?_;refine qF [9] ?_;refine zai (by exact qO (show q.2.2.length + 1 ≤ 1000000000 by omega) (by decide)) ?_;refine qF [10] ?_;refine qS ?_;refine qB ?_;refine qI ?_;refine zai (by omega) ?_;exact ⟨i + 1,⟨rfl,rfl⟩,qP trivial ⟨rfl,rfl,(by rw [eS];try exact rfl),qU (by rw [eS]),rfl,rfl,rfl,qR (by rw [eS];try exact rfl)⟩ rfl⟩
       refine zai ?_ ?_
       ·refine qF [1,6] ?_;refine zai ?_ ?_
        ·refine qF [4,6] ?_;refine zai ?_ ?_
         ·refine Or.inr (Or.inl (zei [] (zei [4,3] (zei _ (zei _ (zei _ (zei _ (zei _ (zai (qY q.1 (T.getD (T.length - 1 - i) (((0 : Int),(0 : Int),([] : List Fld)),([] : List Fld),(0 : Int))).2.2) (zai rfl (zai (zai (zai rfl rfl) (zai (zai rfl rfl) True.intro)) (zai rfl ?_))))))))))));refine qF [6] ?_;refine qF [7] ?_;refine qF [8] ?_;refine qF [9] ?_;refine zai (by exact qO (show q.2.2.length + 1 ≤ 1000000000 by omega) (by decide)) ?_;refine qF [10] ?_;refine qS ?_;refine qB ?_;refine qI ?_;refine zai (by omega) ?_;exact ⟨i + 1,⟨rfl,rfl⟩,qP trivial ⟨rfl,rfl,(by rw [eS];try exact rfl),qU (by rw [eS]),rfl,rfl,rfl,qR (by rw [eS];try exact rfl)⟩ rfl⟩
         ·refine qF [4] ?_;refine Or.inr (Or.inl (zei [] (zei [4,3] (zei _ (zei _ (zei _ (zei _ (zei _ (zai (qY q.1 (T.getD (T.length - 1 - i) (((0 : Int),(0 : Int),([] : List Fld)),([] : List Fld),(0 : Int))).2.2) (zai rfl (zai (zai (zai rfl rfl) (zai (zai rfl rfl) True.intro)) (zai rfl ?_))))))))))));refine qF [7] ?_;refine qF [8] ?_;refine qF [9] ?_;refine zai (by exact qO (show q.2.2.length + 1 ≤ 1000000000 by omega) (by decide)) ?_;refine qF [10] ?_;refine qS ?_;refine qB ?_;refine qI ?_;refine zai (by omega) ?_;exact ⟨i + 1,⟨rfl,rfl⟩,qP trivial ⟨rfl,rfl,(by rw [eS];try exact rfl),qU (by rw [eS]),rfl,rfl,rfl,qR (by rw [eS];try exact rfl)⟩ rfl⟩
        ·refine qF [1] ?_;refine qF [4] ?_;refine Or.inr (Or.inl (zei [] (zei [4,3] (zei _ (zei _ (zei _ (zei _ (zei _ (zai (qY q.1 (T.getD (T.length - 1 - i) (((0 : Int),(0 : Int),([] : List Fld)),([] : List Fld),(0 : Int))).2.2) (zai rfl (zai (zai (zai rfl rfl) (zai (zai rfl rfl) True.intro)) (zai rfl ?_))))))))))));refine qF [7] ?_;refine qF [8] ?_;refine qF [9] ?_;refine zai (by exact qO (show q.2.2.length + 1 ≤ 1000000000 by omega) (by decide)) ?_;refine qF [10] ?_;refine qS ?_;refine qB ?_;refine qI ?_;refine zai (by omega) ?_;exact ⟨i + 1,⟨rfl,rfl⟩,qP trivial ⟨rfl,rfl,(by rw [eS];try exact rfl),qU (by rw [eS]),rfl,rfl,rfl,qR (by rw [eS];try exact rfl)⟩ rfl⟩
       ·refine qF [1,3] ?_;refine zai ?_ ?_
        ·refine qF [3] ?_;refine qF [4] ?_;refine Or.inr (Or.inl (zei [] (zei [4,3] (zei _ (zei _ (zei _ (zei _ (zei _ (zai (qY q.1 (T.getD (T.length - 1 - i) (((0 : Int),(0 : Int),([] : List Fld)),([] : List Fld),(0 : Int))).2.2) (zai rfl (zai (zai (zai rfl rfl) (zai (zai rfl rfl) True.intro)) (zai rfl ?_))))))))))));refine qF [7] ?_;refine qF [8] ?_;refine qF [9] ?_;refine zai (by exact qO (show q.2.2.length + 1 ≤ 1000000000 by omega) (by decide)) ?_;refine qF [10] ?_;refine qS ?_;refine qB ?_;refine qI ?_;refine zai (by omega) ?_;exact ⟨i + 1,⟨rfl,rfl⟩,qP trivial ⟨rfl,rfl,(by rw [eS];try exact rfl),qU (by rw [eS]),rfl,rfl,rfl,qR (by rw [eS];try exact rfl)⟩ rfl⟩
        ·refine qF [1] ?_;refine qF [4] ?_;refine Or.inr (Or.inl (zei [] (zei [4,3] (zei _ (zei _ (zei _ (zei _ (zei _ (zai (qY q.1 (T.getD (T.length - 1 - i) (((0 : Int),(0 : Int),([] : List Fld)),([] : List Fld),(0 : Int))).2.2) (zai rfl (zai (zai (zai rfl rfl) (zai (zai rfl rfl) True.intro)) (zai rfl ?_))))))))))));refine qF [7] ?_;refine qF [8] ?_;refine qF [9] ?_;refine zai (by exact qO (show q.2.2.length + 1 ≤ 1000000000 by omega) (by decide)) ?_;refine qF [10] ?_;refine qS ?_;refine qB ?_;refine qI ?_;refine zai (by omega) ?_;exact ⟨i + 1,⟨rfl,rfl⟩,qP trivial ⟨rfl,rfl,(by rw [eS];try exact rfl),qU (by rw [eS]),rfl,rfl,rfl,qR (by rw [eS];try exact rfl)⟩ rfl⟩
      refine zai ?_ ?_
      ·refine qF [0,3,6] ?_;refine zai ?_ ?_
       ·refine qF [3,6] ?_;refine zai ?_ ?_
        ·refine qF [4,6] ?_;refine zai ?_ ?_
         ·refine Or.inr (Or.inl (zei [] (zei [4,3] (zei _ (zei _ (zei _ (zei _ (zei _ (zai (qY q.1 (T.getD (T.length - 1 - i) (((0 : Int),(0 : Int),([] : List Fld)),([] : List Fld),(0 : Int))).2.2) (zai rfl (zai (zai (zai rfl rfl) (zai (zai rfl rfl) True.intro)) (zai rfl ?_))))))))))));refine qF [6] ?_;refine qF [7] ?_;refine qF [8] ?_;refine qF [9] ?_;refine zai (by exact qO (show q.2.2.length + 1 ≤ 1000000000 by omega) (by decide)) ?_;refine qF [10] ?_;refine qS ?_;refine qB ?_;refine qI ?_;refine zai (by omega) ?_;exact ⟨i + 1,⟨rfl,rfl⟩,qP trivial ⟨rfl,rfl,(by rw [eS];try exact rfl),qU (by rw [eS]),rfl,rfl,rfl,qR (by rw [eS];try exact rfl)⟩ rfl⟩
         ·refine qF [4] ?_;refine Or.inr (Or.inl (zei [] (zei [4,3] (zei _ (zei _ (zei _ (zei _ (zei _ (zai (qY q.1 (T.getD (T.length - 1 - i) (((0 : Int),(0 : Int),([] : List Fld)),([] : List Fld),(0 : Int))).2.2) (zai rfl (zai (zai (zai rfl rfl) (zai (zai rfl rfl) True.intro)) (zai rfl ?_))))))))))));refine qF [7] ?_;refine qF [8] ?_;refine qF [9] ?_;refine zai (by exact qO (show q.2.2.length + 1 ≤ 1000000000 by omega) (by decide)) ?_;refine qF [10] ?_;refine qS ?_;refine qB ?_;refine qI ?_;refine zai (by omega) ?_;exact ⟨i + 1,⟨rfl,rfl⟩,qP trivial ⟨rfl,rfl,(by rw [eS];try exact rfl),qU (by rw [eS]),rfl,rfl,rfl,qR (by rw [eS];try exact rfl)⟩ rfl⟩
        ·refine qF [3] ?_;refine qF [4] ?_;refine Or.inr (Or.inl (zei [] (zei [4,3] (zei _ (zei _ (zei _ (zei _ (zei _ (zai (qY q.1 (T.getD (T.length - 1 - i) (((0 : Int),(0 : Int),([] : List Fld)),([] : List Fld),(0 : Int))).2.2) (zai rfl (zai (zai (zai rfl rfl) (zai (zai rfl rfl) True.intro)) (zai rfl ?_))))))))))));refine qF [7] ?_;refine qF [8] ?_;refine qF [9] ?_;refine zai (by exact qO (show q.2.2.length + 1 ≤ 1000000000 by omega) (by decide)) ?_;refine qF [10] ?_;refine qS ?_;refine qB ?_;refine qI ?_;refine zai (by omega) ?_;exact ⟨i + 1,⟨rfl,rfl⟩,qP trivial ⟨rfl,rfl,(by rw [eS];try exact rfl),qU (by rw [eS]),rfl,rfl,rfl,qR (by rw [eS];try exact rfl)⟩ rfl⟩
       refine zai ?_ ?_
       ·refine qF [0,4,6] ?_;refine zai ?_ ?_
        ·refine qF [4,6] ?_;refine zai ?_ ?_
         ·refine Or.inr (Or.inl (zei [] (zei [4,3] (zei _ (zei _ (zei _ (zei _ (zei _ (zai (qY q.1 (T.getD (T.length - 1 - i) (((0 : Int),(0 : Int),([] : List Fld)),([] : List Fld),(0 : Int))).2.2) (zai rfl (zai (zai (zai rfl rfl) (zai (zai rfl rfl) True.intro)) (zai rfl ?_))))))))))));refine qF [6] ?_;refine qF [7] ?_;refine qF [8] ?_;refine qF [9] ?_;refine zai (by exact qO (show q.2.2.length + 1 ≤ 1000000000 by omega) (by decide)) ?_;refine qF [10] ?_;refine qS ?_;refine qB ?_;refine qI ?_;refine zai (by omega) ?_;exact ⟨i + 1,⟨rfl,rfl⟩,qP trivial ⟨rfl,rfl,(by rw [eS];try exact rfl),qU (by rw [eS]),rfl,rfl,rfl,qR (by rw [eS];try exact rfl)⟩ rfl⟩
         ·refine qF [4] ?_;refine Or.inr (Or.inl (zei [] (zei [4,3] (zei _ (zei _ (zei _ (zei _ (zei _ (zai (qY q.1 (T.getD (T.length - 1 - i) (((0 : Int),(0 : Int),([] : List Fld)),([] : List Fld),(0 : Int))).2.2) (zai rfl (zai (zai (zai rfl rfl) (zai (zai rfl rfl) True.intro)) (zai rfl ?_))))))))))));refine qF [7] ?_;refine qF [8] ?_;refine qF [9] ?_;refine zai (by exact qO (show q.2.2.length + 1 ≤ 1000000000 by omega) (by decide)) ?_;refine qF [10] ?_;refine qS ?_;refine qB ?_;refine qI ?_;refine zai (by omega) ?_;exact ⟨i + 1,⟨rfl,rfl⟩,qP trivial ⟨rfl,rfl,(by rw [eS];try exact rfl),qU (by rw [eS]),rfl,rfl,rfl,qR (by rw [eS];try exact rfl)⟩ rfl⟩
        refine zai ?_ ?_
        ·refine Or.inr (Or.inl (zei [] (zei [4,3] (zei _ (zei _ (zei _ (zei _ (zei _ (zai (qY q.1 (T.getD (T.length - 1 - i) (((0 : Int),(0 : Int),([] : List Fld)),([] : List Fld),(0 : Int))).2.2) (zai rfl (zai (zai (zai rfl rfl) (zai (zai rfl rfl) True.intro)) (zai rfl ?_))))))))))));refine qF [0,6] ?_;refine zai ?_ ?_
         ·refine qF [6] ?_;refine qF [7] ?_;refine qF [8] ?_;refine qF [9] ?_;refine zai (by exact qO (show q.2.2.length + 1 ≤ 1000000000 by omega) (by decide)) ?_;refine qF [10] ?_;refine qS ?_;refine qB ?_;refine qI ?_;refine zai (by omega) ?_;exact ⟨i + 1,⟨rfl,rfl⟩,qP trivial ⟨rfl,rfl,(by rw [eS];try exact rfl),qU (by rw [eS]),rfl,rfl,rfl,qR (by rw [eS];try exact rfl)⟩ rfl⟩
         ·refine qF [0,7] ?_;refine zai ?_ ?_
          ·refine qF [7] ?_;refine qF [8] ?_;refine qF [9] ?_;refine zai (by exact qO (show q.2.2.length + 1 ≤ 1000000000 by omega) (by decide)) ?_;refine qF [10] ?_;refine qS ?_;refine qB ?_;refine qI ?_;refine zai (by omega) ?_;exact ⟨i + 1,⟨rfl,rfl⟩,qP trivial ⟨rfl,rfl,(by rw [eS];try exact rfl),qU (by rw [eS]),rfl,rfl,rfl,qR (by rw [eS];try exact rfl)⟩ rfl⟩
          ·refine qF [0,8] ?_;refine zai ?_ ?_
           ·refine qF [8] ?_;refine qF [9] ?_;refine zai (by exact qO (show q.2.2.length + 1 ≤ 1000000000 by omega) (by decide)) ?_;refine qF [10] ?_;refine qS ?_;refine qB ?_;refine qI ?_;refine zai (by omega) ?_;exact ⟨i + 1,⟨rfl,rfl⟩,qP trivial ⟨rfl,rfl,(by rw [eS];try exact rfl),qU (by rw [eS]),rfl,rfl,rfl,qR (by rw [eS];try exact rfl)⟩ rfl⟩
           ·refine qF [0] ?_;refine qF [9] ?_;refine zai (by exact qO (show q.2.2.length + 1 ≤ 1000000000 by omega) (by decide)) ?_;refine qF [10] ?_;refine qS ?_;refine qB ?_;refine qI ?_;refine zai (by omega) ?_;exact ⟨i + 1,⟨rfl,rfl⟩,qP trivial ⟨rfl,rfl,(by rw [eS];try exact rfl),qU (by rw [eS]),rfl,rfl,rfl,qR (by rw [eS];try exact rfl)⟩ rfl⟩
        ·refine qF [0,4] ?_;refine zai ?_ ?_
         ·refine qF [4] ?_;refine Or.inr (Or.inl (zei [] (zei [4,3] (zei _ (zei _ (zei _ (zei _ (zei _ (zai (qY q.1 (T.getD (T.length - 1 - i) (((0 : Int),(0 : Int),([] : List Fld)),([] : List Fld),(0 : Int))).2.2) (zai rfl (zai (zai (zai rfl rfl) (zai (zai rfl rfl) True.intro)) (zai rfl ?_))))))))))));refine qF [7] ?_;refine qF [8] ?_;refine qF [9] ?_;refine zai (by exact qO (show q.2.2.length + 1 ≤ 1000000000 by omega) (by decide)) ?_;refine qF [10] ?_;refine qS ?_;refine qB ?_;refine qI ?_;refine zai (by omega) ?_;exact ⟨i + 1,⟨rfl,rfl⟩,qP trivial ⟨rfl,rfl,(by rw [eS];try exact rfl),qU (by rw [eS]),rfl,rfl,rfl,qR (by rw [eS];try exact rfl)⟩ rfl⟩
         ·refine Or.inr (Or.inl (zei [] (zei [4,3] (zei _ (zei _ (zei _ (zei _ (zei _ (zai (qY q.1 (T.getD (T.length - 1 - i) (((0 : Int),(0 : Int),([] : List Fld)),([] : List Fld),(0 : Int))).2.2) (zai rfl (zai (zai (zai rfl rfl) (zai (zai rfl rfl) True.intro)) (zai rfl ?_))))))))))));refine qF [0,7] ?_;refine zai ?_ ?_
          ·refine qF [7] ?_;refine qF [8] ?_;refine qF [9] ?_;refine zai (by exact qO (show q.2.2.length + 1 ≤ 1000000000 by omega) (by decide)) ?_;refine qF [10] ?_;refine qS ?_;refine qB ?_;refine qI ?_;refine zai (by omega) ?_;exact ⟨i + 1,⟨rfl,rfl⟩,qP trivial ⟨rfl,rfl,(by rw [eS];try exact rfl),qU (by rw [eS]),rfl,rfl,rfl,qR (by rw [eS];try exact rfl)⟩ rfl⟩
          ·refine qF [0,8] ?_;refine zai ?_ ?_
           ·refine qF [8] ?_;refine qF [9] ?_;refine zai (by exact qO (show q.2.2.length + 1 ≤ 1000000000 by omega) (by decide)) ?_;refine qF [10] ?_;refine qS ?_;refine qB ?_;refine qI ?_;refine zai (by omega) ?_;exact ⟨i + 1,⟨rfl,rfl⟩,qP trivial ⟨rfl,rfl,(by rw [eS];try exact rfl),qU (by rw [eS]),rfl,rfl,rfl,qR (by rw [eS];try exact rfl)⟩ rfl⟩
           ·refine qF [0] ?_;refine qF [9] ?_;refine zai (by exact qO (show q.2.2.length + 1 ≤ 1000000000 by omega) (by decide)) ?_;refine qF [10] ?_;refine qS ?_;refine qB ?_;refine qI ?_;refine zai (by omega) ?_;exact ⟨i + 1,⟨rfl,rfl⟩,qP trivial ⟨rfl,rfl,(by rw [eS];try exact rfl),qU (by rw [eS]),rfl,rfl,rfl,qR (by rw [eS];try exact rfl)⟩ rfl⟩
       ·refine qF [0,3] ?_;refine zai ?_ ?_
        ·refine qF [3] ?_;refine qF [4] ?_;refine Or.inr (Or.inl (zei [] (zei [4,3] (zei _ (zei _ (zei _ (zei _ (zei _ (zai (qY q.1 (T.getD (T.length - 1 - i) (((0 : Int),(0 : Int),([] : List Fld)),([] : List Fld),(0 : Int))).2.2) (zai rfl (zai (zai (zai rfl rfl) (zai (zai rfl rfl) True.intro)) (zai rfl ?_))))))))))));refine qF [7] ?_;refine qF [8] ?_;refine qF [9] ?_;refine zai (by exact qO (show q.2.2.length + 1 ≤ 1000000000 by omega) (by decide)) ?_;refine qF [10] ?_;refine qS ?_;refine qB ?_;refine qI ?_;refine zai (by omega) ?_;exact ⟨i + 1,⟨rfl,rfl⟩,qP trivial ⟨rfl,rfl,(by rw [eS];try exact rfl),qU (by rw [eS]),rfl,rfl,rfl,qR (by rw [eS];try exact rfl)⟩ rfl⟩
        ·refine qF [0,4] ?_;refine zai ?_ ?_
         ·refine qF [4] ?_;refine Or.inr (Or.inl (zei [] (zei [4,3] (zei _ (zei _ (zei _ (zei _ (zei _ (zai (qY q.1 (T.getD (T.length - 1 - i) (((0 : Int),(0 : Int),([] : List Fld)),([] : List Fld),(0 : Int))).2.2) (zai rfl (zai (zai (zai rfl rfl) (zai (zai rfl rfl) True.intro)) (zai rfl ?_))))))))))));refine qF [7] ?_;refine qF [8] ?_;refine qF [9] ?_;refine zai (by exact qO (show q.2.2.length + 1 ≤ 1000000000 by omega) (by decide)) ?_;refine qF [10] ?_;refine qS ?_;refine qB ?_;refine qI ?_;refine zai (by omega) ?_;exact ⟨i + 1,⟨rfl,rfl⟩,qP trivial ⟨rfl,rfl,(by rw [eS];try exact rfl),qU (by rw [eS]),rfl,rfl,rfl,qR (by rw [eS];try exact rfl)⟩ rfl⟩
         ·refine Or.inr (Or.inl (zei [] (zei [4,3] (zei _ (zei _ (zei _ (zei _ (zei _ (zai (qY q.1 (T.getD (T.length - 1 - i) (((0 : Int),(0 : Int),([] : List Fld)),([] : List Fld),(0 : Int))).2.2) (zai rfl (zai (zai (zai rfl rfl) (zai (zai rfl rfl) True.intro)) (zai rfl ?_))))))))))));refine qF [0,7] ?_;refine zai ?_ ?_
          ·refine qF [7] ?_;refine qF [8] ?_;refine qF [9] ?_;refine zai (by exact qO (show q.2.2.length + 1 ≤ 1000000000 by omega) (by decide)) ?_;refine qF [10] ?_;refine qS ?_;refine qB ?_;refine qI ?_;refine zai (by omega) ?_;exact ⟨i + 1,⟨rfl,rfl⟩,qP trivial ⟨rfl,rfl,(by rw [eS];try exact rfl),qU (by rw [eS]),rfl,rfl,rfl,qR (by rw [eS];try exact rfl)⟩ rfl⟩
          ·refine qF [0,8] ?_;refine zai ?_ ?_
           ·refine qF [8] ?_;refine qF [9] ?_;refine zai (by exact qO (show q.2.2.length + 1 ≤ 1000000000 by omega) (by decide)) ?_;refine qF [10] ?_;refine qS ?_;refine qB ?_;refine qI ?_;refine zai (by omega) ?_;exact ⟨i + 1,⟨rfl,rfl⟩,qP trivial ⟨rfl,rfl,(by rw [eS];try exact rfl),qU (by rw [eS]),rfl,rfl,rfl,qR (by rw [eS];try exact rfl)⟩ rfl⟩
           ·refine qF [0] ?_;refine qF [9] ?_;refine zai (by exact qO (show q.2.2.length + 1 ≤ 1000000000 by omega) (by decide)) ?_;refine qF [10] ?_;refine qS ?_;refine qB ?_;refine qI ?_;refine zai (by omega) ?_;exact ⟨i + 1,⟨rfl,rfl⟩,qP trivial ⟨rfl,rfl,(by rw [eS];try exact rfl),qU (by rw [eS]),rfl,rfl,rfl,qR (by rw [eS];try exact rfl)⟩ rfl⟩
      refine zai ?_ ?_
      ·refine qF [0,1,6] ?_;refine zai ?_ ?_
       ·refine qF [1,6] ?_;refine zai ?_ ?_
        ·refine qF [4,6] ?_;refine zai ?_ ?_
         ·refine Or.inr (Or.inl (zei [] (zei [4,3] (zei _ (zei _ (zei _ (zei _ (zei _ (zai (qY q.1 (T.getD (T.length - 1 - i) (((0 : Int),(0 : Int),([] : List Fld)),([] : List Fld),(0 : Int))).2.2) (zai rfl (zai (zai (zai rfl rfl) (zai (zai rfl rfl) True.intro)) (zai rfl ?_))))))))))));refine qF [6] ?_;refine qF [7] ?_;refine qF [8] ?_;refine qF [9] ?_;refine zai (by exact qO (show q.2.2.length + 1 ≤ 1000000000 by omega) (by decide)) ?_;refine qF [10] ?_;refine qS ?_;refine qB ?_;refine qI ?_;refine zai (by omega) ?_;exact ⟨i + 1,⟨rfl,rfl⟩,qP trivial ⟨rfl,rfl,(by rw [eS];try exact rfl),qU (by rw [eS]),rfl,rfl,rfl,qR (by rw [eS];try exact rfl)⟩ rfl⟩
         ·refine qF [4] ?_;refine Or.inr (Or.inl (zei [] (zei [4,3] (zei _ (zei _ (zei _ (zei _ (zei _ (zai (qY q.1 (T.getD (T.length - 1 - i) (((0 : Int),(0 : Int),([] : List Fld)),([] : List Fld),(0 : Int))).2.2) (zai rfl (zai (zai (zai rfl rfl) (zai (zai rfl rfl) True.intro)) (zai rfl ?_))))))))))));refine qF [7] ?_;refine qF [8] ?_;refine qF [9] ?_;refine zai (by exact qO (show q.2.2.length + 1 ≤ 1000000000 by omega) (by decide)) ?_;refine qF [10] ?_;refine qS ?_;refine qB ?_;refine qI ?_;refine zai (by omega) ?_;exact ⟨i + 1,⟨rfl,rfl⟩,qP trivial ⟨rfl,rfl,(by rw [eS];try exact rfl),qU (by rw [eS]),rfl,rfl,rfl,qR (by rw [eS];try exact rfl)⟩ rfl⟩
        ·refine qF [1] ?_;refine qF [4] ?_;refine Or.inr (Or.inl (zei [] (zei [4,3] (zei _ (zei _ (zei _ (zei _ (zei _ (zai (qY q.1 (T.getD (T.length - 1 - i) (((0 : Int),(0 : Int),([] : List Fld)),([] : List Fld),(0 : Int))).2.2) (zai rfl (zai (zai (zai rfl rfl) (zai (zai rfl rfl) True.intro)) (zai rfl ?_))))))))))));refine qF [7] ?_;refine qF [8] ?_;refine qF [9] ?_;refine zai (by exact qO (show q.2.2.length + 1 ≤ 1000000000 by omega) (by decide)) ?_;refine qF [10] ?_;refine qS ?_;refine qB ?_;refine qI ?_;refine zai (by omega) ?_;exact ⟨i + 1,⟨rfl,rfl⟩,qP trivial ⟨rfl,rfl,(by rw [eS];try exact rfl),qU (by rw [eS]),rfl,rfl,rfl,qR (by rw [eS];try exact rfl)⟩ rfl⟩
       refine zai ?_ ?_
       ·refine qF [0,4,6] ?_;refine zai ?_ ?_
        ·refine qF [4,6] ?_;refine zai ?_ ?_
         ·refine Or.inr (Or.inl (zei [] (zei [4,3] (zei _ (zei _ (zei _ (zei _ (zei _ (zai (qY q.1 (T.getD (T.length - 1 - i) (((0 : Int),(0 : Int),([] : List Fld)),([] : List Fld),(0 : Int))).2.2) (zai rfl (zai (zai (zai rfl rfl) (zai (zai rfl rfl) True.intro)) (zai rfl ?_))))))))))));refine qF [6] ?_;refine qF [7] ?_;refine qF [8] ?_;refine qF [9] ?_;refine zai (by exact qO (show q.2.2.length + 1 ≤ 1000000000 by omega) (by decide)) ?_;refine qF [10] ?_;refine qS ?_;refine qB ?_;refine qI ?_;refine zai (by omega) ?_;exact ⟨i + 1,⟨rfl,rfl⟩,qP trivial ⟨rfl,rfl,(by rw [eS];try exact rfl),qU (by rw [eS]),rfl,rfl,rfl,qR (by rw [eS];try exact rfl)⟩ rfl⟩
         ·refine qF [4] ?_;refine Or.inr (Or.inl (zei [] (zei [4,3] (zei _ (zei _ (zei _ (zei _ (zei _ (zai (qY q.1 (T.getD (T.length - 1 - i) (((0 : Int),(0 : Int),([] : List Fld)),([] : List Fld),(0 : Int))).2.2) (zai rfl (zai (zai (zai rfl rfl) (zai (zai rfl rfl) True.intro)) (zai rfl ?_))))))))))));refine qF [7] ?_;refine qF [8] ?_;refine qF [9] ?_;refine zai (by exact qO (show q.2.2.length + 1 ≤ 1000000000 by omega) (by decide)) ?_;refine qF [10] ?_;refine qS ?_;refine qB ?_;refine qI ?_;refine zai (by omega) ?_;exact ⟨i + 1,⟨rfl,rfl⟩,qP trivial ⟨rfl,rfl,(by rw [eS];try exact rfl),qU (by rw [eS]),rfl,rfl,rfl,qR (by rw [eS];try exact rfl)⟩ rfl⟩
        refine zai ?_ ?_
        ·refine Or.inr (Or.inl (zei [] (zei [4,3] (zei _ (zei _ (zei _ (zei _ (zei _ (zai (qY q.1 (T.getD (T.length - 1 - i) (((0 : Int),(0 : Int),([] : List Fld)),([] : List Fld),(0 : Int))).2.2) (zai rfl (zai (zai (zai rfl rfl) (zai (zai rfl rfl) True.intro)) (zai rfl ?_))))))))))));refine qF [0,6] ?_;refine zai ?_ ?_
         ·refine qF [6] ?_;refine qF [7] ?_;refine qF [8] ?_;refine qF [9] ?_;refine zai (by exact qO (show q.2.2.length + 1 ≤ 1000000000 by omega) (by decide)) ?_;refine qF [10] ?_;refine qS ?_;refine qB ?_;refine qI ?_;refine zai (by omega) ?_;exact ⟨i + 1,⟨rfl,rfl⟩,qP trivial ⟨rfl,rfl,(by rw [eS];try exact rfl),qU (by rw [eS]),rfl,rfl,rfl,qR (by rw [eS];try exact rfl)⟩ rfl⟩
         ·refine qF [0,7] ?_;refine zai ?_ ?_
          ·refine qF [7] ?_;refine qF [8] ?_;refine qF [9] ?_;refine zai (by exact qO (show q.2.2.length + 1 ≤ 1000000000 by omega) (by decide)) ?_;refine qF [10] ?_;refine qS ?_;refine qB ?_;refine qI ?_;refine zai (by omega) ?_;exact ⟨i + 1,⟨rfl,rfl⟩,qP trivial ⟨rfl,rfl,(by rw [eS];try exact rfl),qU (by rw [eS]),rfl,rfl,rfl,qR (by rw [eS];try exact rfl)⟩ rfl⟩
          ·refine qF [0,8] ?_;refine zai ?_ ?_
           ·refine qF [8] ?_;refine qF [9] ?_;refine zai (by exact qO (show q.2.2.length + 1 ≤ 1000000000 by omega) (by decide)) ?_;refine qF [10] ?_;refine qS ?_;refine qB ?_;refine qI ?_;refine zai (by omega) ?_;exact ⟨i + 1,⟨rfl,rfl⟩,qP trivial ⟨rfl,rfl,(by rw [eS];try exact rfl),qU (by rw [eS]),rfl,rfl,rfl,qR (by rw [eS];try exact rfl)⟩ rfl⟩
           ·refine qF [0] ?_;refine qF [9] ?_;refine zai (by exact qO (show q.2.2.length + 1 ≤ 1000000000 by omega) (by decide)) ?_;refine qF [10] ?_;refine qS ?_;refine qB ?_;refine qI ?_;refine zai (by omega) ?_;exact ⟨i + 1,⟨rfl,rfl⟩,qP trivial ⟨rfl,rfl,(by rw [eS];try exact rfl),qU (by rw [eS]),rfl,rfl,rfl,qR (by rw [eS];try exact rfl)⟩ rfl⟩
        ·refine qF [0,4] ?_;refine zai ?_ ?_
         ·refine qF [4] ?_;refine Or.inr (Or.inl (zei [] (zei [4,3] (zei _ (zei _ (zei _ (zei _ (zei _ (zai (qY q.1 (T.getD (T.length - 1 - i) (((0 : Int),(0 : Int),([] : List Fld)),([] : List Fld),(0 : Int))).2.2) (zai rfl (zai (zai (zai rfl rfl) (zai (zai rfl rfl) True.intro)) (zai rfl ?_))))))))))));refine qF [7] ?_;refine qF [8] ?_;refine qF [9] ?_;refine zai (by exact qO (show q.2.2.length + 1 ≤ 1000000000 by omega) (by decide)) ?_;refine qF [10] ?_;refine qS ?_;refine qB ?_;refine qI ?_;refine zai (by omega) ?_;exact ⟨i + 1,⟨rfl,rfl⟩,qP trivial ⟨rfl,rfl,(by rw [eS];try exact rfl),qU (by rw [eS]),rfl,rfl,rfl,qR (by rw [eS];try exact rfl)⟩ rfl⟩
         ·refine Or.inr (Or.inl (zei [] (zei [4,3] (zei _ (zei _ (zei _ (zei _ (zei _ (zai (qY q.1 (T.getD (T.length - 1 - i) (((0 : Int),(0 : Int),([] : List Fld)),([] : List Fld),(0 : Int))).2.2) (zai rfl (zai (zai (zai rfl rfl) (zai (zai rfl rfl) True.intro)) (zai rfl ?_))))))))))));refine qF [0,7] ?_;refine zai ?_ ?_
          ·refine qF [7] ?_;refine qF [8] ?_;refine qF [9] ?_;refine zai (by exact qO (show q.2.2.length + 1 ≤ 1000000000 by omega) (by decide)) ?_;refine qF [10] ?_;refine qS ?_;refine qB ?_;refine qI ?_;refine zai (by omega) ?_;exact ⟨i + 1,⟨rfl,rfl⟩,qP trivial ⟨rfl,rfl,(by rw [eS];try exact rfl),qU (by rw [eS]),rfl,rfl,rfl,qR (by rw [eS];try exact rfl)⟩ rfl⟩
          ·refine qF [0,8] ?_;refine zai ?_ ?_
           ·refine qF [8] ?_;refine qF [9] ?_;refine zai (by exact qO (show q.2.2.length + 1 ≤ 1000000000 by omega) (by decide)) ?_;refine qF [10] ?_;refine qS ?_;refine qB ?_;refine qI ?_;refine zai (by omega) ?_;exact ⟨i + 1,⟨rfl,rfl⟩,qP trivial ⟨rfl,rfl,(by rw [eS];try exact rfl),qU (by rw [eS]),rfl,rfl,rfl,qR (by rw [eS];try exact rfl)⟩ rfl⟩
           ·refine qF [0] ?_;refine qF [9] ?_;refine zai (by exact qO (show q.2.2.length + 1 ≤ 1000000000 by omega) (by decide)) ?_;refine qF [10] ?_;refine qS ?_;refine qB ?_;refine qI ?_;refine zai (by omega) ?_;exact ⟨i + 1,⟨rfl,rfl⟩,qP trivial ⟨rfl,rfl,(by rw [eS];try exact rfl),qU (by rw [eS]),rfl,rfl,rfl,qR (by rw [eS];try exact rfl)⟩ rfl⟩
       ·refine qF [0,1] ?_;refine zai ?_ ?_
        ·refine qF [1] ?_;refine qF [4] ?_;refine Or.inr (Or.inl (zei [] (zei [4,3] (zei _ (zei _ (zei _ (zei _ (zei _ (zai (qY q.1 (T.getD (T.length - 1 - i) (((0 : Int),(0 : Int),([] : List Fld)),([] : List Fld),(0 : Int))).2.2) (zai rfl (zai (zai (zai rfl rfl) (zai (zai rfl rfl) True.intro)) (zai rfl ?_))))))))))));refine qF [7] ?_;refine qF [8] ?_;refine qF [9] ?_;refine zai (by exact qO (show q.2.2.length + 1 ≤ 1000000000 by omega) (by decide)) ?_;refine qF [10] ?_;refine qS ?_;refine qB ?_;refine qI ?_;refine zai (by omega) ?_;exact ⟨i + 1,⟨rfl,rfl⟩,qP trivial ⟨rfl,rfl,(by rw [eS];try exact rfl),qU (by rw [eS]),rfl,rfl,rfl,qR (by rw [eS];try exact rfl)⟩ rfl⟩
        ·refine qF [0,4] ?_;refine zai ?_ ?_
         ·refine qF [4] ?_;refine Or.inr (Or.inl (zei [] (zei [4,3] (zei _ (zei _ (zei _ (zei _ (zei _ (zai (qY q.1 (T.getD (T.length - 1 - i) (((0 : Int),(0 : Int),([] : List Fld)),([] : List Fld),(0 : Int))).2.2) (zai rfl (zai (zai (zai rfl rfl) (zai (zai rfl rfl) True.intro)) (zai rfl ?_))))))))))));refine qF [7] ?_;refine qF [8] ?_;refine qF [9] ?_;refine zai (by exact qO (show q.2.2.length + 1 ≤ 1000000000 by omega) (by decide)) ?_;refine qF [10] ?_;refine qS ?_;refine qB ?_;refine qI ?_;refine zai (by omega) ?_;exact ⟨i + 1,⟨rfl,rfl⟩,qP trivial ⟨rfl,rfl,(by rw [eS];try exact rfl),qU (by rw [eS]),rfl,rfl,rfl,qR (by rw [eS];try exact rfl)⟩ rfl⟩
         ·refine Or.inr (Or.inl (zei [] (zei [4,3] (zei _ (zei _ (zei _ (zei _ (zei _ (zai (qY q.1 (T.getD (T.length - 1 - i) (((0 : Int),(0 : Int),([] : List Fld)),([] : List Fld),(0 : Int))).2.2) (zai rfl (zai (zai (zai rfl rfl) (zai (zai rfl rfl) True.intro)) (zai rfl ?_))))))))))));refine qF [0,7] ?_;refine zai ?_ ?_
          ·refine qF [7] ?_;refine qF [8] ?_;refine qF [9] ?_;refine zai (by exact qO (show q.2.2.length + 1 ≤ 1000000000 by omega) (by decide)) ?_;refine qF [10] ?_;refine qS ?_;refine qB ?_;refine qI ?_;refine zai (by omega) ?_;exact ⟨i + 1,⟨rfl,rfl⟩,qP trivial ⟨rfl,rfl,(by rw [eS];try exact rfl),qU (by rw [eS]),rfl,rfl,rfl,qR (by rw [eS];try exact rfl)⟩ rfl⟩
          ·refine qF [0,8] ?_;refine zai ?_ ?_
           ·refine qF [8] ?_;refine qF [9] ?_;refine zai (by exact qO (show q.2.2.length + 1 ≤ 1000000000 by omega) (by decide)) ?_;refine qF [10] ?_;refine qS ?_;refine qB ?_;refine qI ?_;refine zai (by omega) ?_;exact ⟨i + 1,⟨rfl,rfl⟩,qP trivial ⟨rfl,rfl,(by rw [eS];try exact rfl),qU (by rw [eS]),rfl,rfl,rfl,qR (by rw [eS];try exact rfl)⟩ rfl⟩
           ·refine qF [0] ?_;refine qF [9] ?_;refine zai (by exact qO (show q.2.2.length + 1 ≤ 1000000000 by omega) (by decide)) ?_;refine qF [10] ?_;refine qS ?_;refine qB ?_;refine qI ?_;refine zai (by omega) ?_;exact ⟨i + 1,⟨rfl,rfl⟩,qP trivial ⟨rfl,rfl,(by rw [eS];try exact rfl),qU (by rw [eS]),rfl,rfl,rfl,qR (by rw [eS];try exact rfl)⟩ rfl⟩
      ·refine qF [0,1,3] ?_;refine zai ?_ ?_
       ·refine qF [1,3] ?_;refine zai ?_ ?_
        ·refine qF [3] ?_;refine qF [4] ?_;refine Or.inr (Or.inl (zei [] (zei [4,3] (zei _ (zei _ (zei _ (zei _ (zei _ (zai (qY q.1 (T.getD (T.length - 1 - i) (((0 : Int),(0 : Int),([] : List Fld)),([] : List Fld),(0 : Int))).2.2) (zai rfl (zai (zai (zai rfl rfl) (zai (zai rfl rfl) True.intro)) (zai rfl ?_))))))))))));refine qF [7] ?_;refine qF [8] ?_;refine qF [9] ?_;refine zai (by exact qO (show q.2.2.length + 1 ≤ 1000000000 by omega) (by decide)) ?_;refine qF [10] ?_;refine qS ?_;refine qB ?_;refine qI ?_;refine zai (by omega) ?_;exact ⟨i + 1,⟨rfl,rfl⟩,qP trivial ⟨rfl,rfl,(by rw [eS];try exact rfl),qU (by rw [eS]),rfl,rfl,rfl,qR (by rw [eS];try exact rfl)⟩ rfl⟩
        ·refine qF [1] ?_;refine qF [4] ?_;refine Or.inr (Or.inl (zei [] (zei [4,3] (zei _ (zei _ (zei _ (zei _ (zei _ (zai (qY q.1 (T.getD (T.length - 1 - i) (((0 : Int),(0 : Int),([] : List Fld)),([] : List Fld),(0 : Int))).2.2) (zai rfl (zai (zai (zai rfl rfl) (zai (zai rfl rfl) True.intro)) (zai rfl ?_))))))))))));refine qF [7] ?_;refine qF [8] ?_;refine qF [9] ?_;refine zai (by exact qO (show q.2.2.length + 1 ≤ 1000000000 by omega) (by decide)) ?_;refine qF [10] ?_;refine qS ?_;refine qB ?_;refine qI ?_;refine zai (by omega) ?_;exact ⟨i + 1,⟨rfl,rfl⟩,qP trivial ⟨rfl,rfl,(by rw [eS];try exact rfl),qU (by rw [eS]),rfl,rfl,rfl,qR (by rw [eS];try exact rfl)⟩ rfl⟩
       refine zai ?_ ?_
       ·refine qF [0,3] ?_;refine zai ?_ ?_
        ·refine qF [3] ?_;refine qF [4] ?_;refine Or.inr (Or.inl (zei [] (zei [4,3] (zei _ (zei _ (zei _ (zei _ (zei _ (zai (qY q.1 (T.getD (T.length - 1 - i) (((0 : Int),(0 : Int),([] : List Fld)),([] : List Fld),(0 : Int))).2.2) (zai rfl (zai (zai (zai rfl rfl) (zai (zai rfl rfl) True.intro)) (zai rfl ?_))))))))))));refine qF [7] ?_;refine qF [8] ?_;refine qF [9] ?_;refine zai (by exact qO (show q.2.2.length + 1 ≤ 1000000000 by omega) (by decide)) ?_;refine qF [10] ?_;refine qS ?_;refine qB ?_;refine qI ?_;refine zai (by omega) ?_;exact ⟨i + 1,⟨rfl,rfl⟩,qP trivial ⟨rfl,rfl,(by rw [eS];try exact rfl),qU (by rw [eS]),rfl,rfl,rfl,qR (by rw [eS];try exact rfl)⟩ rfl⟩
        ·refine qF [0,4] ?_;refine zai ?_ ?_
         ·refine qF [4] ?_;refine Or.inr (Or.inl (zei [] (zei [4,3] (zei _ (zei _ (zei _ (zei _ (zei _ (zai (qY q.1 (T.getD (T.length - 1 - i) (((0 : Int),(0 : Int),([] : List Fld)),([] : List Fld),(0 : Int))).2.2) (zai rfl (zai (zai (zai rfl rfl) (zai (zai rfl rfl) True.intro)) (zai rfl ?_))))))))))));refine qF [7] ?_;refine qF [8] ?_;refine qF [9] ?_;refine zai (by exact qO (show q.2.2.length + 1 ≤ 1000000000 by omega) (by decide)) ?_;refine qF [10] ?_;refine qS ?_;refine qB ?_;refine qI ?_;refine zai (by omega) ?_;exact ⟨i + 1,⟨rfl,rfl⟩,qP trivial ⟨rfl,rfl,(by rw [eS];try exact rfl),qU (by rw [eS]),rfl,rfl,rfl,qR (by rw [eS];try exact rfl)⟩ rfl⟩
         ·refine Or.inr (Or.inl (zei [] (zei [4,3] (zei _ (zei _ (zei _ (zei _ (zei _ (zai (qY q.1 (T.getD (T.length - 1 - i) (((0 : Int),(0 : Int),([] : List Fld)),([] : List Fld),(0 : Int))).2.2) (zai rfl (zai (zai (zai rfl rfl) (zai (zai rfl rfl) True.intro)) (zai rfl ?_))))))))))));refine qF [0,7] ?_;refine zai ?_ ?_
          ·refine qF [7] ?_;refine qF [8] ?_;refine qF [9] ?_;refine zai (by exact qO (show q.2.2.length + 1 ≤ 1000000000 by omega) (by decide)) ?_;refine qF [10] ?_;refine qS ?_;refine qB ?_;refine qI ?_;refine zai (by omega) ?_;exact ⟨i + 1,⟨rfl,rfl⟩,qP trivial ⟨rfl,rfl,(by rw [eS];try exact rfl),qU (by rw [eS]),rfl,rfl,rfl,qR (by rw [eS];try exact rfl)⟩ rfl⟩
          ·refine qF [0,8] ?_;refine zai ?_ ?_
           ·refine qF [8] ?_;refine qF [9] ?_;refine zai (by exact qO (show q.2.2.length + 1 ≤ 1000000000 by omega) (by decide)) ?_;refine qF [10] ?_;refine qS ?_;refine qB ?_;refine qI ?_;refine zai (by omega) ?_;exact ⟨i + 1,⟨rfl,rfl⟩,qP trivial ⟨rfl,rfl,(by rw [eS];try exact rfl),qU (by rw [eS]),rfl,rfl,rfl,qR (by rw [eS];try exact rfl)⟩ rfl⟩
           ·refine qF [0] ?_;refine qF [9] ?_;refine zai (by exact qO (show q.2.2.length + 1 ≤ 1000000000 by omega) (by decide)) ?_;refine qF [10] ?_;refine qS ?_;refine qB ?_;refine qI ?_;refine zai (by omega) ?_;exact ⟨i + 1,⟨rfl,rfl⟩,qP trivial ⟨rfl,rfl,(by rw [eS];try exact rfl),qU (by rw [eS]),rfl,rfl,rfl,qR (by rw [eS];try exact rfl)⟩ rfl⟩
       ·refine qF [0,1] ?_;refine zai ?_ ?_
        ·refine qF [1] ?_;refine qF [4] ?_;refine Or.inr (Or.inl (zei [] (zei [4,3] (zei _ (zei _ (zei _ (zei _ (zei _ (zai (qY q.1 (T.getD (T.length - 1 - i) (((0 : Int),(0 : Int),([] : List Fld)),([] : List Fld),(0 : Int))).2.2) (zai rfl (zai (zai (zai rfl rfl) (zai (zai rfl rfl) True.intro)) (zai rfl ?_))))))))))));refine qF [7] ?_;refine qF [8] ?_;refine qF [9] ?_;refine zai (by exact qO (show q.2.2.length + 1 ≤ 1000000000 by omega) (by decide)) ?_;refine qF [10] ?_;refine qS ?_;refine qB ?_;refine qI ?_;refine zai (by omega) ?_;exact ⟨i + 1,⟨rfl,rfl⟩,qP trivial ⟨rfl,rfl,(by rw [eS];try exact rfl),qU (by rw [eS]),rfl,rfl,rfl,qR (by rw [eS];try exact rfl)⟩ rfl⟩
        ·refine qF [0,4] ?_;refine zai ?_ ?_
         ·refine qF [4] ?_;refine Or.inr (Or.inl (zei [] (zei [4,3] (zei _ (zei _ (zei _ (zei _ (zei _ (zai (qY q.1 (T.getD (T.length - 1 - i) (((0 : Int),(0 : Int),([] : List Fld)),([] : List Fld),(0 : Int))).2.2) (zai rfl (zai (zai (zai rfl rfl) (zai (zai rfl rfl) True.intro)) (zai rfl ?_))))))))))));refine qF [7] ?_;refine qF [8] ?_;refine qF [9] ?_;refine zai (by exact qO (show q.2.2.length + 1 ≤ 1000000000 by omega) (by decide)) ?_;refine qF [10] ?_;refine qS ?_;refine qB ?_;refine qI ?_;refine zai (by omega) ?_;exact ⟨i + 1,⟨rfl,rfl⟩,qP trivial ⟨rfl,rfl,(by rw [eS];try exact rfl),qU (by rw [eS]),rfl,rfl,rfl,qR (by rw [eS];try exact rfl)⟩ rfl⟩
         ·refine Or.inr (Or.inl (zei [] (zei [4,3] (zei _ (zei _ (zei _ (zei _ (zei _ (zai (qY q.1 (T.getD (T.length - 1 - i) (((0 : Int),(0 : Int),([] : List Fld)),([] : List Fld),(0 : Int))).2.2) (zai rfl (zai (zai (zai rfl rfl) (zai (zai rfl rfl) True.intro)) (zai rfl ?_))))))))))));refine qF [0,7] ?_;refine zai ?_ ?_
          ·refine qF [7] ?_;refine qF [8] ?_;refine qF [9] ?_;refine zai (by exact qO (show q.2.2.length + 1 ≤ 1000000000 by omega) (by decide)) ?_;refine qF [10] ?_;refine qS ?_;refine qB ?_;refine qI ?_;refine zai (by omega) ?_;exact ⟨i + 1,⟨rfl,rfl⟩,qP trivial ⟨rfl,rfl,(by rw [eS];try exact rfl),qU (by rw [eS]),rfl,rfl,rfl,qR (by rw [eS];try exact rfl)⟩ rfl⟩
          ·refine qF [0,8] ?_;refine zai ?_ ?_
           ·refine qF [8] ?_;refine qF [9] ?_;refine zai (by exact qO (show q.2.2.length + 1 ≤ 1000000000 by omega) (by decide)) ?_;refine qF [10] ?_;refine qS ?_;refine qB ?_;refine qI ?_;refine zai (by omega) ?_;exact ⟨i + 1,⟨rfl,rfl⟩,qP trivial ⟨rfl,rfl,(by rw [eS];try exact rfl),qU (by rw [eS]),rfl,rfl,rfl,qR (by rw [eS];try exact rfl)⟩ rfl⟩
           ·refine qF [0] ?_;refine qF [9] ?_;refine zai (by exact qO (show q.2.2.length + 1 ≤ 1000000000 by omega) (by decide)) ?_;refine qF [10] ?_;refine qS ?_;refine qB ?_;refine qI ?_;refine zai (by omega) ?_;exact ⟨i + 1,⟨rfl,rfl⟩,qP trivial ⟨rfl,rfl,(by rw [eS];try exact rfl),qU (by rw [eS]),rfl,rfl,rfl,qR (by rw [eS];try exact rfl)⟩ rfl⟩
     ·try simp only [decide_eq_false_iff_not] at h60
      try simp only [zds] at h60
      rw [bkS3 q h47 h60] at eS;refine yK rfl ?_;refine qN 2 rfl ?_;refine qN 3 rfl ?_;refine qF [0,1,4] ?_;refine zai ?_ ?_
      ·refine qF [1,4] ?_;refine zai ?_ ?_
       ·refine qF [4] ?_;refine qF [5] ?_;refine Or.inr (Or.inl (zei [] (zei [4,3] (zei _ (zei _ (zei _ (zei _ (zei _ (zai (qY q.1 (T.getD (T.length - 1 - i) (((0 : Int),(0 : Int),([] : List Fld)),([] : List Fld),(0 : Int))).1.2.1) (zai rfl (zai (zai (zai rfl rfl) (zai (zai rfl rfl) True.intro)) (zai rfl ?_))))))))))));refine qF [6] ?_;refine qF [7] ?_;refine qF [8] ?_;refine zai (by exact qO (show q.2.2.length + 1 ≤ 1000000000 by omega) (by decide)) ?_;refine qF [9] ?_;refine qS ?_;exact ⟨i + 1,⟨rfl,rfl⟩,qP trivial ⟨rfl,rfl,(by rw [eS];try exact rfl),qU (by rw [eS]),rfl,rfl,rfl,qR (by rw [eS];try exact rfl)⟩ rfl⟩
       ·refine qF [1] ?_;refine qF [5] ?_;refine Or.inr (Or.inl (zei [] (zei [4,3] (zei _ (zei _ (zei _ (zei _ (zei _ (zai (qY q.1 (T.getD (T.length - 1 - i) (((0 : Int),(0 : Int),([] : List Fld)),([] : List Fld),(0 : Int))).1.2.1) (zai rfl (zai (zai (zai rfl rfl) (zai (zai rfl rfl) True.intro)) (zai rfl ?_))))))))))));refine qF [6] ?_;refine qF [7] ?_;refine qF [8] ?_;refine zai (by exact qO (show q.2.2.length + 1 ≤ 1000000000 by omega) (by decide)) ?_;refine qF [9] ?_;refine qS ?_;exact ⟨i + 1,⟨rfl,rfl⟩,qP trivial ⟨rfl,rfl,(by rw [eS];try exact rfl),qU (by rw [eS]),rfl,rfl,rfl,qR (by rw [eS];try exact rfl)⟩ rfl⟩
      refine zai ?_ ?_
      ·refine qF [0,4] ?_;refine zai ?_ ?_
       ·refine qF [4] ?_;refine qF [5] ?_;refine Or.inr (Or.inl (zei [] (zei [4,3] (zei _ (zei _ (zei _ (zei _ (zei _ (zai (qY q.1 (T.getD (T.length - 1 - i) (((0 : Int),(0 : Int),([] : List Fld)),([] : List Fld),(0 : Int))).1.2.1) (zai rfl (zai (zai (zai rfl rfl) (zai (zai rfl rfl) True.intro)) (zai rfl ?_))))))))))));refine qF [6] ?_;refine qF [7] ?_;refine qF [8] ?_;refine zai (by exact qO (show q.2.2.length + 1 ≤ 1000000000 by omega) (by decide)) ?_;refine qF [9] ?_;refine qS ?_;exact ⟨i + 1,⟨rfl,rfl⟩,qP trivial ⟨rfl,rfl,(by rw [eS];try exact rfl),qU (by rw [eS]),rfl,rfl,rfl,qR (by rw [eS];try exact rfl)⟩ rfl⟩
       ·refine qF [0,5] ?_;refine zai ?_ ?_
        ·refine qF [5] ?_;refine Or.inr (Or.inl (zei [] (zei [4,3] (zei _ (zei _ (zei _ (zei _ (zei _ (zai (qY q.1 (T.getD (T.length - 1 - i) (((0 : Int),(0 : Int),([] : List Fld)),([] : List Fld),(0 : Int))).1.2.1) (zai rfl (zai (zai (zai rfl rfl) (zai (zai rfl rfl) True.intro)) (zai rfl ?_))))))))))));refine qF [6] ?_;refine qF [7] ?_;refine qF [8] ?_;refine zai (by exact qO (show q.2.2.length + 1 ≤ 1000000000 by omega) (by decide)) ?_;refine qF [9] ?_;refine qS ?_;exact ⟨i + 1,⟨rfl,rfl⟩,qP trivial ⟨rfl,rfl,(by rw [eS];try exact rfl),qU (by rw [eS]),rfl,rfl,rfl,qR (by rw [eS];try exact rfl)⟩ rfl⟩
        ·refine Or.inr (Or.inl (zei [] (zei [4,3] (zei _ (zei _ (zei _ (zei _ (zei _ (zai (qY q.1 (T.getD (T.length - 1 - i) (((0 : Int),(0 : Int),([] : List Fld)),([] : List Fld),(0 : Int))).1.2.1) (zai rfl (zai (zai (zai rfl rfl) (zai (zai rfl rfl) True.intro)) (zai rfl ?_))))))))))));refine qF [0,6] ?_;refine zai ?_ ?_
         ·refine qF [6] ?_;refine qF [7] ?_;refine qF [8] ?_;refine zai (by exact qO (show q.2.2.length + 1 ≤ 1000000000 by omega) (by decide)) ?_;refine qF [9] ?_;refine qS ?_;exact ⟨i + 1,⟨rfl,rfl⟩,qP trivial ⟨rfl,rfl,(by rw [eS];try exact rfl),qU (by rw [eS]),rfl,rfl,rfl,qR (by rw [eS];try exact rfl)⟩ rfl⟩
         ·refine qF [0,7] ?_;refine zai ?_ ?_
          ·refine qF [7] ?_;refine qF [8] ?_;refine zai (by exact qO (show q.2.2.length + 1 ≤ 1000000000 by omega) (by decide)) ?_;refine qF [9] ?_;refine qS ?_;exact ⟨i + 1,⟨rfl,rfl⟩,qP trivial ⟨rfl,rfl,(by rw [eS];try exact rfl),qU (by rw [eS]),rfl,rfl,rfl,qR (by rw [eS];try exact rfl)⟩ rfl⟩
          ·refine qF [0] ?_;refine qF [8] ?_;refine zai (by exact qO (show q.2.2.length + 1 ≤ 1000000000 by omega) (by decide)) ?_;refine qF [9] ?_;refine qS ?_;exact ⟨i + 1,⟨rfl,rfl⟩,qP trivial ⟨rfl,rfl,(by rw [eS];try exact rfl),qU (by rw [eS]),rfl,rfl,rfl,qR (by rw [eS];try exact rfl)⟩ rfl⟩
      ·refine qF [0,1] ?_;refine zai ?_ ?_
       ·refine qF [1] ?_;refine qF [5] ?_;refine Or.inr (Or.inl (zei [] (zei [4,3] (zei _ (zei _ (zei _ (zei _ (zei _ (zai (qY q.1 (T.getD (T.length - 1 - i) (((0 : Int),(0 : Int),([] : List Fld)),([] : List Fld),(0 : Int))).1.2.1) (zai rfl (zai (zai (zai rfl rfl) (zai (zai rfl rfl) True.intro)) (zai rfl ?_))))))))))));refine qF [6] ?_;refine qF [7] ?_;refine qF [8] ?_;refine zai (by exact qO (show q.2.2.length + 1 ≤ 1000000000 by omega) (by decide)) ?_;refine qF [9] ?_;refine qS ?_;exact ⟨i + 1,⟨rfl,rfl⟩,qP trivial ⟨rfl,rfl,(by rw [eS];try exact rfl),qU (by rw [eS]),rfl,rfl,rfl,qR (by rw [eS];try exact rfl)⟩ rfl⟩
       ·refine qF [0,5] ?_;refine zai ?_ ?_
        ·refine qF [5] ?_;refine Or.inr (Or.inl (zei [] (zei [4,3] (zei _ (zei _ (zei _ (zei _ (zei _ (zai (qY q.1 (T.getD (T.length - 1 - i) (((0 : Int),(0 : Int),([] : List Fld)),([] : List Fld),(0 : Int))).1.2.1) (zai rfl (zai (zai (zai rfl rfl) (zai (zai rfl rfl) True.intro)) (zai rfl ?_))))))))))));refine qF [6] ?_;refine qF [7] ?_;refine qF [8] ?_;refine zai (by exact qO (show q.2.2.length + 1 ≤ 1000000000 by omega) (by decide)) ?_;refine qF [9] ?_;refine qS ?_;exact ⟨i + 1,⟨rfl,rfl⟩,qP trivial ⟨rfl,rfl,(by rw [eS];try exact rfl),qU (by rw [eS]),rfl,rfl,rfl,qR (by rw [eS];try exact rfl)⟩ rfl⟩
        ·refine Or.inr (Or.inl (zei [] (zei [4,3] (zei _ (zei _ (zei _ (zei _ (zei _ (zai (qY q.1 (T.getD (T.length - 1 - i) (((0 : Int),(0 : Int),([] : List Fld)),([] : List Fld),(0 : Int))).1.2.1) (zai rfl (zai (zai (zai rfl rfl) (zai (zai rfl rfl) True.intro)) (zai rfl ?_))))))))))));refine qF [0,6] ?_;refine zai ?_ ?_
         ·refine qF [6] ?_;refine qF [7] ?_;refine qF [8] ?_;refine zai (by exact qO (show q.2.2.length + 1 ≤ 1000000000 by omega) (by decide)) ?_;refine qF [9] ?_;refine qS ?_;exact ⟨i + 1,⟨rfl,rfl⟩,qP trivial ⟨rfl,rfl,(by rw [eS];try exact rfl),qU (by rw [eS]),rfl,rfl,rfl,qR (by rw [eS];try exact rfl)⟩ rfl⟩
         ·refine qF [0,7] ?_;refine zai ?_ ?_
          ·refine qF [7] ?_;refine qF [8] ?_;refine zai (by exact qO (show q.2.2.length + 1 ≤ 1000000000 by omega) (by decide)) ?_;refine qF [9] ?_;refine qS ?_;exact ⟨i + 1,⟨rfl,rfl⟩,qP trivial ⟨rfl,rfl,(by rw [eS];try exact rfl),qU (by rw [eS]),rfl,rfl,rfl,qR (by rw [eS];try exact rfl)⟩ rfl⟩
          ·refine qF [0] ?_;refine qF [8] ?_;refine zai (by exact qO (show q.2.2.length + 1 ≤ 1000000000 by omega) (by decide)) ?_;refine qF [9] ?_;refine qS ?_;exact ⟨i + 1,⟨rfl,rfl⟩,qP trivial ⟨rfl,rfl,(by rw [eS];try exact rfl),qU (by rw [eS]),rfl,rfl,rfl,qR (by rw [eS];try exact rfl)⟩ rfl⟩
   ·intro i hp;obtain ⟨_,rfl⟩:=hp;rw [itS_len,Nat.sub_self,List.drop_zero];refine qB ?_;refine yH [7] ?_;refine qM ?_;rw [hbe];exact rfl
   ·intro j i hp;exact absurd hp.1 (by decide)
end Q
end Ab
end Go.Proofs.YtojipboabgebfaaGreatDoor
namespace Go.Proofs.YtojipboabgebfaaGreatDoor
open Go.RowKit
namespace Ab
set_option maxRecDepth 100000
namespace Q
def unkR (l : List (List Fld)) : List (List (Unit × Unit)):=l.map fun r=>r.map fun _=>((),())
def plainI (x : Itm) : Bool:=decide ((chkR x.2.2).2 = 0) && decide (x.1 = 3) && decide (bytes (foldL x.2.2) = x.2.1)
abbrev rItmU : Rd (Int × ByteArray × List (Unit × Unit)):=.st (.int .i64) (.st .str (.slk 7 rUnk2))
def unkI (l : List Itm) : List (Int × ByteArray × List (Unit × Unit)):=l.map fun x=>(x.1,x.2.1,x.2.2.map fun _=>((),()))
abbrev rStzU : Rd (Int × List (Unit × Unit)):=.st (.int .i64) (.slk 7 rUnk2)
def unkS (l : List Stz) : List (Int × List (Unit × Unit)):=l.map fun x=>(x.1,x.2.map fun _=>((),()))
def BlankI (x : Itm) : Prop:=∃ t : ByteArray,x = (1,t ++ ⟨#[10]⟩,[]) ∧ yF (ls t) = 1 ∧ (10 : UInt8) ∉ ls t
def Good1 (x : Itm) : Prop:=BlankI x ∨ (x.1 ≠ 1 ∧ Blk x)
def BIP (p : PSt) : Prop:=(∀ x ∈ p.its,x.1 = 1 → BlankI x) ∧ p.recs = (cntR p.its : Int)
theorem isRec1 (t : ByteArray) : isRec (1,t,[]) = false:=by unfold isRec;simp
theorem close_bi {p : PSt} (h : BIP p) : BIP (xX p):=by
  unfold xX;split
  · exact h
  · by_cases hf : p.flds = []
    · simp only [if_pos hf];refine ⟨fun x hx hx1=>?_,?_⟩
      · rcases List.mem_append.1 hx with hx|hx
        · exact h.1 x hx hx1
        · rw [List.mem_singleton.1 hx] at hx1;cases hx1
      · simp only [cntR_app];rw [h.2];simp [cntR,isRec]
    · simp only [if_neg hf];refine ⟨fun x hx hx1=>?_,?_⟩
      · rcases List.mem_append.1 hx with hx|hx
        · exact h.1 x hx hx1
        · rw [List.mem_singleton.1 hx] at hx1;cases hx1
      · simp only [cntR_app];rw [h.2];simp [cntR,isRec]
theorem flush_bi {p q : PSt} (h : BIP p) (hf : yY p = .inr q) : BIP q:=by
  unfold BIP;rw [(flush_same hf).1,flush_recs hf];exact h
theorem end_bi {p q : PSt} (h : BIP p) (hf : endS p = .inr q) : BIP q:=by
  unfold endS at hf;cases e : yY p with
  | inl x=>rw [e] at hf;cases hf
  | inr r=>rw [e] at hf;cases hf;exact close_bi (flush_bi h e)
theorem take_bi {p q : PSt} {l : Lne} (h : BIP p) (hf : xD p l = .inr q) (hn : (10 : UInt8) ∉ ls l.2.2.1) : BIP q:=by
  unfold xD at hf;cases e : xA p l (yF (ls l.2.2.1)) with
  | inl x=>rw [e] at hf;cases hf
  | inr r =>
    rw [e] at hf;have hr : BIP r:=by
      unfold xA at e;split at e
      · split at e
        · cases e
        · split at e
          · cases e;exact h
          · exact flush_bi (p:={ p with lns:=p.lns ++ [l.2.2.1] }) h e
      · split at e
        · exact end_bi h e
        · exact flush_bi h e
    simp only at hf;unfold lineS at hf;split at hf
    · cases hf
    · split at hf
      · rename_i hk;cases hf;refine ⟨fun x hx hx1=>?_,?_⟩
        · rcases List.mem_append.1 hx with hx|hx
          · exact hr.1 x hx hx1
          · exact ⟨l.2.2.1,List.mem_singleton.1 hx,hk,hn⟩
        · simp only [cntR_app];rw [hr.2];simp [cntR,isRec1]
      · split at hf
        · cases hf;exact hr
        · cases hf;exact hr
theorem run_bi : ∀ (L : List Lne) (p q : PSt),BIP p → runS p L = .inr q → (∀ l ∈ L,(10 : UInt8) ∉ ls l.2.2.1) → BIP q
  | [],p,q,hp,h,_=>by cases h;exact hp
  | l :: r,p,q,hp,h,hn=>by
    simp only [runS] at h;cases e : xD p l with
    | inl x=>rw [e] at h;cases h
    | inr p1 =>
      rw [e] at h;exact run_bi r p1 q (take_bi hp e (hn l List.mem_cons_self)) h (fun x hx=>hn x (List.mem_cons_of_mem _ hx))
theorem parse_good {s : ByteArray} {l : List Itm} (hp : xG s = .inr l) : (∀ x ∈ l,Good1 x) ∧ cntR l ≤ 400:=by
  have hb:=parse_blks hp;unfold xG at hp;cases e : runS pst0 (yJ s) with
  | inl x=>rw [e] at hp;cases hp
  | inr p =>
    rw [e] at hp;simp only at hp;cases e2 : endS p with
    | inl x=>rw [e2] at hp;cases hp
    | inr q =>
      rw [e2] at hp;cases hp;have hno : ∀ l ∈ yJ s,(10 : UInt8) ∉ ls l.2.2.1:=fun l hl=>by
        have h1 : l.2.2 ∈ (yJ s).map (·.2.2):=List.mem_map_of_mem hl;rw [lines_text] at h1;exact linesB_no _ _ _ h1
      have h1 : BIP q:=end_bi (run_bi _ _ _ ⟨(fun _ h=>by cases h),rfl⟩ e hno) e2;have h2:=(end_par (run_par _ _ _ ⟨[],0,[],pst0,rel_0,rfl,rfl,rfl,(fun _ h=>by cases h),(fun _ h=>by cases h)⟩ e hno) e2).2.2.2;refine ⟨fun x hx=>?_,by have:=h1.2;omega⟩
      by_cases hx1 : x.1 = 1
      · exact .inl (h1.1 x hx hx1)
      · exact .inr ⟨hx1,hb x hx hx1⟩
def HF (p : PSt) : Prop:=p.lns ≠ [] ∨ p.flds ≠ []
structure LGd (B : Nat) (L : Lst) : Prop where
  good : ∀ e ∈ L.1,Good1 e.1 ∧ isRec e.1 = live e
  m4 : L.2.2 ≤ 400
  sz : szI (itmL L.1) ≤ B
theorem num_good : ∀ (l : List Itm) (n : Int),1 ≤ n → (∀ x ∈ l,Good1 x) → ∀ e ∈ numI n l,Good1 e.1 ∧ isRec e.1 = live e
  | [],_,_,_,e,he=>by cases he
  | x :: r,n,hn,hg,e,he=>by
    unfold numI at he;split at he
    · rename_i hr;rcases List.mem_cons.1 he with rfl|he
      · refine ⟨hg x List.mem_cons_self,?_⟩;rw [hr];unfold live;rw [decide_eq_true (by simp only;omega)]
      · exact num_good r (n + 1) (by omega) (fun y hy=>hg y (List.mem_cons_of_mem _ hy)) e he
    · rename_i hr;rcases List.mem_cons.1 he with rfl|he
      · refine ⟨hg x List.mem_cons_self,?_⟩;rw [hr];rfl
      · exact num_good r n hn (fun y hy=>hg y (List.mem_cons_of_mem _ hy)) e he
theorem ofT_gd {s : ByteArray} {l : List Itm} (hp : xG s = .inr l) : LGd s.size (ofT l):=by
  obtain ⟨h1,h2⟩:=parse_good hp;refine ⟨num_good l 1 (Int.le_refl _) h1,by show (cntR l : Int) ≤ 400;omega,?_⟩;show szI (itmL (numI 1 l)) ≤ _;unfold itmL;rw [numI_items];have h3:=raws_text hp;rw [← raws_sz,← h3,yQ];exact Nat.le_refl _
end Q
end Ab
end Go.Proofs.YtojipboabgebfaaGreatDoor
