/-
  The texts of this proof, joined: abstract values, the library, the functions of the program and what they compute (part 5). No condition.
-/
import Derived.Test.YtbfhpimmlehkcaaGreatDoorProg
import Derived.WalkKit
import Derived.LaidEql
import Derived.Stop.Asserts
import Derived.RowKitTokens
import Derived.WalkSpells
import Derived.Shelf.Vars
import Derived.KernelRfl
import Derived.LaidHandle
import Derived.LaidSub
import Derived.LaidMore
import Derived.Lay
import Derived.FnData
import Derived.Test.YtbfhpimmlehkcaaGreatDoorK1
import Derived.Test.YtbfhpimmlehkcaaGreatDoorK2
import Derived.Test.YtbfhpimmlehkcaaGreatDoorK3
import Derived.Test.YtbfhpimmlehkcaaGreatDoorK4
namespace Go.Proofs.YtbfhpimmlehkcaaGreatDoor
open Go.RowKit
namespace Ab
set_option maxRecDepth 100000
namespace Q
theorem lIns_no {κ : Nat} (es : List Ent) (n m id : Int) (f : List Fld) (h : atE es id < 0) (h0 : id ≠ 0) : qX Tryz.prog 33 [.one (.own 0 0),ii .i64 id,.one (.slk κ rFld f)] (lsO (es,n,m)) 2 (.tup [(false,[.lit (.int .i64 0)]),(false,[errN 7])]) (lsO (es,n,m)) 2:=by
  refine qT (rs:=[6,7]) Tryz.func33 rfl rfl rfl teOk (by decide) rfl ?_;refine qC ?_;refine qB ?_;refine qC ?_;refine qB ?_;refine Or.inr (Or.inr (Or.inl ?_));refine zai rfl ?_;refine zei _ (zai (at_c es n m id) ?_);refine qC ?_;refine qC ?_;refine qB ?_;refine zai (fun h=>trivial) ?_;refine zai (fun h=>⟨⟨h,trivial⟩,trivial⟩) ?_;refine zai (fun h=>⟨⟨h,trivial⟩,trivial⟩) ?_;refine zai (fun h=>trivial) ?_;refine zai (fun h=>⟨⟨h,trivial⟩,trivial⟩) ?_;refine zai (fun h=>⟨⟨⟨h,trivial⟩,trivial⟩,by first|exact fun h2=>h2|(intro h2;rw [h,h2];rfl)|(intro h2;cases h2)|(intro h2;simp_all [gq])⟩) ?_;refine zai (by first|(intro h;rw [h];rfl)|(intro h;cases h)) ?_;refine qK rfl (fun h24=>?_) (fun h24=>?_)
  ·try simp only [decide_eq_true_eq,decide_eq_false_iff_not,Bool.and_eq_true,Bool.not_eq_true',Bool.or_eq_true] at h24
   try simp only [zds] at h24
   refine qC ?_;refine qB ?_;refine qL ?_;exact ⟨rfl,⟨rfl,rfl⟩,rfl⟩
  ·try simp only [decide_eq_true_eq,decide_eq_false_iff_not,Bool.not_eq_false',Bool.or_eq_false_iff,Bool.and_eq_false_iff,Int.not_lt] at h24
   try simp only [zds] at h24
   simp at h24;omega
theorem lIns_bad {κ : Nat} (es : List Ent) (n m id : Int) (f : List Fld) (h : ¬ (atE es id < 0 ∧ id ≠ 0)) (hf : yV f) (hc : (chkR f).2 ≠ 0) : qX Tryz.prog 33 [.one (.own 0 0),ii .i64 id,.one (.slk κ rFld f)] (lsO (es,n,m)) 2 (.tup [(false,[.lit (.int .i64 0)]),(false,[chkA f])]) (lsO (es,n,m)) 2:=by
  have hpi:=pitem_err (κ:=κ) hf hc;obtain ⟨e,he,hs⟩:=chk_bad hc;rw [he] at hpi ⊢;rcases hs with ⟨x,hx,rfl,_⟩|⟨j,x,hx,rfl,_⟩
  ·
    refine qT (rs:=[6,7]) Tryz.func33 rfl rfl rfl teOk (by decide) rfl ?_;refine qC ?_;refine qB ?_;refine qC ?_;refine qB ?_;refine Or.inr (Or.inr (Or.inl ?_));refine zai rfl ?_;refine zei _ (zai (at_c es n m id) ?_);refine qC ?_;refine qC ?_;refine qB ?_;refine zai (fun h=>trivial) ?_;refine zai (fun h=>⟨⟨h,trivial⟩,trivial⟩) ?_;refine zai (fun h=>⟨⟨h,trivial⟩,trivial⟩) ?_;refine zai (fun h=>trivial) ?_;refine zai (fun h=>⟨⟨h,trivial⟩,trivial⟩) ?_;refine zai (fun h=>⟨⟨⟨h,trivial⟩,trivial⟩,by first|exact fun h2=>h2|(intro h2;rw [h,h2];rfl)|(intro h2;cases h2)|(intro h2;simp_all [gq])⟩) ?_;refine zai (by first|(intro h;rw [h];rfl)|(intro h;cases h)) ?_;refine qK rfl (fun h24=>?_) (fun h24=>?_)
    ·try simp only [decide_eq_true_eq,decide_eq_false_iff_not,Bool.and_eq_true,Bool.not_eq_true',Bool.or_eq_true] at h24
     try simp only [zds] at h24
     exact absurd (by simpa using h24) h
    ·try simp only [decide_eq_true_eq,decide_eq_false_iff_not,Bool.not_eq_false',Bool.or_eq_false_iff,Bool.and_eq_false_iff,Int.not_lt] at h24
     try simp only [zds] at h24
     refine qM ?_;refine qC ?_;refine qB ?_;refine Or.inl ?_;refine zai (rfl) ?_;refine zei _ (zai (hpi) ?_);refine qC ?_;refine qO ?_;refine qC ?_;refine qB ?_;refine qK rfl (fun h31=>?_) (fun h31=>?_)
     ·skip
      refine qC ?_;refine qB ?_;refine qL ?_;exact ⟨rfl,⟨rfl,rfl⟩,rfl⟩
     ·try simp only [zbq] at h31
      try simp only [zds] at h31
      cases h31
  ·
    refine qT (rs:=[6,7]) Tryz.func33 rfl rfl rfl teOk (by decide) rfl ?_;refine qC ?_;refine qB ?_;refine qC ?_;refine qB ?_;refine Or.inr (Or.inr (Or.inl ?_));refine zai rfl ?_;refine zei _ (zai (at_c es n m id) ?_);refine qC ?_;refine qC ?_;refine qB ?_;refine zai (fun h=>trivial) ?_;refine zai (fun h=>⟨⟨h,trivial⟩,trivial⟩) ?_;refine zai (fun h=>⟨⟨h,trivial⟩,trivial⟩) ?_;refine zai (fun h=>trivial) ?_;refine zai (fun h=>⟨⟨h,trivial⟩,trivial⟩) ?_;refine zai (fun h=>⟨⟨⟨h,trivial⟩,trivial⟩,by first|exact fun h2=>h2|(intro h2;rw [h,h2];rfl)|(intro h2;cases h2)|(intro h2;simp_all [gq])⟩) ?_;refine zai (by first|(intro h;rw [h];rfl)|(intro h;cases h)) ?_;refine qK rfl (fun h24=>?_) (fun h24=>?_)
    ·try simp only [decide_eq_true_eq,decide_eq_false_iff_not,Bool.and_eq_true,Bool.not_eq_true',Bool.or_eq_true] at h24
     try simp only [zds] at h24
     exact absurd (by simpa using h24) h
    ·try simp only [decide_eq_true_eq,decide_eq_false_iff_not,Bool.not_eq_false',Bool.or_eq_false_iff,Bool.and_eq_false_iff,Int.not_lt] at h24
     try simp only [zds] at h24
     refine qM ?_;refine qC ?_;refine qB ?_;refine Or.inl ?_;refine zai (rfl) ?_;refine zei _ (zai (hpi) ?_);refine qC ?_;refine qO ?_;refine qC ?_;refine qB ?_;refine qK rfl (fun h31=>?_) (fun h31=>?_)
     ·skip
      refine qC ?_;refine qB ?_;refine qL ?_;exact ⟨rfl,⟨rfl,rfl⟩,rfl⟩
     ·try simp only [zbq] at h31
      try simp only [zds] at h31
      cases h31
theorem lIns_full {κ : Nat} (es : List Ent) (n m id : Int) (f : List Fld) (h : ¬ (atE es id < 0 ∧ id ≠ 0)) (hf : yV f) (hc : (chkR f).2 = 0) (hm : 400 ≤ m) : qX Tryz.prog 33 [.one (.own 0 0),ii .i64 id,.one (.slk κ rFld f)] (lsO (es,n,m)) 2 (.tup [(false,[.lit (.int .i64 0)]),(false,[errN 11])]) (lsO (es,n,m)) 2:=by
  refine qT (rs:=[6,7]) Tryz.func33 rfl rfl rfl teOk (by decide) rfl ?_;refine qC ?_;refine qB ?_;refine qC ?_;refine qB ?_;refine Or.inr (Or.inr (Or.inl ?_));refine zai rfl ?_;refine zei _ (zai (at_c es n m id) ?_);refine qC ?_;refine qC ?_;refine qB ?_;refine zai (fun h=>trivial) ?_;refine zai (fun h=>⟨⟨h,trivial⟩,trivial⟩) ?_;refine zai (fun h=>⟨⟨h,trivial⟩,trivial⟩) ?_;refine zai (fun h=>trivial) ?_;refine zai (fun h=>⟨⟨h,trivial⟩,trivial⟩) ?_;refine zai (fun h=>⟨⟨⟨h,trivial⟩,trivial⟩,by first|exact fun h2=>h2|(intro h2;rw [h,h2];rfl)|(intro h2;cases h2)|(intro h2;simp_all [gq])⟩) ?_;refine zai (by first|(intro h;rw [h];rfl)|(intro h;cases h)) ?_;refine qK rfl (fun h24=>?_) (fun h24=>?_)
  ·try simp only [decide_eq_true_eq,decide_eq_false_iff_not,Bool.and_eq_true,Bool.not_eq_true',Bool.or_eq_true] at h24
   try simp only [zds] at h24
   exact absurd (by simpa using h24) h
  ·try simp only [decide_eq_true_eq,decide_eq_false_iff_not,Bool.not_eq_false',Bool.or_eq_false_iff,Bool.and_eq_false_iff,Int.not_lt] at h24
   try simp only [zds] at h24
   refine qM ?_;refine qC ?_;refine qB ?_;refine Or.inl ?_;refine zai (rfl) ?_;refine zei _ (zai (pitem_ok hf hc) ?_);refine qC ?_;refine qO ?_;refine qC ?_;refine qB ?_;refine qK rfl (fun h31=>?_) (fun h31=>?_)
   ·try simp only [Bool.not_eq_true'] at h31
    try simp only [zds] at h31
    cases h31
   ·try simp only [Bool.not_eq_false'] at h31
    try simp only [zds] at h31
    refine qC ?_;refine qB ?_;refine qK rfl (fun h35=>?_) (fun h35=>?_)
    ·try simp only [decide_eq_true_eq] at h35
     try simp only [zds] at h35
     refine qC ?_;refine qB ?_;refine qL ?_;exact ⟨rfl,⟨rfl,rfl⟩,rfl⟩
    ·try simp only [decide_eq_false_iff_not,Int.not_le] at h35
     try simp only [zds] at h35
     omega
theorem lIns_ok {κ : Nat} (es : List Ent) (n m id : Int) (f : List Fld) (j : Nat) (hj : j ≤ es.length) (h : ¬ (atE es id < 0 ∧ id ≠ 0)) (ha : atE es id + 1 = (j : Int)) (hf : yV f) (hc : (chkR f).2 = 0) (hm : 0 ≤ m ∧ m < 400) (hn : 0 ≤ n ∧ n ≤ 1000000000) (hl : es.length ≤ 1000000) : qX Tryz.prog 33 [.one (.own 0 0),ii .i64 id,.one (.slk κ rFld f)] (lsO (es,n,m)) 2 (.tup [(false,[.lit (.int .i64 n)]),(false,[.lit .nilIface])]) (lsO (insE es j (itmOf f,n),n + 1,m + 1)) 2:=by
  have hins:=insert_x es (itmOf f,n) j hj hl;rw [← ha] at hins;refine qT (rs:=[6,7]) Tryz.func33 rfl rfl rfl teOk (by decide) rfl ?_;refine qC ?_;refine qB ?_;refine qC ?_;refine qB ?_;refine Or.inr (Or.inr (Or.inl ?_));refine zai rfl ?_;refine zei _ (zai (at_c es n m id) ?_);refine qC ?_;refine qC ?_;refine qB ?_;refine zai (fun h=>trivial) ?_;refine zai (fun h=>⟨⟨h,trivial⟩,trivial⟩) ?_;refine zai (fun h=>⟨⟨h,trivial⟩,trivial⟩) ?_;refine zai (fun h=>trivial) ?_;refine zai (fun h=>⟨⟨h,trivial⟩,trivial⟩) ?_;refine zai (fun h=>⟨⟨⟨h,trivial⟩,trivial⟩,by first|exact fun h2=>h2|(intro h2;rw [h,h2];rfl)|(intro h2;cases h2)|(intro h2;simp_all [gq])⟩) ?_;refine zai (by first|(intro h;rw [h];rfl)|(intro h;cases h)) ?_;refine qK rfl (fun h24=>?_) (fun h24=>?_)
  ·try simp only [decide_eq_true_eq,decide_eq_false_iff_not,Bool.and_eq_true,Bool.not_eq_true',Bool.or_eq_true] at h24
   try simp only [zds] at h24
   exact absurd (by simpa using h24) h
  ·try simp only [decide_eq_true_eq,decide_eq_false_iff_not,Bool.not_eq_false',Bool.or_eq_false_iff,Bool.and_eq_false_iff,Int.not_lt] at h24
   try simp only [zds] at h24
   refine qM ?_;refine qC ?_;refine qB ?_;refine Or.inl ?_;refine zai (rfl) ?_;refine zei _ (zai (pitem_ok hf hc) ?_);refine qC ?_;refine qO ?_;refine qC ?_;refine qB ?_;refine qK rfl (fun h31=>?_) (fun h31=>?_)
   ·try simp only [Bool.not_eq_true'] at h31
    try simp only [zds] at h31
    cases h31
   ·try simp only [Bool.not_eq_false'] at h31
    try simp only [zds] at h31
    refine qC ?_;refine qB ?_;refine qK rfl (fun h35=>?_) (fun h35=>?_)
    ·try simp only [decide_eq_true_eq] at h35
     try simp only [zds] at h35
     omega
    ·try simp only [decide_eq_false_iff_not,Int.not_le] at h35
     try simp only [zds] at h35
     refine qM ?_;refine qC ?_;refine qB ?_;refine qC ?_;refine yZ rfl ?_;refine qJ 0 rfl rfl rfl (by kernel_rfl) ?_;refine qJ 1 rfl rfl rfl (by kernel_rfl) ?_;refine qJ 2 rfl rfl rfl (by kernel_rfl) ?_;refine qJ 3 rfl rfl rfl (by kernel_rfl) ?_;refine qJ 5 rfl rfl rfl (by kernel_rfl) ?_;refine qJ 6 rfl rfl rfl (by kernel_rfl) ?_;refine zai (by first|omega|assumption|decide|(simp only [zds];omega)|(simp <;> omega)) ?_;refine qJ 8 rfl rfl rfl (by kernel_rfl) ?_;refine qI [4,7] (by kernel_rfl) rfl ?_;refine zai ?_ ?_
     ·refine qI [7] (by kernel_rfl) rfl ?_;refine qI [9] (by kernel_rfl) rfl ?_;refine qI [10] (by kernel_rfl) rfl ?_;refine qI [11] (by kernel_rfl) rfl ?_;refine Or.inr (Or.inr (Or.inr (zei [1,3] (zei [] (zei _ (zei _ (zei _ (zei _ (zei _ (zai (hins) (zai rfl (zai (zai (zai rfl rfl) (zai (zai rfl rfl) True.intro)) (zai rfl ?_)))))))))))));refine qJ 12 rfl rfl rfl (by kernel_rfl) ?_;refine qJ 13 rfl rfl rfl (by kernel_rfl) ?_;refine qI [14] (by kernel_rfl) rfl ?_;refine qN (by kernel_rfl) ?_;refine qC ?_;refine qB ?_;refine zai (by first|omega|assumption|decide|(simp only [];omega)|(simp <;> omega)) ?_;refine qC ?_;refine qB ?_;refine zai (by first|omega|assumption|decide|(simp only [];omega)|(simp <;> omega)) ?_;refine qC ?_;refine qB ?_;refine qL ?_;exact ⟨rfl,⟨rfl,rfl⟩,rfl⟩
     ·refine qI [4,9] (by kernel_rfl) rfl ?_;refine zai ?_ ?_
      ·refine qI [9] (by kernel_rfl) rfl ?_;refine qI [10] (by kernel_rfl) rfl ?_;refine qI [11] (by kernel_rfl) rfl ?_;refine Or.inr (Or.inr (Or.inr (zei [1,3] (zei [] (zei _ (zei _ (zei _ (zei _ (zei _ (zai (hins) (zai rfl (zai (zai (zai rfl rfl) (zai (zai rfl rfl) True.intro)) (zai rfl ?_)))))))))))));refine qJ 12 rfl rfl rfl (by kernel_rfl) ?_;refine qJ 13 rfl rfl rfl (by kernel_rfl) ?_;refine qI [14] (by kernel_rfl) rfl ?_;refine qN (by kernel_rfl) ?_;refine qC ?_;refine qB ?_;refine zai (by first|omega|assumption|decide|(simp only [];omega)|(simp <;> omega)) ?_;refine qC ?_;refine qB ?_;refine zai (by first|omega|assumption|decide|(simp only [];omega)|(simp <;> omega)) ?_;refine qC ?_;refine qB ?_;refine qL ?_;exact ⟨rfl,⟨rfl,rfl⟩,rfl⟩
      ·refine qI [4,10] (by kernel_rfl) rfl ?_;refine zai ?_ ?_
       ·refine qI [10] (by kernel_rfl) rfl ?_;refine qI [11] (by kernel_rfl) rfl ?_;refine Or.inr (Or.inr (Or.inr (zei [1,3] (zei [] (zei _ (zei _ (zei _ (zei _ (zei _ (zai (hins) (zai rfl (zai (zai (zai rfl rfl) (zai (zai rfl rfl) True.intro)) (zai rfl ?_)))))))))))));refine qJ 12 rfl rfl rfl (by kernel_rfl) ?_;refine qJ 13 rfl rfl rfl (by kernel_rfl) ?_;refine qI [14] (by kernel_rfl) rfl ?_;refine qN (by kernel_rfl) ?_;refine qC ?_;refine qB ?_;refine zai (by first|omega|assumption|decide|(simp only [];omega)|(simp <;> omega)) ?_;refine qC ?_;refine qB ?_;refine zai (by first|omega|assumption|decide|(simp only [];omega)|(simp <;> omega)) ?_;refine qC ?_;refine qB ?_;refine qL ?_;exact ⟨rfl,⟨rfl,rfl⟩,rfl⟩
       ·refine qI [4] (by kernel_rfl) rfl ?_;refine qI [11] (by kernel_rfl) rfl ?_;refine Or.inr (Or.inr (Or.inr (zei [1,3] (zei [] (zei _ (zei _ (zei _ (zei _ (zei _ (zai (hins) (zai rfl (zai (zai (zai rfl rfl) (zai (zai rfl rfl) True.intro)) (zai rfl ?_)))))))))))));refine qJ 12 rfl rfl rfl (by kernel_rfl) ?_;refine qJ 13 rfl rfl rfl (by kernel_rfl) ?_;refine qI [14] (by kernel_rfl) rfl ?_;refine qN (by kernel_rfl) ?_;refine qC ?_;refine qB ?_;refine zai (by first|omega|assumption|decide|(simp only [];omega)|(simp <;> omega)) ?_;refine qC ?_;refine qB ?_;refine zai (by first|omega|assumption|decide|(simp only [];omega)|(simp <;> omega)) ?_;refine qC ?_;refine qB ?_;refine qL ?_;exact ⟨rfl,⟨rfl,rfl⟩,rfl⟩
end Q
end Ab
end Go.Proofs.YtbfhpimmlehkcaaGreatDoor
namespace Go.Proofs.YtbfhpimmlehkcaaGreatDoor
open Go.RowKit
namespace Ab
set_option maxRecDepth 100000
abbrev Edt:=Int × Int × List Fld
abbrev rEdt : Rd Edt:=.st (.int .i64) (.st (.int .i64) (.sl rFld))
namespace Q
def heavyB (l : List Edt) : Bool:=decide (51 < l.length) || l.any fun e=>muchB e.2.2
theorem heavy_c (l : List Edt) : qU Tryz.prog 38 [.one (.sl rEdt l)] (ib (heavyB l)):=by
  refine qS (rs:=[2]) Tryz.func38 rfl rfl rfl teOk rfl ?_;refine qC ?_;refine qB ?_;refine qC ?_;refine qC ?_;refine qB ?_;intro l1_1
  try simp only [zds] at l1_1
  refine qO ?_;refine qZ (fun (i : Nat)=>i ≤ l.length ∧ i ≤ 51 ∧ (l.take i).any (fun e=>muchB e.2.2) = false) (fun (i : Nat)=>[(5,.one (.sl rEdt l)),(6,ii .i64 l.length),(7,ii .i64 i)]) (fun (i : Nat)=>[]) 0 (fun (i : Nat)=>l.length - i) 0 (⟨Nat.zero_le _,Nat.zero_le _,rfl⟩) (qQ ⟨rfl,rfl,rfl⟩ trivial rfl) ?_;intro i hI0;obtain ⟨hi,hi2,hn⟩:=hI0;refine qC ?_;refine qB ?_;refine qC ?_;refine qK rfl (fun h8=>?_) (fun h8=>?_)
  ·try simp only [decide_eq_true_eq] at h8
   try simp only [zds] at h8
   have hil : i < l.length:=(by omega);have hsn:=take_any l (fun e : Edt=>muchB e.2.2) ((0 : Int),(0 : Int),([] : List Fld)) i hil;rw [hn,Bool.false_or] at hsn;refine qM ?_;refine qC ?_;refine qO ?_;refine qC ?_;refine qB ?_;refine zai (by first|omega|assumption|decide|(simp only [zds];omega)|(simp <;> omega)) ?_;refine qC ?_;refine qB ?_;refine zai (fun h=>trivial) ?_;refine zai (fun h=>⟨⟨h,trivial⟩,trivial⟩) ?_;refine Or.inl ?_;refine zai (rfl) ?_;refine zei _ (zai (fun h=>⟨⟨⟨h,trivial⟩,trivial⟩,much_c _⟩) ?_);refine zai (by first|(intro h;rw [h];rfl)|(intro h;cases h)) ?_;refine qK rfl (fun h18=>?_) (fun h18=>?_)
   ·try simp only [decide_eq_true_eq,Bool.or_eq_true] at h18
    try simp only [Int.toNat_natCast,qH,qG,qE] at h18
    refine qC ?_;refine qB ?_;refine qL ?_;refine ib_eq (Eq.symm ?_);unfold heavyB;rcases h18 with h|h
    rw [decide_eq_true (show 51 < l.length by omega)];rfl;rw [show l.any (fun e : Edt=>muchB e.2.2) = true from List.any_eq_true.2 ⟨_,yH hil ((0 : Int),(0 : Int),([] : List Fld)),h⟩,Bool.or_true]
   ·try simp only [decide_eq_false_iff_not,Bool.or_eq_false_iff,Int.not_lt] at h18
    try simp only [Int.toNat_natCast,qH,qG,qE] at h18
    refine qM ?_;refine qB ?_;refine zai (by first|omega|assumption|decide|(simp only [zds];omega)|(simp <;> omega)) ?_;exact ⟨i + 1,⟨by omega,by omega,by rw [hsn];exact h18.2⟩,by first|omega|(simp <;> omega),qQ ⟨rfl,rfl,(yB (by omega))⟩ trivial rfl⟩
  ·try simp only [decide_eq_false_iff_not,Int.not_lt] at h8
   try simp only [zds] at h8
   refine yC ?_;refine qC ?_;refine qB ?_;refine qL ?_;rw [List.take_of_length_le (by omega)] at hn;refine ib_eq (Eq.symm ?_);unfold heavyB;rw [hn,decide_eq_false (by omega)];rfl
theorem copiesF_o (l : List Fld) (hl : l.length ≤ 1000000) : qX Tryz.prog 78 [.one (.sl rFld l)] [] 0 (.one (.vec 0)) [(0,.vec 85 rFld l)] 1:=by
  refine qT (rs:=[2]) Tryz.func78 rfl rfl rfl teOk (by decide) rfl ?_;refine qC ?_;refine qB ?_;refine qC ?_;refine qB ?_;refine zai (by first|exact qP (by first|omega|(simp only [List.length_nil];omega)|(simp;omega)) (by decide)|omega|assumption|decide|(simp only [zds];omega)|(simp <;> omega)) ?_;refine qL ?_;exact ⟨rfl,rfl,rfl⟩
def spF : Fld:=(⟨#[115,112,111,105,108,116]⟩,⟨#[115,112,111,105,108,116]⟩)
theorem fieldsk_c {κ : Nat} (a b : List Fld) : qU Tryz.prog 75 [.one (.slk κ rFld a),.one (.sl rFld b)] (ib (decide (a = b))):=by
  refine qS (rs:=[4]) Tryz.func75 rfl rfl rfl teOk rfl ?_;refine qC ?_;refine qB ?_;refine qC ?_;refine qC ?_;refine qB ?_;intro l1_1
  try simp only [zds] at l1_1
  intro l1_3
  try simp only [zds] at l1_3
  refine qK rfl (fun h10=>?_) (fun h10=>?_)
  ·try simp only [decide_eq_false_iff_not,Bool.not_eq_true'] at h10
   try simp only [zds] at h10
   refine qC ?_;refine qB ?_;refine qL ?_;exact ib_eq (decide_eq_false (fun e=>by rw [e] at h10;omega)).symm
  ·try simp only [decide_eq_true_eq,Bool.not_eq_false'] at h10
   try simp only [zds] at h10
   refine qM ?_;refine qC ?_;refine qC ?_;refine qB ?_;intro l3_1
   try simp only [zds] at l3_1
   refine qO ?_;refine qZ (fun (i : Nat)=>i ≤ a.length ∧ a.take i = b.take i) (fun (i : Nat)=>[(0,.one (.slk κ rFld a)),(1,.one (.sl rFld b)),(12,ii .i64 a.length),(13,ii .i64 i)]) (fun (i : Nat)=>[]) 0 (fun (i : Nat)=>a.length - i) 0 (⟨Nat.zero_le _,by simp⟩) (qQ ⟨rfl,rfl,rfl,rfl⟩ trivial rfl) ?_;intro i hI0;obtain ⟨hi,ht⟩:=hI0;refine qC ?_;refine qB ?_;refine qC ?_;refine qK rfl (fun h14=>?_) (fun h14=>?_)
   ·try simp only [decide_eq_true_eq] at h14
    try simp only [zds] at h14
    have hla : i < a.length:=by omega
    have hlb : i < b.length:=by omega
    refine qM ?_;refine qC ?_;refine qO ?_;refine qC ?_;refine qB ?_;refine qC ?_;refine acode_draw rfl (by kernel_rfl) ?_;refine zai (by first|omega|assumption|decide|(simp only [zds];omega)|(simp <;> omega)) ?_;refine zai (by first|omega|assumption|decide|(simp only [zds];omega)|(simp <;> omega)) ?_;refine zai (by rfl) ?_;refine qK rfl (fun h24=>?_) (fun h24=>?_)
    ·try simp only [decide_eq_false_iff_not,Bool.not_eq_true',Bool.and_eq_false_iff] at h24
     try simp only [Int.toNat_natCast,qG,qF] at h24
     refine qC ?_;refine qB ?_;refine qL ?_;exact ib_eq (decide_eq_false (ne_at (i:=i) (ByteArray.empty,ByteArray.empty) (fun e=>h24.elim (fun h=>h (congrArg Prod.fst e)) (fun h=>h (congrArg Prod.snd e))))).symm
    ·try simp only [decide_eq_true_eq,Bool.and_eq_true,Bool.not_eq_false'] at h24
     try simp only [Int.toNat_natCast,qG,qF] at h24
     refine qM ?_;refine qB ?_;refine zai (by first|omega|assumption|decide|(simp only [zds];omega)|(simp <;> omega)) ?_;exact ⟨i + 1,⟨by omega,list_ext_take (ByteArray.empty,ByteArray.empty) hla hlb ht (Prod.ext h24.1 h24.2)⟩,by first|omega|(simp <;> omega),qQ ⟨rfl,rfl,rfl,(yB (by omega))⟩ trivial rfl⟩
   ·try simp only [decide_eq_false_iff_not,Int.not_lt] at h14
    try simp only [zds] at h14
    refine yC ?_;refine qC ?_;refine qB ?_;refine qL ?_;exact ib_eq (decide_eq_true (by rw [List.take_of_length_le (by omega),List.take_of_length_le (by omega)] at ht;exact ht)).symm
end Q
end Ab
end Go.Proofs.YtbfhpimmlehkcaaGreatDoor
namespace Go.Proofs.YtbfhpimmlehkcaaGreatDoor
open Go.RowKit
namespace Ab
set_option maxRecDepth 100000
namespace Q
theorem itEs_len (es : List Ent) : (itEs es).length = (es.filter live).length:=List.length_map _
theorem itEs_get (es : List Ent) {i : Nat} (h : i < (itEs es).length) : ∃ e ∈ es,(es.filter live).getD i (((0 : Int),ByteArray.empty,([] : List Fld)),(0 : Int)) = e ∧ i < (es.filter live).length ∧ (itEs es)[i] = [A.agg (toL rEnt e)]:=by
  have h1 : i < (es.filter live).length:=by rw [← itEs_len];exact h
  refine ⟨_,(List.mem_filter.1 (yH h1 (((0 : Int),ByteArray.empty,([] : List Fld)),(0 : Int)))).1,rfl,h1,?_⟩;exact (List.getElem_map (fun e=>[A.agg (toL rEnt e)])).trans (congrArg (fun e=>[A.agg (toL rEnt e)]) (getD_get h1 (((0 : Int),ByteArray.empty,([] : List Fld)),(0 : Int))))
def stT (es : List Ent) (i : Nat) : List Stz:=((es.filter live).take i).map stzOf
theorem stT_snoc {es : List Ent} {i : Nat} (h : i < (es.filter live).length) : stT es (i + 1) = stT es i ++ [stzOf ((es.filter live).getD i (((0 : Int),ByteArray.empty,([] : List Fld)),(0 : Int)))]:=by
  unfold stT;rw [← yE (((0 : Int),ByteArray.empty,([] : List Fld)),(0 : Int)) h,List.map_append];rfl
theorem stT_len {es : List Ent} {i : Nat} : (stT es i).length ≤ i:=by
  unfold stT;rw [List.length_map,List.length_take];omega
theorem live_len (es : List Ent) : (es.filter live).length ≤ es.length:=List.length_filter_le _ _
theorem stanzasL_c {k : Nat} (es : List Ent) (n m : Int) (hl : es.length ≤ 1000000) (hf : ∀ e ∈ es,e.1.2.2.length ≤ 1000000) : qU Tryz.prog 51 [.one (.adk k (rLst k) (es,n,m))] (.one (.sl rStz (stzL es))):=by
  have hll:=live_len es;refine qS (rs:=[2]) Tryz.func51 rfl rfl rfl teOk rfl ?_;refine qC ?_;refine qB ?_;refine qC ?_;refine qB ?_;refine qC ?_;refine qC ?_;refine qB ?_;refine Or.inl ?_;refine zai (rfl) ?_;refine zei _ (zai (all_c (es,n,m)) ?_);refine qO ?_;refine yI 0 0 42 rStz rfl rfl rfl ?_;refine acode_range (caps:=[.one (.ref (.adk k (rLst k) (es,n,m)))]) (xs:=itEs es) [(3,.one (.own 0 0)),(6,.one (.clo 108 (.ref (.adk k (rLst k) (es,n,m)))))] 2 (fun st j (i : Nat)=>st = false ∧ i = j) (fun i=>[(0,.box 38 [.vec 1]),(1,.vec 42 rStz (stT es i))]) (fun _=>.ret) 0 rfl rfl (all_iter es n m) (qQ ⟨rfl,rfl⟩ ⟨rfl,rfl⟩ rfl) ⟨rfl,rfl⟩ (fun j hj=>by simp [itEs]) rfl rfl rfl (fun _ _ _=>rfl) rfl ?_ ?_ ?_
  ·intro j i hk hp;obtain ⟨_,rfl⟩:=hp;obtain ⟨e,he,hg,hi,hx⟩:=itEs_get es hk;rw [hx];have hsn:=stT_snoc hi;rw [hg] at hsn;have hsl:=@stT_len es i;refine qB ?_;refine qO ?_;refine yZ rfl ?_;refine qJ 1 rfl rfl rfl (by kernel_rfl) ?_;refine qJ 3 rfl rfl rfl (by kernel_rfl) ?_;refine qJ 4 rfl rfl rfl (by kernel_rfl) ?_;refine qI [0,2,5] (by kernel_rfl) rfl ?_;refine zai ?_ ?_
   ·refine qI [2,5] (by kernel_rfl) rfl ?_;refine zai ?_ ?_
    ·refine qI [5] (by kernel_rfl) rfl ?_;refine qI [6] (by kernel_rfl) rfl ?_;refine Or.inl ?_;refine zai (rfl) ?_;refine zei _ (zai (clone_c e.1.2.2 (hf e he)) ?_);refine qI [7] (by kernel_rfl) rfl ?_;refine qI [8] (by kernel_rfl) rfl ?_;refine qI [9] (by kernel_rfl) rfl ?_;refine zai (by exact qP (show (stT es i).length + 1 ≤ 1000000000 by omega) (by decide)) ?_;refine qI [10] (by kernel_rfl) rfl ?_;refine qN (by kernel_rfl) ?_;exact ⟨i + 1,⟨rfl,rfl⟩,qQ trivial ⟨rfl,yG (by rw [hsn];exact rfl)⟩ rfl⟩
    ·refine qI [2,6] (by kernel_rfl) rfl ?_;refine zai ?_ ?_
     ·refine qI [6] (by kernel_rfl) rfl ?_;refine Or.inl ?_;refine zai (rfl) ?_;refine zei _ (zai (clone_c e.1.2.2 (hf e he)) ?_);refine qI [7] (by kernel_rfl) rfl ?_;refine qI [8] (by kernel_rfl) rfl ?_;refine qI [9] (by kernel_rfl) rfl ?_;refine zai (by exact qP (show (stT es i).length + 1 ≤ 1000000000 by omega) (by decide)) ?_;refine qI [10] (by kernel_rfl) rfl ?_;refine qN (by kernel_rfl) ?_;exact ⟨i + 1,⟨rfl,rfl⟩,qQ trivial ⟨rfl,yG (by rw [hsn];exact rfl)⟩ rfl⟩
     ·refine Or.inl ?_;refine zai (rfl) ?_;refine zei _ (zai (clone_c e.1.2.2 (hf e he)) ?_);refine qI [2] (by kernel_rfl) rfl ?_;refine qI [7] (by kernel_rfl) rfl ?_;refine qI [8] (by kernel_rfl) rfl ?_;refine qI [9] (by kernel_rfl) rfl ?_;refine zai (by exact qP (show (stT es i).length + 1 ≤ 1000000000 by omega) (by decide)) ?_;refine qI [10] (by kernel_rfl) rfl ?_;refine qN (by kernel_rfl) ?_;exact ⟨i + 1,⟨rfl,rfl⟩,qQ trivial ⟨rfl,yG (by rw [hsn];exact rfl)⟩ rfl⟩
   refine zai ?_ ?_
   ·refine qI [0,5] (by kernel_rfl) rfl ?_;refine zai ?_ ?_
    ·refine qI [5] (by kernel_rfl) rfl ?_;refine qI [6] (by kernel_rfl) rfl ?_;refine Or.inl ?_;refine zai (rfl) ?_;refine zei _ (zai (clone_c e.1.2.2 (hf e he)) ?_);refine qI [7] (by kernel_rfl) rfl ?_;refine qI [8] (by kernel_rfl) rfl ?_;refine qI [9] (by kernel_rfl) rfl ?_;refine zai (by exact qP (show (stT es i).length + 1 ≤ 1000000000 by omega) (by decide)) ?_;refine qI [10] (by kernel_rfl) rfl ?_;refine qN (by kernel_rfl) ?_;exact ⟨i + 1,⟨rfl,rfl⟩,qQ trivial ⟨rfl,yG (by rw [hsn];exact rfl)⟩ rfl⟩
    ·refine qI [0,6] (by kernel_rfl) rfl ?_;refine zai ?_ ?_
     ·refine qI [6] (by kernel_rfl) rfl ?_;refine Or.inl ?_;refine zai (rfl) ?_;refine zei _ (zai (clone_c e.1.2.2 (hf e he)) ?_);refine qI [7] (by kernel_rfl) rfl ?_;refine qI [8] (by kernel_rfl) rfl ?_;refine qI [9] (by kernel_rfl) rfl ?_;refine zai (by exact qP (show (stT es i).length + 1 ≤ 1000000000 by omega) (by decide)) ?_;refine qI [10] (by kernel_rfl) rfl ?_;refine qN (by kernel_rfl) ?_;exact ⟨i + 1,⟨rfl,rfl⟩,qQ trivial ⟨rfl,yG (by rw [hsn];exact rfl)⟩ rfl⟩
     ·refine Or.inl ?_;refine zai (rfl) ?_;refine zei _ (zai (clone_c e.1.2.2 (hf e he)) ?_);refine qI [0,7] (by kernel_rfl) rfl ?_;refine zai ?_ ?_
      ·refine qI [7] (by kernel_rfl) rfl ?_;refine qI [8] (by kernel_rfl) rfl ?_;refine qI [9] (by kernel_rfl) rfl ?_;refine zai (by exact qP (show (stT es i).length + 1 ≤ 1000000000 by omega) (by decide)) ?_;refine qI [10] (by kernel_rfl) rfl ?_;refine qN (by kernel_rfl) ?_;exact ⟨i + 1,⟨rfl,rfl⟩,qQ trivial ⟨rfl,yG (by rw [hsn];exact rfl)⟩ rfl⟩
      ·refine qI [0,8] (by kernel_rfl) rfl ?_;refine zai ?_ ?_
       ·refine qI [8] (by kernel_rfl) rfl ?_;refine qI [9] (by kernel_rfl) rfl ?_;refine zai (by exact qP (show (stT es i).length + 1 ≤ 1000000000 by omega) (by decide)) ?_;refine qI [10] (by kernel_rfl) rfl ?_;refine qN (by kernel_rfl) ?_;exact ⟨i + 1,⟨rfl,rfl⟩,qQ trivial ⟨rfl,yG (by rw [hsn];exact rfl)⟩ rfl⟩
       ·refine qI [0] (by kernel_rfl) rfl ?_;refine qI [9] (by kernel_rfl) rfl ?_;refine zai (by exact qP (show (stT es i).length + 1 ≤ 1000000000 by omega) (by decide)) ?_;refine qI [10] (by kernel_rfl) rfl ?_;refine qN (by kernel_rfl) ?_;exact ⟨i + 1,⟨rfl,rfl⟩,qQ trivial ⟨rfl,yG (by rw [hsn];exact rfl)⟩ rfl⟩
   ·refine qI [0,2,6] (by kernel_rfl) rfl ?_;refine zai ?_ ?_
    ·refine qI [2,6] (by kernel_rfl) rfl ?_;refine zai ?_ ?_
     ·refine qI [6] (by kernel_rfl) rfl ?_;refine Or.inl ?_;refine zai (rfl) ?_;refine zei _ (zai (clone_c e.1.2.2 (hf e he)) ?_);refine qI [7] (by kernel_rfl) rfl ?_;refine qI [8] (by kernel_rfl) rfl ?_;refine qI [9] (by kernel_rfl) rfl ?_;refine zai (by exact qP (show (stT es i).length + 1 ≤ 1000000000 by omega) (by decide)) ?_;refine qI [10] (by kernel_rfl) rfl ?_;refine qN (by kernel_rfl) ?_;exact ⟨i + 1,⟨rfl,rfl⟩,qQ trivial ⟨rfl,yG (by rw [hsn];exact rfl)⟩ rfl⟩
     ·refine Or.inl ?_;refine zai (rfl) ?_;refine zei _ (zai (clone_c e.1.2.2 (hf e he)) ?_);refine qI [2] (by kernel_rfl) rfl ?_;refine qI [7] (by kernel_rfl) rfl ?_;refine qI [8] (by kernel_rfl) rfl ?_;refine qI [9] (by kernel_rfl) rfl ?_;refine zai (by exact qP (show (stT es i).length + 1 ≤ 1000000000 by omega) (by decide)) ?_;refine qI [10] (by kernel_rfl) rfl ?_;refine qN (by kernel_rfl) ?_;exact ⟨i + 1,⟨rfl,rfl⟩,qQ trivial ⟨rfl,yG (by rw [hsn];exact rfl)⟩ rfl⟩
    refine zai ?_ ?_
    ·refine qI [0,6] (by kernel_rfl) rfl ?_;refine zai ?_ ?_
     ·refine qI [6] (by kernel_rfl) rfl ?_;refine Or.inl ?_;refine zai (rfl) ?_;refine zei _ (zai (clone_c e.1.2.2 (hf e he)) ?_);refine qI [7] (by kernel_rfl) rfl ?_;refine qI [8] (by kernel_rfl) rfl ?_;refine qI [9] (by kernel_rfl) rfl ?_;refine zai (by exact qP (show (stT es i).length + 1 ≤ 1000000000 by omega) (by decide)) ?_;refine qI [10] (by kernel_rfl) rfl ?_;refine qN (by kernel_rfl) ?_;exact ⟨i + 1,⟨rfl,rfl⟩,qQ trivial ⟨rfl,yG (by rw [hsn];exact rfl)⟩ rfl⟩
     ·refine Or.inl ?_;refine zai (rfl) ?_;refine zei _ (zai (clone_c e.1.2.2 (hf e he)) ?_);refine qI [0,7] (by kernel_rfl) rfl ?_;refine zai ?_ ?_
      ·refine qI [7] (by kernel_rfl) rfl ?_;refine qI [8] (by kernel_rfl) rfl ?_;refine qI [9] (by kernel_rfl) rfl ?_;refine zai (by exact qP (show (stT es i).length + 1 ≤ 1000000000 by omega) (by decide)) ?_;refine qI [10] (by kernel_rfl) rfl ?_;refine qN (by kernel_rfl) ?_;exact ⟨i + 1,⟨rfl,rfl⟩,qQ trivial ⟨rfl,yG (by rw [hsn];exact rfl)⟩ rfl⟩
      ·refine qI [0,8] (by kernel_rfl) rfl ?_;refine zai ?_ ?_
       ·refine qI [8] (by kernel_rfl) rfl ?_;refine qI [9] (by kernel_rfl) rfl ?_;refine zai (by exact qP (show (stT es i).length + 1 ≤ 1000000000 by omega) (by decide)) ?_;refine qI [10] (by kernel_rfl) rfl ?_;refine qN (by kernel_rfl) ?_;exact ⟨i + 1,⟨rfl,rfl⟩,qQ trivial ⟨rfl,yG (by rw [hsn];exact rfl)⟩ rfl⟩
       ·refine qI [0] (by kernel_rfl) rfl ?_;refine qI [9] (by kernel_rfl) rfl ?_;refine zai (by exact qP (show (stT es i).length + 1 ≤ 1000000000 by omega) (by decide)) ?_;refine qI [10] (by kernel_rfl) rfl ?_;refine qN (by kernel_rfl) ?_;exact ⟨i + 1,⟨rfl,rfl⟩,qQ trivial ⟨rfl,yG (by rw [hsn];exact rfl)⟩ rfl⟩
    ·refine Or.inl ?_;refine zai (rfl) ?_;refine zei _ (zai (clone_c e.1.2.2 (hf e he)) ?_);refine qI [0,2] (by kernel_rfl) rfl ?_;refine zai ?_ ?_
     ·refine qI [2] (by kernel_rfl) rfl ?_;refine qI [7] (by kernel_rfl) rfl ?_;refine qI [8] (by kernel_rfl) rfl ?_;refine qI [9] (by kernel_rfl) rfl ?_;refine zai (by exact qP (show (stT es i).length + 1 ≤ 1000000000 by omega) (by decide)) ?_;refine qI [10] (by kernel_rfl) rfl ?_;refine qN (by kernel_rfl) ?_;exact ⟨i + 1,⟨rfl,rfl⟩,qQ trivial ⟨rfl,yG (by rw [hsn];exact rfl)⟩ rfl⟩
     ·refine qI [0,7] (by kernel_rfl) rfl ?_;refine zai ?_ ?_
      ·refine qI [7] (by kernel_rfl) rfl ?_;refine qI [8] (by kernel_rfl) rfl ?_;refine qI [9] (by kernel_rfl) rfl ?_;refine zai (by exact qP (show (stT es i).length + 1 ≤ 1000000000 by omega) (by decide)) ?_;refine qI [10] (by kernel_rfl) rfl ?_;refine qN (by kernel_rfl) ?_;exact ⟨i + 1,⟨rfl,rfl⟩,qQ trivial ⟨rfl,yG (by rw [hsn];exact rfl)⟩ rfl⟩
      ·refine qI [0,8] (by kernel_rfl) rfl ?_;refine zai ?_ ?_
       ·refine qI [8] (by kernel_rfl) rfl ?_;refine qI [9] (by kernel_rfl) rfl ?_;refine zai (by exact qP (show (stT es i).length + 1 ≤ 1000000000 by omega) (by decide)) ?_;refine qI [10] (by kernel_rfl) rfl ?_;refine qN (by kernel_rfl) ?_;exact ⟨i + 1,⟨rfl,rfl⟩,qQ trivial ⟨rfl,yG (by rw [hsn];exact rfl)⟩ rfl⟩
       ·refine qI [0] (by kernel_rfl) rfl ?_;refine qI [9] (by kernel_rfl) rfl ?_;refine zai (by exact qP (show (stT es i).length + 1 ≤ 1000000000 by omega) (by decide)) ?_;refine qI [10] (by kernel_rfl) rfl ?_;refine qN (by kernel_rfl) ?_;exact ⟨i + 1,⟨rfl,rfl⟩,qQ trivial ⟨rfl,yG (by rw [hsn];exact rfl)⟩ rfl⟩
  ·intro i hp;obtain ⟨_,rfl⟩:=hp;refine qC ?_;refine qB ?_;refine qL ?_;rw [show stT es (itEs es).length = stzL es from by unfold stT stzL;rw [itEs_len,List.take_length]];exact rfl
  ·intro j i hp;exact absurd hp.1 (by decide)
end Q
end Ab
end Go.Proofs.YtbfhpimmlehkcaaGreatDoor
namespace Go.Proofs.YtbfhpimmlehkcaaGreatDoor
open Go.RowKit
namespace Ab
set_option maxRecDepth 100000
namespace Q
def SmallF (l : List Fld) : Prop:=∀ f ∈ l,f.1.size ≤ 1000 ∧ f.2.size ≤ 1000
structure GP (p : PSt) : Prop where
  flds : SmallF p.flds
  room : p.lns ≠ [] → p.full = false → p.flds.length < 40
  len : p.flds.length ≤ 40
  its : ∀ x ∈ p.its,SmallF x.2.2 ∧ x.2.2.length ≤ 40
theorem smallF_nil : SmallF []:=fun f hf=>by cases hf
theorem flush_gp {p q : PSt} (h : GP p) (hf : yR p = .inr q) : GP q:=by
  unfold yR at hf;split at hf
  · cases hf;exact h
  · rename_i h0;split at hf
    · cases hf
    · split at hf
      · cases hf
      · rename_i h1 h2;cases hf;have hr:=h.room h0 (by simpa using h2);refine ⟨fun f hf=>?_,fun h=>absurd rfl h,by simp only [List.length_append,List.length_cons,List.length_nil];omega,h.its⟩;rcases List.mem_append.1 hf with hf|hf
        · exact h.flds f hf
        · rw [List.mem_singleton.1 hf];rcases unf_cases (p.lns.map ls) with ⟨n,hn,e⟩|⟨k,v,e,hk,hv⟩
          · rw [e];exact ⟨by show (bytes []).size ≤ 1000;decide,by show (bytes []).size ≤ 1000;decide⟩
          · rw [e];simp only [yJ];refine ⟨?_,hv⟩;unfold keyOk at hk;simp only [Bool.and_eq_true,decide_eq_true_eq] at hk;omega
theorem close_gp {q : PSt} (h : GP q) : GP (xR q):=by
  unfold xR;split
  · exact ⟨smallF_nil,fun _ _=>(by show 0 < 40;decide),(by show 0 ≤ 40;decide),h.its⟩
  · refine ⟨smallF_nil,fun _ _=>(by show 0 < 40;decide),(by show 0 ≤ 40;decide),fun x hx=>?_⟩;rcases List.mem_append.1 hx with hx|hx
    · exact h.its x hx
    · rw [List.mem_singleton.1 hx];exact ⟨h.flds,h.len⟩
theorem end_gp {p q : PSt} (h : GP p) (hf : endS p = .inr q) : GP q:=by
  unfold endS at hf;split at hf
  · cases hf
  · rename_i r e;cases hf;exact close_gp (flush_gp h e)
theorem begin_gp {p : PSt} (l : Lne) (h : GP p) : GP (xP p l):=by
  refine ⟨h.flds,fun _ hf=>?_,h.len,h.its⟩;have:=h.len;unfold xP at hf;simp only [Bool.or_eq_false_iff,decide_eq_false_iff_not] at hf;show p.flds.length < 40;omega
theorem ahead_gp {p q : PSt} {l : Lne} {k : Int} (h : GP p) (hf : yO p l k = .inr q) : GP q:=by
  unfold yO at hf;split at hf
  · split at hf
    · cases hf
    · rename_i h0;have h2 : GP { p with lns:=p.lns ++ [l.2.2.1] }:=⟨h.flds,fun _=>h.room h0,h.len,h.its⟩;split at hf
      · cases hf;exact h2
      · exact flush_gp h2 hf
  · split at hf
    · exact end_gp h hf
    · exact flush_gp h hf
theorem line_gp {p q : PSt} {l : Lne} {k : Int} (h : GP p) (hf : lineS p l k = .inr q) : GP q:=by
  unfold lineS at hf;split at hf
  · cases hf
  · split at hf
    · cases hf;refine ⟨h.flds,h.room,h.len,fun x hx=>?_⟩;rcases List.mem_append.1 hx with hx|hx
      · exact h.its x hx
      · rw [List.mem_singleton.1 hx];exact ⟨smallF_nil,by show 0 ≤ 40;decide⟩
    · split at hf
      · cases hf;have:=begin_gp l h;exact ⟨this.flds,this.room,this.len,this.its⟩
      · cases hf;exact ⟨h.flds,h.room,h.len,h.its⟩
theorem take_gp {p q : PSt} {l : Lne} (h : GP p) (hf : yS p l = .inr q) : GP q:=by
  unfold yS at hf;split at hf
  · cases hf
  · rename_i r e;exact line_gp (ahead_gp h e) hf
theorem run_gp : ∀ (L : List Lne) {p q : PSt},GP p → runS p L = .inr q → GP q
  | [],p,q,h,hf=>by
    cases hf;exact h
  | l :: r,p,q,h,hf=>by
    unfold runS at hf;split at hf
    · cases hf
    · rename_i t e;exact run_gp r (take_gp h e) hf
theorem items_small {s : ByteArray} {l : List Itm} (hp : yW s = .inr l) : ∀ x ∈ l,SmallF x.2.2 ∧ x.2.2.length ≤ 40:=by
  unfold yW at hp;split at hp
  · cases hp
  · rename_i p e;split at hp
    · cases hp
    · rename_i q e2;cases hp;exact (end_gp (run_gp _ ⟨smallF_nil,fun h=>absurd rfl h,by decide,fun x hx=>by cases hx⟩ e) e2).its
theorem fldsOk_of {l : List Fld} (h : SmallF l) (hl : l.length ≤ 40) : yV l:=⟨by omega,fun f hf=>by have:=h f hf;omega⟩
end Q
end Ab
end Go.Proofs.YtbfhpimmlehkcaaGreatDoor
namespace Go.Proofs.YtbfhpimmlehkcaaGreatDoor
open Go.RowKit
namespace Ab
set_option maxRecDepth 100000
namespace Q
abbrev RLs:=List Ent × Int
abbrev rRL : Rd RLs:=.st (.sl rEnt) (.int .i64)
theorem parse_ne {s : ByteArray} {at_ n : Int} (h : yW s = .inl (at_,n)) : n ≠ 0:=by
  rw [parse_ref] at h;exact runR_ne _ _ _ _ h
theorem rlbox_eq {T : TypeId} {i : Nat} {a b : Int} (h : a = b) : some (Ob.box T [.vec i,.lit (.int .i64 a)]) = some (Ob.box T [.vec i,.lit (.int .i64 b)]):=by rw [h]
theorem refOf_ok (s : ByteArray) (hs : s.size ≤ 60000) {l : List Itm} (hp : yW s = .inr l) : qU Tryz.prog 23 [is s] (.tup [(true,toL rRL (numI 1 l,1 + (cntR l : Int))),(false,[.lit (.int .i64 (-9))]),(false,[.lit (.int .i64 0)])]):=by
  have hpa:=refParse_a s hs;rw [hp] at hpa;obtain ⟨hl1,hl2⟩:=items_flds hs hp;refine acall_ofc (rs:=[.cell 2 50,.tmp 3,.tmp 4]) Tryz.func23 rfl rfl rfl teOk rfl ?_;refine qC ?_;refine qB ?_;refine qC ?_;refine qB ?_;refine Or.inl ?_;refine zai (rfl) ?_;refine zei _ (zai (hpa) ?_);refine qC ?_;refine qC ?_;refine qB ?_;refine qK rfl (fun h18=>?_) (fun h18=>?_)
  ·try simp only [decide_eq_false_iff_not,Bool.not_eq_true'] at h18
   try simp only [zds] at h18
   simp at h18
  ·try simp only [decide_eq_true_eq,Bool.not_eq_false'] at h18
   try simp only [zds] at h18
   refine qM ?_;refine qC ?_;refine qB ?_;refine qC ?_;refine qC ?_;refine yI 1 0 131 rEnt rfl rfl rfl ?_;refine qB ?_;refine qO ?_;refine qZ (fun (i : Nat)=>i ≤ l.length) (fun (i : Nat)=>[(2,.one (.own 0 0)),(5,.one (.sl rItm l)),(6,ii .i64 (-9)),(8,.one (.own 1 0)),(9,ii .i64 i)]) (fun (i : Nat)=>[(0,.box 50 [.lit (.slice none 0 0),.lit (.int .i64 0)]),(1,.box 50 [.vec 2,.lit (.int .i64 (1 + (cntR (l.take i) : Int)))]),(2,.vec 131 rEnt (numI 1 (l.take i)))]) 3 (fun (i : Nat)=>l.length - i) 0 (Nat.zero_le _) (qQ ⟨rfl,rfl,rfl,rfl,rfl⟩ ⟨rfl,rfl,rfl⟩ rfl) ?_;intro i hI0;refine qC ?_;refine qC ?_;refine qB ?_;intro l6_2
   try simp only [zds] at l6_2
   refine qK rfl (fun h26=>?_) (fun h26=>?_)
   ·try simp only [decide_eq_true_eq] at h26
    try simp only [zds] at h26
    have hil : i < l.length:=(by omega);have hsn:=numI_at hil;have hcn:=cntR_at hil;have hcl:=cntR_le (l.take i);rw [List.length_take] at hcl;refine qM ?_;refine qC ?_;refine qO ?_;refine qC ?_;refine qB ?_;refine zai (by first|omega|assumption|decide|(simp only [zds];omega)|(simp <;> omega)) ?_;refine qC ?_;refine qC ?_;refine qB ?_;refine zai (by first|omega|assumption|decide|(simp only [zds];omega)|(simp <;> omega)) ?_;refine qK rfl (fun h39=>?_) (fun h39=>?_)
    ·try simp only [decide_eq_true_eq] at h39
     try simp only [Int.toNat_natCast,qH,qG,qF,qE] at h39
     have hk : isRec (l.getD i ((0 : Int),ByteArray.empty,([] : List Fld))) = true:=decide_eq_true h39;rw [hk,if_pos rfl] at hsn hcn;refine qC ?_;refine qB ?_;refine qB ?_;refine zai (by first|omega|assumption|decide|(simp only [zds];omega)|(simp <;> omega)) ?_;refine qB ?_;refine zai (by exact qP (show (numI 1 (l.take i)).length + 1 ≤ 1000000000 by rw [numI_len,List.length_take];omega) (by decide)) ?_;refine qB ?_;refine zai (by first|omega|assumption|decide|(simp only [zds];omega)|(simp <;> omega)) ?_;exact ⟨i + 1,by omega,by first|omega|(simp <;> omega),qQ ⟨rfl,rfl,rfl,rfl,(yB (by omega))⟩ ⟨rfl,(rlbox_eq (by omega)),(yG (by rw [hsn];exact rfl))⟩ rfl⟩
    ·try simp only [decide_eq_false_iff_not] at h39
     try simp only [Int.toNat_natCast,qH,qG,qF,qE] at h39
     have hk : isRec (l.getD i ((0 : Int),ByteArray.empty,([] : List Fld))) = false:=decide_eq_false h39;rw [hk,if_neg Bool.false_ne_true] at hsn hcn;refine qM ?_;refine qB ?_;refine zai (by exact qP (show (numI 1 (l.take i)).length + 1 ≤ 1000000000 by rw [numI_len,List.length_take];omega) (by decide)) ?_;refine qB ?_;refine zai (by first|omega|assumption|decide|(simp only [zds];omega)|(simp <;> omega)) ?_;exact ⟨i + 1,by omega,by first|omega|(simp <;> omega),qQ ⟨rfl,rfl,rfl,rfl,(yB (by omega))⟩ ⟨rfl,(rlbox_eq (by omega)),(yG (by rw [hsn];exact rfl))⟩ rfl⟩
   ·try simp only [decide_eq_false_iff_not,Int.not_lt] at h26
    try simp only [zds] at h26
    refine yC ?_;refine qC ?_;refine qB ?_;refine yM [2] ?_;refine qL ?_;rw [List.take_of_length_le (by omega)];exact rfl
theorem refOf_err (s : ByteArray) (hs : s.size ≤ 60000) {at_ n : Int} (hp : yW s = .inl (at_,n)) : qU Tryz.prog 23 [is s] (.tup [(true,[.lit (.slice none 0 0),.lit (.int .i64 0)]),(false,[.lit (.int .i64 at_)]),(false,[.lit (.int .i64 n)])]):=by
  have hpa:=refParse_a s hs;rw [hp] at hpa;have hne:=parse_ne hp;refine acall_ofc (rs:=[.cell 2 50,.tmp 3,.tmp 4]) Tryz.func23 rfl rfl rfl teOk rfl ?_;refine qC ?_;refine qB ?_;refine qC ?_;refine qB ?_;refine Or.inl ?_;refine zai (rfl) ?_;refine zei _ (zai (hpa) ?_);refine qC ?_;refine qC ?_;refine qB ?_;refine qK rfl (fun h18=>?_) (fun h18=>?_)
  ·try simp only [decide_eq_false_iff_not,Bool.not_eq_true'] at h18
   try simp only [zds] at h18
   refine qC ?_;refine qB ?_;refine qL ?_;rfl
  ·try simp only [decide_eq_true_eq,Bool.not_eq_false'] at h18
   try simp only [zds] at h18
   exact absurd h18 hne
end Q
end Ab
end Go.Proofs.YtbfhpimmlehkcaaGreatDoor
namespace Go.Proofs.YtbfhpimmlehkcaaGreatDoor
open Go.RowKit
namespace Ab
set_option maxRecDepth 100000
namespace Q
def doL (L : Lst) (e : Edt) : Lst :=
  if e.1 = 1 then
    if atE L.1 e.2.1 < 0 then L else if (chkR e.2.2).2 ≠ 0 then L else (replE L.1 (atE L.1 e.2.1).toNat (itmOf e.2.2),L.2)
  else if e.1 = 2 then
    if atE L.1 e.2.1 < 0 then L else (delE L.1 (atE L.1 e.2.1).toNat,L.2.1,L.2.2 - 1)
  else if atE L.1 e.2.1 < 0 ∧ e.2.1 ≠ 0 then L else if (chkR e.2.2).2 ≠ 0 then L else if 400 ≤ L.2.2 then L else
    (insE L.1 (atE L.1 e.2.1 + 1).toNat (itmOf e.2.2,L.2.1),L.2.1 + 1,L.2.2 + 1)
def refRep (M : RLs) (id : Int) (f : List Fld) : RLs × Int × Int :=
  if atE M.1 id < 0 then (M,-9,7) else if (chkR f).2 ≠ 0 then (M,(chkR f).1,(chkR f).2) else ((replE M.1 (atE M.1 id).toNat (itmOf f),M.2),-9,0)
def refDel (M : RLs) (id : Int) : RLs × Int :=
  if atE M.1 id < 0 then (M,7) else ((delE M.1 (atE M.1 id).toNat,M.2),0)
def refIns (M : RLs) (id : Int) (f : List Fld) : RLs × Int × Int × Int :=
  if atE M.1 id < 0 ∧ id ≠ 0 then (M,0,-9,7) else if (chkR f).2 ≠ 0 then (M,0,(chkR f).1,(chkR f).2) else if 400 ≤ ((M.1.filter live).length : Int) then (M,0,-9,11) else
    ((insE M.1 (atE M.1 id + 1).toNat (itmOf f,M.2),M.2 + 1),M.2,-9,0)
def posI (n : Int) : Bool:=decide (0 < n)
def nmsL (es : List Ent) : List Int:=(es.map (·.2)).filter posI
theorem ids_eq (es : List Ent) : (es.filter live).map (·.2) = nmsL es:=by
  unfold nmsL;rw [List.filter_map];rfl
theorem ids_len (es : List Ent) : (nmsL es).length = (es.filter live).length:=by rw [← ids_eq,List.length_map]
structure LOk (c : Nat) (L : Lst) : Prop where
  flds : ∀ e ∈ L.1,yV e.1.2.2
  ids : ∀ e ∈ L.1,0 ≤ e.2 ∧ e.2 < L.2.1
  nd : (nmsL L.1).Nodup
  many : L.2.2 = ((nmsL L.1).length : Int)
  next : 1 ≤ L.2.1 ∧ L.2.1 ≤ c
  len : L.1.length ≤ c
theorem ids_repl (es : List Ent) (i : Nat) (x : Itm) (h : i < es.length) : (replE es i x).map (·.2) = es.map (·.2):=by
  apply List.ext_getElem
  · simp [replE]
  · intro j h1 h2;simp only [replE,List.getElem_map,List.getElem_set];split
    · rename_i e;subst e;simp only;rw [List.getD_eq_getElem?_getD,List.getElem?_eq_getElem h];rfl
    · rfl
theorem mem_repl {es : List Ent} {i : Nat} {x : Itm} {e : Ent} (h : e ∈ replE es i x) : e ∈ es ∨ e = (x,(es.getD i (((0 : Int),ByteArray.empty,([] : List Fld)),(0 : Int))).2):=List.mem_or_eq_of_mem_set h
theorem del_split {es : List Ent} {i : Nat} (h : i < es.length) : es = es.take i ++ (es.getD i (((0 : Int),ByteArray.empty,([] : List Fld)),(0 : Int))) :: es.drop (i + 1):=by
  conv=>lhs;rw [← List.take_append_drop i es,List.drop_eq_getElem_cons h]
  rw [List.getD_eq_getElem?_getD,List.getElem?_eq_getElem h];rfl
theorem mem_del {es : List Ent} {i : Nat} {e : Ent} (h : e ∈ delE es i) : e ∈ es:=by
  rcases List.mem_append.1 h with h|h
  · exact List.mem_of_mem_take h
  · exact List.mem_of_mem_drop h
theorem ids_app (a b : List Ent) : nmsL (a ++ b) = nmsL a ++ nmsL b:=by unfold nmsL;rw [List.map_append,List.filter_append]
theorem ids_cons (e : Ent) (b : List Ent) : nmsL (e :: b) = if 0 < e.2 then e.2 :: nmsL b else nmsL b:=by
  unfold nmsL;rw [List.map_cons,List.filter_cons];unfold posI
  by_cases h : 0 < e.2
  · rw [if_pos h,if_pos (decide_eq_true h)]
  · rw [if_neg h,if_neg (by simpa using h)]
theorem ids_del {es : List Ent} {i : Nat} (h : i < es.length) (hp : 0 < (es.getD i (((0 : Int),ByteArray.empty,([] : List Fld)),(0 : Int))).2) : (nmsL es).length = (nmsL (delE es i)).length + 1 ∧ ((nmsL es).Nodup → (nmsL (delE es i)).Nodup):=by
  have e1 : nmsL es = nmsL (es.take i) ++ (es.getD i (((0 : Int),ByteArray.empty,([] : List Fld)),(0 : Int))).2 :: nmsL (es.drop (i + 1)):=by
    conv=>lhs;rw [del_split h,ids_app,ids_cons,if_pos hp]
  have e2 : nmsL (delE es i) = nmsL (es.take i) ++ nmsL (es.drop (i + 1)):=ids_app _ _;rw [e1,e2];refine ⟨by simp only [List.length_append,List.length_cons];omega,fun hn=>?_⟩;exact hn.sublist (List.Sublist.append_left (List.sublist_cons_self _ _) _)
theorem mem_ins {es : List Ent} {i : Nat} {x e : Ent} (h : e ∈ insE es i x) : e ∈ es ∨ e = x:=by
  rcases List.mem_append.1 h with h|h
  · exact .inl (List.mem_of_mem_take h)
  · rcases List.mem_cons.1 h with h|h
    · exact .inr h
    · exact .inl (List.mem_of_mem_drop h)
theorem ids_ins {es : List Ent} {i : Nat} {x : Ent} (hp : 0 < x.2) (hlt : ∀ e ∈ es,e.2 < x.2) : (nmsL (insE es i x)).length = (nmsL es).length + 1 ∧ ((nmsL es).Nodup → (nmsL (insE es i x)).Nodup):=by
  have e1 : nmsL es = nmsL (es.take i) ++ nmsL (es.drop i):=by
    conv=>lhs;rw [← List.take_append_drop i es,ids_app]
  have e2 : nmsL (insE es i x) = nmsL (es.take i) ++ x.2 :: nmsL (es.drop i):=by unfold insE;rw [ids_app,ids_cons,if_pos hp]
  have hno : x.2 ∉ nmsL es:=fun h=>by
    unfold nmsL at h;obtain ⟨e,he,hx⟩:=List.mem_map.1 (List.mem_filter.1 h).1;have:=hlt e he;omega
  rw [e1] at hno ⊢;rw [e2];refine ⟨by simp only [List.length_append,List.length_cons];omega,fun hn=>?_⟩;rw [List.perm_middle.nodup_iff];exact List.nodup_cons.2 ⟨hno,hn⟩
theorem doL_ok {c : Nat} {L : Lst} {e : Edt} (h : LOk c L) (hf : yV e.2.2) : LOk (c + 1) (doL L e):=by
  have h0 : LOk (c + 1) L:=⟨h.flds,h.ids,h.nd,h.many,⟨h.next.1,by have:=h.next.2;omega⟩,by have:=h.len;omega⟩;have hat : ∀ id,¬ atE L.1 id < 0 → ∃ i : Nat,i < L.1.length ∧ atE L.1 id = i ∧ 0 < id ∧ (L.1.getD i (((0 : Int),ByteArray.empty,([] : List Fld)),(0 : Int))).2 = id:=fun id hn=>by
    rcases at_cases L.1 id with ⟨h1,_⟩|⟨i,h1,h2,h3,h4,_⟩
    · omega
    · exact ⟨i,h1,h2,h3,h4⟩
  unfold doL;split
  · split
    · exact h0
    · rename_i hn;obtain ⟨i,hi,he,hp,hid⟩:=hat _ hn;rw [he,Int.toNat_natCast];split
      · exact h0
      · have hids : nmsL (replE L.1 i (itmOf e.2.2)) = nmsL L.1:=by unfold nmsL;rw [ids_repl _ _ _ hi]
        refine ⟨fun x hx=>?_,fun x hx=>?_,by show (nmsL (replE L.1 i _)).Nodup;rw [hids];exact h.nd,by show L.2.2 = ((nmsL (replE L.1 i _)).length : Int);rw [hids];exact h.many,h0.next,?_⟩
        · rcases mem_repl hx with hx|rfl
          · exact h.flds x hx
          · exact hf
        · rcases mem_repl hx with hx|rfl
          · exact h.ids x hx
          · show 0 ≤ (L.1.getD i (((0 : Int),ByteArray.empty,([] : List Fld)),(0 : Int))).2 ∧ (L.1.getD i (((0 : Int),ByteArray.empty,([] : List Fld)),(0 : Int))).2 < L.2.1;exact h.ids _ (yH hi (((0 : Int),ByteArray.empty,([] : List Fld)),(0 : Int)))
        · show (replE L.1 i _).length ≤ c + 1;unfold replE;rw [List.length_set];exact h0.len
  · split
    · split
      · exact h0
      · rename_i hn;obtain ⟨i,hi,he,hp,hid⟩:=hat _ hn;rw [he,Int.toNat_natCast];obtain ⟨h1,h2⟩:=ids_del hi (by omega);refine ⟨fun x hx=>h.flds x (mem_del hx),fun x hx=>h.ids x (mem_del hx),h2 h.nd,?_,h0.next,?_⟩
        · show L.2.2 - 1 = ((nmsL (delE L.1 i)).length : Int);rw [h.many];omega
        · show (delE L.1 i).length ≤ c + 1;have:=h.len;unfold delE;rw [List.length_append,List.length_take,List.length_drop];omega
    · split
      · exact h0
      · rename_i hn;split
        · exact h0
        · split
          · exact h0
          · have hnx:=h.next;obtain ⟨h1,h2⟩:=ids_ins (es:=L.1) (i:=(atE L.1 e.2.1 + 1).toNat) (x:=(itmOf e.2.2,L.2.1)) (by show 0 < L.2.1;omega) (fun x hx=>(h.ids x hx).2);refine ⟨fun x hx=>?_,fun x hx=>?_,h2 h.nd,?_,⟨by show 1 ≤ L.2.1 + 1;omega,by show L.2.1 + 1 ≤ ((c + 1 : Nat) : Int);omega⟩,?_⟩
            · rcases mem_ins hx with hx|rfl
              · exact h.flds x hx
              · exact hf
            · show 0 ≤ x.2 ∧ x.2 < L.2.1 + 1;rcases mem_ins hx with hx|rfl
              · have:=h.ids x hx;omega
              · show 0 ≤ L.2.1 ∧ L.2.1 < L.2.1 + 1;omega
            · show L.2.2 + 1 = _;rw [h1,h.many];omega
            · have:=h.len;show (insE L.1 _ _).length ≤ c + 1;unfold insE;rw [List.length_append,List.length_cons,List.length_take,List.length_drop];omega
theorem ids_num : ∀ (l : List Itm) (n : Int),1 ≤ n → nmsL (numI n l) = (List.range (cntR l)).map (fun k : Nat=>n + (k : Int)) ∧ ∀ e ∈ numI n l,0 ≤ e.2 ∧ e.2 < n + (cntR l : Int)
  | [],n,_=>⟨rfl,fun e he=>by cases he⟩
  | x :: r,n,hn=>by
    unfold numI;split
    · rename_i h;obtain ⟨h1,h2⟩:=ids_num r (n + 1) (by omega);have hc : cntR (x :: r) = cntR r + 1:=by simp [cntR,h]
      rw [hc];refine ⟨?_,fun e he=>?_⟩
      · rw [ids_cons,if_pos (show 0 < n by omega),h1,List.range_succ_eq_map,List.map_cons,List.map_map]
        congr 1
        · simp
        · apply List.map_congr_left;intro k _;simp only [Function.comp];omega
      · rcases List.mem_cons.1 he with rfl|he
        · show 0 ≤ n ∧ n < _;omega
        · have:=h2 e he;omega
    · rename_i h;obtain ⟨h1,h2⟩:=ids_num r n hn;have hc : cntR (x :: r) = cntR r:=by simp [cntR,h]
      rw [hc];refine ⟨?_,fun e he=>?_⟩
      · rw [ids_cons,if_neg (show ¬ (0 : Int) < 0 by omega),h1]
      · rcases List.mem_cons.1 he with rfl|he
        · show 0 ≤ (0 : Int) ∧ (0 : Int) < _;omega
        · exact h2 e he
theorem ofT_ok {l : List Itm} {c : Nat} (hl : l.length < c) (hf : ∀ x ∈ l,yV x.2.2) : LOk c (ofT l):=by
  obtain ⟨h1,h2⟩:=ids_num l 1 (Int.le_refl _);have h3:=List.length_filter_le isRec l;have h4 : cntR l ≤ l.length:=h3;refine ⟨fun e he=>?_,h2,?_,?_,⟨?_,?_⟩,?_⟩
  · have : e.1 ∈ (numI 1 l).map (·.1):=List.mem_map.2 ⟨e,he,rfl⟩;rw [numI_items] at this;exact hf _ this
  · show (nmsL (numI 1 l)).Nodup;rw [h1];refine List.Pairwise.map _ ?_ List.nodup_range;intro a b hab e;apply hab;omega
  · show (cntR l : Int) = _;rw [show nmsL (ofT l).1 = _ from h1,List.length_map,List.length_range]
  · show 1 ≤ 1 + (cntR l : Int);omega
  · show 1 + (cntR l : Int) ≤ c;omega
  · show (numI 1 l).length ≤ c;rw [numI_len];omega
def refDo (M : RLs) (e : Edt) : RLs:=if e.1 = 1 then (refRep M e.2.1 e.2.2).1 else if e.1 = 2 then (refDel M e.2.1).1 else (refIns M e.2.1 e.2.2).1
end Q
end Ab
end Go.Proofs.YtbfhpimmlehkcaaGreatDoor
namespace Go.Proofs.YtbfhpimmlehkcaaGreatDoor
open Go.RowKit
namespace Ab
set_option maxRecDepth 100000
namespace Q
theorem itmL_snoc {es : List Ent} {i : Nat} (h : i < es.length) : itmL (es.take (i + 1)) = itmL (es.take i) ++ [(es.getD i (((0 : Int),ByteArray.empty,([] : List Fld)),(0 : Int))).1]:=by
  unfold itmL;rw [← yE (((0 : Int),ByteArray.empty,([] : List Fld)),(0 : Int)) h,List.map_append];rfl
theorem itmsL_c {k : Nat} (es : List Ent) (n m : Int) (hl : es.length ≤ 1000000) (hf : ∀ e ∈ es,e.1.2.2.length ≤ 1000000) : qU Tryz.prog 89 [.one (.adk k (rLst k) (es,n,m))] (.one (.sl rItm (itmL es))):=by
  refine qS (rs:=[2]) Tryz.func89 rfl rfl rfl teOk rfl ?_;refine qC ?_;refine qB ?_;refine qC ?_;refine qB ?_;refine qC ?_;refine qC ?_;refine qB ?_;refine qK rfl (fun h8=>?_) (fun h8=>?_)
  ·try simp only [zbq] at h8
   try simp only [zds] at h8
   simp at h8
  ·skip
   refine qM ?_;refine qC ?_;refine qC ?_;refine xI 3 110 rItm rfl ?_;refine qB ?_;intro l4_4;refine qO ?_;refine qZ (fun (i : Nat)=>i ≤ es.length) (fun (i : Nat)=>[(3,.one (.vec 0)),(12,.one (.slk k rEnt es)),(13,ii .i64 es.length),(14,ii .i64 i)]) (fun (i : Nat)=>[(0,.vec 110 rItm (itmL (es.take i)))]) 1 (fun (i : Nat)=>es.length - i) 0 (Nat.zero_le _) (qQ ⟨rfl,rfl,rfl,rfl⟩ rfl rfl) ?_;intro i hI0;refine qC ?_;refine qB ?_;refine qC ?_;refine qK rfl (fun h15=>?_) (fun h15=>?_)
   ·try simp only [decide_eq_true_eq] at h15
    try simp only [zds] at h15
    have hil : i < es.length:=(by omega);have hsn:=itmL_snoc hil;refine qM ?_;refine qC ?_;refine qO ?_;refine qC ?_;refine qB ?_;refine zai (by first|omega|assumption|decide|(simp only [zds];omega)|(simp <;> omega)) ?_;refine qC ?_;refine qB ?_;refine qC ?_;refine qB ?_;refine Or.inl ?_;refine zai (rfl) ?_;refine zei _ (zai (clone_c (es.getD i (((0 : Int),ByteArray.empty,([] : List Fld)),(0 : Int))).1.2.2 (hf _ (yH hil (((0 : Int),ByteArray.empty,([] : List Fld)),(0 : Int))))) ?_);refine qB ?_;refine zai (by exact qP (show (itmL (es.take i)).length + 1 ≤ 1000000000 by unfold itmL;rw [List.length_map,List.length_take];omega) (by decide)) ?_;refine qB ?_;refine zai (by first|omega|assumption|decide|(simp only [zds];omega)|(simp <;> omega)) ?_;exact ⟨i + 1,by omega,by first|omega|(simp <;> omega),qQ ⟨rfl,rfl,rfl,(yB (by omega))⟩ (yG (by rw [hsn];try exact rfl)) rfl⟩
   ·try simp only [decide_eq_false_iff_not,Int.not_lt] at h15
    try simp only [zds] at h15
    refine yC ?_;refine qC ?_;refine qB ?_;refine qL ?_;rw [List.take_of_length_le (by omega)];exact rfl
theorem textL_c {k : Nat} (es : List Ent) (n m : Int) (hl : es.length ≤ 400000) (hf : ∀ e ∈ es,e.1.2.2.length ≤ 1000000) (hs : szI (apartL (itmL es)) ≤ 100000000) : qU Tryz.prog 50 [.one (.adk k (rLst k) (es,n,m))] (is (bytes (txtL es))):=by
  have h1 : (itmL es).length ≤ 1000000:=by unfold itmL;rw [List.length_map];omega
  have h2 : ∀ x ∈ itmL es,x.2.2.length ≤ 1000000:=fun x hx=>by obtain ⟨e,he,rfl⟩:=List.mem_map.1 hx;exact hf e he
  have h3 : (apartL (itmL es)).length ≤ 1000000:=by
    have:=apartK_len (itmL es) 1;have h4 : (apartL (itmL es)).length ≤ 2 * (itmL es).length:=this;rw [show (itmL es).length = es.length from List.length_map _] at h4;omega
  have hr:=render_c (itmL es) (apartL (itmL es)) h3 hs (apart_c _ h1 h2);refine qS (rs:=[2]) Tryz.func50 rfl rfl rfl teOk rfl ?_;refine qC ?_;refine qB ?_;refine qC ?_;refine qB ?_;refine Or.inl ?_;refine zai (rfl) ?_;refine zei _ (zai (itmsL_c es n m (by omega) hf) ?_);refine Or.inl ?_;refine zai (rfl) ?_;refine zei _ (zai (hr) ?_);refine qL ?_;rfl
def prPl (es : List Ent) (id : Int) : Bool → Nat → Nat × Int → Prop
  | false,j,x=>x.1 = j ∧ x.2 = 0 ∧ ((es.filter live).take x.1).any (hasId id) = false
  | true,_,x=>x.2 = plcL es id
end Q
end Ab
end Go.Proofs.YtbfhpimmlehkcaaGreatDoor
namespace Go.Proofs.YtbfhpimmlehkcaaGreatDoor
open Go.RowKit
namespace Ab
set_option maxRecDepth 100000
namespace Q
theorem copyL_o {k : Nat} (es : List Ent) (n m : Int) (hl : es.length ≤ 1000000) : qX Tryz.prog 86 [.one (.adk k (rLst k) (es,n,m))] [] 0 (.one (.own 1 0)) [(1,.box 108 [.vec 0,.lit (.int .i64 n),.lit (.int .i64 m)]),(0,.vec 112 rEnt es)] 2:=by
  have hcl:=cloneE_o (k:=k) es hl;refine qT (rs:=[2]) Tryz.func86 rfl rfl rfl teOk (by decide) rfl ?_;refine qC ?_;refine qB ?_;refine qC ?_;refine qC ?_;refine qB ?_;refine qK rfl (fun h4=>?_) (fun h4=>?_)
  ·try simp only [zbq] at h4
   try simp only [zds] at h4
   simp at h4
  ·try simp only [zbq] at h4
   try simp only [zds] at h4
   refine qM ?_;refine qC ?_;refine yZ rfl ?_;refine qJ 0 rfl rfl rfl (by kernel_rfl) ?_;refine qJ 1 rfl rfl rfl (by kernel_rfl) ?_;refine qJ 2 rfl rfl rfl (by kernel_rfl) ?_;refine qJ 5 rfl rfl rfl (by kernel_rfl) ?_;refine qJ 6 rfl rfl rfl (by kernel_rfl) ?_;refine qJ 7 rfl rfl rfl (by kernel_rfl) ?_;refine qJ 9 rfl rfl rfl (by kernel_rfl) ?_;refine qJ 10 rfl rfl rfl (by kernel_rfl) ?_;refine qJ 11 rfl rfl rfl (by kernel_rfl) ?_;refine qI [3,8,12] (by kernel_rfl) rfl ?_;refine zai ?_ ?_
   ·refine qI [4,8,12] (by kernel_rfl) rfl ?_;refine zai ?_ ?_
    ·refine Or.inr (Or.inl (zei [] (zei [] (zei _ (zei _ (zei _ (zei _ (zei _ (zai (hcl) (zai rfl (zai True.intro (zai rfl ?_))))))))))));refine qI [8,12] (by kernel_rfl) rfl ?_;refine zai ?_ ?_
     ·refine qI [12] (by kernel_rfl) rfl ?_;refine qI [13] (by kernel_rfl) rfl ?_;refine qI [14] (by kernel_rfl) rfl ?_;refine qJ 15 rfl rfl rfl (by kernel_rfl) ?_;refine qN (by kernel_rfl) ?_;refine qL ?_;exact ⟨rfl,⟨rfl,rfl⟩,rfl⟩
     ·refine qI [8] (by kernel_rfl) rfl ?_;refine qI [13] (by kernel_rfl) rfl ?_;refine qI [14] (by kernel_rfl) rfl ?_;refine qJ 15 rfl rfl rfl (by kernel_rfl) ?_;refine qN (by kernel_rfl) ?_;refine qL ?_;exact ⟨rfl,⟨rfl,rfl⟩,rfl⟩
    refine zai ?_ ?_
    ·refine qI [4,12] (by kernel_rfl) rfl ?_;refine zai ?_ ?_
     ·refine Or.inr (Or.inl (zei [] (zei [] (zei _ (zei _ (zei _ (zei _ (zei _ (zai (hcl) (zai rfl (zai True.intro (zai rfl ?_))))))))))));refine qI [12] (by kernel_rfl) rfl ?_;refine qI [13] (by kernel_rfl) rfl ?_;refine qI [14] (by kernel_rfl) rfl ?_;refine qJ 15 rfl rfl rfl (by kernel_rfl) ?_;refine qN (by kernel_rfl) ?_;refine qL ?_;exact ⟨rfl,⟨rfl,rfl⟩,rfl⟩
     ·refine qI [4] (by kernel_rfl) rfl ?_;refine Or.inr (Or.inl (zei [] (zei [] (zei _ (zei _ (zei _ (zei _ (zei _ (zai (hcl) (zai rfl (zai True.intro (zai rfl ?_))))))))))));refine qI [13] (by kernel_rfl) rfl ?_;refine qI [14] (by kernel_rfl) rfl ?_;refine qJ 15 rfl rfl rfl (by kernel_rfl) ?_;refine qN (by kernel_rfl) ?_;refine qL ?_;exact ⟨rfl,⟨rfl,rfl⟩,rfl⟩
    ·refine qI [4,8] (by kernel_rfl) rfl ?_;refine zai ?_ ?_
     ·refine Or.inr (Or.inl (zei [] (zei [] (zei _ (zei _ (zei _ (zei _ (zei _ (zai (hcl) (zai rfl (zai True.intro (zai rfl ?_))))))))))));refine qI [8] (by kernel_rfl) rfl ?_;refine qI [13] (by kernel_rfl) rfl ?_;refine qI [14] (by kernel_rfl) rfl ?_;refine qJ 15 rfl rfl rfl (by kernel_rfl) ?_;refine qN (by kernel_rfl) ?_;refine qL ?_;exact ⟨rfl,⟨rfl,rfl⟩,rfl⟩
     ·refine qI [4] (by kernel_rfl) rfl ?_;refine Or.inr (Or.inl (zei [] (zei [] (zei _ (zei _ (zei _ (zei _ (zei _ (zai (hcl) (zai rfl (zai True.intro (zai rfl ?_))))))))))));refine qI [13] (by kernel_rfl) rfl ?_;refine qI [14] (by kernel_rfl) rfl ?_;refine qJ 15 rfl rfl rfl (by kernel_rfl) ?_;refine qN (by kernel_rfl) ?_;refine qL ?_;exact ⟨rfl,⟨rfl,rfl⟩,rfl⟩
   refine zai ?_ ?_
   ·refine qI [3,12] (by kernel_rfl) rfl ?_;refine zai ?_ ?_
    ·refine qI [4,12] (by kernel_rfl) rfl ?_;refine zai ?_ ?_
     ·refine Or.inr (Or.inl (zei [] (zei [] (zei _ (zei _ (zei _ (zei _ (zei _ (zai (hcl) (zai rfl (zai True.intro (zai rfl ?_))))))))))));refine qI [12] (by kernel_rfl) rfl ?_;refine qI [13] (by kernel_rfl) rfl ?_;refine qI [14] (by kernel_rfl) rfl ?_;refine qJ 15 rfl rfl rfl (by kernel_rfl) ?_;refine qN (by kernel_rfl) ?_;refine qL ?_;exact ⟨rfl,⟨rfl,rfl⟩,rfl⟩
     ·refine qI [4] (by kernel_rfl) rfl ?_;refine Or.inr (Or.inl (zei [] (zei [] (zei _ (zei _ (zei _ (zei _ (zei _ (zai (hcl) (zai rfl (zai True.intro (zai rfl ?_))))))))))));refine qI [13] (by kernel_rfl) rfl ?_;refine qI [14] (by kernel_rfl) rfl ?_;refine qJ 15 rfl rfl rfl (by kernel_rfl) ?_;refine qN (by kernel_rfl) ?_;refine qL ?_;exact ⟨rfl,⟨rfl,rfl⟩,rfl⟩
    ·refine qI [3] (by kernel_rfl) rfl ?_;refine qI [4] (by kernel_rfl) rfl ?_;refine Or.inr (Or.inl (zei [] (zei [] (zei _ (zei _ (zei _ (zei _ (zei _ (zai (hcl) (zai rfl (zai True.intro (zai rfl ?_))))))))))));refine qI [13] (by kernel_rfl) rfl ?_;refine qI [14] (by kernel_rfl) rfl ?_;refine qJ 15 rfl rfl rfl (by kernel_rfl) ?_;refine qN (by kernel_rfl) ?_;refine qL ?_;exact ⟨rfl,⟨rfl,rfl⟩,rfl⟩
   ·refine qI [3,8] (by kernel_rfl) rfl ?_;refine zai ?_ ?_
    ·refine qI [4,8] (by kernel_rfl) rfl ?_;refine zai ?_ ?_
     ·refine Or.inr (Or.inl (zei [] (zei [] (zei _ (zei _ (zei _ (zei _ (zei _ (zai (hcl) (zai rfl (zai True.intro (zai rfl ?_))))))))))));refine qI [8] (by kernel_rfl) rfl ?_;refine qI [13] (by kernel_rfl) rfl ?_;refine qI [14] (by kernel_rfl) rfl ?_;refine qJ 15 rfl rfl rfl (by kernel_rfl) ?_;refine qN (by kernel_rfl) ?_;refine qL ?_;exact ⟨rfl,⟨rfl,rfl⟩,rfl⟩
     ·refine qI [4] (by kernel_rfl) rfl ?_;refine Or.inr (Or.inl (zei [] (zei [] (zei _ (zei _ (zei _ (zei _ (zei _ (zai (hcl) (zai rfl (zai True.intro (zai rfl ?_))))))))))));refine qI [13] (by kernel_rfl) rfl ?_;refine qI [14] (by kernel_rfl) rfl ?_;refine qJ 15 rfl rfl rfl (by kernel_rfl) ?_;refine qN (by kernel_rfl) ?_;refine qL ?_;exact ⟨rfl,⟨rfl,rfl⟩,rfl⟩
    ·refine qI [3] (by kernel_rfl) rfl ?_;refine qI [4] (by kernel_rfl) rfl ?_;refine Or.inr (Or.inl (zei [] (zei [] (zei _ (zei _ (zei _ (zei _ (zei _ (zai (hcl) (zai rfl (zai True.intro (zai rfl ?_))))))))))));refine qI [13] (by kernel_rfl) rfl ?_;refine qI [14] (by kernel_rfl) rfl ?_;refine qJ 15 rfl rfl rfl (by kernel_rfl) ?_;refine qN (by kernel_rfl) ?_;refine qL ?_;exact ⟨rfl,⟨rfl,rfl⟩,rfl⟩
end Q
end Ab
end Go.Proofs.YtbfhpimmlehkcaaGreatDoor
namespace Go.Proofs.YtbfhpimmlehkcaaGreatDoor
open Go.RowKit
namespace Ab
set_option maxRecDepth 100000
namespace Q
end Q
end Ab
end Go.Proofs.YtbfhpimmlehkcaaGreatDoor
namespace Go.Proofs.YtbfhpimmlehkcaaGreatDoor
open Go.RowKit
namespace Ab
set_option maxRecDepth 100000
namespace Q
abbrev zRL : List C:=[.lit (.slice none 0 0),.lit (.int .i64 0)]
end Q
end Ab
end Go.Proofs.YtbfhpimmlehkcaaGreatDoor
namespace Go.Proofs.YtbfhpimmlehkcaaGreatDoor
open Go.RowKit
namespace Ab
set_option maxRecDepth 100000
namespace Q
def insT (es : List Ent) (j : Nat) (e : Ent) (i : Nat) : List Ent:=if i < j then es.take i else insE (es.take i) j e
end Q
end Ab
end Go.Proofs.YtbfhpimmlehkcaaGreatDoor
namespace Go.Proofs.YtbfhpimmlehkcaaGreatDoor
open Go.RowKit
namespace Ab
set_option maxRecDepth 100000
namespace Q
def doB (num at_ id bad at2 want : Int) : Bool:=((true && decide (num = bad)) && decide (at_ = at2)) && decide (id = want)
end Q
end Ab
end Go.Proofs.YtbfhpimmlehkcaaGreatDoor
namespace Go.Proofs.YtbfhpimmlehkcaaGreatDoor
open Go.RowKit
namespace Ab
set_option maxRecDepth 100000
namespace Q
theorem chk_shape {f : List Fld} (h : (chkR f).2 ≠ 0) : (∃ k9,chkA f = errN k9 ∧ k9 ≠ 0 ∧ (-9 : Int) = (chkR f).1 ∧ k9 = (chkR f).2) ∨ ∃ a9 k9,chkA f = errF a9 k9 ∧ k9 ≠ 0 ∧ a9 = (chkR f).1 ∧ k9 = (chkR f).2:=by
  obtain ⟨e,he,hs⟩:=chk_bad h;rcases hs with ⟨n,hn,rfl,hr⟩|⟨i,n,hn,rfl,hr⟩
  · exact .inl ⟨n,he,hn,by rw [hr],by rw [hr]⟩
  · exact .inr ⟨i,n,he,hn,by rw [hr],by rw [hr]⟩
def yP (L : Lst) (s : List Edt) (i : Nat) : Lst:=(s.take i).foldl doL L
theorem plays_snoc (L : Lst) {s : List Edt} {i : Nat} (h : i < s.length) : yP L s (i + 1) = doL (yP L s i) (s.getD i ((0 : Int),(0 : Int),([] : List Fld))):=by
  unfold yP;rw [← yE ((0 : Int),(0 : Int),([] : List Fld)) h,List.foldl_append];rfl
theorem plays_ok {c : Nat} {L : Lst} {s : List Edt} (h : LOk c L) (hf : ∀ e ∈ s,yV e.2.2) : ∀ i,i ≤ s.length → LOk (c + i) (yP L s i)
  | 0,_=>by simpa [yP] using h
  | i + 1,hi=>by
    rw [plays_snoc L (by omega)];exact doL_ok (plays_ok h hf i (by omega)) (hf _ (yH (by omega) ((0 : Int),(0 : Int),([] : List Fld))))
theorem heavy_ok {s : List Edt} (h : heavyB s = false) : s.length ≤ 51 ∧ ∀ e ∈ s,muchB e.2.2 = false:=by
  unfold heavyB at h;simp only [Bool.or_eq_false_iff,decide_eq_false_iff_not] at h;exact ⟨by omega,fun e he=>by simpa using List.any_eq_false.1 h.2 e he⟩
theorem items_len {s : ByteArray} {l : List Itm} (hp : yW s = .inr l) : l.length ≤ 2 * s.size + 1:=by
  have h0:=parse_ref s;rw [hp] at h0;obtain ⟨h1,_⟩:=linesT_len s;have key : ∀ (L : List Lne) (t : RSt) (bh : Bool) (l : List Itm),runR bh t L = .inr l → l.length ≤ t.out.length + 1 + 2 * L.length:=by
    intro L
    induction L with
    | nil =>
      intro t bh l h;unfold runR at h;cases h;split <;> simp
    | cons a r ih =>
      intro t bh l h;unfold runR at h;split at h
      · cases h
      · have i1:=ih _ _ _ h;have so : (yX t a r).out.length ≤ t.out.length + 2:=by
          unfold yX;split
          · simp only;split <;> simp
          · split <;> simp
        rw [List.length_cons];omega
  have k1:=key _ _ _ _ h0.symm;simp only [rst0,List.length_nil] at k1;omega
theorem of_lok {s : ByteArray} {l : List Itm} (hs : s.size ≤ 4000) (hp : yW s = .inr l) : LOk 9000 (ofT l):=by
  have h1:=items_len hp;exact ofT_ok (by omega) fun x hx=>fldsOk_of (items_small hp x hx).1 (items_small hp x hx).2
theorem LOk.f1 {c : Nat} {L : Lst} (h : LOk c L) : ∀ e ∈ L.1,e.1.2.2.length ≤ 1000000:=fun e he=>Nat.le_trans (h.flds e he).1 (by decide)
end Q
end Ab
end Go.Proofs.YtbfhpimmlehkcaaGreatDoor
namespace Go.Proofs.YtbfhpimmlehkcaaGreatDoor
open Go.RowKit
namespace Ab
set_option maxRecDepth 100000
abbrev rEdk (κ : Nat) : Rd Edt:=.st (.int .i64) (.st (.int .i64) (.slk κ rFld))
namespace Q
def goodN (x : Edt) : Int:=if x.1 = 2 then (if 0 < x.2.2.length then 2 else 0) else if x.1 = 1 ∨ x.1 = 3 then (chkR x.2.2).2 else 2
def chkF (k : Int) : List Edt → Int × Int
  | []=>(-9,0)
  | x :: r=>if goodN x ≠ 0 then (k,goodN x) else chkF (k + 1) r
def chkB (l : List Edt) : Int × Int:=if l.length < 1 ∨ 40 < l.length then (-9,1) else chkF 0 l
theorem chkF_at : ∀ (l : List Edt) (i : Nat) (k : Int),i < l.length → (∀ e ∈ l.take i,goodN e = 0) → goodN (l.getD i ((0 : Int),(0 : Int),([] : List Fld))) ≠ 0 → chkF k l = (k + i,goodN (l.getD i ((0 : Int),(0 : Int),([] : List Fld))))
  | [],i,k,h,_,_=>by simp at h
  | f :: r,0,k,_,_,hb=>by
    unfold chkF;rw [if_pos (by simpa using hb)];simp
  | f :: r,i + 1,k,h,ht,hb=>by
    unfold chkF;rw [if_neg (by simpa using ht f (by simp))];rw [chkF_at r i (k + 1) (by simpa using h) (fun g hg=>ht g (by simp [hg])) (by simpa using hb)];simp only [List.getD_cons_succ]
    congr 1
    omega
theorem chkF_no : ∀ (l : List Edt) (k : Int),(∀ e ∈ l,goodN e = 0) → chkF k l = (-9,0)
  | [],_,_=>rfl
  | f :: r,k,h=>by
    unfold chkF;rw [if_neg (by simpa using h f (by simp))];exact chkF_no r (k + 1) (fun g hg=>h g (by simp [hg]))
theorem chkF_zero : ∀ (l : List Edt) (k : Int),(chkF k l).2 = 0 → ∀ e ∈ l,goodN e = 0
  | [],_,_,f,hf=>by cases hf
  | g :: r,k,h,f,hf=>by
    unfold chkF at h;split at h
    · rename_i hg;exact absurd h hg
    · rename_i hg;rcases List.mem_cons.1 hf with rfl|hf
      · exact Classical.not_not.1 hg
      · exact chkF_zero r (k + 1) h f hf
theorem chkB_rng {l : List Edt} (h : l.length < 1 ∨ 40 < l.length) : chkB l = (-9,1):=if_pos h
theorem chkB_at {l : List Edt} {i : Nat} (h1 : ¬ (l.length < 1 ∨ 40 < l.length)) (h : i < l.length) (ht : ∀ e ∈ l.take i,goodN e = 0) (hb : goodN (l.getD i ((0 : Int),(0 : Int),([] : List Fld))) ≠ 0) : chkB l = ((i : Int),goodN (l.getD i ((0 : Int),(0 : Int),([] : List Fld)))):=by
  unfold chkB;rw [if_neg h1,chkF_at l i 0 h ht hb,Int.zero_add]
theorem chkB_no {l : List Edt} (h1 : ¬ (l.length < 1 ∨ 40 < l.length)) (h : ∀ e ∈ l,goodN e = 0) : chkB l = (-9,0):=by
  unfold chkB;rw [if_neg h1,chkF_no l 0 h]
theorem chkB_zero {l : List Edt} (h : (chkB l).2 = 0) : (1 ≤ l.length ∧ l.length ≤ 40) ∧ ∀ e ∈ l,goodN e = 0:=by
  unfold chkB at h;split at h
  · cases h
  · exact ⟨by omega,chkF_zero l 0 h⟩
theorem chkB_good {l : List Edt} (h : (chkB l).2 = 0) : chkB l = (-9,0):=chkB_no (by have:=(chkB_zero h).1;omega) (chkB_zero h).2
theorem chkB_cases (l : List Edt) : (chkB l = (-9,0) ∧ (1 ≤ l.length ∧ l.length ≤ 40) ∧ ∀ e ∈ l,goodN e = 0) ∨ chkB l = (-9,1) ∨ ∃ (i : Nat) (n : Int),n ≠ 0 ∧ chkB l = ((i : Int),n):=by
  by_cases h : (chkB l).2 = 0
  · exact .inl ⟨chkB_good h,chkB_zero h⟩
  · by_cases h1 : l.length < 1 ∨ 40 < l.length
    · exact .inr (.inl (chkB_rng h1))
    · refine .inr (.inr ?_);have h2 : chkB l = chkF 0 l:=if_neg h1;rw [h2] at h ⊢;clear h1 h2;have key : ∀ (l : List Edt) (k : Nat),(chkF (k : Int) l).2 ≠ 0 → ∃ (i : Nat) (n : Int),n ≠ 0 ∧ chkF (k : Int) l = ((i : Int),n):=by
        intro l
        induction l with
        | nil=>intro k h;exact absurd rfl h
        | cons x r ih =>
          intro k h;unfold chkF at h ⊢;split at h
          · rename_i hg;rw [if_pos hg];exact ⟨k,_,hg,rfl⟩
          · rename_i hg;rw [if_neg hg];exact ih (k + 1) h
      exact key l 0 h
theorem take_good {l : List Edt} {i : Nat} (h : i < l.length) (ht : ∀ e ∈ l.take i,goodN e = 0) (hb : goodN (l.getD i ((0 : Int),(0 : Int),([] : List Fld))) = 0) : ∀ e ∈ l.take (i + 1),goodN e = 0:=by
  rw [← yE ((0 : Int),(0 : Int),([] : List Fld)) h];intro e he;rcases List.mem_append.1 he with he|he
  · exact ht e he
  · rw [List.mem_singleton.1 he];exact hb
def oneN (L : Lst) (e : Edt) : Int :=
  if e.1 = 1 then (if atE L.1 e.2.1 < 0 then 7 else (chkR e.2.2).2)
  else if e.1 = 2 then (if atE L.1 e.2.1 < 0 then 7 else 0)
  else if atE L.1 e.2.1 < 0 ∧ e.2.1 ≠ 0 then 7 else if (chkR e.2.2).2 ≠ 0 then (chkR e.2.2).2 else if 400 ≤ L.2.2 then 11 else 0
def newN (L : Lst) (e : Edt) : Int:=if e.1 = 1 ∨ e.1 = 2 then 0 else if oneN L e = 0 then L.2.1 else 0
def batK (k : Int) (L : Lst) : List Edt → Int × Int
  | []=>(-9,0)
  | x :: r=>if oneN L x ≠ 0 then (k,oneN L x) else batK (k + 1) (doL L x) r
def doR (L : Lst) (s : List Edt) : Int × Int:=if (chkB s).2 ≠ 0 then chkB s else batK 0 L s
def idsT (L : Lst) (s : List Edt) (i : Nat) : List Int:=((List.range i).map fun j=>newN (yP L s j) (s.getD j ((0 : Int),(0 : Int),([] : List Fld)))).filter posI
theorem idsT_snoc (L : Lst) (s : List Edt) (i : Nat) : idsT L s (i + 1) = idsT L s i ++ if 0 < newN (yP L s i) (s.getD i ((0 : Int),(0 : Int),([] : List Fld))) then [newN (yP L s i) (s.getD i ((0 : Int),(0 : Int),([] : List Fld)))] else []:=by
  unfold idsT;rw [List.range_succ,List.map_append,List.filter_append]
  congr 1
  simp only [List.map_cons,List.map_nil,List.filter_cons,List.filter_nil,posI,decide_eq_true_eq]
theorem idsT_len (L : Lst) (s : List Edt) (i : Nat) : (idsT L s i).length ≤ i:=by
  unfold idsT;have:=List.length_filter_le posI ((List.range i).map fun j=>newN (yP L s j) (s.getD j ((0 : Int),(0 : Int),([] : List Fld))));rw [List.length_map,List.length_range] at this;exact this
theorem batK_cases : ∀ (s : List Edt) (L : Lst) (k : Nat),(batK k L s = (-9,0) ∧ ∀ j,j < s.length → oneN (yP L s j) (s.getD j ((0 : Int),(0 : Int),([] : List Fld))) = 0) ∨
    ∃ (i : Nat),i < s.length ∧ batK k L s = (((k + i : Nat) : Int),oneN (yP L s i) (s.getD i ((0 : Int),(0 : Int),([] : List Fld)))) ∧ oneN (yP L s i) (s.getD i ((0 : Int),(0 : Int),([] : List Fld))) ≠ 0 ∧ ∀ j,j < i → oneN (yP L s j) (s.getD j ((0 : Int),(0 : Int),([] : List Fld))) = 0
  | [],_,_=>.inl ⟨rfl,fun j h=>by simp at h⟩
  | x :: r,L,k=>by
    by_cases h0 : oneN L x = 0
    · have e : batK k L (x :: r) = batK ((k + 1 : Nat) : Int) (doL L x) r:=by
        conv=>lhs;unfold batK
        rw [if_neg (by rw [h0];decide)];rfl
      rw [e];rcases batK_cases r (doL L x) (k + 1) with ⟨h1,h2⟩|⟨i,hi,h1,h2,h3⟩
      · refine .inl ⟨h1,fun j hj=>?_⟩;cases j with
        | zero=>exact h0
        | succ j=>exact h2 j (by simpa using hj)
      · refine .inr ⟨i + 1,by simpa using hi,?_,h2,fun j hj=>?_⟩
        · rw [h1];show (((k + 1 + i : Nat) : Int),_) = (((k + (i + 1) : Nat) : Int),oneN (yP (doL L x) r i) (r.getD i ((0 : Int),(0 : Int),([] : List Fld))))
          congr 1
          omega
        · cases j with
          | zero=>exact h0
          | succ j=>exact h3 j (by omega)
    · refine .inr ⟨0,by simp,?_,h0,fun j hj=>by omega⟩;unfold batK;rw [if_pos h0];rfl
theorem doR_cases (L : Lst) (s : List Edt) (hc : (chkB s).2 = 0) : (doR L s = (-9,0) ∧ ∀ j,j < s.length → oneN (yP L s j) (s.getD j ((0 : Int),(0 : Int),([] : List Fld))) = 0) ∨
    ∃ (i : Nat),i < s.length ∧ doR L s = ((i : Int),oneN (yP L s i) (s.getD i ((0 : Int),(0 : Int),([] : List Fld)))) ∧ oneN (yP L s i) (s.getD i ((0 : Int),(0 : Int),([] : List Fld))) ≠ 0 ∧ ∀ j,j < i → oneN (yP L s j) (s.getD j ((0 : Int),(0 : Int),([] : List Fld))) = 0:=by
  unfold doR;rw [if_neg (fun h=>h hc)];rcases batK_cases s L 0 with h|⟨i,h1,h2,h3⟩
  · exact .inl h
  · refine .inr ⟨i,h1,?_,h3⟩;rw [Nat.zero_add] at h2;exact h2
end Q
end Ab
end Go.Proofs.YtbfhpimmlehkcaaGreatDoor
namespace Go.Proofs.YtbfhpimmlehkcaaGreatDoor.As
open Go.RowKit Go.Extern.Stop Go.Stop Go.Extern
theorem valueOf27 (t : Addr) (w : World) : (ReflectliteValue.unpack (.iface 241 (.pointer (some t)))).run Tryz.prog w
    = .ok (.agg #[.pointer (some ⟨4,241,none⟩),.pointer (some ⟨w.heap.size,0,none⟩),.int .u64 150]) (w.alloc (.cells #[.pointer (some t)] 241)):=by kernel_rfl
theorem type27 (a : Addr) (w : World) : (ReflectliteValue.methodAny (ReflectliteValue.valueError "reflectlite.Value.Type" 0) (fun t _ _ _ => ReflectliteType.toType t) #[.agg #[.pointer (some ⟨4, 241, none⟩), .pointer (some a), .int .u64 150]]).run Tryz.prog w
    = .ok (.iface 284 (.agg #[.pointer (some ⟨4,241,none⟩)])) w:=by kernel_rfl
theorem methodKind (h : Value) (w : World) : (Go.method 440 284 (.agg #[h]) "Kind").run Tryz.prog w = .ok (237, h) w := by kernel_rfl
theorem kind27 (w : World) : ((ReflectliteType.abiMethod fun t=>(fun a : Nat=>Value.int IntKind.u8 (a : Int)) <$> Rtype.kind t) #[.pointer (some ⟨4,241,none⟩)]).run Tryz.prog w = .ok (.int .u8 22) w:=by kernel_rfl
theorem kind25 (w : World) : ((ReflectliteType.abiMethod fun t=>(fun a : Nat=>Value.int IntKind.u8 (a : Int)) <$> Rtype.kind t) #[.pointer (some ⟨4,151,none⟩)]).run Tryz.prog w = .ok (.int .u8 22) w:=by kernel_rfl
theorem rlm (z : Sem Value) (f : TypeId → Addr → Nat → Nat → Sem Value) (v : Value) :
    ReflectliteValue.method z f #[v] = (do match ← ReflectliteValue.parts v with|none=>z|some (t,a,fl)=>f t a fl (fl % 32)):=rfl
theorem parts27 (a : Addr) (w : World) : (ReflectliteValue.parts (.agg #[.pointer (some ⟨4,241,none⟩),.pointer (some a),.int .u64 150])).run Tryz.prog w = .ok (some (241,a,150)) w:=by kernel_rfl
theorem isNil27 (a p : Addr) (W : World) (ha : W.cell? a = some (.pointer (some p))) :
    (ReflectliteValue.method (ReflectliteValue.valueError "reflectlite.Value.IsNil" 0) ReflectliteValue.isNil #[.agg #[.pointer (some ⟨4, 241, none⟩), .pointer (some a), .int .u64 150]]).run Tryz.prog W = .ok (.bool false) W := by
  rw [rlm];simp only [Sem.run_bind,parts27,Result.andThen];simp [ReflectliteValue.isNil,loadVar,isAgg,underlying,Tryz.underlying241,ha,Result.andThen]
theorem methodElem (h : Value) (w : World) : (Go.method 440 284 (.agg #[h]) "Elem").run Tryz.prog w = .ok (251, .agg #[h]) w := by kernel_rfl
theorem methodImplements (h : Value) (w : World) : (Go.method 440 284 (.agg #[h]) "Implements").run Tryz.prog w = .ok (252, .agg #[h]) w := by kernel_rfl
theorem methodAssignableTo (h : Value) (w : World) : (Go.method 440 284 (.agg #[h]) "AssignableTo").run Tryz.prog w = .ok (249, .agg #[h]) w := by kernel_rfl
theorem elem27 (w : World) : (ReflectliteType.method ReflectliteType.elem #[.agg #[.pointer (some ⟨4,241,none⟩)]]).run Tryz.prog w = .ok (.iface 284 (.agg #[.pointer (some ⟨4,151,none⟩)])) w:=by kernel_rfl
theorem implements25 (w : World) : (ReflectliteType.relation "Implements" ReflectliteType.implements_ #[.agg #[.pointer (some ⟨4, 151, none⟩)], .iface 284 (.agg #[.pointer (some ⟨4, 26, none⟩)])]).run Tryz.prog w = .ok (.bool true) w := by kernel_rfl
theorem typeOf25 (v : Value) (w : World) : (ReflectliteType.typeOf #[.iface 151 v]).run Tryz.prog w = .ok (.iface 284 (.agg #[.pointer (some ⟨4,151,none⟩)])) w:=by kernel_rfl
theorem assignable25 (w : World) : (ReflectliteType.relation "AssignableTo" ReflectliteType.assignableTo #[.agg #[.pointer (some ⟨4, 151, none⟩)], .iface 284 (.agg #[.pointer (some ⟨4, 151, none⟩)])]).run Tryz.prog w = .ok (.bool true) w := by kernel_rfl
theorem valueOf25 (e : Addr) (w : World) : (ReflectliteValue.unpack (.iface 151 (.pointer (some e)))).run Tryz.prog w
    = .ok (.agg #[.pointer (some ⟨4,151,none⟩),.pointer (some ⟨w.heap.size,0,none⟩),.int .u64 150]) (w.alloc (.cells #[.pointer (some e)] 151)):=by kernel_rfl
theorem elemOf27 (w : World) : (Rtype.elem? 241).run Tryz.prog w = .ok (some 151) w:=by kernel_rfl
theorem mk25 (p : Addr) (w : World) : (ReflectliteValue.mk 151 p ReflectliteValue.flagAddr).run Tryz.prog w = .ok (.agg #[.pointer (some ⟨4,151,none⟩),.pointer (some p),.int .u64 406]) w:=by kernel_rfl
theorem elemV27 (a p : Addr) (W : World) (ha : W.cell? a = some (.pointer (some p))) :
    (ReflectliteValue.method (ReflectliteValue.valueError "reflectlite.Value.Elem" 0) ReflectliteValue.elem #[.agg #[.pointer (some ⟨4, 241, none⟩), .pointer (some a), .int .u64 150]]).run Tryz.prog W
      = .ok (.agg #[.pointer (some ⟨4,151,none⟩),.pointer (some p),.int .u64 406]) W:=by
  rw [rlm];simp only [Sem.run_bind,parts27,Result.andThen];simp [ReflectliteValue.elem,loadVar,isAgg,underlying,Tryz.underlying241,ha,Result.andThen,elemOf27,mk25]
theorem rls (v x : Value) : ReflectliteValue.set #[v,x] = (do
    let (some (dst,a,fl),some (src,b,_)):=(← ReflectliteValue.parts v,← ReflectliteValue.parts x)
      | unsupported (.noEntry "extern/(internal/reflectlite.Value).Set.zeroValue")
    if fl / ReflectliteValue.flagAddr % 2 == 0 then unsupported (.noEntry "extern/(internal/reflectlite.Value).Set.unaddressable")
    let val ← loadVar src b
    if ← Rtype.directlyAssignable dst src then storeVar dst a val
    else if ← Rtype.implements dst src then
      if (← Rtype.kind src) == 20 then
        match val with
        | .nilIface => unsupported (.noEntry "extern/reflectlite: a nil value of one interface type handed on as a value of another")
        | _=>storeVar dst a val
      else storeVar dst a (.iface src val)
    else panicString ("reflectlite.Set: value of type " ++ (← Rtype.spelt src) ++ " is not assignable to type " ++ (← Rtype.spelt dst))
    pure (.tuple #[])):=rfl
theorem parts25a (a : Addr) (w : World) : (ReflectliteValue.parts (.agg #[.pointer (some ⟨4,151,none⟩),.pointer (some a),.int .u64 406])).run Tryz.prog w = .ok (some (151,a,406)) w:=by kernel_rfl
theorem parts25 (a : Addr) (w : World) : (ReflectliteValue.parts (.agg #[.pointer (some ⟨4,151,none⟩),.pointer (some a),.int .u64 150])).run Tryz.prog w = .ok (some (151,a,150)) w:=by kernel_rfl
theorem direct25 (w : World) : (Rtype.directlyAssignable 151 151).run Tryz.prog w = .ok true w:=by kernel_rfl
theorem set25 (ta b e : Addr) (old : Value) (W : World) (hb : W.cell? b = some (.pointer (some e))) (ht : W.cell? ta = some old) (hf : W.frozen? ta = false) :
    (ReflectliteValue.set #[.agg #[.pointer (some ⟨4,151,none⟩),.pointer (some ta),.int .u64 406],.agg #[.pointer (some ⟨4,151,none⟩),.pointer (some b),.int .u64 150]]).run Tryz.prog W
      = .ok (.tuple #[]) (W.setCell ta (.pointer (some e))):=by
  rw [rls];simp only [Sem.run_bind,parts25a,parts25,Result.andThen];simp [ReflectliteValue.flagAddr,loadVar,isAgg,underlying,Tryz.underlying151,hb,Result.andThen,direct25,storeVar,Value.cells,storeCells,Addr.add];rw [run_store Tryz.prog W ta _ _ (by rfl)];simp [ht,hf]
theorem typeOfN (v : Value) (w : World) : (ReflectliteType.typeOf #[.iface 118 v]).run Tryz.prog w = .ok (.iface 284 (.agg #[.pointer (some ⟨4,118,none⟩)])) w:=by kernel_rfl
theorem assignableN (w : World) : (ReflectliteType.relation "AssignableTo" ReflectliteType.assignableTo #[.agg #[.pointer (some ⟨4, 118, none⟩)], .iface 284 (.agg #[.pointer (some ⟨4, 151, none⟩)])]).run Tryz.prog w = .ok (.bool false) w := by kernel_rfl
theorem noAs (v : Value) (xT : TypeId) (w : World) : (Instr.typeAssert (.iface 118 v) xT 289 true).run Tryz.prog w = .ok (.tuple #[.nilIface,.bool false]) w:=run_typeAssert_lacksB Tryz.underlying289 (by kernel_rfl) (by kernel_rfl) v xT w
theorem noUnwrap (v : Value) (xT : TypeId) (w : World) : (Instr.typeAssert (.iface 118 v) xT 292 true).run Tryz.prog w = .ok (.tuple #[.nilIface,.bool false]) w:=run_typeAssert_lacksB Tryz.underlying292 (by kernel_rfl) (by kernel_rfl) v xT w
theorem noUnwraps (v : Value) (xT : TypeId) (w : World) : (Instr.typeAssert (.iface 118 v) xT 293 true).run Tryz.prog w = .ok (.tuple #[.nilIface,.bool false]) w:=run_typeAssert_lacksB Tryz.underlying293 (by kernel_rfl) (by kernel_rfl) v xT w
set_option maxHeartbeats 4000000 in
theorem as_hit (e t : Addr) (old : Value) (w : World) (hg : w.cell? ⟨0,0,none⟩ = some (.iface 284 (.agg #[.pointer (some ⟨4,26,none⟩)]))) (ht0 : w.cell? t = some old) (hf0 : w.frozen? t = false) :
    Calls Tryz.prog 158 #[.iface 151 (.pointer (some e)),.iface 241 (.pointer (some t))] w fun ev w'=>ev = .returned (.bool true) ∧ w' = ((((w.alloc (.cells #[.pointer (some t)] 241)).alloc (.cells #[.pointer (some ⟨4,241,none⟩),.pointer (some ⟨w.heap.size,0,none⟩),.int .u64 150] 262)).alloc (.cells #[.pointer (some ⟨4,241,none⟩),.pointer (some ⟨w.heap.size,0,none⟩),.int .u64 150] 262)).alloc (.cells #[.pointer (some e)] 151)).setCell t (.pointer (some e)):=by
  have h6 := @run_callFunc_extern Tryz.prog 176 _ (fun args => ReflectliteValue.unpack (args.getD 0 (.tuple #[]))) Tryz.func176 (by kernel_rfl) (by kernel_rfl) (by kernel_rfl) (by kernel_rfl);have h7 := @run_callFunc_extern Tryz.prog 177 _ (ReflectliteValue.methodAny (ReflectliteValue.valueError "reflectlite.Value.Type" 0) (fun t _ _ _ => ReflectliteType.toType t)) Tryz.func177 (by kernel_rfl) (by kernel_rfl) (by kernel_rfl) (by kernel_rfl);have h8 := @run_callFunc_extern Tryz.prog 178 _ (ReflectliteValue.method (ReflectliteValue.valueError "reflectlite.Value.IsNil" 0) ReflectliteValue.isNil) Tryz.func178 (by kernel_rfl) (by kernel_rfl) (by kernel_rfl) (by kernel_rfl);have h27 := @run_callFunc_extern Tryz.prog 237 _ (ReflectliteType.abiMethod fun t => do pure (.int .u8 (← Rtype.kind t))) Tryz.func237 (by kernel_rfl) (by kernel_rfl) (by kernel_rfl) (by kernel_rfl);have h37 := @run_callFunc_extern Tryz.prog 251 _ (ReflectliteType.method ReflectliteType.elem) Tryz.func251 (by kernel_rfl) (by kernel_rfl) (by kernel_rfl) (by kernel_rfl);have h38 := @run_callFunc_extern Tryz.prog 252 _ (ReflectliteType.relation "Implements" ReflectliteType.implements_) Tryz.func252 (by kernel_rfl) (by kernel_rfl) (by kernel_rfl) (by kernel_rfl);have h10 := @run_callFunc_extern Tryz.prog 197 _ ReflectliteType.typeOf Tryz.func197 (by kernel_rfl) (by kernel_rfl) (by kernel_rfl) (by kernel_rfl);have h35 := @run_callFunc_extern Tryz.prog 249 _ (ReflectliteType.relation "AssignableTo" ReflectliteType.assignableTo) Tryz.func249 (by kernel_rfl) (by kernel_rfl) (by kernel_rfl) (by kernel_rfl);have h11 := @run_callFunc_extern Tryz.prog 198 _ (ReflectliteValue.method (ReflectliteValue.valueError "reflectlite.Value.Elem" 0) ReflectliteValue.elem) Tryz.func198 (by kernel_rfl) (by kernel_rfl) (by kernel_rfl) (by kernel_rfl);have h12 := @run_callFunc_extern Tryz.prog 199 _ ReflectliteValue.set Tryz.func199 (by kernel_rfl) (by kernel_rfl) (by kernel_rfl) (by kernel_rfl);have tO := typeOf25;have mA := methodAssignableTo;have a25 := assignable25;have v25 := valueOf25;have f6 := valueOf27;have f7 := type27;have mK := methodKind;have mE := methodElem;have mI := methodImplements;have k27 := kind27;have k25 := kind25;have e27 := elem27;have i25 := implements25;have n8 := isNil27 ⟨w.heap.size, 0, none⟩ t ((w.alloc (.cells #[.pointer (some t)] 241)).alloc (.cells #[.pointer (some ⟨4, 241, none⟩), .pointer (some ⟨w.heap.size, 0, none⟩), .int .u64 150] 262)) (by simp);have hlt : 0 < w.heap.size := by
    rcases Nat.lt_or_ge 0 w.heap.size with h|h
    · exact h
    · simp [World.cell?,Array.getElem?_eq_none h] at hg
  have hg2 : ((w.alloc (.cells #[.pointer (some t)] 241)).alloc (.cells #[.pointer (some ⟨4,241,none⟩),.pointer (some ⟨w.heap.size,0,none⟩),.int .u64 150] 262)).cell? ⟨0,0,none⟩ = some (.iface 284 (.agg #[.pointer (some ⟨4,26,none⟩)])):=by
    rw [World.cell?_alloc_lt _ _ ⟨0,0,none⟩ (by simp),World.cell?_alloc_lt _ _ ⟨0,0,none⟩ hlt];exact hg
  have htl : t.block < w.heap.size:=by
    rcases Nat.lt_or_ge t.block w.heap.size with h|h
    · exact h
    · simp [World.cell?,Array.getElem?_eq_none h] at ht0
  have el:=elemV27 ⟨w.heap.size,0,none⟩ t (((w.alloc (.cells #[.pointer (some t)] 241)).alloc (.cells #[.pointer (some ⟨4,241,none⟩),.pointer (some ⟨w.heap.size,0,none⟩),.int .u64 150] 262)).alloc (.cells #[.pointer (some ⟨4,241,none⟩),.pointer (some ⟨w.heap.size,0,none⟩),.int .u64 150] 262)) (by rw [World.cell?_alloc_lt _ _ ⟨w.heap.size,0,none⟩ (by simp;omega)];simp);have st:=set25 t ⟨w.heap.size + 1 + 1 + 1,0,none⟩ e old ((((w.alloc (.cells #[.pointer (some t)] 241)).alloc (.cells #[.pointer (some ⟨4,241,none⟩),.pointer (some ⟨w.heap.size,0,none⟩),.int .u64 150] 262)).alloc (.cells #[.pointer (some ⟨4,241,none⟩),.pointer (some ⟨w.heap.size,0,none⟩),.int .u64 150] 262)).alloc (.cells #[.pointer (some e)] 151))
    (by rw [World.cell?_alloc_at _ _ _ _ (by simp)];rfl)
    (by rw [World.cell?_alloc_lt _ _ t (by simp;omega),World.cell?_alloc_lt _ _ t (by simp;omega),World.cell?_alloc_lt _ _ t (by simp;omega),World.cell?_alloc_lt _ _ t htl];exact ht0)
    (by rw [World.frozen?_alloc_old _ _ t (by simp;omega),World.frozen?_alloc_old _ _ t (by simp;omega),World.frozen?_alloc_old _ _ t (by simp;omega),World.frozen?_alloc_old _ _ t (Nat.ne_of_lt htl)];exact hf0)
  go_enter Tryz.func158,Tryz.ntmps158
  go_wp2
  refine wp_loop_rounds 1 ?_;rw [rounds_succ]
  go_wp2
  go_ret
  exact ⟨rfl,rfl⟩
set_option maxHeartbeats 4000000 in
theorem as_miss (v : Value) (t : Addr) (old : Value) (w : World) (hg : w.cell? ⟨0,0,none⟩ = some (.iface 284 (.agg #[.pointer (some ⟨4,26,none⟩)]))) (ht0 : w.cell? t = some old) (_ : w.frozen? t = false) :
    Calls Tryz.prog 158 #[.iface 118 v,.iface 241 (.pointer (some t))] w fun ev w'=>ev = .returned (.bool false) ∧ w' = ((w.alloc (.cells #[.pointer (some t)] 241)).alloc (.cells #[.pointer (some ⟨4,241,none⟩),.pointer (some ⟨w.heap.size,0,none⟩),.int .u64 150] 262)).alloc (.cells #[.pointer (some ⟨4,241,none⟩),.pointer (some ⟨w.heap.size,0,none⟩),.int .u64 150] 262):=by
  have h6 := @run_callFunc_extern Tryz.prog 176 _ (fun args => ReflectliteValue.unpack (args.getD 0 (.tuple #[]))) Tryz.func176 (by kernel_rfl) (by kernel_rfl) (by kernel_rfl) (by kernel_rfl);have h7 := @run_callFunc_extern Tryz.prog 177 _ (ReflectliteValue.methodAny (ReflectliteValue.valueError "reflectlite.Value.Type" 0) (fun t _ _ _ => ReflectliteType.toType t)) Tryz.func177 (by kernel_rfl) (by kernel_rfl) (by kernel_rfl) (by kernel_rfl);have h8 := @run_callFunc_extern Tryz.prog 178 _ (ReflectliteValue.method (ReflectliteValue.valueError "reflectlite.Value.IsNil" 0) ReflectliteValue.isNil) Tryz.func178 (by kernel_rfl) (by kernel_rfl) (by kernel_rfl) (by kernel_rfl);have h27 := @run_callFunc_extern Tryz.prog 237 _ (ReflectliteType.abiMethod fun t => do pure (.int .u8 (← Rtype.kind t))) Tryz.func237 (by kernel_rfl) (by kernel_rfl) (by kernel_rfl) (by kernel_rfl);have h37 := @run_callFunc_extern Tryz.prog 251 _ (ReflectliteType.method ReflectliteType.elem) Tryz.func251 (by kernel_rfl) (by kernel_rfl) (by kernel_rfl) (by kernel_rfl);have h38 := @run_callFunc_extern Tryz.prog 252 _ (ReflectliteType.relation "Implements" ReflectliteType.implements_) Tryz.func252 (by kernel_rfl) (by kernel_rfl) (by kernel_rfl) (by kernel_rfl);have h10 := @run_callFunc_extern Tryz.prog 197 _ ReflectliteType.typeOf Tryz.func197 (by kernel_rfl) (by kernel_rfl) (by kernel_rfl) (by kernel_rfl);have h35 := @run_callFunc_extern Tryz.prog 249 _ (ReflectliteType.relation "AssignableTo" ReflectliteType.assignableTo) Tryz.func249 (by kernel_rfl) (by kernel_rfl) (by kernel_rfl) (by kernel_rfl);have h11 := @run_callFunc_extern Tryz.prog 198 _ (ReflectliteValue.method (ReflectliteValue.valueError "reflectlite.Value.Elem" 0) ReflectliteValue.elem) Tryz.func198 (by kernel_rfl) (by kernel_rfl) (by kernel_rfl) (by kernel_rfl);have h12 := @run_callFunc_extern Tryz.prog 199 _ ReflectliteValue.set Tryz.func199 (by kernel_rfl) (by kernel_rfl) (by kernel_rfl) (by kernel_rfl);have tO := typeOfN;have q1 := noAs;have q2 := noUnwrap;have q3 := noUnwraps;have mA := methodAssignableTo;have a25 := assignableN;have v25 := valueOf25;have f6 := valueOf27;have f7 := type27;have mK := methodKind;have mE := methodElem;have mI := methodImplements;have k27 := kind27;have k25 := kind25;have e27 := elem27;have i25 := implements25;have n8 := isNil27 ⟨w.heap.size, 0, none⟩ t ((w.alloc (.cells #[.pointer (some t)] 241)).alloc (.cells #[.pointer (some ⟨4, 241, none⟩), .pointer (some ⟨w.heap.size, 0, none⟩), .int .u64 150] 262)) (by simp);have hlt : 0 < w.heap.size := by
    rcases Nat.lt_or_ge 0 w.heap.size with h|h
    · exact h
    · simp [World.cell?,Array.getElem?_eq_none h] at hg
  have hg2 : ((w.alloc (.cells #[.pointer (some t)] 241)).alloc (.cells #[.pointer (some ⟨4,241,none⟩),.pointer (some ⟨w.heap.size,0,none⟩),.int .u64 150] 262)).cell? ⟨0,0,none⟩ = some (.iface 284 (.agg #[.pointer (some ⟨4,26,none⟩)])):=by
    rw [World.cell?_alloc_lt _ _ ⟨0,0,none⟩ (by simp),World.cell?_alloc_lt _ _ ⟨0,0,none⟩ hlt];exact hg
  have htl : t.block < w.heap.size:=by
    rcases Nat.lt_or_ge t.block w.heap.size with h|h
    · exact h
    · simp [World.cell?,Array.getElem?_eq_none h] at ht0
  have el:=elemV27 ⟨w.heap.size,0,none⟩ t (((w.alloc (.cells #[.pointer (some t)] 241)).alloc (.cells #[.pointer (some ⟨4,241,none⟩),.pointer (some ⟨w.heap.size,0,none⟩),.int .u64 150] 262)).alloc (.cells #[.pointer (some ⟨4,241,none⟩),.pointer (some ⟨w.heap.size,0,none⟩),.int .u64 150] 262)) (by rw [World.cell?_alloc_lt _ _ ⟨w.heap.size,0,none⟩ (by simp;omega)];simp)
  go_enter Tryz.func158,Tryz.ntmps158
  go_wp2
  refine wp_loop_rounds 1 ?_;rw [rounds_succ]
  go_wp2
  go_ret
  exact ⟨rfl,rfl⟩
end Go.Proofs.YtbfhpimmlehkcaaGreatDoor.As
namespace Go.Proofs.YtbfhpimmlehkcaaGreatDoor
open Go.RowKit
namespace Ab
set_option maxRecDepth 100000
namespace Q
theorem errCell {ok : Oks} {w : World} (h : GlobAt ok w) : w.cell? ⟨0,0,none⟩ = some (.iface 284 (.agg #[.pointer (some ⟨3 + 1,26,none⟩)])):=h.2.2.2
theorem as_hit' {n0 : Nat} (e t : Addr) (old : Value) (w : World) (hg : w.cell? ⟨0,0,none⟩ = some (.iface 284 (.agg #[.pointer (some ⟨3 + 1,26,none⟩)]))) (ht : w.cell? t = some old) (hf : w.frozen? t = false) (h0 : n0 ≤ t.block) (h1 : n0 ≤ w.heap.size) :
    Calls Tryz.prog 158 #[.iface 151 (.pointer (some e)),.iface 241 (.pointer (some t))] w fun ev w'=>ev = .returned (.bool true) ∧ Below n0 w w' ∧ w'.cell? t = some (.pointer (some e)):=by
  have htl : t.block < w.heap.size:=by
    rcases Nat.lt_or_ge t.block w.heap.size with h|h
    · exact h
    · simp [World.cell?,Array.getElem?_eq_none h] at ht
  refine (As.as_hit e t old w hg ht hf).mono ?_
  rintro ev w' ⟨rfl,rfl⟩
  have hb:=((((Below.refl n0 w).alloc h1 (.cells #[.pointer (some t)] 241)).alloc (by simp;omega) (.cells #[.pointer (some ⟨3 + 1,241,none⟩),.pointer (some ⟨w.heap.size,0,none⟩),.int .u64 150] 262)).alloc (by simp;omega) (.cells #[.pointer (some ⟨3 + 1,241,none⟩),.pointer (some ⟨w.heap.size,0,none⟩),.int .u64 150] 262)).alloc (by simp;omega) (.cells #[.pointer (some e)] 151);refine ⟨rfl,hb.setCell h0 _,World.cell?_setCell_same _ _ _ (u:=old) ?_⟩;rw [World.cell?_alloc_lt _ _ t (by simp;omega),World.cell?_alloc_lt _ _ t (by simp;omega),World.cell?_alloc_lt _ _ t (by simp;omega),World.cell?_alloc_lt _ _ t htl];exact ht
theorem as_miss' {n0 : Nat} (v : Value) (t : Addr) (old : Value) (w : World) (hg : w.cell? ⟨0,0,none⟩ = some (.iface 284 (.agg #[.pointer (some ⟨3 + 1,26,none⟩)]))) (ht : w.cell? t = some old) (hf : w.frozen? t = false) (h1 : n0 ≤ w.heap.size) :
    Calls Tryz.prog 158 #[.iface 118 v,.iface 241 (.pointer (some t))] w fun ev w'=>ev = .returned (.bool false) ∧ Below n0 w w':=by
  refine (As.as_miss v t old w hg ht hf).mono ?_
  rintro ev w' ⟨rfl,rfl⟩
  exact ⟨rfl,(((Below.refl n0 w).alloc h1 _).alloc (by simp;omega) _).alloc (by simp;omega) _⟩
set_option maxHeartbeats 4000000 in
theorem bareN_calls (v : Value) (w : World) (hg : w.cell? ⟨0,0,none⟩ = some (.iface 284 (.agg #[.pointer (some ⟨3 + 1,26,none⟩)]))) (hlt : 0 < w.heap.size) :
    Calls Tryz.prog 127 #[.iface 118 v] w fun e w'=>e = .returned (.iface 118 v) ∧ Below w.heap.size w w':=by
  have hgA : (w.alloc (.cells #[.pointer none] 151)).cell? ⟨0,0,none⟩ = some (.iface 284 (.agg #[.pointer (some ⟨3 + 1,26,none⟩)])):=by
    rw [World.cell?_alloc_lt _ _ ⟨0,0,none⟩ hlt];exact hg
  have htA : (w.alloc (.cells #[.pointer none] 151)).cell? ⟨w.heap.size,0,none⟩ = some (.pointer none):=by simp
  have hfA : (w.alloc (.cells #[.pointer none] 151)).frozen? ⟨w.heap.size,0,none⟩ = false:=by simp
  have hbA : Below w.heap.size w (w.alloc (.cells #[.pointer none] 151)):=(Below.refl _ w).alloc (Nat.le_refl _) _
  go_enter Tryz.func127,Tryz.ntmps127
  go_wp2_with (go_at_call 158;refine (as_miss' (n0:=w.heap.size) v _ _ _ hgA htA hfA (by simp)).mono ?_;rintro e w' ⟨rfl,hb⟩)
  go_ret
  exact ⟨rfl,hbA.trans hb⟩
set_option maxHeartbeats 4000000 in
theorem bareF_calls (b off : Nat) (x : Value) (w : World) (hg : w.cell? ⟨0,0,none⟩ = some (.iface 284 (.agg #[.pointer (some ⟨3 + 1,26,none⟩)]))) (hlt : 0 < w.heap.size) (hx : w.cell? ⟨b,off + 1,none⟩ = some x) :
    Calls Tryz.prog 127 #[.iface 151 (.pointer (some ⟨b,off,none⟩))] w fun e w'=>e = .returned x ∧ Below w.heap.size w w':=by
  have hgA : (w.alloc (.cells #[.pointer none] 151)).cell? ⟨0,0,none⟩ = some (.iface 284 (.agg #[.pointer (some ⟨3 + 1,26,none⟩)])):=by
    rw [World.cell?_alloc_lt _ _ ⟨0,0,none⟩ hlt];exact hg
  have htA : (w.alloc (.cells #[.pointer none] 151)).cell? ⟨w.heap.size,0,none⟩ = some (.pointer none):=by simp
  have hfA : (w.alloc (.cells #[.pointer none] 151)).frozen? ⟨w.heap.size,0,none⟩ = false:=by simp
  have hbA : Below w.heap.size w (w.alloc (.cells #[.pointer none] 151)):=(Below.refl _ w).alloc (Nat.le_refl _) _
  go_enter Tryz.func127,Tryz.ntmps127
  go_wp2_with (go_at_call 158;refine (as_hit' (n0:=w.heap.size) ⟨b,off,none⟩ _ _ _ hgA htA hfA (by simp) (by simp)).mono ?_;rintro e w' ⟨rfl,hb,hc⟩;have hx2 : w'.cell? ⟨b,off + 1,none⟩ = some x:=cell_later (hbA.trans hb) hx)
  go_ret
  exact ⟨rfl,hbA.trans hb⟩
theorem bareN_c (n : Int) : qU Tryz.prog 127 [.one (errN n)] (.one (errN n)):=by
  refine ⟨⟨_,Tryz.func127,rfl,rfl⟩,fun ok w vs hg hvs=>?_⟩;obtain ⟨v,t,rfl,hv,ht⟩:=hvs;rw [show t = [] from ht,show v = _ from hv];exact (bareN_calls (.int .i64 n) w (errCell hg) (Nat.lt_of_lt_of_le (by decide) hg.2.1)).mono fun e w' ⟨he,hb⟩=>⟨_,he,hb,rfl⟩
theorem bareF_c (a n : Int) : qU Tryz.prog 127 [.one (errF a n)] (.one (errN n)):=by
  refine ⟨⟨_,Tryz.func127,rfl,rfl⟩,fun ok w vs hg hvs=>?_⟩;obtain ⟨v,t,rfl,⟨u,rfl,b,off,cs,rfl,_,hlt,hc,hr⟩,ht⟩:=hvs;obtain ⟨c,d,rfl,h1,h2⟩:=hr;rw [show t = [] from ht];have hx : w.cell? ⟨b,off + 1,none⟩ = some (.iface 118 (.int .i64 n)):=by
    rw [hc.2 1 (by decide),show c = _ from h1,show d = _ from h2.1];rfl
  exact (bareF_calls b off _ w (errCell hg) (Nat.lt_of_lt_of_le (by decide) hg.2.1) hx).mono fun e w' ⟨he,hb⟩=>⟨_,he,hb,rfl⟩
end Q
end Ab
end Go.Proofs.YtbfhpimmlehkcaaGreatDoor
namespace Go.Proofs.YtbfhpimmlehkcaaGreatDoor
open Go.RowKit
namespace Ab
set_option maxRecDepth 100000
abbrev rItm3 : Rd Itm:=rItm.kd 3
namespace Q
end Q
end Ab
end Go.Proofs.YtbfhpimmlehkcaaGreatDoor
namespace Go.Proofs.YtbfhpimmlehkcaaGreatDoor
open Go.RowKit
namespace Ab
set_option maxRecDepth 100000
namespace Q
theorem a1_parse7 : yW ⟨#[65,58,32,49,10]⟩ = .inr [(3,⟨#[65,58,32,49,10]⟩,[(⟨#[65]⟩,⟨#[49]⟩)])]:=by decide +kernel
def al0 : List Ent:=[((3,⟨#[65,58,32,49,10]⟩,[(⟨#[65]⟩,⟨#[49]⟩)]),1)]
def alF : List Fld:=[(⟨#[66]⟩,⟨#[50]⟩)]
def al1 : List Ent:=insE al0 0 (itmOf alF,2)
end Q
end Ab
end Go.Proofs.YtbfhpimmlehkcaaGreatDoor
namespace Go.Proofs.YtbfhpimmlehkcaaGreatDoor
open Go.RowKit
namespace Ab
set_option maxRecDepth 100000
namespace Q
structure SeenI (es : List Ent) (n : Int) (i : Nat) (sn : List Bool) : Prop where
  le : i ≤ (stzL es).length
  len : sn.length = n.toNat
  seen : ∀ k : Nat,sn.getD k false = true → ∃ j,j < i ∧ ((stzL es).getD j ((0 : Int),([] : List Fld))).1 = k
theorem SeenI.next {es : List Ent} {n : Int} {i : Nat} {sn : List Bool} (h : SeenI es n i sn) (hi : i < (stzL es).length) (hp : 0 < ((stzL es).getD i ((0 : Int),([] : List Fld))).1) : SeenI es n (i + 1) (sn.set (((stzL es).getD i ((0 : Int),([] : List Fld))).1).toNat true):=by
  refine ⟨hi,by rw [List.length_set];exact h.len,fun k hk=>?_⟩
  by_cases e : (((stzL es).getD i ((0 : Int),([] : List Fld))).1).toNat = k
  · exact ⟨i,Nat.lt_succ_self _,by omega⟩
  · rw [List.getD_eq_getElem?_getD,List.getElem?_set_ne e,← List.getD_eq_getElem?_getD] at hk;obtain ⟨j,hj,h2⟩:=h.seen k hk;exact ⟨j,by omega,h2⟩
theorem lsvec_eq {L M : Lst} (h : M = L) : some (Ob.vec 112 rEnt L.1) = some (Ob.vec 112 rEnt M.1):=by rw [h]
end Q
end Ab
end Go.Proofs.YtbfhpimmlehkcaaGreatDoor
namespace Go.Proofs.YtbfhpimmlehkcaaGreatDoor
open Go.RowKit
namespace Ab
set_option maxRecDepth 100000
namespace Q
abbrev rStz3 : Rd Stz:=rStz.kd 3
theorem stz7_c {κ κ' : Nat} (a b : List Stz) : qU Tryz.prog 35 [.one (.slk κ (rStz.kd κ') a),.one (.sl rStz b)] (ib (decide (a = b))):=by
  refine qS (rs:=[4]) Tryz.func35 rfl rfl rfl teOk rfl ?_;refine qC ?_;refine qB ?_;refine qC ?_;refine qC ?_;refine qB ?_;intro l1_1
  try simp only [zds] at l1_1
  intro l1_3
  try simp only [zds] at l1_3
  refine qK rfl (fun h10=>?_) (fun h10=>?_)
  ·try simp only [decide_eq_false_iff_not,Bool.not_eq_true'] at h10
   try simp only [zds] at h10
   refine qC ?_;refine qB ?_;refine qL ?_;exact ib_eq (decide_eq_false (fun e=>by rw [e] at h10;omega)).symm
  ·try simp only [decide_eq_true_eq,Bool.not_eq_false'] at h10
   try simp only [zds] at h10
   refine qM ?_;refine qC ?_;refine qC ?_;refine qB ?_;intro l3_1
   try simp only [zds] at l3_1
   refine qO ?_;refine qZ (fun (i : Nat)=>i ≤ a.length ∧ a.take i = b.take i) (fun (i : Nat)=>[(0,.one (.slk κ (rStz.kd κ') a)),(1,.one (.sl rStz b)),(12,ii .i64 a.length),(13,ii .i64 i)]) (fun (i : Nat)=>[]) 0 (fun (i : Nat)=>a.length - i) 0 (⟨Nat.zero_le _,by simp⟩) (qQ ⟨rfl,rfl,rfl,rfl⟩ trivial rfl) ?_;intro i hI0;obtain ⟨hi,ht⟩:=hI0;refine qC ?_;refine qB ?_;refine qC ?_;refine qK rfl (fun h14=>?_) (fun h14=>?_)
   ·try simp only [decide_eq_true_eq] at h14
    try simp only [zds] at h14
    have hla : i < a.length:=by omega
    have hlb : i < b.length:=by omega
    refine qM ?_;refine qC ?_;refine qO ?_;refine qC ?_;refine qB ?_;refine qC ?_;refine acode_draw rfl (by kernel_rfl) ?_;refine zai (by first|omega|assumption|decide|(simp only [zds];omega)|(simp <;> omega)) ?_;refine zai (by first|omega|assumption|decide|(simp only [zds];omega)|(simp <;> omega)) ?_;refine zai (fun h=>trivial) ?_;refine zai (fun h=>trivial) ?_;refine zai (fun h=>⟨⟨⟨h,trivial⟩,⟨h,trivial⟩,trivial⟩,by first|omega|decide|(simp only [zds];omega)|(have h9:=of_decide_eq_true h;omega)|(simp [gq] at h;omega)⟩) ?_;refine zai (fun h=>⟨⟨h,trivial⟩,trivial⟩) ?_;refine zai (fun h=>⟨⟨h,trivial⟩,trivial⟩) ?_;refine zai (fun h=>trivial) ?_;refine zai (fun h=>trivial) ?_;refine zai (fun h=>⟨⟨⟨h,trivial⟩,⟨h,trivial⟩,trivial⟩,by first|omega|decide|(simp only [zds];omega)|(have h9:=of_decide_eq_true h;omega)|(simp [gq] at h;omega)⟩) ?_;refine zai (fun h=>⟨⟨h,trivial⟩,trivial⟩) ?_;refine zai (fun h=>⟨⟨h,trivial⟩,trivial⟩) ?_;refine zai (rfl) ?_;refine zei _ (zai (fun h=>⟨⟨⟨h,trivial⟩,⟨h,trivial⟩,trivial⟩,fieldsk_c (κ:=κ') (a.getD i ((0 : Int),([] : List Fld))).2 (b.getD i ((0 : Int),([] : List Fld))).2⟩) ?_);refine zai (fun h=>⟨⟨h,trivial⟩,trivial⟩) ?_;refine zai (by first|(intro h;rw [h];rfl)|(intro h;cases h)) ?_;refine qK rfl (fun h40=>?_) (fun h40=>?_)
    ·try simp only [decide_eq_false_iff_not,Bool.not_eq_true',Bool.or_eq_true] at h40
     try simp only [Int.toNat_natCast,qH,qG,qE] at h40
     refine qC ?_;refine qB ?_;refine qL ?_;exact ib_eq (decide_eq_false (ne_at (i:=i) ((0 : Int),([] : List Fld)) (fun e=>h40.elim (fun h=>h (congrArg Prod.fst e)) (fun h=>h (congrArg Prod.snd e))))).symm
    ·try simp only [decide_eq_true_eq,Bool.not_eq_false',Bool.or_eq_false_iff] at h40
     try simp only [Int.toNat_natCast,qH,qG,qE] at h40
     refine qM ?_;refine qB ?_;refine zai (by first|omega|assumption|decide|(simp only [zds];omega)|(simp <;> omega)) ?_;exact ⟨i + 1,⟨by omega,list_ext_take ((0 : Int),([] : List Fld)) hla hlb ht (Prod.ext h40.1 h40.2)⟩,by first|omega|(simp <;> omega),qQ ⟨rfl,rfl,rfl,(yB (by omega))⟩ trivial rfl⟩
   ·try simp only [decide_eq_false_iff_not,Int.not_lt] at h14
    try simp only [zds] at h14
    refine yC ?_;refine qC ?_;refine qB ?_;refine qL ?_;exact ib_eq (decide_eq_true (by rw [List.take_of_length_le (by omega),List.take_of_length_le (by omega)] at ht;exact ht)).symm
end Q
end Ab
end Go.Proofs.YtbfhpimmlehkcaaGreatDoor
namespace Go.Proofs.YtbfhpimmlehkcaaGreatDoor
open Go.RowKit
namespace Ab
set_option maxRecDepth 100000
namespace Q
def goodA (x : Edt) : C:=if x.1 = 2 then (if 0 < x.2.2.length then errN 2 else .lit .nilIface) else if x.1 = 1 ∨ x.1 = 3 then chkA x.2.2 else errN 2
theorem goodA_cases (x : Edt) : (goodN x = 0 ∧ goodA x = .lit .nilIface) ∨ (∃ n,n ≠ 0 ∧ goodN x = n ∧ goodA x = errN n) ∨ ∃ a n,n ≠ 0 ∧ goodN x = n ∧ goodA x = errF a n:=by
  unfold goodN goodA
  by_cases h2 : x.1 = 2
  · simp only [if_pos h2]
    by_cases h3 : 0 < x.2.2.length
    · simp only [if_pos h3];exact .inr (.inl ⟨2,by decide,rfl,rfl⟩)
    · simp only [if_neg h3];exact .inl ⟨trivial,trivial⟩
  · simp only [if_neg h2]
    by_cases h3 : x.1 = 1 ∨ x.1 = 3
    · simp only [if_pos h3]
      by_cases hc : (chkR x.2.2).2 = 0
      · exact .inl ⟨hc,(chk_good hc).2.2⟩
      · obtain ⟨e,he,hs⟩:=chk_bad hc;rcases hs with ⟨n,hn,rfl,hr⟩|⟨i,n,hn,rfl,hr⟩
        · exact .inr (.inl ⟨n,hn,by rw [hr],he⟩)
        · exact .inr (.inr ⟨i,n,hn,by rw [hr],he⟩)
    · simp only [if_neg h3];exact .inr (.inl ⟨2,by decide,rfl,rfl⟩)
theorem goodA_2 {x : Edt} (h : x.1 = 2) (h3 : 0 < x.2.2.length) : goodA x = errN 2:=by unfold goodA;rw [if_pos h,if_pos h3]
theorem goodA_20 {x : Edt} (h : x.1 = 2) (h3 : ¬ 0 < x.2.2.length) : goodA x = .lit .nilIface:=by unfold goodA;rw [if_pos h,if_neg h3]
theorem goodA_13 {x : Edt} (h : x.1 = 1 ∨ x.1 = 3) : goodA x = chkA x.2.2:=by unfold goodA;rw [if_neg (by omega),if_pos h]
theorem goodA_no {x : Edt} (h : x.1 ≠ 2) (h3 : ¬ (x.1 = 1 ∨ x.1 = 3)) : goodA x = errN 2:=by unfold goodA;rw [if_neg h,if_neg h3]
theorem chkA_cases (l : List Fld) : chkA l = .lit .nilIface ∨ (∃ n,chkA l = errN n) ∨ ∃ a n,chkA l = errF a n:=by
  unfold chkA;split
  · exact .inl rfl
  · split
    · exact .inr (.inl ⟨_,rfl⟩)
    · exact .inr (.inr ⟨_,_,rfl⟩)
theorem good_c {κ : Nat} (x : Edt) (hf : yV x.2.2) : qU Tryz.prog 79 [.agg (toL (rEdk κ) x)] (.one (goodA x)):=by
  refine qS (rs:=[2]) Tryz.func79 rfl rfl rfl teOk rfl ?_;refine qC ?_;refine qB ?_;refine qC ?_;refine qC ?_;refine qB ?_;refine qO ?_;refine qC ?_;refine qB ?_;refine qK rfl (fun h5=>?_) (fun h5=>?_)
  ·try simp only [decide_eq_true_eq] at h5
   try simp only [zds] at h5
   refine qC ?_;refine qC ?_;refine qB ?_;intro l3_2
   try simp only [zds] at l3_2
   refine qK rfl (fun h10=>?_) (fun h10=>?_)
   ·try simp only [decide_eq_true_eq] at h10
    try simp only [zds] at h10
    refine qC ?_;refine qB ?_;refine qL ?_;rw [goodA_2 h5 (by omega)];rfl
   ·try simp only [decide_eq_false_iff_not,Int.not_lt] at h10
    try simp only [zds] at h10
    refine qM ?_;refine qC ?_;refine qB ?_;refine qL ?_;rw [goodA_20 h5 (by omega)];rfl
  ·try simp only [decide_eq_false_iff_not] at h5
   try simp only [zds] at h5
   refine qC ?_;refine qC ?_;refine qB ?_;refine qK rfl (fun h12=>?_) (fun h12=>?_)
   ·try simp only [decide_eq_true_eq] at h12
    try simp only [zds] at h12
    refine qM ?_;refine qK rfl (fun h12=>?_) (fun h12=>?_)
    ·try simp only [decide_eq_true_eq] at h12
     try simp only [zds] at h12
     refine qC ?_;have hk:=pcheck_c (κ:=κ) x.2.2 hf ; rcases chkA_cases x.2.2 with hA|⟨n,hA⟩|⟨a,n,hA⟩ <;> rw [hA] at hk
     ·refine qB ?_;refine Or.inl ?_;refine zai (rfl) ?_;refine zei _ (zai (hk) ?_);refine qL ?_;rw [goodA_13 (by omega),hA];rfl
     ·refine qB ?_;refine Or.inl ?_;refine zai (rfl) ?_;refine zei _ (zai (hk) ?_);refine qL ?_;rw [goodA_13 (by omega),hA];rfl
     ·refine qB ?_;refine Or.inl ?_;refine zai (rfl) ?_;refine zei _ (zai (hk) ?_);refine qL ?_;rw [goodA_13 (by omega),hA];rfl
    ·try simp only [decide_eq_false_iff_not] at h12
     try simp only [zds] at h12
     omega
   ·try simp only [decide_eq_false_iff_not] at h12
    try simp only [zds] at h12
    refine qB ?_;refine qK rfl (fun h12=>?_) (fun h12=>?_)
    ·try simp only [decide_eq_true_eq] at h12
     try simp only [zds] at h12
     refine qC ?_;have hk:=pcheck_c (κ:=κ) x.2.2 hf ; rcases chkA_cases x.2.2 with hA|⟨n,hA⟩|⟨a,n,hA⟩ <;> rw [hA] at hk
     ·refine qB ?_;refine Or.inl ?_;refine zai (rfl) ?_;refine zei _ (zai (hk) ?_);refine qL ?_;rw [goodA_13 (by omega),hA];rfl
     ·refine qB ?_;refine Or.inl ?_;refine zai (rfl) ?_;refine zei _ (zai (hk) ?_);refine qL ?_;rw [goodA_13 (by omega),hA];rfl
     ·refine qB ?_;refine Or.inl ?_;refine zai (rfl) ?_;refine zei _ (zai (hk) ?_);refine qL ?_;rw [goodA_13 (by omega),hA];rfl
    ·try simp only [decide_eq_false_iff_not] at h12
     try simp only [zds] at h12
     skip
     refine qM ?_;refine qC ?_;refine qB ?_;refine qL ?_;rw [goodA_no (by omega) (by omega)];rfl
theorem faultN_c (i n : Int) : qU Tryz.prog 80 [ii .i64 i,.one (errN n)] (.one (errF i n)):=by
  refine qS (rs:=[4]) Tryz.func80 rfl rfl rfl teOk rfl ?_;refine qC ?_;refine qB ?_;refine qC ?_;refine qB ?_;refine Or.inl ?_;refine zai (rfl) ?_;refine zei _ (zai (bareN_c n) ?_);refine qL ?_;rfl
theorem faultF_c (i a n : Int) : qU Tryz.prog 80 [ii .i64 i,.one (errF a n)] (.one (errF i n)):=by
  refine qS (rs:=[4]) Tryz.func80 rfl rfl rfl teOk rfl ?_;refine qC ?_;refine qB ?_;refine qC ?_;refine qB ?_;refine Or.inl ?_;refine zai (rfl) ?_;refine zei _ (zai (bareF_c a n) ?_);refine qL ?_;rfl
def erB (p : Int × Int) : C:=if p.2 = 0 then .lit .nilIface else if p.1 = -9 then errN p.2 else errF p.1 p.2
theorem erB_z : erB (-9,0) = .lit .nilIface:=rfl
theorem erB_n {n : Int} (h : n ≠ 0) : erB (-9,n) = errN n:=by unfold erB;rw [if_neg h,if_pos rfl]
theorem erB_f {i : Nat} {n : Int} (h : n ≠ 0) : erB ((i : Int),n) = errF i n:=by unfold erB;rw [if_neg h,if_neg (show ¬ (i : Int) = -9 by omega)]
theorem check_c9 {κ κ' : Nat} (s : List Edt) (hf : ∀ e ∈ s,yV e.2.2) (hl : s.length ≤ 1000000) : qU Tryz.prog 40 [.one (.slk κ (rEdk κ') s)] (.one (erB (chkB s))):=by
  refine qS (rs:=[2]) Tryz.func40 rfl rfl rfl teOk rfl ?_;refine qC ?_;refine qB ?_;refine qC ?_;refine qC ?_;refine qB ?_;intro l1_1
  try simp only [zds] at l1_1
  refine zai (fun h=>trivial) ?_;refine zai (fun h=>⟨⟨h,trivial⟩,trivial⟩) ?_;refine zai (fun h=>⟨⟨h,trivial⟩,trivial⟩) ?_;refine zai (by first|(intro h;rw [h];rfl)|(intro h;cases h)) ?_;refine qK rfl (fun h13=>?_) (fun h13=>?_)
  ·try simp only [decide_eq_true_eq,Bool.or_eq_true] at h13
   try simp only [zds] at h13
   refine qC ?_;refine qB ?_;refine qL ?_;rw [chkB_rng (by omega),erB_n (by decide)];rfl
  ·try simp only [decide_eq_false_iff_not,Bool.or_eq_false_iff,Int.not_lt] at h13
   try simp only [zds] at h13
   refine qM ?_;refine qC ?_;refine qC ?_;refine qB ?_;intro l3_1
   try simp only [zds] at l3_1
   refine qO ?_;refine qZ (fun (i : Nat)=>i ≤ s.length ∧ ∀ e ∈ s.take i,goodN e = 0) (fun (i : Nat)=>[(15,.one (.slk κ (rEdk κ') s)),(16,ii .i64 s.length),(17,ii .i64 i)]) (fun (i : Nat)=>[]) 0 (fun (i : Nat)=>s.length - i) 0 (⟨Nat.zero_le _,by simp⟩) (qQ ⟨rfl,rfl,rfl⟩ trivial rfl) ?_;intro i hI0;obtain ⟨hi,hall⟩:=hI0;refine qC ?_;refine qB ?_;refine qC ?_;refine qK rfl (fun h18=>?_) (fun h18=>?_)
   ·try simp only [decide_eq_true_eq] at h18
    try simp only [zds] at h18
    have hlt : i < s.length:=(by omega);have hm:=hf _ (yH hlt ((0 : Int),(0 : Int),([] : List Fld)));have hg:=good_c (κ:=κ') (s.getD i ((0 : Int),(0 : Int),([] : List Fld))) hm;refine qM ?_;refine qC ?_;refine qO ?_;refine qC ?_;refine qB ?_;refine zai (by first|omega|assumption|decide|(simp only [zds];omega)|(simp <;> omega)) ?_;refine qC ?_;rcases goodA_cases (s.getD i ((0 : Int),(0 : Int),([] : List Fld))) with ⟨hz,hA⟩|⟨n,hn,hz,hA⟩|⟨a,n,hn,hz,hA⟩ <;> rw [hA] at hg
    ·refine qB ?_;refine Or.inl ?_;refine zai (rfl) ?_;refine zei _ (zai (hg) ?_);refine qC ?_;refine qB ?_;refine qK rfl (fun h25=>?_) (fun h25=>?_)
     ·try simp only [Bool.not_eq_true'] at h25
      try simp only [zds] at h25
      cases h25
     ·try simp only [Bool.not_eq_false'] at h25
      try simp only [zds] at h25
      refine qM ?_;refine qB ?_;refine zai (by first|omega|assumption|decide|(simp only [zds];omega)|(simp <;> omega)) ?_;exact ⟨i + 1,⟨by omega,take_good hlt hall hz⟩,by first|omega|(simp <;> omega),qQ ⟨rfl,rfl,(yB (by omega))⟩ trivial rfl⟩
    ·refine qB ?_;refine Or.inl ?_;refine zai (rfl) ?_;refine zei _ (zai (hg) ?_);refine qC ?_;refine qB ?_;refine qK rfl (fun h25=>?_) (fun h25=>?_)
     ·skip
      refine qC ?_;refine qB ?_;refine Or.inl ?_;refine zai (rfl) ?_;refine zei _ (zai (faultN_c i n) ?_);refine qL ?_;rw [chkB_at (by omega) hlt hall (by rw [hz];exact hn),hz,erB_f hn];rfl
     ·try simp only [zbq] at h25
      try simp only [zds] at h25
      cases h25
    ·refine qB ?_;refine Or.inl ?_;refine zai (rfl) ?_;refine zei _ (zai (hg) ?_);refine qC ?_;refine qB ?_;refine qK rfl (fun h25=>?_) (fun h25=>?_)
     ·skip
      refine qC ?_;refine qB ?_;refine Or.inl ?_;refine zai (rfl) ?_;refine zei _ (zai (faultF_c i a n) ?_);refine qL ?_;rw [chkB_at (by omega) hlt hall (by rw [hz];exact hn),hz,erB_f hn];rfl
     ·try simp only [zbq] at h25
      try simp only [zds] at h25
      cases h25
   ·try simp only [decide_eq_false_iff_not,Int.not_lt] at h18
    try simp only [zds] at h18
    refine yC ?_;refine qC ?_;refine qB ?_;refine qL ?_;rw [List.take_of_length_le (by omega)] at hall;rw [chkB_no (by omega) hall,erB_z];rfl
end Q
end Ab
end Go.Proofs.YtbfhpimmlehkcaaGreatDoor
namespace Go.Proofs.YtbfhpimmlehkcaaGreatDoor
open Go.RowKit
namespace Ab
set_option maxRecDepth 100000
namespace Q
theorem oneRep_z {κ : Nat} (L L' : Lst) (id : Int) (f : List Fld) (h : qX Tryz.prog 32 [.one (.own 0 0),ii .i64 id,.one (.slk κ rFld f)] (lsO L) 2 (.one (.lit .nilIface)) (lsO L') 2) : qX Tryz.prog 87 [.one (.own 0 0),.agg (toL (rEdk κ) ((1 : Int),id,f))] (lsO L) 2 (.tup [(false,[.lit (.int .i64 0)]),(false,[.lit .nilIface])]) (lsO L') 2:=by
  refine qT (rs:=[4,5]) Tryz.func87 rfl rfl rfl teOk (by decide) rfl ?_;refine qC ?_;refine qB ?_;refine qC ?_;refine qC ?_;refine qB ?_;refine qO ?_;refine qC ?_;refine qB ?_;refine qK rfl (fun h8=>?_) (fun h8=>?_)
  ·try simp only [decide_eq_true_eq] at h8
   try simp only [zds] at h8
   refine qC ?_;refine qB ?_;refine Or.inr (Or.inl (zei [] (zei [0,1] (zei _ (zei _ (zei _ (zei _ (zei _ (zai (h) (zai rfl (zai (zai (zai rfl rfl) (zai (zai rfl rfl) True.intro)) (zai rfl ?_))))))))))));refine qL ?_;exact ⟨rfl,⟨rfl,rfl⟩,rfl⟩
  ·try simp only [decide_eq_false_iff_not] at h8
   try simp only [zds] at h8
   simp at h8
theorem oneDel_z {κ : Nat} (L L' : Lst) (id : Int) (f : List Fld) (h : qX Tryz.prog 17 [.one (.own 0 0),ii .i64 id] (lsO L) 2 (.one (.lit .nilIface)) (lsO L') 2) : qX Tryz.prog 87 [.one (.own 0 0),.agg (toL (rEdk κ) ((2 : Int),id,f))] (lsO L) 2 (.tup [(false,[.lit (.int .i64 0)]),(false,[.lit .nilIface])]) (lsO L') 2:=by
  refine qT (rs:=[4,5]) Tryz.func87 rfl rfl rfl teOk (by decide) rfl ?_;refine qC ?_;refine qB ?_;refine qC ?_;refine qC ?_;refine qB ?_;refine qO ?_;refine qC ?_;refine qB ?_;refine qK rfl (fun h8=>?_) (fun h8=>?_)
  ·try simp only [decide_eq_true_eq] at h8
   try simp only [zds] at h8
   simp at h8
  ·try simp only [decide_eq_false_iff_not] at h8
   try simp only [zds] at h8
   refine qC ?_;refine qB ?_;refine qK rfl (fun h16=>?_) (fun h16=>?_)
   ·try simp only [decide_eq_true_eq] at h16
    try simp only [zds] at h16
    refine qC ?_;refine qB ?_;refine Or.inr (Or.inl (zei [] (zei [0,1] (zei _ (zei _ (zei _ (zei _ (zei _ (zai (h) (zai rfl (zai (zai (zai rfl rfl) (zai (zai rfl rfl) True.intro)) (zai rfl ?_))))))))))));refine qL ?_;exact ⟨rfl,⟨rfl,rfl⟩,rfl⟩
   ·try simp only [decide_eq_false_iff_not] at h16
    try simp only [zds] at h16
    simp at h16
theorem oneIns_z {κ : Nat} (L L' : Lst) (k id m : Int) (f : List Fld) (h1 : k ≠ 1) (h2 : k ≠ 2) (h : qX Tryz.prog 33 [.one (.own 0 0),ii .i64 id,.one (.slk κ rFld f)] (lsO L) 2 (.tup [(false,[.lit (.int .i64 m)]),(false,[.lit .nilIface])]) (lsO L') 2) : qX Tryz.prog 87 [.one (.own 0 0),.agg (toL (rEdk κ) (k,id,f))] (lsO L) 2 (.tup [(false,[.lit (.int .i64 m)]),(false,[.lit .nilIface])]) (lsO L') 2:=by
  refine qT (rs:=[4,5]) Tryz.func87 rfl rfl rfl teOk (by decide) rfl ?_;refine qC ?_;refine qB ?_;refine qC ?_;refine qC ?_;refine qB ?_;refine qO ?_;refine qC ?_;refine qB ?_;refine qK rfl (fun h8=>?_) (fun h8=>?_)
  ·try simp only [decide_eq_true_eq] at h8
   try simp only [zds] at h8
   exact absurd h8 h1
  ·try simp only [decide_eq_false_iff_not] at h8
   try simp only [zds] at h8
   refine qC ?_;refine qB ?_;refine qK rfl (fun h16=>?_) (fun h16=>?_)
   ·try simp only [decide_eq_true_eq] at h16
    try simp only [zds] at h16
    exact absurd h16 h2
   ·try simp only [decide_eq_false_iff_not] at h16
    try simp only [zds] at h16
    refine qM ?_;refine qC ?_;refine qB ?_;refine Or.inr (Or.inl (zei [] (zei [0,1] (zei _ (zei _ (zei _ (zei _ (zei _ (zai (h) (zai rfl (zai (zai (zai rfl rfl) (zai (zai rfl rfl) True.intro)) (zai rfl ?_))))))))))));refine qL ?_;exact ⟨rfl,⟨rfl,rfl⟩,rfl⟩
theorem oneRep_n {κ : Nat} (L L' : Lst) (k9 : Int) (id : Int) (f : List Fld) (h : qX Tryz.prog 32 [.one (.own 0 0),ii .i64 id,.one (.slk κ rFld f)] (lsO L) 2 (.one (errN k9)) (lsO L') 2) : qX Tryz.prog 87 [.one (.own 0 0),.agg (toL (rEdk κ) ((1 : Int),id,f))] (lsO L) 2 (.tup [(false,[.lit (.int .i64 0)]),(false,[errN k9])]) (lsO L') 2:=by
  refine qT (rs:=[4,5]) Tryz.func87 rfl rfl rfl teOk (by decide) rfl ?_;refine qC ?_;refine qB ?_;refine qC ?_;refine qC ?_;refine qB ?_;refine qO ?_;refine qC ?_;refine qB ?_;refine qK rfl (fun h8=>?_) (fun h8=>?_)
  ·try simp only [decide_eq_true_eq] at h8
   try simp only [zds] at h8
   refine qC ?_;refine qB ?_;refine Or.inr (Or.inl (zei [] (zei [0,1] (zei _ (zei _ (zei _ (zei _ (zei _ (zai (h) (zai rfl (zai (zai (zai rfl rfl) (zai (zai rfl rfl) True.intro)) (zai rfl ?_))))))))))));refine qL ?_;exact ⟨rfl,⟨rfl,rfl⟩,rfl⟩
  ·try simp only [decide_eq_false_iff_not] at h8
   try simp only [zds] at h8
   simp at h8
theorem oneDel_n {κ : Nat} (L L' : Lst) (k9 : Int) (id : Int) (f : List Fld) (h : qX Tryz.prog 17 [.one (.own 0 0),ii .i64 id] (lsO L) 2 (.one (errN k9)) (lsO L') 2) : qX Tryz.prog 87 [.one (.own 0 0),.agg (toL (rEdk κ) ((2 : Int),id,f))] (lsO L) 2 (.tup [(false,[.lit (.int .i64 0)]),(false,[errN k9])]) (lsO L') 2:=by
  refine qT (rs:=[4,5]) Tryz.func87 rfl rfl rfl teOk (by decide) rfl ?_;refine qC ?_;refine qB ?_;refine qC ?_;refine qC ?_;refine qB ?_;refine qO ?_;refine qC ?_;refine qB ?_;refine qK rfl (fun h8=>?_) (fun h8=>?_)
  ·try simp only [decide_eq_true_eq] at h8
   try simp only [zds] at h8
   simp at h8
  ·try simp only [decide_eq_false_iff_not] at h8
   try simp only [zds] at h8
   refine qC ?_;refine qB ?_;refine qK rfl (fun h16=>?_) (fun h16=>?_)
   ·try simp only [decide_eq_true_eq] at h16
    try simp only [zds] at h16
    refine qC ?_;refine qB ?_;refine Or.inr (Or.inl (zei [] (zei [0,1] (zei _ (zei _ (zei _ (zei _ (zei _ (zai (h) (zai rfl (zai (zai (zai rfl rfl) (zai (zai rfl rfl) True.intro)) (zai rfl ?_))))))))))));refine qL ?_;exact ⟨rfl,⟨rfl,rfl⟩,rfl⟩
   ·try simp only [decide_eq_false_iff_not] at h16
    try simp only [zds] at h16
    simp at h16
theorem oneIns_n {κ : Nat} (L L' : Lst) (k9 : Int) (k id m : Int) (f : List Fld) (h1 : k ≠ 1) (h2 : k ≠ 2) (h : qX Tryz.prog 33 [.one (.own 0 0),ii .i64 id,.one (.slk κ rFld f)] (lsO L) 2 (.tup [(false,[.lit (.int .i64 m)]),(false,[errN k9])]) (lsO L') 2) : qX Tryz.prog 87 [.one (.own 0 0),.agg (toL (rEdk κ) (k,id,f))] (lsO L) 2 (.tup [(false,[.lit (.int .i64 m)]),(false,[errN k9])]) (lsO L') 2:=by
  refine qT (rs:=[4,5]) Tryz.func87 rfl rfl rfl teOk (by decide) rfl ?_;refine qC ?_;refine qB ?_;refine qC ?_;refine qC ?_;refine qB ?_;refine qO ?_;refine qC ?_;refine qB ?_;refine qK rfl (fun h8=>?_) (fun h8=>?_)
  ·try simp only [decide_eq_true_eq] at h8
   try simp only [zds] at h8
   exact absurd h8 h1
  ·try simp only [decide_eq_false_iff_not] at h8
   try simp only [zds] at h8
   refine qC ?_;refine qB ?_;refine qK rfl (fun h16=>?_) (fun h16=>?_)
   ·try simp only [decide_eq_true_eq] at h16
    try simp only [zds] at h16
    exact absurd h16 h2
   ·try simp only [decide_eq_false_iff_not] at h16
    try simp only [zds] at h16
    refine qM ?_;refine qC ?_;refine qB ?_;refine Or.inr (Or.inl (zei [] (zei [0,1] (zei _ (zei _ (zei _ (zei _ (zei _ (zai (h) (zai rfl (zai (zai (zai rfl rfl) (zai (zai rfl rfl) True.intro)) (zai rfl ?_))))))))))));refine qL ?_;exact ⟨rfl,⟨rfl,rfl⟩,rfl⟩
theorem oneRep_f {κ : Nat} (L L' : Lst) (a9 k9 : Int) (id : Int) (f : List Fld) (h : qX Tryz.prog 32 [.one (.own 0 0),ii .i64 id,.one (.slk κ rFld f)] (lsO L) 2 (.one (errF a9 k9)) (lsO L') 2) : qX Tryz.prog 87 [.one (.own 0 0),.agg (toL (rEdk κ) ((1 : Int),id,f))] (lsO L) 2 (.tup [(false,[.lit (.int .i64 0)]),(false,[errF a9 k9])]) (lsO L') 2:=by
  refine qT (rs:=[4,5]) Tryz.func87 rfl rfl rfl teOk (by decide) rfl ?_;refine qC ?_;refine qB ?_;refine qC ?_;refine qC ?_;refine qB ?_;refine qO ?_;refine qC ?_;refine qB ?_;refine qK rfl (fun h8=>?_) (fun h8=>?_)
  ·try simp only [decide_eq_true_eq] at h8
   try simp only [zds] at h8
   refine qC ?_;refine qB ?_;refine Or.inr (Or.inl (zei [] (zei [0,1] (zei _ (zei _ (zei _ (zei _ (zei _ (zai (h) (zai rfl (zai (zai (zai rfl rfl) (zai (zai rfl rfl) True.intro)) (zai rfl ?_))))))))))));refine qL ?_;exact ⟨rfl,⟨rfl,rfl⟩,rfl⟩
  ·try simp only [decide_eq_false_iff_not] at h8
   try simp only [zds] at h8
   simp at h8
theorem oneIns_f {κ : Nat} (L L' : Lst) (a9 k9 : Int) (k id m : Int) (f : List Fld) (h1 : k ≠ 1) (h2 : k ≠ 2) (h : qX Tryz.prog 33 [.one (.own 0 0),ii .i64 id,.one (.slk κ rFld f)] (lsO L) 2 (.tup [(false,[.lit (.int .i64 m)]),(false,[errF a9 k9])]) (lsO L') 2) : qX Tryz.prog 87 [.one (.own 0 0),.agg (toL (rEdk κ) (k,id,f))] (lsO L) 2 (.tup [(false,[.lit (.int .i64 m)]),(false,[errF a9 k9])]) (lsO L') 2:=by
  refine qT (rs:=[4,5]) Tryz.func87 rfl rfl rfl teOk (by decide) rfl ?_;refine qC ?_;refine qB ?_;refine qC ?_;refine qC ?_;refine qB ?_;refine qO ?_;refine qC ?_;refine qB ?_;refine qK rfl (fun h8=>?_) (fun h8=>?_)
  ·try simp only [decide_eq_true_eq] at h8
   try simp only [zds] at h8
   exact absurd h8 h1
  ·try simp only [decide_eq_false_iff_not] at h8
   try simp only [zds] at h8
   refine qC ?_;refine qB ?_;refine qK rfl (fun h16=>?_) (fun h16=>?_)
   ·try simp only [decide_eq_true_eq] at h16
    try simp only [zds] at h16
    exact absurd h16 h2
   ·try simp only [decide_eq_false_iff_not] at h16
    try simp only [zds] at h16
    refine qM ?_;refine qC ?_;refine qB ?_;refine Or.inr (Or.inl (zei [] (zei [0,1] (zei _ (zei _ (zei _ (zei _ (zei _ (zai (h) (zai rfl (zai (zai (zai rfl rfl) (zai (zai rfl rfl) True.intro)) (zai rfl ?_))))))))))));refine qL ?_;exact ⟨rfl,⟨rfl,rfl⟩,rfl⟩
theorem one_cases {κ c : Nat} {L : Lst} (h : LOk c L) (hc : c ≤ 200000) (e : Edt) (hf : yV e.2.2) :
    (oneN L e = 0 ∧ qX Tryz.prog 87 [.one (.own 0 0),.agg (toL (rEdk κ) e)] (lsO L) 2 (.tup [(false,[.lit (.int .i64 (newN L e))]),(false,[.lit .nilIface])]) (lsO (doL L e)) 2) ∨
    (∃ k9,k9 ≠ 0 ∧ oneN L e = k9 ∧ qX Tryz.prog 87 [.one (.own 0 0),.agg (toL (rEdk κ) e)] (lsO L) 2 (.tup [(false,[.lit (.int .i64 0)]),(false,[errN k9])]) (lsO L) 2) ∨
    (∃ a9 k9,k9 ≠ 0 ∧ oneN L e = k9 ∧ qX Tryz.prog 87 [.one (.own 0 0),.agg (toL (rEdk κ) e)] (lsO L) 2 (.tup [(false,[.lit (.int .i64 0)]),(false,[errF a9 k9])]) (lsO L) 2):=by
  obtain ⟨es,n,m⟩:=L;obtain ⟨k,id,f⟩:=e;have hmany:=h.many;have hnx:=h.next;have hln:=h.len;have hids:=ids_len es;have hil:=List.length_filter_le live es;simp only at hmany hnx hln hf;unfold newN oneN doL;simp only
  by_cases h1 : k = 1
  · subst h1;simp only [if_pos,true_or]
    by_cases h0 : atE es id < 0
    · simp only [if_pos h0];exact .inr (.inl ⟨7,by decide,rfl,oneRep_n _ _ 7 id f (lRep_no es n m id f h0)⟩)
    · simp only [if_neg h0]
      by_cases hck : (chkR f).2 ≠ 0
      · have hb:=lRep_bad (κ:=κ) es n m id f (by omega) hf hck;rcases chk_shape hck with ⟨k9,g1,g2,g3,g4⟩|⟨a9,k9,g1,g2,g3,g4⟩
        · rw [g1] at hb;exact .inr (.inl ⟨k9,g2,g4.symm,oneRep_n _ _ k9 id f hb⟩)
        · rw [g1] at hb;exact .inr (.inr ⟨a9,k9,g2,g4.symm,oneRep_f _ _ a9 k9 id f hb⟩)
      · have hck' : (chkR f).2 = 0:=Classical.not_not.1 hck;simp only [if_neg hck];obtain ⟨i,hi,he,_,_⟩:=at_lt h0;rw [he,Int.toNat_natCast];exact .inl ⟨hck',oneRep_z _ _ id f (lRep_ok es n m id f i hi he hf hck')⟩
  · by_cases h2 : k = 2
    · subst h2;simp only [if_neg (show ¬ (2 : Int) = 1 by decide),if_pos,or_true]
      by_cases h0 : atE es id < 0
      · simp only [if_pos h0];exact .inr (.inl ⟨7,by decide,rfl,oneDel_n _ _ 7 id f (lDel_no es n m id h0)⟩)
      · simp only [if_neg h0];obtain ⟨i,hi,he,_,_⟩:=at_lt h0;rw [he,Int.toNat_natCast];exact .inl ⟨trivial,oneDel_z _ _ id f (lDel_ok es n m id i hi he (by omega) (by omega))⟩
    · simp only [if_neg h1,if_neg h2,if_neg (show ¬ (k = 1 ∨ k = 2) from fun h=>h.elim h1 h2)]
      by_cases h0 : atE es id < 0 ∧ id ≠ 0
      · simp only [if_pos h0];exact .inr (.inl ⟨7,by decide,rfl,oneIns_n _ _ 7 k id 0 f h1 h2 (lIns_no es n m id f h0.1 h0.2)⟩)
      · simp only [if_neg h0]
        by_cases hck : (chkR f).2 ≠ 0
        · have hb:=lIns_bad (κ:=κ) es n m id f h0 hf hck;simp only [if_pos hck];rcases chk_shape hck with ⟨k9,g1,g2,g3,g4⟩|⟨a9,k9,g1,g2,g3,g4⟩
          · rw [g1] at hb;exact .inr (.inl ⟨k9,g2,g4.symm,oneIns_n _ _ k9 k id 0 f h1 h2 hb⟩)
          · rw [g1] at hb;exact .inr (.inr ⟨a9,k9,g2,g4.symm,oneIns_f _ _ a9 k9 k id 0 f h1 h2 hb⟩)
        · have hck' : (chkR f).2 = 0:=Classical.not_not.1 hck;simp only [if_neg hck]
          by_cases h4 : 400 ≤ m
          · simp only [if_pos h4];exact .inr (.inl ⟨11,by decide,rfl,oneIns_n _ _ 11 k id 0 f h1 h2 (lIns_full es n m id f h0 hf hck' h4)⟩)
          · simp only [if_neg h4];obtain ⟨j,hj,hje⟩ : ∃ j : Nat,j ≤ es.length ∧ atE es id + 1 = (j : Int):=by
              rcases at_cases es id with ⟨h1,_⟩|⟨i,h1,h2,_⟩
              · exact ⟨0,Nat.zero_le _,by omega⟩
              · exact ⟨i + 1,by omega,by omega⟩
            rw [hje,Int.toNat_natCast];exact .inl ⟨trivial,oneIns_z _ _ k id n f h1 h2 (lIns_ok es n m id f j hj h0 hje hf hck' (by omega) (by omega) (by omega))⟩
end Q
end Ab
end Go.Proofs.YtbfhpimmlehkcaaGreatDoor
namespace Go.Proofs.YtbfhpimmlehkcaaGreatDoor
open Go.RowKit
namespace Ab
set_option maxRecDepth 100000
namespace Q
end Q
end Ab
end Go.Proofs.YtbfhpimmlehkcaaGreatDoor
namespace Go.Proofs.YtbfhpimmlehkcaaGreatDoor
open Go.RowKit
namespace Ab
set_option maxRecDepth 100000
namespace Q
theorem lsbox0_eq {L M : Lst} (h : M = L) : some (Ob.box 108 [.vec 0,.lit (.int .i64 L.2.1),.lit (.int .i64 L.2.2)]) = some (Ob.box 108 [.vec 0,.lit (.int .i64 M.2.1),.lit (.int .i64 M.2.2)]):=by rw [h]
theorem took {c : Nat} {L : Lst} {s : List Edt} (h : LOk c L) (hf : ∀ e ∈ s,yV e.2.2) {i : Nat} (hi : i < s.length) : LOk (c + i) (yP L s i) ∧ yV (s.getD i ((0 : Int),(0 : Int),([] : List Fld))).2.2:=⟨plays_ok h hf i (by omega),hf _ (yH hi ((0 : Int),(0 : Int),([] : List Fld)))⟩
theorem doBad_c {κ κ' k c : Nat} (L : Lst) (s : List Edt) (hL : LOk c L) (hc : c + s.length ≤ 200000) (hf : ∀ e ∈ s,yV e.2.2) (h : (chkB s).2 = 0) (q : Nat) (hq : q < s.length) (hb : oneN (yP L s q) (s.getD q ((0 : Int),(0 : Int),([] : List Fld))) ≠ 0) (ht : ∀ j,j < q → oneN (yP L s j) (s.getD j ((0 : Int),(0 : Int),([] : List Fld))) = 0) :
    qU Tryz.prog 49 [.one (.adk k (rLst k) L),.one (.slk κ (rEdk κ') s)] (.tup [(false,[.lit (.pointer none)]),(false,[.lit (.slice none 0 0)]),(false,[errF q (oneN (yP L s q) (s.getD q ((0 : Int),(0 : Int),([] : List Fld))))])]):=by
  obtain ⟨hln,hgd⟩:=chkB_zero h;have hk:=check_c9 (κ:=κ) (κ':=κ') s hf (by omega);rw [chkB_good h,erB_z] at hk;have hlen:=hL.len;have hcp:=copyL_o (k:=k) L.1 L.2.1 L.2.2 (by omega);refine qS (rs:=[4,5,6]) Tryz.func49 rfl rfl rfl teOk rfl ?_;refine qC ?_;refine qB ?_;refine qC ?_;refine qC ?_;refine qB ?_;refine Or.inl ?_;refine zai (rfl) ?_;refine zei _ (zai (hk) ?_);refine qC ?_;refine qB ?_;refine qK rfl (fun h17=>?_) (fun h17=>?_)
  ·try simp only [Bool.not_eq_true'] at h17
   try simp only [zds] at h17
   cases h17
  ·try simp only [Bool.not_eq_false'] at h17
   try simp only [zds] at h17
   refine qM ?_;refine qC ?_;refine qB ?_;refine Or.inr (Or.inl (zei [] (zei [] (zei _ (zei _ (zei _ (zei _ (zei _ (zai (hcp) (zai rfl (zai True.intro (zai rfl ?_))))))))))));refine qC ?_;refine qB ?_;refine qC ?_;refine qC ?_;refine xI 9 3 (.int .i64) rfl ?_;refine qB ?_;intro l6_1
   try simp only [zds] at l6_1
   refine qO ?_;refine qZ (fun (i : Nat)=>i ≤ q) (fun (i : Nat)=>[(8,.one (.own 1 0)),(9,.one (.vec 2)),(21,.one (.slk κ (rEdk κ') s)),(22,ii .i64 s.length),(23,ii .i64 i)]) (fun (i : Nat)=>[(0,.vec 112 rEnt (yP L s i).1),(1,.box 108 [.vec 0,.lit (.int .i64 (yP L s i).2.1),.lit (.int .i64 (yP L s i).2.2)]),(2,.vec 3 (.int .i64) (idsT L s i))]) 3 (fun (i : Nat)=>q - i) 0 (Nat.zero_le _) (qQ ⟨rfl,rfl,rfl,rfl,rfl⟩ ⟨rfl,rfl,rfl⟩ rfl) ?_;intro i hI0;refine qC ?_;refine qB ?_;refine qC ?_;refine qK rfl (fun h24=>?_) (fun h24=>?_)
   ·try simp only [decide_eq_true_eq] at h24
    try simp only [zds] at h24
    have hil : i < s.length:=(by omega);obtain ⟨hLi,hfe⟩:=took hL hf hil;have hsn:=plays_snoc L hil;have hin:=idsT_snoc L s i;have hilen:=idsT_len L s i;refine qM ?_;refine qC ?_;refine qO ?_;refine qC ?_;refine qB ?_;refine zai (by first|omega|assumption|decide|(simp only [zds];omega)|(simp <;> omega)) ?_;refine qC ?_;rcases one_cases (κ:=κ') hLi (by omega) (s.getD i ((0 : Int),(0 : Int),([] : List Fld))) hfe with ⟨hz,ho⟩|⟨n,hn,hz,ho⟩|⟨a,n,hn,hz,ho⟩
    ·refine qB ?_;refine Or.inr (Or.inl (zei [] (zei [1,0] (zei _ (zei _ (zei _ (zei _ (zei _ (zai (ho) (zai rfl (zai (zai (zai rfl rfl) (zai (zai rfl rfl) True.intro)) (zai rfl ?_))))))))))));refine qC ?_;refine qC ?_;refine qB ?_;refine qK rfl (fun h35=>?_) (fun h35=>?_)
     ·try simp only [Bool.not_eq_true'] at h35
      try simp only [zds] at h35
      cases h35
     ·try simp only [Bool.not_eq_false'] at h35
      try simp only [zds] at h35
      have hlt : i < q:=(by rcases Nat.lt_or_ge i q with h1|h1;exact h1;have e1 : i = q:=(by omega);rw [e1] at hz;exact absurd hz hb);refine qM ?_;refine qC ?_;refine qB ?_;refine qK rfl (fun h40=>?_) (fun h40=>?_)
      ·try simp only [decide_eq_true_eq] at h40
       try simp only [zds] at h40
       refine qB ?_;refine zai (by first|exact qP (by first|omega|(simp only [List.length_cons,List.length_nil];omega)|(simp;omega)) (by decide)|omega|assumption|decide|(simp only [zds];omega)|(simp <;> omega)) ?_;refine qB ?_;refine zai (by first|omega|assumption|decide|(simp only [zds];omega)|(simp <;> omega)) ?_;exact ⟨i + 1,by omega,by first|omega|(simp <;> omega),qQ ⟨rfl,rfl,rfl,rfl,(yB (by omega))⟩ ⟨(lsvec_eq hsn),(lsbox0_eq hsn),(yG (by rw [hin,if_pos (by omega)];try exact rfl))⟩ rfl⟩
      ·try simp only [decide_eq_false_iff_not,Int.not_lt] at h40
       try simp only [zds] at h40
       refine qM ?_;refine qB ?_;refine zai (by first|omega|assumption|decide|(simp only [zds];omega)|(simp <;> omega)) ?_;exact ⟨i + 1,by omega,by first|omega|(simp <;> omega),qQ ⟨rfl,rfl,rfl,rfl,(yB (by omega))⟩ ⟨(lsvec_eq hsn),(lsbox0_eq hsn),(yG (by rw [hin,if_neg (by omega),List.append_nil]))⟩ rfl⟩
    ·refine qB ?_;refine Or.inr (Or.inl (zei [] (zei [1,0] (zei _ (zei _ (zei _ (zei _ (zei _ (zai (ho) (zai rfl (zai (zai (zai rfl rfl) (zai (zai rfl rfl) True.intro)) (zai rfl ?_))))))))))));refine qC ?_;refine qC ?_;refine qB ?_;refine qK rfl (fun h35=>?_) (fun h35=>?_)
     ·skip
      have hiq : i = q:=(by rcases Nat.lt_or_ge i q with h1|h1;exact absurd ((ht i h1).symm.trans hz) (by omega);omega);subst hiq;refine qC ?_;refine qB ?_;refine Or.inl ?_;refine zai (rfl) ?_;refine zei _ (zai (faultN_c i n) ?_);refine qL ?_;rw [hz];exact rfl
     ·try simp only [zbq] at h35
      try simp only [zds] at h35
      simp at h35
    ·refine qB ?_;refine Or.inr (Or.inl (zei [] (zei [1,0] (zei _ (zei _ (zei _ (zei _ (zei _ (zai (ho) (zai rfl (zai (zai (zai rfl rfl) (zai (zai rfl rfl) True.intro)) (zai rfl ?_))))))))))));refine qC ?_;refine qC ?_;refine qB ?_;refine qK rfl (fun h35=>?_) (fun h35=>?_)
     ·skip
      have hiq : i = q:=(by rcases Nat.lt_or_ge i q with h1|h1;exact absurd ((ht i h1).symm.trans hz) (by omega);omega);subst hiq;refine qC ?_;refine qB ?_;refine Or.inl ?_;refine zai (rfl) ?_;refine zei _ (zai (faultF_c i a n) ?_);refine qL ?_;rw [hz];exact rfl
     ·try simp only [zbq] at h35
      try simp only [zds] at h35
      simp at h35
   ·try simp only [decide_eq_false_iff_not,Int.not_lt] at h24
    try simp only [zds] at h24
    omega
theorem doOkV_o {κ κ' k c : Nat} (L : Lst) (s : List Edt) (hL : LOk c L) (hc : c + s.length ≤ 200000) (hf : ∀ e ∈ s,yV e.2.2) (h : (chkB s).2 = 0) (ht : ∀ j,j < s.length → oneN (yP L s j) (s.getD j ((0 : Int),(0 : Int),([] : List Fld))) = 0) :
    qX Tryz.prog 49 [.one (.adk k (rLst k) L),.one (.slk κ (rEdk κ') s)] [] 0 (.tup [(false,[.own 1 0]),(false,[.vec 2]),(false,[.lit .nilIface])]) [(1,.box 108 [.vec 0,.lit (.int .i64 (yP L s s.length).2.1),.lit (.int .i64 (yP L s s.length).2.2)]),(0,.vec 112 rEnt (yP L s s.length).1),(2,.vec 3 (.int .i64) (idsT L s s.length))] 3:=by
  obtain ⟨hln,hgd⟩:=chkB_zero h;have hk:=check_c9 (κ:=κ) (κ':=κ') s hf (by omega);rw [chkB_good h,erB_z] at hk;have hlen:=hL.len;have hcp:=copyL_o (k:=k) L.1 L.2.1 L.2.2 (by omega);refine qT (rs:=[4,5,6]) Tryz.func49 rfl rfl rfl teOk (by decide) rfl ?_;refine qC ?_;refine qB ?_;refine qC ?_;refine qC ?_;refine qB ?_;refine Or.inl ?_;refine zai (rfl) ?_;refine zei _ (zai (hk) ?_);refine qC ?_;refine qB ?_;refine qK rfl (fun h17=>?_) (fun h17=>?_)
  ·try simp only [Bool.not_eq_true'] at h17
   try simp only [zds] at h17
   cases h17
  ·try simp only [Bool.not_eq_false'] at h17
   try simp only [zds] at h17
   refine qM ?_;refine qC ?_;refine qB ?_;refine Or.inr (Or.inl (zei [] (zei [] (zei _ (zei _ (zei _ (zei _ (zei _ (zai (hcp) (zai rfl (zai True.intro (zai rfl ?_))))))))))));refine qC ?_;refine qB ?_;refine qC ?_;refine qC ?_;refine xI 9 3 (.int .i64) rfl ?_;refine qB ?_;intro l6_1
   try simp only [zds] at l6_1
   refine qO ?_;refine qZ (fun (i : Nat)=>i ≤ s.length) (fun (i : Nat)=>[(8,.one (.own 1 0)),(9,.one (.vec 2)),(21,.one (.slk κ (rEdk κ') s)),(22,ii .i64 s.length),(23,ii .i64 i)]) (fun (i : Nat)=>[(0,.vec 112 rEnt (yP L s i).1),(1,.box 108 [.vec 0,.lit (.int .i64 (yP L s i).2.1),.lit (.int .i64 (yP L s i).2.2)]),(2,.vec 3 (.int .i64) (idsT L s i))]) 3 (fun (i : Nat)=>s.length - i) 0 (Nat.zero_le _) (qQ ⟨rfl,rfl,rfl,rfl,rfl⟩ ⟨rfl,rfl,rfl⟩ rfl) ?_;intro i hI0;refine qC ?_;refine qB ?_;refine qC ?_;refine qK rfl (fun h24=>?_) (fun h24=>?_)
   ·try simp only [decide_eq_true_eq] at h24
    try simp only [zds] at h24
    have hil : i < s.length:=(by omega);obtain ⟨hLi,hfe⟩:=took hL hf hil;have hsn:=plays_snoc L hil;have hin:=idsT_snoc L s i;have hilen:=idsT_len L s i;refine qM ?_;refine qC ?_;refine qO ?_;refine qC ?_;refine qB ?_;refine zai (by first|omega|assumption|decide|(simp only [zds];omega)|(simp <;> omega)) ?_;refine qC ?_;rcases one_cases (κ:=κ') hLi (by omega) (s.getD i ((0 : Int),(0 : Int),([] : List Fld))) hfe with ⟨hz,ho⟩|⟨n,hn,hz,ho⟩|⟨a,n,hn,hz,ho⟩
    ·refine qB ?_;refine Or.inr (Or.inl (zei [] (zei [1,0] (zei _ (zei _ (zei _ (zei _ (zei _ (zai (ho) (zai rfl (zai (zai (zai rfl rfl) (zai (zai rfl rfl) True.intro)) (zai rfl ?_))))))))))));refine qC ?_;refine qC ?_;refine qB ?_;refine qK rfl (fun h35=>?_) (fun h35=>?_)
     ·try simp only [Bool.not_eq_true'] at h35
      try simp only [zds] at h35
      cases h35
     ·try simp only [Bool.not_eq_false'] at h35
      try simp only [zds] at h35
      refine qM ?_;refine qC ?_;refine qB ?_;refine qK rfl (fun h40=>?_) (fun h40=>?_)
      ·try simp only [decide_eq_true_eq] at h40
       try simp only [zds] at h40
       refine qB ?_;refine zai (by first|exact qP (by first|omega|(simp only [List.length_cons,List.length_nil];omega)|(simp;omega)) (by decide)|omega|assumption|decide|(simp only [zds];omega)|(simp <;> omega)) ?_;refine qB ?_;refine zai (by first|omega|assumption|decide|(simp only [zds];omega)|(simp <;> omega)) ?_;exact ⟨i + 1,by omega,by first|omega|(simp <;> omega),qQ ⟨rfl,rfl,rfl,rfl,(yB (by omega))⟩ ⟨(lsvec_eq hsn),(lsbox0_eq hsn),(yG (by rw [hin,if_pos (by omega)];try exact rfl))⟩ rfl⟩
      ·try simp only [decide_eq_false_iff_not,Int.not_lt] at h40
       try simp only [zds] at h40
       refine qM ?_;refine qB ?_;refine zai (by first|omega|assumption|decide|(simp only [zds];omega)|(simp <;> omega)) ?_;exact ⟨i + 1,by omega,by first|omega|(simp <;> omega),qQ ⟨rfl,rfl,rfl,rfl,(yB (by omega))⟩ ⟨(lsvec_eq hsn),(lsbox0_eq hsn),(yG (by rw [hin,if_neg (by omega),List.append_nil]))⟩ rfl⟩
    ·refine qB ?_;refine Or.inr (Or.inl (zei [] (zei [1,0] (zei _ (zei _ (zei _ (zei _ (zei _ (zai (ho) (zai rfl (zai (zai (zai rfl rfl) (zai (zai rfl rfl) True.intro)) (zai rfl ?_))))))))))));refine qC ?_;refine qC ?_;refine qB ?_;refine qK rfl (fun h35=>?_) (fun h35=>?_)
     ·skip
      exact absurd ((ht i hil).symm.trans hz) (by omega)
     ·try simp only [zbq] at h35
      try simp only [zds] at h35
      simp at h35
    ·refine qB ?_;refine Or.inr (Or.inl (zei [] (zei [1,0] (zei _ (zei _ (zei _ (zei _ (zei _ (zai (ho) (zai rfl (zai (zai (zai rfl rfl) (zai (zai rfl rfl) True.intro)) (zai rfl ?_))))))))))));refine qC ?_;refine qC ?_;refine qB ?_;refine qK rfl (fun h35=>?_) (fun h35=>?_)
     ·skip
      exact absurd ((ht i hil).symm.trans hz) (by omega)
     ·try simp only [zbq] at h35
      try simp only [zds] at h35
      simp at h35
   ·try simp only [decide_eq_false_iff_not,Int.not_lt] at h24
    try simp only [zds] at h24
    refine yC ?_;refine qC ?_;refine qB ?_;refine qL ?_;rw [show i = s.length by omega];exact ⟨rfl,⟨rfl,rfl,rfl⟩,rfl⟩
end Q
end Ab
end Go.Proofs.YtbfhpimmlehkcaaGreatDoor
namespace Go.Proofs.YtbfhpimmlehkcaaGreatDoor
open Go.RowKit
namespace Ab
set_option maxRecDepth 100000
namespace Q
def unkR (l : List (List Fld)) : List (List (Unit × Unit)):=l.map fun r=>r.map fun _=>((),())
end Q
end Ab
end Go.Proofs.YtbfhpimmlehkcaaGreatDoor
namespace Go.Proofs.YtbfhpimmlehkcaaGreatDoor
open Go.RowKit
namespace Ab
set_option maxRecDepth 100000
namespace Q
def plainI (x : Itm) : Bool:=decide ((chkR x.2.2).2 = 0) && decide (x.1 = 3) && decide (bytes (foldL x.2.2) = x.2.1)
abbrev rItmU : Rd (Int × ByteArray × List (Unit × Unit)):=.st (.int .i64) (.st .str (.slk 7 rUnk2))
def unkI (l : List Itm) : List (Int × ByteArray × List (Unit × Unit)):=l.map fun x=>(x.1,x.2.1,x.2.2.map fun _=>((),()))
end Q
end Ab
end Go.Proofs.YtbfhpimmlehkcaaGreatDoor
namespace Go.Proofs.YtbfhpimmlehkcaaGreatDoor
open Go.RowKit
namespace Ab
set_option maxRecDepth 100000
namespace Q
abbrev rStzU : Rd (Int × List (Unit × Unit)):=.st (.int .i64) (.slk 7 rUnk2)
def unkS (l : List Stz) : List (Int × List (Unit × Unit)):=l.map fun x=>(x.1,x.2.map fun _=>((),()))
end Q
end Ab
end Go.Proofs.YtbfhpimmlehkcaaGreatDoor
namespace Go.Proofs.YtbfhpimmlehkcaaGreatDoor
open Go.RowKit
namespace Ab
set_option maxRecDepth 100000
namespace Q
def BlankI (x : Itm) : Prop:=∃ t : ByteArray,x = (1,t ++ ⟨#[10]⟩,[]) ∧ qW (ls t) = 1 ∧ (10 : UInt8) ∉ ls t
def Good1 (x : Itm) : Prop:=BlankI x ∨ (x.1 ≠ 1 ∧ Blk x)
def BIP (p : PSt) : Prop:=(∀ x ∈ p.its,x.1 = 1 → BlankI x) ∧ p.recs = (cntR p.its : Int)
theorem isRec1 (t : ByteArray) : isRec (1,t,[]) = false:=by unfold isRec;simp
theorem close_bi {p : PSt} (h : BIP p) : BIP (xR p):=by
  unfold xR;split
  · exact h
  · by_cases hf : p.flds = []
    · simp only [if_pos hf];refine ⟨fun x hx hx1=>?_,?_⟩
      · rcases List.mem_append.1 hx with hx|hx
        · exact h.1 x hx hx1
        · rw [List.mem_singleton.1 hx] at hx1;cases hx1
      · simp only [cntR_app];rw [h.2];simp [cntR,isRec]
    · simp only [if_neg hf];refine ⟨fun x hx hx1=>?_,?_⟩
      · rcases List.mem_append.1 hx with hx|hx
        · exact h.1 x hx hx1
        · rw [List.mem_singleton.1 hx] at hx1;cases hx1
      · simp only [cntR_app];rw [h.2];simp [cntR,isRec]
theorem flush_bi {p q : PSt} (h : BIP p) (hf : yR p = .inr q) : BIP q:=by
  unfold BIP;rw [(flush_same hf).1,flush_recs hf];exact h
theorem end_bi {p q : PSt} (h : BIP p) (hf : endS p = .inr q) : BIP q:=by
  unfold endS at hf;cases e : yR p with
  | inl x=>rw [e] at hf;cases hf
  | inr r=>rw [e] at hf;cases hf;exact close_bi (flush_bi h e)
theorem take_bi {p q : PSt} {l : Lne} (h : BIP p) (hf : yS p l = .inr q) (hn : (10 : UInt8) ∉ ls l.2.2.1) : BIP q:=by
  unfold yS at hf;cases e : yO p l (qW (ls l.2.2.1)) with
  | inl x=>rw [e] at hf;cases hf
  | inr r =>
    rw [e] at hf;have hr : BIP r:=by
      unfold yO at e;split at e
      · split at e
        · cases e
        · split at e
          · cases e;exact h
          · exact flush_bi (p:={ p with lns:=p.lns ++ [l.2.2.1] }) h e
      · split at e
        · exact end_bi h e
        · exact flush_bi h e
    simp only at hf;unfold lineS at hf;split at hf
    · cases hf
    · split at hf
      · rename_i hk;cases hf;refine ⟨fun x hx hx1=>?_,?_⟩
        · rcases List.mem_append.1 hx with hx|hx
          · exact hr.1 x hx hx1
          · exact ⟨l.2.2.1,List.mem_singleton.1 hx,hk,hn⟩
        · simp only [cntR_app];rw [hr.2];simp [cntR,isRec1]
      · split at hf
        · cases hf;exact hr
        · cases hf;exact hr
theorem run_bi : ∀ (L : List Lne) (p q : PSt),BIP p → runS p L = .inr q → (∀ l ∈ L,(10 : UInt8) ∉ ls l.2.2.1) → BIP q
  | [],p,q,hp,h,_=>by cases h;exact hp
  | l :: r,p,q,hp,h,hn=>by
    simp only [runS] at h;cases e : yS p l with
    | inl x=>rw [e] at h;cases h
    | inr p1 =>
      rw [e] at h;exact run_bi r p1 q (take_bi hp e (hn l List.mem_cons_self)) h (fun x hx=>hn x (List.mem_cons_of_mem _ hx))
theorem parse_good {s : ByteArray} {l : List Itm} (hp : yW s = .inr l) : (∀ x ∈ l,Good1 x) ∧ cntR l ≤ 400:=by
  have hb:=parse_blks hp;unfold yW at hp;cases e : runS pst0 (yA s) with
  | inl x=>rw [e] at hp;cases hp
  | inr p =>
    rw [e] at hp;simp only at hp;cases e2 : endS p with
    | inl x=>rw [e2] at hp;cases hp
    | inr q =>
      rw [e2] at hp;cases hp;have hno : ∀ l ∈ yA s,(10 : UInt8) ∉ ls l.2.2.1:=fun l hl=>by
        have h1 : l.2.2 ∈ (yA s).map (·.2.2):=List.mem_map_of_mem hl;rw [lines_text] at h1;exact linesB_no _ _ _ h1
      have h1 : BIP q:=end_bi (run_bi _ _ _ ⟨(fun _ h=>by cases h),rfl⟩ e hno) e2;have h2:=(end_par (run_par _ _ _ ⟨[],0,[],pst0,rel_0,rfl,rfl,rfl,(fun _ h=>by cases h),(fun _ h=>by cases h)⟩ e hno) e2).2.2.2;refine ⟨fun x hx=>?_,by have:=h1.2;omega⟩
      by_cases hx1 : x.1 = 1
      · exact .inl (h1.1 x hx hx1)
      · exact .inr ⟨hx1,hb x hx hx1⟩
def HF (p : PSt) : Prop:=p.lns ≠ [] ∨ p.flds ≠ []
theorem good_itm {f : List Fld} (hc : (chkR f).2 = 0) : Good1 (itmOf f):=by
  obtain ⟨⟨g1,g2,g3⟩,_,_⟩:=chk_good hc;obtain ⟨q,e1,e2,e3,e4,e5⟩:=fields_run f pst0 [] g3 (ready_idle rfl rfl) (by simpa using g2) (by decide) g1;obtain ⟨r,q2,f1,f2,f3,f4⟩:=end_run e2 (by simpa using g1) e5;have hno : ∀ t ∈ (f.flatMap fun f=>lineB f.1 f.2),(10 : UInt8) ∉ ls t:=fun t ht=>by
    obtain ⟨y,hy,ht⟩:=List.mem_flatMap.1 ht;exact lines_no (v:=y.2.data.toList) (check_ok (g3 y hy)).1 (ls t) (by rw [← lineB_map2];exact List.mem_map_of_mem ht)
  have hL : ∀ l ∈ (f.flatMap fun f=>lineB f.1 f.2).map mkL,l.2.2.2 = true ∧ (10 : UInt8) ∉ ls l.2.2.1:=fun l hl=>by
    obtain ⟨t,ht,rfl⟩:=List.mem_map.1 hl;exact ⟨rfl,hno t ht⟩
  have hgl : glue (((f.flatMap fun f=>lineB f.1 f.2).map mkL).map (·.2.2)) = foldL f:=by rw [glue_mk,endL_flat]
  rw [List.nil_append] at f3;have e3' : q.its = []:=e3;rw [e3',List.nil_append] at f3;have hp:=parse_of (lines_of hL) e1 f1;rw [hgl,f3] at hp;have hr:=raws_text hp;have hrr : r = bytes (foldL f):=by
    have h1 : rawsL [((3 : Int),r,f)] = foldL f:=by
      have:=congrArg (fun b : ByteArray=>b.data.toList) hr
      simpa [bytes] using this
    have h2 : ls r = foldL f:=by simpa [rawsL] using h1
    exact ls_inj h2
  refine .inr ⟨by show (3 : Int) ≠ 1;decide,_,q,q2,hL,e1,e3',e4,f1,?_,?_⟩
  · rw [f3,hrr];rfl
  · rw [hgl];exact (qY _).symm
end Q
end Ab
end Go.Proofs.YtbfhpimmlehkcaaGreatDoor
namespace Go.Proofs.YtbfhpimmlehkcaaGreatDoor
open Go.RowKit
namespace Ab
set_option maxRecDepth 100000
namespace Q
structure LGd (B : Nat) (L : Lst) : Prop where
  good : ∀ e ∈ L.1,Good1 e.1 ∧ isRec e.1 = live e
  m4 : L.2.2 ≤ 400
  sz : szI (itmL L.1) ≤ B
theorem itmL_app (a b : List Ent) : itmL (a ++ b) = itmL a ++ itmL b:=List.map_append
theorem sz_cons (x : Itm) (l : List Itm) : szI (x :: l) = x.2.1.size + szI l:=by simp [szI]
theorem sz_split (es : List Ent) (i : Nat) : szI (itmL es) = szI (itmL (es.take i)) + szI (itmL (es.drop i)):=by
  conv=>lhs;rw [← List.take_append_drop i es,itmL_app,szI_app]
theorem sz_repl {es : List Ent} {i : Nat} {x : Itm} (h : i < es.length) : szI (itmL (replE es i x)) ≤ szI (itmL es) + x.2.1.size:=by
  have e1 : replE es i x = es.take i ++ (x,(es.getD i (((0 : Int),ByteArray.empty,([] : List Fld)),(0 : Int))).2) :: es.drop (i + 1):=List.set_eq_take_append_cons_drop .. |>.trans (if_pos h)
  rw [e1,itmL_app,szI_app];have e2 : itmL ((x,(es.getD i (((0 : Int),ByteArray.empty,([] : List Fld)),(0 : Int))).2) :: es.drop (i + 1)) = x :: itmL (es.drop (i + 1)):=rfl;have e3 : itmL ((es.getD i (((0 : Int),ByteArray.empty,([] : List Fld)),(0 : Int))) :: es.drop (i + 1)) = (es.getD i (((0 : Int),ByteArray.empty,([] : List Fld)),(0 : Int))).1 :: itmL (es.drop (i + 1)):=rfl;have e4:=congrArg (fun l=>szI (itmL l)) (del_split h);simp only [itmL_app,szI_app,e3,sz_cons] at e4;rw [e2,sz_cons];omega
theorem sz_del {es : List Ent} {i : Nat} : szI (itmL (delE es i)) ≤ szI (itmL es):=by
  unfold delE;rw [itmL_app,szI_app,sz_split es i];have:=sz_split (es.drop i) 1;rw [List.drop_drop] at this;rw [show i + 1 = i + 1 from rfl];omega
theorem sz_ins {es : List Ent} {i : Nat} {x : Ent} : szI (itmL (insE es i x)) = szI (itmL es) + x.1.2.1.size:=by
  unfold insE;rw [itmL_app,szI_app,sz_split es i];have e2 : itmL (x :: es.drop i) = x.1 :: itmL (es.drop i):=rfl;rw [e2,sz_cons];omega
theorem itm_sz {f : List Fld} (hm : muchB f = false) (hc : (chkR f).2 = 0) : (itmOf f).2.1.size ≤ 24120:=by
  obtain ⟨⟨_,g2,_⟩,g4,_⟩:=chk_good hc;exact foldB_size hm g4 g2
theorem doL_gd {c B : Nat} {L : Lst} {e : Edt} (h : LOk c L) (hg : LGd B L) (hm : muchB e.2.2 = false) : LGd (B + 24120) (doL L e):=by
  have h0 : LGd (B + 24120) L:=⟨hg.good,hg.m4,by have:=hg.sz;omega⟩;have hat : ∀ id,¬ atE L.1 id < 0 → ∃ i : Nat,i < L.1.length ∧ atE L.1 id = i ∧ 0 < id ∧ (L.1.getD i (((0 : Int),ByteArray.empty,([] : List Fld)),(0 : Int))).2 = id:=fun id hn=>by
    rcases at_cases L.1 id with ⟨h1,_⟩|⟨i,h1,h2,h3,h4,_⟩
    · omega
    · exact ⟨i,h1,h2,h3,h4⟩
  unfold doL;split
  · split
    · exact h0
    · rename_i hn;obtain ⟨i,hi,he,hp,hid⟩:=hat _ hn;rw [he,Int.toNat_natCast];split
      · exact h0
      · rename_i hc;have hc : (chkR e.2.2).2 = 0:=Classical.not_not.1 hc;refine ⟨fun x hx=>?_,hg.m4,?_⟩
        · rcases mem_repl hx with hx|rfl
          · exact hg.good x hx
          · refine ⟨good_itm hc,?_⟩;show true = live _;unfold live;rw [decide_eq_true (by simp only;omega)]
        · have:=sz_repl (x:=itmOf e.2.2) hi;have:=itm_sz hm hc;have:=hg.sz;show szI (itmL (replE L.1 i (itmOf e.2.2))) ≤ _;omega
  · split
    · split
      · exact h0
      · rename_i hn;obtain ⟨i,hi,he,hp,hid⟩:=hat _ hn;rw [he,Int.toNat_natCast];refine ⟨fun x hx=>hg.good x (mem_del hx),by have:=hg.m4;show L.2.2 - 1 ≤ 400;omega,?_⟩;have:=sz_del (es:=L.1) (i:=i);have:=hg.sz;show szI (itmL (delE L.1 i)) ≤ _;omega
    · split
      · exact h0
      · rename_i hn;split
        · exact h0
        · rename_i hc;have hc : (chkR e.2.2).2 = 0:=Classical.not_not.1 hc;split
          · exact h0
          · rename_i h4;refine ⟨fun x hx=>?_,by show L.2.2 + 1 ≤ 400;omega,?_⟩
            · rcases mem_ins hx with hx|rfl
              · exact hg.good x hx
              · refine ⟨good_itm hc,?_⟩;have:=h.next.1;show true = live _;unfold live;rw [decide_eq_true (by simp only;omega)]
            · show szI (itmL (insE L.1 _ _)) ≤ _;rw [sz_ins];have:=itm_sz hm hc;have:=hg.sz;simp only;omega
theorem num_good : ∀ (l : List Itm) (n : Int),1 ≤ n → (∀ x ∈ l,Good1 x) → ∀ e ∈ numI n l,Good1 e.1 ∧ isRec e.1 = live e
  | [],_,_,_,e,he=>by cases he
  | x :: r,n,hn,hg,e,he=>by
    unfold numI at he;split at he
    · rename_i hr;rcases List.mem_cons.1 he with rfl|he
      · refine ⟨hg x List.mem_cons_self,?_⟩;rw [hr];unfold live;rw [decide_eq_true (by simp only;omega)]
      · exact num_good r (n + 1) (by omega) (fun y hy=>hg y (List.mem_cons_of_mem _ hy)) e he
    · rename_i hr;rcases List.mem_cons.1 he with rfl|he
      · refine ⟨hg x List.mem_cons_self,?_⟩;rw [hr];rfl
      · exact num_good r n hn (fun y hy=>hg y (List.mem_cons_of_mem _ hy)) e he
theorem ofT_gd {s : ByteArray} {l : List Itm} (hp : yW s = .inr l) : LGd s.size (ofT l):=by
  obtain ⟨h1,h2⟩:=parse_good hp;refine ⟨num_good l 1 (Int.le_refl _) h1,by show (cntR l : Int) ≤ 400;omega,?_⟩;show szI (itmL (numI 1 l)) ≤ _;unfold itmL;rw [numI_items];have h3:=raws_text hp;rw [← raws_sz,← h3,yJ];exact Nat.le_refl _
end Q
end Ab
end Go.Proofs.YtbfhpimmlehkcaaGreatDoor
namespace Go.Proofs.YtbfhpimmlehkcaaGreatDoor
open Go.RowKit
namespace Ab
set_option maxRecDepth 100000
namespace Q
theorem plays_gd {c B : Nat} {L : Lst} {s : List Edt} (h : LOk c L) (hg : LGd B L) (hm : ∀ e ∈ s,muchB e.2.2 = false) : ∀ i,i ≤ s.length → LGd (B + 24120 * i) (yP L s i)
  | 0,_=>by simpa [yP] using hg
  | i + 1,hi=>by
    rw [plays_snoc L (by omega)];have h1:=plays_ok h (fun e he=>much_ok (hm e he)) i (by omega);have h2:=doL_gd h1 (plays_gd h hg hm i (by omega)) (hm _ (yH (show i < s.length by omega) ((0 : Int),(0 : Int),([] : List Fld))));exact ⟨h2.good,h2.m4,by have:=h2.sz;omega⟩
end Q
end Ab
end Go.Proofs.YtbfhpimmlehkcaaGreatDoor
namespace Go.Proofs.YtbfhpimmlehkcaaGreatDoor
open Go.RowKit
namespace Ab
set_option maxRecDepth 100000
namespace Q
end Q
end Ab
end Go.Proofs.YtbfhpimmlehkcaaGreatDoor
namespace Go.Proofs.YtbfhpimmlehkcaaGreatDoor
open Go.RowKit
namespace Ab
set_option maxRecDepth 100000
namespace Q
abbrev zRL9 : List C:=[.lit (.slice none 0 0),.lit (.int .i64 0)]
abbrev lsO12 (L : Lst) : Obs:=[(1,.box 108 [.vec 2,.lit (.int .i64 L.2.1),.lit (.int .i64 L.2.2)]),(2,.vec 112 rEnt L.1)]
theorem lists_ok (s : ByteArray) (hs : s.size ≤ 60000) {l : List Itm} (hp : yW s = .inr l) : qX Tryz.prog 48 [is s] [] 0 (.tup [(false,[.own 1 0]),(true,toL rRL ((ofT l).1,(ofT l).2.1)),(false,[.lit (.bool true)])]) (lsO12 (ofT l)) 3:=by
  have hof:=of_ok s hs hp;have hrf:=refOf_ok s hs hp;refine acallo_ofc3 (p:=2) (t:=3) (ty:=50) (u:=4) Tryz.func48 rfl rfl rfl teOk rfl rfl rfl ?_;refine qC ?_;refine qB ?_;refine qC ?_;refine qB ?_;refine Or.inr (Or.inl (zei [] (zei [] (zei _ (zei _ (zei _ (zei _ (zei _ (zai (hof) (zai rfl (zai True.intro (zai rfl ?_))))))))))));refine qC ?_;refine qB ?_;refine Or.inl ?_;refine zai (rfl) ?_;refine zei _ (zai (hrf) ?_);refine qC ?_;refine yZ rfl ?_;refine qJ 0 rfl rfl rfl (by kernel_rfl) ?_;refine qJ 2 rfl rfl rfl (by kernel_rfl) ?_;refine qI [1,3] (by kernel_rfl) rfl ?_;refine zai ?_ ?_
  · refine qI [3] (by kernel_rfl) rfl ?_;refine qJ 4 rfl rfl rfl (by kernel_rfl) ?_;refine yY 5 rfl rfl rfl (by kernel_rfl) ?_;refine zai (fun h=>trivial) ?_;refine qI [6] (by kernel_rfl) rfl ?_;refine zai (fun h=>⟨⟨h,trivial⟩,trivial⟩) ?_;refine qJ 7 rfl rfl rfl (by kernel_rfl) ?_;refine zai (by exact fun h=>h) ?_;refine qJ 8 rfl rfl rfl (by kernel_rfl) ?_;refine yY 9 rfl rfl rfl (by kernel_rfl) ?_;refine zai (fun h=>trivial) ?_;refine yY 10 rfl rfl rfl (by kernel_rfl) ?_;refine zai (fun h=>⟨⟨h,trivial⟩,trivial⟩) ?_;refine qJ 11 rfl rfl rfl (by kernel_rfl) ?_;refine zai (by exact fun h=>h) ?_;refine qJ 12 rfl rfl rfl (by kernel_rfl) ?_;refine qI [13] (by kernel_rfl) rfl ?_;refine qJ 14 rfl rfl rfl (by kernel_rfl) ?_;refine qN (by kernel_rfl) ?_;refine qL ?_;exact ⟨rfl,⟨rfl,rfl⟩,rfl⟩
  · refine qJ 4 rfl rfl rfl (by kernel_rfl) ?_;refine yY 5 rfl rfl rfl (by kernel_rfl) ?_;refine zai (fun h=>trivial) ?_;refine qI [1,6] (by kernel_rfl) rfl ?_;refine zai ?_ ?_
    · refine qI [6] (by kernel_rfl) rfl ?_;refine zai (fun h=>⟨⟨h,trivial⟩,trivial⟩) ?_;refine qJ 7 rfl rfl rfl (by kernel_rfl) ?_;refine zai (by exact fun h=>h) ?_;refine qJ 8 rfl rfl rfl (by kernel_rfl) ?_;refine yY 9 rfl rfl rfl (by kernel_rfl) ?_;refine zai (fun h=>trivial) ?_;refine yY 10 rfl rfl rfl (by kernel_rfl) ?_;refine zai (fun h=>⟨⟨h,trivial⟩,trivial⟩) ?_;refine qJ 11 rfl rfl rfl (by kernel_rfl) ?_;refine zai (by exact fun h=>h) ?_;refine qJ 12 rfl rfl rfl (by kernel_rfl) ?_;refine qI [13] (by kernel_rfl) rfl ?_;refine qJ 14 rfl rfl rfl (by kernel_rfl) ?_;refine qN (by kernel_rfl) ?_;refine qL ?_;exact ⟨rfl,⟨rfl,rfl⟩,rfl⟩
    · refine zai (fun h=>⟨⟨h,trivial⟩,trivial⟩) ?_;refine qJ 7 rfl rfl rfl (by kernel_rfl) ?_;refine zai (by exact fun h=>h) ?_;refine qJ 8 rfl rfl rfl (by kernel_rfl) ?_;refine yY 9 rfl rfl rfl (by kernel_rfl) ?_;refine zai (fun h=>trivial) ?_;refine yY 10 rfl rfl rfl (by kernel_rfl) ?_;refine zai (fun h=>⟨⟨h,trivial⟩,trivial⟩) ?_;refine qJ 11 rfl rfl rfl (by kernel_rfl) ?_;refine zai (by exact fun h=>h) ?_;refine qJ 12 rfl rfl rfl (by kernel_rfl) ?_;refine qI [1] (by kernel_rfl) rfl ?_;refine qI [13] (by kernel_rfl) rfl ?_;refine qJ 14 rfl rfl rfl (by kernel_rfl) ?_;refine qN (by kernel_rfl) ?_;refine qL ?_;exact ⟨rfl,⟨rfl,rfl⟩,rfl⟩
theorem lists_err (s : ByteArray) (hs : s.size ≤ 60000) {e : Int × Int} (hp : yW s = .inl e) : qX Tryz.prog 48 [is s] [] 0 (.tup [(false,[.lit (.pointer none)]),(true,zRL9),(false,[.lit (.bool false)])]) [] 0:=by
  have hof:=of_err s hs (at_:=e.1) (n:=e.2) hp;have hrf:=refOf_err s hs (at_:=e.1) (n:=e.2) hp;refine acallo_ofc3 (p:=2) (t:=3) (ty:=50) (u:=4) Tryz.func48 rfl rfl rfl teOk rfl rfl rfl ?_;refine qC ?_;refine qB ?_;refine qC ?_;refine qB ?_;refine Or.inl ?_;refine zai (rfl) ?_;refine zei _ (zai (hof) ?_);refine qC ?_;refine qB ?_;refine Or.inl ?_;refine zai (rfl) ?_;refine zei _ (zai (hrf) ?_);refine qC ?_;refine yZ rfl ?_;refine qJ 0 rfl rfl rfl (by kernel_rfl) ?_;refine qJ 2 rfl rfl rfl (by kernel_rfl) ?_;refine qI [1,3] (by kernel_rfl) rfl ?_;refine zai ?_ ?_
  · refine qI [3] (by kernel_rfl) rfl ?_;refine qJ 4 rfl rfl rfl (by kernel_rfl) ?_;refine yY 5 rfl rfl rfl (by kernel_rfl) ?_;refine zai (fun h=>trivial) ?_;refine qI [6] (by kernel_rfl) rfl ?_;refine zai (fun h=>⟨⟨h,trivial⟩,trivial⟩) ?_;refine qJ 7 rfl rfl rfl (by kernel_rfl) ?_;refine zai (by exact fun h=>h) ?_;refine qJ 8 rfl rfl rfl (by kernel_rfl) ?_;refine yY 9 rfl rfl rfl (by kernel_rfl) ?_;refine zai (fun h=>trivial) ?_;refine yY 10 rfl rfl rfl (by kernel_rfl) ?_;refine zai (fun h=>⟨⟨h,trivial⟩,trivial⟩) ?_;refine qJ 11 rfl rfl rfl (by kernel_rfl) ?_;refine zai (by exact fun h=>h) ?_;refine qJ 12 rfl rfl rfl (by kernel_rfl) ?_;refine qI [13] (by kernel_rfl) rfl ?_;refine qJ 14 rfl rfl rfl (by kernel_rfl) ?_;refine qN (by kernel_rfl) ?_;refine qL ?_;exact ⟨rfl,trivial,rfl⟩
  · refine qJ 4 rfl rfl rfl (by kernel_rfl) ?_;refine yY 5 rfl rfl rfl (by kernel_rfl) ?_;refine zai (fun h=>trivial) ?_;refine qI [1,6] (by kernel_rfl) rfl ?_;refine zai ?_ ?_
    · refine qI [6] (by kernel_rfl) rfl ?_;refine zai (fun h=>⟨⟨h,trivial⟩,trivial⟩) ?_;refine qJ 7 rfl rfl rfl (by kernel_rfl) ?_;refine zai (by exact fun h=>h) ?_;refine qJ 8 rfl rfl rfl (by kernel_rfl) ?_;refine yY 9 rfl rfl rfl (by kernel_rfl) ?_;refine zai (fun h=>trivial) ?_;refine yY 10 rfl rfl rfl (by kernel_rfl) ?_;refine zai (fun h=>⟨⟨h,trivial⟩,trivial⟩) ?_;refine qJ 11 rfl rfl rfl (by kernel_rfl) ?_;refine zai (by exact fun h=>h) ?_;refine qJ 12 rfl rfl rfl (by kernel_rfl) ?_;refine qI [13] (by kernel_rfl) rfl ?_;refine qJ 14 rfl rfl rfl (by kernel_rfl) ?_;refine qN (by kernel_rfl) ?_;refine qL ?_;exact ⟨rfl,trivial,rfl⟩
    · refine zai (fun h=>⟨⟨h,trivial⟩,trivial⟩) ?_;refine qJ 7 rfl rfl rfl (by kernel_rfl) ?_;refine zai (by exact fun h=>h) ?_;refine qJ 8 rfl rfl rfl (by kernel_rfl) ?_;refine yY 9 rfl rfl rfl (by kernel_rfl) ?_;refine zai (fun h=>trivial) ?_;refine yY 10 rfl rfl rfl (by kernel_rfl) ?_;refine zai (fun h=>⟨⟨h,trivial⟩,trivial⟩) ?_;refine qJ 11 rfl rfl rfl (by kernel_rfl) ?_;refine zai (by exact fun h=>h) ?_;refine qJ 12 rfl rfl rfl (by kernel_rfl) ?_;refine qI [1] (by kernel_rfl) rfl ?_;refine qI [13] (by kernel_rfl) rfl ?_;refine qJ 14 rfl rfl rfl (by kernel_rfl) ?_;refine qN (by kernel_rfl) ?_;refine qL ?_;exact ⟨rfl,trivial,rfl⟩
end Q
end Ab
end Go.Proofs.YtbfhpimmlehkcaaGreatDoor
namespace Go.Proofs.YtbfhpimmlehkcaaGreatDoor
open Go.RowKit
namespace Ab
set_option maxRecDepth 100000
namespace Q
theorem isNoneF_c (i : Int) : qU Tryz.prog 76 [.one (errF i 7),ii .i64 7] (ib true):=by
  refine qS (rs:=[4]) Tryz.func76 rfl rfl rfl teOk rfl ?_;refine qC ?_;refine qB ?_;refine qC ?_;refine qB ?_;refine Or.inl ?_;refine zai (rfl) ?_;refine zei _ (zai (num_fault i 7 (by decide)) ?_);refine qL ?_;rfl
def alS : List Edt:=[(2,1,[]),(1,1,[(⟨#[65]⟩,ByteArray.empty)])]
theorem alS_ok : ∀ e ∈ alS,yV e.2.2:=by
  intro e he;rcases List.mem_cons.1 he with rfl|he
  · exact ⟨by decide,by decide⟩
  · rw [List.mem_singleton.1 he];exact ⟨by decide,by decide⟩
theorem alS_bad {κ κ' k : Nat} : qU Tryz.prog 49 [.one (.adk k (rLst k) (al0,2,1)),.one (.slk κ (rEdk κ') alS)] (.tup [(false,[.lit (.pointer none)]),(false,[.lit (.slice none 0 0)]),(false,[errF 1 7])]):=by
  have hL : LOk 9000 (al0,2,1):=of_lok (s:=⟨#[65,58,32,49,10]⟩) (by decide) a1_parse7;exact doBad_c (κ:=κ) (κ':=κ') (k:=k) (al0,2,1) alS hL (by decide) alS_ok (by decide +kernel) 1 (by decide) (by decide +kernel) (by decide +kernel)
theorem alive9_c : qU Tryz.prog 37 [] (ib true):=by
  have hof:=of_ok ⟨#[65,58,32,49,10]⟩ (by decide) a1_parse7;rw [show ofT [(3,⟨#[65,58,32,49,10]⟩,[(⟨#[65]⟩,⟨#[49]⟩)])] = (al0,2,1) from rfl] at hof;have hdo:=alS_bad (κ:=1) (κ':=0) (k:=1);refine qS (rs:=[0]) Tryz.func37 rfl rfl rfl teOk rfl ?_;refine qC ?_;refine qB ?_;refine qC ?_;refine qB ?_;refine Or.inr (Or.inl (zei [] (zei [] (zei _ (zei _ (zei _ (zei _ (zei _ (zai (hof) (zai rfl (zai True.intro (zai rfl ?_))))))))))));refine qC ?_;refine qC ?_;refine qB ?_;refine zai (fun h=>trivial) ?_;refine zai (fun h=>⟨⟨h,trivial⟩,trivial⟩) ?_;refine zai (by first|(intro h;rw [h];rfl)|(intro h;cases h)) ?_;refine qK rfl (fun h15=>?_) (fun h15=>?_)
  ·try simp only [Bool.not_eq_true',Bool.or_eq_true] at h15
   try simp only [zds] at h15
   simp at h15
  ·try simp only [Bool.not_eq_false',Bool.or_eq_false_iff] at h15
   try simp only [zds] at h15
   refine qM ?_;refine qC ?_;refine qB ?_;refine Or.inr (Or.inr (Or.inl ?_));refine zai rfl ?_;refine zei _ (zai (hdo) ?_);refine qC ?_;refine qB ?_;refine Or.inl ?_;refine zai (rfl) ?_;refine zei _ (zai (isNoneF_c 1) ?_);refine zai (fun h=>trivial) ?_;refine Or.inl ?_;refine zai (rfl) ?_;refine zei _ (zai (fun h=>⟨⟨⟨h,trivial⟩,trivial⟩,at_fault 1 7⟩) ?_);refine zai (fun h=>⟨⟨h,trivial⟩,trivial⟩) ?_;refine zai (by exact fun h=>h) ?_;refine zai (fun h=>trivial) ?_;refine Or.inl ?_;refine zai (rfl) ?_;refine zei _ (zai (fun h=>⟨⟨⟨h,trivial⟩,trivial⟩,len_c al0 2 1⟩) ?_);refine zai (fun h=>⟨⟨h,trivial⟩,trivial⟩) ?_;refine zai (by exact fun h=>h) ?_;refine qL ?_;rfl
end Q
end Ab
end Go.Proofs.YtbfhpimmlehkcaaGreatDoor
namespace Go.Proofs.YtbfhpimmlehkcaaGreatDoor
open Go.RowKit
namespace Ab
set_option maxRecDepth 100000
namespace Q
theorem plays_l (L : Lst) (a b : List Edt) {i : Nat} (h : i ≤ a.length) : yP L (a ++ b) i = yP L a i:=by
  unfold yP;rw [List.take_append_of_le_length h]
theorem plays_r (L : Lst) (a b : List Edt) (i : Nat) : yP L (a ++ b) (a.length + i) = yP (yP L a a.length) b i:=by
  unfold yP;rw [List.take_append,List.take_of_length_le (by omega),List.take_length,List.foldl_append,Nat.add_sub_cancel_left]
theorem getD_l (a b : List Edt) {i : Nat} (h : i < a.length) : (a ++ b).getD i ((0 : Int),(0 : Int),([] : List Fld)) = a.getD i ((0 : Int),(0 : Int),([] : List Fld)):=by
  rw [List.getD_eq_getElem?_getD,List.getElem?_append_left h,List.getD_eq_getElem?_getD]
theorem getD_r (a b : List Edt) (i : Nat) : (a ++ b).getD (a.length + i) ((0 : Int),(0 : Int),([] : List Fld)) = b.getD i ((0 : Int),(0 : Int),([] : List Fld)):=by
  rw [List.getD_eq_getElem?_getD,List.getElem?_append_right (by omega),Nat.add_sub_cancel_left,List.getD_eq_getElem?_getD]
theorem idsT_app (L : Lst) (a b : List Edt) (n : Nat) : idsT L (a ++ b) (a.length + n) = idsT L a a.length ++ idsT (yP L a a.length) b n:=by
  unfold idsT;rw [List.range_add,List.map_append,List.filter_append]
  congr 1
  · congr 1
    refine List.map_congr_left fun j hj=>?_
    have hj:=List.mem_range.1 hj;rw [plays_l L a b (by omega),getD_l a b hj]
  · congr 1
    rw [List.map_map];refine List.map_congr_left fun j _=>?_
    simp only [Function.comp];rw [plays_r,getD_r]
theorem chkB_app {a b : List Edt} (ha : (chkB a).2 = 0) (hb : (chkB b).2 = 0) (hl : a.length + b.length ≤ 40) : (chkB (a ++ b)).2 = 0:=by
  rw [chkB_no (by rw [List.length_append];have:=(chkB_zero ha).1;omega)];intro e he;rcases List.mem_append.1 he with he|he
  · exact (chkB_zero ha).2 e he
  · exact (chkB_zero hb).2 e he
theorem txt_ok {L : Lst} (hl : L.1.length ≤ 1000000) (hs : szI (itmL L.1) ≤ 50000000) : szI (apartL (itmL L.1)) ≤ 100000000:=by
  have hal:=apart_len (itmL L.1) 1;have hil : (itmL L.1).length = L.1.length:=List.length_map _;show szI (apartK 1 (itmL L.1)) ≤ _;omega
theorem ownV_o (s : List Edt) (hf : ∀ e ∈ s,e.2.2.length ≤ 1000000) (hl : s.length ≤ 1000000) : qX Tryz.prog 39 [.one (.sl rEdt s)] [] 0 (.one (.vec 0)) [(0,.vec 61 rEdt s)] 1:=by
  refine qT (rs:=[2]) Tryz.func39 rfl rfl rfl teOk (by decide) rfl ?_;refine qC ?_;refine qB ?_;refine qC ?_;refine qB ?_;refine qC ?_;refine qC ?_;refine qB ?_;intro l2_1
  try simp only [zds] at l2_1
  refine qO ?_;refine qZ (fun (i : Nat)=>i ≤ s.length) (fun (i : Nat)=>[(3,.one (.vec 0)),(7,.one (.sl rEdt s)),(8,ii .i64 s.length),(9,ii .i64 i)]) (fun (i : Nat)=>[(0,.vec 61 rEdt (s.take i))]) 1 (fun (i : Nat)=>s.length - i) 0 (Nat.zero_le _) (qQ ⟨rfl,rfl,rfl,rfl⟩ rfl rfl) ?_;intro i hI0;refine qC ?_;refine qB ?_;refine qC ?_;refine qK rfl (fun h10=>?_) (fun h10=>?_)
  ·try simp only [decide_eq_true_eq] at h10
   try simp only [zds] at h10
   have hil : i < s.length:=(by omega);refine qM ?_;refine qC ?_;refine qO ?_;refine qC ?_;refine qB ?_;refine zai (by first|omega|assumption|decide|(simp only [zds];omega)|(simp <;> omega)) ?_;refine yZ rfl ?_;refine qJ 0 rfl rfl rfl (by kernel_rfl) ?_;refine qJ 1 rfl rfl rfl (by kernel_rfl) ?_;refine qJ 3 rfl rfl rfl (by kernel_rfl) ?_;refine qJ 5 rfl rfl rfl (by kernel_rfl) ?_;refine qI [2,4,6] (by kernel_rfl) rfl ?_;refine zai ?_ ?_
   ·refine qI [4,6] (by kernel_rfl) rfl ?_;refine zai ?_ ?_
    ·refine qI [6] (by kernel_rfl) rfl ?_;refine qI [7] (by kernel_rfl) rfl ?_;refine Or.inr (Or.inl (zei [] (zei [] (zei _ (zei _ (zei _ (zei _ (zei _ (zai (copiesF_o (s.getD i ((0 : Int),(0 : Int),([] : List Fld))).2.2 (hf _ (yH hil ((0 : Int),(0 : Int),([] : List Fld))))) (zai rfl (zai True.intro (zai rfl ?_))))))))))));refine qI [8] (by kernel_rfl) rfl ?_;refine qI [9] (by kernel_rfl) rfl ?_;refine qI [10] (by kernel_rfl) rfl ?_;refine zai (by exact qP (show (s.take i).length + 1 ≤ 1000000000 by rw [List.length_take];omega) (by decide)) ?_;refine qJ 11 rfl rfl rfl (by kernel_rfl) ?_;refine qN (by kernel_rfl) ?_;refine qB ?_;refine zai (by first|omega|assumption|decide|(simp only [zds];omega)|(simp <;> omega)) ?_;exact ⟨i + 1,by omega,by first|omega|(simp <;> omega),qQ ⟨rfl,rfl,rfl,(yB (by omega))⟩ (yG (by rw [← yE ((0 : Int),(0 : Int),([] : List Fld)) hil];exact rfl)) rfl⟩
    ·refine qI [4,7] (by kernel_rfl) rfl ?_;refine zai ?_ ?_
     ·refine qI [7] (by kernel_rfl) rfl ?_;refine Or.inr (Or.inl (zei [] (zei [] (zei _ (zei _ (zei _ (zei _ (zei _ (zai (copiesF_o (s.getD i ((0 : Int),(0 : Int),([] : List Fld))).2.2 (hf _ (yH hil ((0 : Int),(0 : Int),([] : List Fld))))) (zai rfl (zai True.intro (zai rfl ?_))))))))))));refine qI [8] (by kernel_rfl) rfl ?_;refine qI [9] (by kernel_rfl) rfl ?_;refine qI [10] (by kernel_rfl) rfl ?_;refine zai (by exact qP (show (s.take i).length + 1 ≤ 1000000000 by rw [List.length_take];omega) (by decide)) ?_;refine qJ 11 rfl rfl rfl (by kernel_rfl) ?_;refine qN (by kernel_rfl) ?_;refine qB ?_;refine zai (by first|omega|assumption|decide|(simp only [zds];omega)|(simp <;> omega)) ?_;exact ⟨i + 1,by omega,by first|omega|(simp <;> omega),qQ ⟨rfl,rfl,rfl,(yB (by omega))⟩ (yG (by rw [← yE ((0 : Int),(0 : Int),([] : List Fld)) hil];exact rfl)) rfl⟩
     ·refine Or.inr (Or.inl (zei [] (zei [] (zei _ (zei _ (zei _ (zei _ (zei _ (zai (copiesF_o (s.getD i ((0 : Int),(0 : Int),([] : List Fld))).2.2 (hf _ (yH hil ((0 : Int),(0 : Int),([] : List Fld))))) (zai rfl (zai True.intro (zai rfl ?_))))))))))));refine qI [4] (by kernel_rfl) rfl ?_;refine qI [8] (by kernel_rfl) rfl ?_;refine qI [9] (by kernel_rfl) rfl ?_;refine qI [10] (by kernel_rfl) rfl ?_;refine zai (by exact qP (show (s.take i).length + 1 ≤ 1000000000 by rw [List.length_take];omega) (by decide)) ?_;refine qJ 11 rfl rfl rfl (by kernel_rfl) ?_;refine qN (by kernel_rfl) ?_;refine qB ?_;refine zai (by first|omega|assumption|decide|(simp only [zds];omega)|(simp <;> omega)) ?_;exact ⟨i + 1,by omega,by first|omega|(simp <;> omega),qQ ⟨rfl,rfl,rfl,(yB (by omega))⟩ (yG (by rw [← yE ((0 : Int),(0 : Int),([] : List Fld)) hil];exact rfl)) rfl⟩
   refine zai ?_ ?_
   ·refine qI [2,6] (by kernel_rfl) rfl ?_;refine zai ?_ ?_
    ·refine qI [6] (by kernel_rfl) rfl ?_;refine qI [7] (by kernel_rfl) rfl ?_;refine Or.inr (Or.inl (zei [] (zei [] (zei _ (zei _ (zei _ (zei _ (zei _ (zai (copiesF_o (s.getD i ((0 : Int),(0 : Int),([] : List Fld))).2.2 (hf _ (yH hil ((0 : Int),(0 : Int),([] : List Fld))))) (zai rfl (zai True.intro (zai rfl ?_))))))))))));refine qI [8] (by kernel_rfl) rfl ?_;refine qI [9] (by kernel_rfl) rfl ?_;refine qI [10] (by kernel_rfl) rfl ?_;refine zai (by exact qP (show (s.take i).length + 1 ≤ 1000000000 by rw [List.length_take];omega) (by decide)) ?_;refine qJ 11 rfl rfl rfl (by kernel_rfl) ?_;refine qN (by kernel_rfl) ?_;refine qB ?_;refine zai (by first|omega|assumption|decide|(simp only [zds];omega)|(simp <;> omega)) ?_;exact ⟨i + 1,by omega,by first|omega|(simp <;> omega),qQ ⟨rfl,rfl,rfl,(yB (by omega))⟩ (yG (by rw [← yE ((0 : Int),(0 : Int),([] : List Fld)) hil];exact rfl)) rfl⟩
    ·refine qI [2,7] (by kernel_rfl) rfl ?_;refine zai ?_ ?_
     ·refine qI [7] (by kernel_rfl) rfl ?_;refine Or.inr (Or.inl (zei [] (zei [] (zei _ (zei _ (zei _ (zei _ (zei _ (zai (copiesF_o (s.getD i ((0 : Int),(0 : Int),([] : List Fld))).2.2 (hf _ (yH hil ((0 : Int),(0 : Int),([] : List Fld))))) (zai rfl (zai True.intro (zai rfl ?_))))))))))));refine qI [8] (by kernel_rfl) rfl ?_;refine qI [9] (by kernel_rfl) rfl ?_;refine qI [10] (by kernel_rfl) rfl ?_;refine zai (by exact qP (show (s.take i).length + 1 ≤ 1000000000 by rw [List.length_take];omega) (by decide)) ?_;refine qJ 11 rfl rfl rfl (by kernel_rfl) ?_;refine qN (by kernel_rfl) ?_;refine qB ?_;refine zai (by first|omega|assumption|decide|(simp only [zds];omega)|(simp <;> omega)) ?_;exact ⟨i + 1,by omega,by first|omega|(simp <;> omega),qQ ⟨rfl,rfl,rfl,(yB (by omega))⟩ (yG (by rw [← yE ((0 : Int),(0 : Int),([] : List Fld)) hil];exact rfl)) rfl⟩
     ·refine Or.inr (Or.inl (zei [] (zei [] (zei _ (zei _ (zei _ (zei _ (zei _ (zai (copiesF_o (s.getD i ((0 : Int),(0 : Int),([] : List Fld))).2.2 (hf _ (yH hil ((0 : Int),(0 : Int),([] : List Fld))))) (zai rfl (zai True.intro (zai rfl ?_))))))))))));refine qI [2] (by kernel_rfl) rfl ?_;refine qI [8] (by kernel_rfl) rfl ?_;refine qI [9] (by kernel_rfl) rfl ?_;refine qI [10] (by kernel_rfl) rfl ?_;refine zai (by exact qP (show (s.take i).length + 1 ≤ 1000000000 by rw [List.length_take];omega) (by decide)) ?_;refine qJ 11 rfl rfl rfl (by kernel_rfl) ?_;refine qN (by kernel_rfl) ?_;refine qB ?_;refine zai (by first|omega|assumption|decide|(simp only [zds];omega)|(simp <;> omega)) ?_;exact ⟨i + 1,by omega,by first|omega|(simp <;> omega),qQ ⟨rfl,rfl,rfl,(yB (by omega))⟩ (yG (by rw [← yE ((0 : Int),(0 : Int),([] : List Fld)) hil];exact rfl)) rfl⟩
   ·refine qI [2,4,7] (by kernel_rfl) rfl ?_;refine zai ?_ ?_
    ·refine qI [4,7] (by kernel_rfl) rfl ?_;refine zai ?_ ?_
     ·refine qI [7] (by kernel_rfl) rfl ?_;refine Or.inr (Or.inl (zei [] (zei [] (zei _ (zei _ (zei _ (zei _ (zei _ (zai (copiesF_o (s.getD i ((0 : Int),(0 : Int),([] : List Fld))).2.2 (hf _ (yH hil ((0 : Int),(0 : Int),([] : List Fld))))) (zai rfl (zai True.intro (zai rfl ?_))))))))))));refine qI [8] (by kernel_rfl) rfl ?_;refine qI [9] (by kernel_rfl) rfl ?_;refine qI [10] (by kernel_rfl) rfl ?_;refine zai (by exact qP (show (s.take i).length + 1 ≤ 1000000000 by rw [List.length_take];omega) (by decide)) ?_;refine qJ 11 rfl rfl rfl (by kernel_rfl) ?_;refine qN (by kernel_rfl) ?_;refine qB ?_;refine zai (by first|omega|assumption|decide|(simp only [zds];omega)|(simp <;> omega)) ?_;exact ⟨i + 1,by omega,by first|omega|(simp <;> omega),qQ ⟨rfl,rfl,rfl,(yB (by omega))⟩ (yG (by rw [← yE ((0 : Int),(0 : Int),([] : List Fld)) hil];exact rfl)) rfl⟩
     ·refine Or.inr (Or.inl (zei [] (zei [] (zei _ (zei _ (zei _ (zei _ (zei _ (zai (copiesF_o (s.getD i ((0 : Int),(0 : Int),([] : List Fld))).2.2 (hf _ (yH hil ((0 : Int),(0 : Int),([] : List Fld))))) (zai rfl (zai True.intro (zai rfl ?_))))))))))));refine qI [4] (by kernel_rfl) rfl ?_;refine qI [8] (by kernel_rfl) rfl ?_;refine qI [9] (by kernel_rfl) rfl ?_;refine qI [10] (by kernel_rfl) rfl ?_;refine zai (by exact qP (show (s.take i).length + 1 ≤ 1000000000 by rw [List.length_take];omega) (by decide)) ?_;refine qJ 11 rfl rfl rfl (by kernel_rfl) ?_;refine qN (by kernel_rfl) ?_;refine qB ?_;refine zai (by first|omega|assumption|decide|(simp only [zds];omega)|(simp <;> omega)) ?_;exact ⟨i + 1,by omega,by first|omega|(simp <;> omega),qQ ⟨rfl,rfl,rfl,(yB (by omega))⟩ (yG (by rw [← yE ((0 : Int),(0 : Int),([] : List Fld)) hil];exact rfl)) rfl⟩
    refine zai ?_ ?_
    ·refine qI [2,7] (by kernel_rfl) rfl ?_;refine zai ?_ ?_
     ·refine qI [7] (by kernel_rfl) rfl ?_;refine Or.inr (Or.inl (zei [] (zei [] (zei _ (zei _ (zei _ (zei _ (zei _ (zai (copiesF_o (s.getD i ((0 : Int),(0 : Int),([] : List Fld))).2.2 (hf _ (yH hil ((0 : Int),(0 : Int),([] : List Fld))))) (zai rfl (zai True.intro (zai rfl ?_))))))))))));refine qI [8] (by kernel_rfl) rfl ?_;refine qI [9] (by kernel_rfl) rfl ?_;refine qI [10] (by kernel_rfl) rfl ?_;refine zai (by exact qP (show (s.take i).length + 1 ≤ 1000000000 by rw [List.length_take];omega) (by decide)) ?_;refine qJ 11 rfl rfl rfl (by kernel_rfl) ?_;refine qN (by kernel_rfl) ?_;refine qB ?_;refine zai (by first|omega|assumption|decide|(simp only [zds];omega)|(simp <;> omega)) ?_;exact ⟨i + 1,by omega,by first|omega|(simp <;> omega),qQ ⟨rfl,rfl,rfl,(yB (by omega))⟩ (yG (by rw [← yE ((0 : Int),(0 : Int),([] : List Fld)) hil];exact rfl)) rfl⟩
     ·refine Or.inr (Or.inl (zei [] (zei [] (zei _ (zei _ (zei _ (zei _ (zei _ (zai (copiesF_o (s.getD i ((0 : Int),(0 : Int),([] : List Fld))).2.2 (hf _ (yH hil ((0 : Int),(0 : Int),([] : List Fld))))) (zai rfl (zai True.intro (zai rfl ?_))))))))))));refine qI [2] (by kernel_rfl) rfl ?_;refine qI [8] (by kernel_rfl) rfl ?_;refine qI [9] (by kernel_rfl) rfl ?_;refine qI [10] (by kernel_rfl) rfl ?_;refine zai (by exact qP (show (s.take i).length + 1 ≤ 1000000000 by rw [List.length_take];omega) (by decide)) ?_;refine qJ 11 rfl rfl rfl (by kernel_rfl) ?_;refine qN (by kernel_rfl) ?_;refine qB ?_;refine zai (by first|omega|assumption|decide|(simp only [zds];omega)|(simp <;> omega)) ?_;exact ⟨i + 1,by omega,by first|omega|(simp <;> omega),qQ ⟨rfl,rfl,rfl,(yB (by omega))⟩ (yG (by rw [← yE ((0 : Int),(0 : Int),([] : List Fld)) hil];exact rfl)) rfl⟩
    ·refine Or.inr (Or.inl (zei [] (zei [] (zei _ (zei _ (zei _ (zei _ (zei _ (zai (copiesF_o (s.getD i ((0 : Int),(0 : Int),([] : List Fld))).2.2 (hf _ (yH hil ((0 : Int),(0 : Int),([] : List Fld))))) (zai rfl (zai True.intro (zai rfl ?_))))))))))));refine qI [2,4] (by kernel_rfl) rfl ?_;refine zai ?_ ?_
     ·refine qI [4] (by kernel_rfl) rfl ?_;refine qI [8] (by kernel_rfl) rfl ?_;refine qI [9] (by kernel_rfl) rfl ?_;refine qI [10] (by kernel_rfl) rfl ?_;refine zai (by exact qP (show (s.take i).length + 1 ≤ 1000000000 by rw [List.length_take];omega) (by decide)) ?_;refine qJ 11 rfl rfl rfl (by kernel_rfl) ?_;refine qN (by kernel_rfl) ?_;refine qB ?_;refine zai (by first|omega|assumption|decide|(simp only [zds];omega)|(simp <;> omega)) ?_;exact ⟨i + 1,by omega,by first|omega|(simp <;> omega),qQ ⟨rfl,rfl,rfl,(yB (by omega))⟩ (yG (by rw [← yE ((0 : Int),(0 : Int),([] : List Fld)) hil];exact rfl)) rfl⟩
     ·refine qI [2] (by kernel_rfl) rfl ?_;refine qI [8] (by kernel_rfl) rfl ?_;refine qI [9] (by kernel_rfl) rfl ?_;refine qI [10] (by kernel_rfl) rfl ?_;refine zai (by exact qP (show (s.take i).length + 1 ≤ 1000000000 by rw [List.length_take];omega) (by decide)) ?_;refine qJ 11 rfl rfl rfl (by kernel_rfl) ?_;refine qN (by kernel_rfl) ?_;refine qB ?_;refine zai (by first|omega|assumption|decide|(simp only [zds];omega)|(simp <;> omega)) ?_;exact ⟨i + 1,by omega,by first|omega|(simp <;> omega),qQ ⟨rfl,rfl,rfl,(yB (by omega))⟩ (yG (by rw [← yE ((0 : Int),(0 : Int),([] : List Fld)) hil];exact rfl)) rfl⟩
  ·try simp only [decide_eq_false_iff_not,Int.not_lt] at h10
   try simp only [zds] at h10
   refine yC ?_;refine qC ?_;refine qB ?_;refine qL ?_;rw [List.take_of_length_le (by omega)];exact ⟨rfl,rfl,rfl⟩
theorem ints9_c {κ κ' : Nat} (a b : List Int) : qU Tryz.prog 20 [.one (.slk κ (.int .i64) a),.one (.slk κ' (.int .i64) b)] (ib (decide (a = b))):=by
  refine qS (rs:=[4]) Tryz.func20 rfl rfl rfl teOk rfl ?_;refine qC ?_;refine qB ?_;refine qC ?_;refine qC ?_;refine qB ?_;intro l1_1
  try simp only [zds] at l1_1
  intro l1_3
  try simp only [zds] at l1_3
  refine qK rfl (fun h10=>?_) (fun h10=>?_)
  ·try simp only [decide_eq_false_iff_not,Bool.not_eq_true'] at h10
   try simp only [zds] at h10
   refine qC ?_;refine qB ?_;refine qL ?_;exact ib_eq (decide_eq_false (fun e=>by rw [e] at h10;omega)).symm
  ·try simp only [decide_eq_true_eq,Bool.not_eq_false'] at h10
   try simp only [zds] at h10
   refine qM ?_;refine qC ?_;refine qC ?_;refine qB ?_;intro l3_1
   try simp only [zds] at l3_1
   refine qO ?_;refine qZ (fun (i : Nat)=>i ≤ a.length ∧ a.take i = b.take i) (fun (i : Nat)=>[(0,.one (.slk κ (.int .i64) a)),(1,.one (.slk κ' (.int .i64) b)),(12,ii .i64 a.length),(13,ii .i64 i)]) (fun (i : Nat)=>[]) 0 (fun (i : Nat)=>a.length - i) 0 (⟨Nat.zero_le _,by simp⟩) (qQ ⟨rfl,rfl,rfl,rfl⟩ trivial rfl) ?_;intro i hI0;obtain ⟨hi,ht⟩:=hI0;refine qC ?_;refine qB ?_;refine qC ?_;refine qK rfl (fun h14=>?_) (fun h14=>?_)
   ·try simp only [decide_eq_true_eq] at h14
    try simp only [zds] at h14
    have hla : i < a.length:=(by omega);have hlb : i < b.length:=(by omega);refine qM ?_;refine qC ?_;refine qO ?_;refine qC ?_;refine qB ?_;refine qC ?_;refine acode_draw rfl (by kernel_rfl) ?_;refine zai (by first|omega|assumption|decide|(simp only [zds];omega)|(simp <;> omega)) ?_;refine zai (by first|omega|assumption|decide|(simp only [zds];omega)|(simp <;> omega)) ?_;refine qK rfl (fun h24=>?_) (fun h24=>?_)
    ·try simp only [decide_eq_false_iff_not,Bool.not_eq_true'] at h24
     try simp only [Int.toNat_natCast,qE] at h24
     refine qC ?_;refine qB ?_;refine qL ?_;exact ib_eq (decide_eq_false (ne_at (i:=i) 0 h24)).symm
    ·try simp only [decide_eq_true_eq,Bool.not_eq_false'] at h24
     try simp only [Int.toNat_natCast,qE] at h24
     refine qM ?_;refine qB ?_;refine zai (by first|omega|assumption|decide|(simp only [zds];omega)|(simp <;> omega)) ?_;exact ⟨i + 1,⟨by omega,list_ext_take 0 hla hlb ht h24⟩,by first|omega|(simp <;> omega),qQ ⟨rfl,rfl,rfl,(yB (by omega))⟩ trivial rfl⟩
   ·try simp only [decide_eq_false_iff_not,Int.not_lt] at h14
    try simp only [zds] at h14
    refine yC ?_;refine qC ?_;refine qB ?_;refine qL ?_;exact ib_eq (decide_eq_true (by rw [List.take_of_length_le (by omega),List.take_of_length_le (by omega)] at ht;exact ht)).symm
end Q
end Ab
end Go.Proofs.YtbfhpimmlehkcaaGreatDoor
namespace Go.Proofs.YtbfhpimmlehkcaaGreatDoor
open Go.RowKit
namespace Ab
set_option maxRecDepth 100000
namespace Q
theorem Two_big (s : ByteArray) (a b : List Edt) (h : 3000 < s.size ∨ heavyB a = true ∨ heavyB b = true) : qU Tryz.prog 6 [is s,.one (.sl rEdt a),.one (.sl rEdt b)] (ib true):=by
  have hva:=heavy_c a;have hvb:=heavy_c b;refine qS (rs:=[6]) Tryz.func6 rfl rfl rfl teOk rfl ?_;refine qC ?_;refine qB ?_;refine qC ?_;refine qC ?_;refine qB ?_;refine Or.inl ?_;refine zai (rfl) ?_;refine zei _ (zai (alive9_c) ?_);refine qK rfl (fun h20=>?_) (fun h20=>?_)
  ·try simp only [Bool.not_eq_true'] at h20
   try simp only [zds] at h20
   simp at h20
  ·try simp only [Bool.not_eq_false'] at h20
   try simp only [zds] at h20
   refine qM ?_;refine qC ?_;refine qC ?_;refine qB ?_;refine zai (fun h=>trivial) ?_;refine Or.inl ?_;refine zai (rfl) ?_;refine zei _ (zai (fun h=>⟨⟨⟨h,trivial⟩,trivial⟩,hva⟩) ?_);refine zai (by first|(intro h;rw [h];rfl)|(intro h;cases h)) ?_;refine zai (fun h=>trivial) ?_;refine Or.inl ?_;refine zai (rfl) ?_;refine zei _ (zai (fun h=>⟨⟨⟨h,trivial⟩,trivial⟩,hvb⟩) ?_);refine zai (by first|(intro h;rw [h];rfl)|(intro h;cases h)) ?_;refine qK rfl (fun h31=>?_) (fun h31=>?_)
   ·try simp only [decide_eq_true_eq,Bool.or_eq_true] at h31
    try simp only [zds] at h31
    refine qC ?_;refine qB ?_;refine qL ?_;rfl
   ·try simp only [decide_eq_false_iff_not,Bool.or_eq_false_iff,Int.not_lt] at h31
    try simp only [zds] at h31
    obtain ⟨⟨g1,g2⟩,g3⟩:=h31;exact absurd h (fun h=>by rcases h with h|h|h;omega;rw [h] at g2;cases g2;rw [h] at g3;cases g3)
theorem er_cases (s : List Edt) : (chkB s = (-9,0) ∧ erB (chkB s) = .lit .nilIface) ∨ ((chkB s).2 ≠ 0 ∧ erB (chkB s) = errN 1) ∨ ((chkB s).2 ≠ 0 ∧ ∃ i n,erB (chkB s) = errF i n):=by
  rcases chkB_cases s with ⟨h,_⟩|h|⟨i,n,hn,h⟩
  · exact .inl ⟨h,by rw [h];rfl⟩
  · exact .inr (.inl ⟨by rw [h];decide,by rw [h];rfl⟩)
  · exact .inr (.inr ⟨by rw [h];exact hn,i,n,by rw [h];exact erB_f hn⟩)
theorem Two_err (s : ByteArray) (a b : List Edt) (hs : ¬ 3000 < s.size) (ha : heavyB a = false) (hb : heavyB b = false) {e : Int × Int} (hp : yW s = .inl e) : qU Tryz.prog 6 [is s,.one (.sl rEdt a),.one (.sl rEdt b)] (ib true):=by
  have hva:=heavy_c a;have hvb:=heavy_c b;rw [ha] at hva;rw [hb] at hvb;obtain ⟨hsa,hma⟩:=heavy_ok ha;obtain ⟨hsb,hmb⟩:=heavy_ok hb;have hfa : ∀ e ∈ a,yV e.2.2:=fun e he=>much_ok (hma e he)
  have hfb : ∀ e ∈ b,yV e.2.2:=fun e he=>much_ok (hmb e he)
  have hl:=lists_err s (by omega) hp;have hka:=check_c9 (κ:=0) (κ':=0) a hfa (by omega);have hkb:=check_c9 (κ:=0) (κ':=0) b hfb (by omega);refine qS (rs:=[6]) Tryz.func6 rfl rfl rfl teOk rfl ?_;refine qC ?_;refine qB ?_;refine qC ?_;refine qC ?_;refine qB ?_;refine Or.inl ?_;refine zai (rfl) ?_;refine zei _ (zai (alive9_c) ?_);refine qK rfl (fun h20=>?_) (fun h20=>?_)
  ·try simp only [Bool.not_eq_true'] at h20
   try simp only [zds] at h20
   simp at h20
  ·try simp only [Bool.not_eq_false'] at h20
   try simp only [zds] at h20
   refine qM ?_;refine qC ?_;refine qC ?_;refine qB ?_;refine zai (fun h=>trivial) ?_;refine Or.inl ?_;refine zai (rfl) ?_;refine zei _ (zai (fun h=>⟨⟨⟨h,trivial⟩,trivial⟩,hva⟩) ?_);refine zai (by first|(intro h;rw [h];rfl)|(intro h;cases h)) ?_;refine zai (fun h=>trivial) ?_;refine Or.inl ?_;refine zai (rfl) ?_;refine zei _ (zai (fun h=>⟨⟨⟨h,trivial⟩,trivial⟩,hvb⟩) ?_);refine zai (by first|(intro h;rw [h];rfl)|(intro h;cases h)) ?_;refine qK rfl (fun h31=>?_) (fun h31=>?_)
   ·try simp only [decide_eq_true_eq,Bool.or_eq_true] at h31
    try simp only [zds] at h31
    exfalso
    simp at h31;omega
   ·try simp only [decide_eq_false_iff_not,Bool.or_eq_false_iff,Int.not_lt] at h31
    try simp only [zds] at h31
    refine qM ?_;refine qC ?_;refine qB ?_;refine Or.inr (Or.inl (zei [] (zei [] (zei _ (zei _ (zei _ (zei _ (zei _ (zai (hl) (zai rfl (zai True.intro (zai rfl ?_))))))))))));refine qC ?_;refine qC ?_;rcases er_cases a with ⟨hc,ec⟩|⟨hc,ec⟩|⟨hc,i,n,ec⟩ <;> rcases er_cases b with ⟨hd,ed⟩|⟨hd,ed⟩|⟨hd,j,k,ed⟩ <;> rw [ec] at hka <;> rw [ed] at hkb
    ·refine qB ?_;refine zai (fun h=>trivial) ?_;refine Or.inl ?_;refine zai (rfl) ?_;refine zei _ (zai (fun h=>⟨⟨⟨h,trivial⟩,trivial⟩,hka⟩) ?_);refine zai (fun h=>⟨⟨h,trivial⟩,trivial⟩) ?_;refine zai (by first|(intro h;rw [h];rfl)|(intro h;cases h)) ?_;refine zai (fun h=>trivial) ?_;refine Or.inl ?_;refine zai (rfl) ?_;refine zei _ (zai (fun h=>⟨⟨⟨h,trivial⟩,trivial⟩,hkb⟩) ?_);refine zai (fun h=>⟨⟨h,trivial⟩,trivial⟩) ?_;refine zai (by first|(intro h;rw [h];rfl)|(intro h;cases h)) ?_;refine zai (fun h=>trivial) ?_;refine zai (fun h=>⟨⟨h,trivial⟩,trivial⟩) ?_;refine zai (fun h=>trivial) ?_;refine zai (fun h=>⟨⟨h,trivial⟩,trivial⟩) ?_;refine zai (fun h=>⟨⟨⟨h,trivial⟩,⟨h,trivial⟩,trivial⟩,by first|omega|decide|(simp only [zds];omega)|(have h9:=of_decide_eq_true h;omega)|(simp [gq] at h;omega)⟩) ?_;refine zai (fun h=>⟨⟨h,trivial⟩,trivial⟩) ?_;refine zai (by first|(intro h;rw [h];rfl)|(intro h;cases h)) ?_;refine qK rfl (fun h57=>?_) (fun h57=>?_)
     ·try simp only [decide_eq_true_eq,Bool.not_eq_true',Bool.or_eq_true] at h57
      try simp only [zds] at h57
      refine qC ?_;refine qB ?_;refine qL ?_;rfl
     ·try simp only [decide_eq_false_iff_not,Bool.not_eq_false',Bool.or_eq_false_iff,Int.not_lt] at h57
      try simp only [zds] at h57
      simp at h57
    ·refine qB ?_;refine zai (fun h=>trivial) ?_;refine Or.inl ?_;refine zai (rfl) ?_;refine zei _ (zai (fun h=>⟨⟨⟨h,trivial⟩,trivial⟩,hka⟩) ?_);refine zai (fun h=>⟨⟨h,trivial⟩,trivial⟩) ?_;refine zai (by first|(intro h;rw [h];rfl)|(intro h;cases h)) ?_;refine zai (fun h=>trivial) ?_;refine Or.inl ?_;refine zai (rfl) ?_;refine zei _ (zai (fun h=>⟨⟨⟨h,trivial⟩,trivial⟩,hkb⟩) ?_);refine zai (fun h=>⟨⟨h,trivial⟩,trivial⟩) ?_;refine zai (by first|(intro h;rw [h];rfl)|(intro h;cases h)) ?_;refine zai (fun h=>trivial) ?_;refine zai (fun h=>⟨⟨h,trivial⟩,trivial⟩) ?_;refine zai (fun h=>trivial) ?_;refine zai (fun h=>⟨⟨h,trivial⟩,trivial⟩) ?_;refine zai (fun h=>⟨⟨⟨h,trivial⟩,⟨h,trivial⟩,trivial⟩,by first|omega|decide|(simp only [zds];omega)|(have h9:=of_decide_eq_true h;omega)|(simp [gq] at h;omega)⟩) ?_;refine zai (fun h=>⟨⟨h,trivial⟩,trivial⟩) ?_;refine zai (by first|(intro h;rw [h];rfl)|(intro h;cases h)) ?_;refine qK rfl (fun h57=>?_) (fun h57=>?_)
     ·try simp only [decide_eq_true_eq,Bool.not_eq_true',Bool.or_eq_true] at h57
      try simp only [zds] at h57
      refine qC ?_;refine qB ?_;refine qL ?_;rfl
     ·try simp only [decide_eq_false_iff_not,Bool.not_eq_false',Bool.or_eq_false_iff,Int.not_lt] at h57
      try simp only [zds] at h57
      simp at h57
    ·refine qB ?_;refine zai (fun h=>trivial) ?_;refine Or.inl ?_;refine zai (rfl) ?_;refine zei _ (zai (fun h=>⟨⟨⟨h,trivial⟩,trivial⟩,hka⟩) ?_);refine zai (fun h=>⟨⟨h,trivial⟩,trivial⟩) ?_;refine zai (by first|(intro h;rw [h];rfl)|(intro h;cases h)) ?_;refine zai (fun h=>trivial) ?_;refine Or.inl ?_;refine zai (rfl) ?_;refine zei _ (zai (fun h=>⟨⟨⟨h,trivial⟩,trivial⟩,hkb⟩) ?_);refine zai (fun h=>⟨⟨h,trivial⟩,trivial⟩) ?_;refine zai (by first|(intro h;rw [h];rfl)|(intro h;cases h)) ?_;refine zai (fun h=>trivial) ?_;refine zai (fun h=>⟨⟨h,trivial⟩,trivial⟩) ?_;refine zai (fun h=>trivial) ?_;refine zai (fun h=>⟨⟨h,trivial⟩,trivial⟩) ?_;refine zai (fun h=>⟨⟨⟨h,trivial⟩,⟨h,trivial⟩,trivial⟩,by first|omega|decide|(simp only [zds];omega)|(have h9:=of_decide_eq_true h;omega)|(simp [gq] at h;omega)⟩) ?_;refine zai (fun h=>⟨⟨h,trivial⟩,trivial⟩) ?_;refine zai (by first|(intro h;rw [h];rfl)|(intro h;cases h)) ?_;refine qK rfl (fun h57=>?_) (fun h57=>?_)
     ·try simp only [decide_eq_true_eq,Bool.not_eq_true',Bool.or_eq_true] at h57
      try simp only [zds] at h57
      refine qC ?_;refine qB ?_;refine qL ?_;rfl
     ·try simp only [decide_eq_false_iff_not,Bool.not_eq_false',Bool.or_eq_false_iff,Int.not_lt] at h57
      try simp only [zds] at h57
      simp at h57
    ·refine qB ?_;refine zai (fun h=>trivial) ?_;refine Or.inl ?_;refine zai (rfl) ?_;refine zei _ (zai (fun h=>⟨⟨⟨h,trivial⟩,trivial⟩,hka⟩) ?_);refine zai (fun h=>⟨⟨h,trivial⟩,trivial⟩) ?_;refine zai (by first|(intro h;rw [h];rfl)|(intro h;cases h)) ?_;refine zai (fun h=>trivial) ?_;refine Or.inl ?_;refine zai (rfl) ?_;refine zei _ (zai (fun h=>⟨⟨⟨h,trivial⟩,trivial⟩,hkb⟩) ?_);refine zai (fun h=>⟨⟨h,trivial⟩,trivial⟩) ?_;refine zai (by first|(intro h;rw [h];rfl)|(intro h;cases h)) ?_;refine zai (fun h=>trivial) ?_;refine zai (fun h=>⟨⟨h,trivial⟩,trivial⟩) ?_;refine zai (fun h=>trivial) ?_;refine zai (fun h=>⟨⟨h,trivial⟩,trivial⟩) ?_;refine zai (fun h=>⟨⟨⟨h,trivial⟩,⟨h,trivial⟩,trivial⟩,by first|omega|decide|(simp only [zds];omega)|(have h9:=of_decide_eq_true h;omega)|(simp [gq] at h;omega)⟩) ?_;refine zai (fun h=>⟨⟨h,trivial⟩,trivial⟩) ?_;refine zai (by first|(intro h;rw [h];rfl)|(intro h;cases h)) ?_;refine qK rfl (fun h57=>?_) (fun h57=>?_)
     ·try simp only [decide_eq_true_eq,Bool.not_eq_true',Bool.or_eq_true] at h57
      try simp only [zds] at h57
      refine qC ?_;refine qB ?_;refine qL ?_;rfl
     ·try simp only [decide_eq_false_iff_not,Bool.not_eq_false',Bool.or_eq_false_iff,Int.not_lt] at h57
      try simp only [zds] at h57
      simp at h57
    ·refine qB ?_;refine zai (fun h=>trivial) ?_;refine Or.inl ?_;refine zai (rfl) ?_;refine zei _ (zai (fun h=>⟨⟨⟨h,trivial⟩,trivial⟩,hka⟩) ?_);refine zai (fun h=>⟨⟨h,trivial⟩,trivial⟩) ?_;refine zai (by first|(intro h;rw [h];rfl)|(intro h;cases h)) ?_;refine zai (fun h=>trivial) ?_;refine Or.inl ?_;refine zai (rfl) ?_;refine zei _ (zai (fun h=>⟨⟨⟨h,trivial⟩,trivial⟩,hkb⟩) ?_);refine zai (fun h=>⟨⟨h,trivial⟩,trivial⟩) ?_;refine zai (by first|(intro h;rw [h];rfl)|(intro h;cases h)) ?_;refine zai (fun h=>trivial) ?_;refine zai (fun h=>⟨⟨h,trivial⟩,trivial⟩) ?_;refine zai (fun h=>trivial) ?_;refine zai (fun h=>⟨⟨h,trivial⟩,trivial⟩) ?_;refine zai (fun h=>⟨⟨⟨h,trivial⟩,⟨h,trivial⟩,trivial⟩,by first|omega|decide|(simp only [zds];omega)|(have h9:=of_decide_eq_true h;omega)|(simp [gq] at h;omega)⟩) ?_;refine zai (fun h=>⟨⟨h,trivial⟩,trivial⟩) ?_;refine zai (by first|(intro h;rw [h];rfl)|(intro h;cases h)) ?_;refine qK rfl (fun h57=>?_) (fun h57=>?_)
     ·try simp only [decide_eq_true_eq,Bool.not_eq_true',Bool.or_eq_true] at h57
      try simp only [zds] at h57
      refine qC ?_;refine qB ?_;refine qL ?_;rfl
     ·try simp only [decide_eq_false_iff_not,Bool.not_eq_false',Bool.or_eq_false_iff,Int.not_lt] at h57
      try simp only [zds] at h57
      simp at h57
    ·refine qB ?_;refine zai (fun h=>trivial) ?_;refine Or.inl ?_;refine zai (rfl) ?_;refine zei _ (zai (fun h=>⟨⟨⟨h,trivial⟩,trivial⟩,hka⟩) ?_);refine zai (fun h=>⟨⟨h,trivial⟩,trivial⟩) ?_;refine zai (by first|(intro h;rw [h];rfl)|(intro h;cases h)) ?_;refine zai (fun h=>trivial) ?_;refine Or.inl ?_;refine zai (rfl) ?_;refine zei _ (zai (fun h=>⟨⟨⟨h,trivial⟩,trivial⟩,hkb⟩) ?_);refine zai (fun h=>⟨⟨h,trivial⟩,trivial⟩) ?_;refine zai (by first|(intro h;rw [h];rfl)|(intro h;cases h)) ?_;refine zai (fun h=>trivial) ?_;refine zai (fun h=>⟨⟨h,trivial⟩,trivial⟩) ?_;refine zai (fun h=>trivial) ?_;refine zai (fun h=>⟨⟨h,trivial⟩,trivial⟩) ?_;refine zai (fun h=>⟨⟨⟨h,trivial⟩,⟨h,trivial⟩,trivial⟩,by first|omega|decide|(simp only [zds];omega)|(have h9:=of_decide_eq_true h;omega)|(simp [gq] at h;omega)⟩) ?_;refine zai (fun h=>⟨⟨h,trivial⟩,trivial⟩) ?_;refine zai (by first|(intro h;rw [h];rfl)|(intro h;cases h)) ?_;refine qK rfl (fun h57=>?_) (fun h57=>?_)
     ·try simp only [decide_eq_true_eq,Bool.not_eq_true',Bool.or_eq_true] at h57
      try simp only [zds] at h57
      refine qC ?_;refine qB ?_;refine qL ?_;rfl
     ·try simp only [decide_eq_false_iff_not,Bool.not_eq_false',Bool.or_eq_false_iff,Int.not_lt] at h57
      try simp only [zds] at h57
      simp at h57
    ·refine qB ?_;refine zai (fun h=>trivial) ?_;refine Or.inl ?_;refine zai (rfl) ?_;refine zei _ (zai (fun h=>⟨⟨⟨h,trivial⟩,trivial⟩,hka⟩) ?_);refine zai (fun h=>⟨⟨h,trivial⟩,trivial⟩) ?_;refine zai (by first|(intro h;rw [h];rfl)|(intro h;cases h)) ?_;refine zai (fun h=>trivial) ?_;refine Or.inl ?_;refine zai (rfl) ?_;refine zei _ (zai (fun h=>⟨⟨⟨h,trivial⟩,trivial⟩,hkb⟩) ?_);refine zai (fun h=>⟨⟨h,trivial⟩,trivial⟩) ?_;refine zai (by first|(intro h;rw [h];rfl)|(intro h;cases h)) ?_;refine zai (fun h=>trivial) ?_;refine zai (fun h=>⟨⟨h,trivial⟩,trivial⟩) ?_;refine zai (fun h=>trivial) ?_;refine zai (fun h=>⟨⟨h,trivial⟩,trivial⟩) ?_;refine zai (fun h=>⟨⟨⟨h,trivial⟩,⟨h,trivial⟩,trivial⟩,by first|omega|decide|(simp only [zds];omega)|(have h9:=of_decide_eq_true h;omega)|(simp [gq] at h;omega)⟩) ?_;refine zai (fun h=>⟨⟨h,trivial⟩,trivial⟩) ?_;refine zai (by first|(intro h;rw [h];rfl)|(intro h;cases h)) ?_;refine qK rfl (fun h57=>?_) (fun h57=>?_)
     ·try simp only [decide_eq_true_eq,Bool.not_eq_true',Bool.or_eq_true] at h57
      try simp only [zds] at h57
      refine qC ?_;refine qB ?_;refine qL ?_;rfl
     ·try simp only [decide_eq_false_iff_not,Bool.not_eq_false',Bool.or_eq_false_iff,Int.not_lt] at h57
      try simp only [zds] at h57
      simp at h57
    ·refine qB ?_;refine zai (fun h=>trivial) ?_;refine Or.inl ?_;refine zai (rfl) ?_;refine zei _ (zai (fun h=>⟨⟨⟨h,trivial⟩,trivial⟩,hka⟩) ?_);refine zai (fun h=>⟨⟨h,trivial⟩,trivial⟩) ?_;refine zai (by first|(intro h;rw [h];rfl)|(intro h;cases h)) ?_;refine zai (fun h=>trivial) ?_;refine Or.inl ?_;refine zai (rfl) ?_;refine zei _ (zai (fun h=>⟨⟨⟨h,trivial⟩,trivial⟩,hkb⟩) ?_);refine zai (fun h=>⟨⟨h,trivial⟩,trivial⟩) ?_;refine zai (by first|(intro h;rw [h];rfl)|(intro h;cases h)) ?_;refine zai (fun h=>trivial) ?_;refine zai (fun h=>⟨⟨h,trivial⟩,trivial⟩) ?_;refine zai (fun h=>trivial) ?_;refine zai (fun h=>⟨⟨h,trivial⟩,trivial⟩) ?_;refine zai (fun h=>⟨⟨⟨h,trivial⟩,⟨h,trivial⟩,trivial⟩,by first|omega|decide|(simp only [zds];omega)|(have h9:=of_decide_eq_true h;omega)|(simp [gq] at h;omega)⟩) ?_;refine zai (fun h=>⟨⟨h,trivial⟩,trivial⟩) ?_;refine zai (by first|(intro h;rw [h];rfl)|(intro h;cases h)) ?_;refine qK rfl (fun h57=>?_) (fun h57=>?_)
     ·try simp only [decide_eq_true_eq,Bool.not_eq_true',Bool.or_eq_true] at h57
      try simp only [zds] at h57
      refine qC ?_;refine qB ?_;refine qL ?_;rfl
     ·try simp only [decide_eq_false_iff_not,Bool.not_eq_false',Bool.or_eq_false_iff,Int.not_lt] at h57
      try simp only [zds] at h57
      simp at h57
    ·refine qB ?_;refine zai (fun h=>trivial) ?_;refine Or.inl ?_;refine zai (rfl) ?_;refine zei _ (zai (fun h=>⟨⟨⟨h,trivial⟩,trivial⟩,hka⟩) ?_);refine zai (fun h=>⟨⟨h,trivial⟩,trivial⟩) ?_;refine zai (by first|(intro h;rw [h];rfl)|(intro h;cases h)) ?_;refine zai (fun h=>trivial) ?_;refine Or.inl ?_;refine zai (rfl) ?_;refine zei _ (zai (fun h=>⟨⟨⟨h,trivial⟩,trivial⟩,hkb⟩) ?_);refine zai (fun h=>⟨⟨h,trivial⟩,trivial⟩) ?_;refine zai (by first|(intro h;rw [h];rfl)|(intro h;cases h)) ?_;refine zai (fun h=>trivial) ?_;refine zai (fun h=>⟨⟨h,trivial⟩,trivial⟩) ?_;refine zai (fun h=>trivial) ?_;refine zai (fun h=>⟨⟨h,trivial⟩,trivial⟩) ?_;refine zai (fun h=>⟨⟨⟨h,trivial⟩,⟨h,trivial⟩,trivial⟩,by first|omega|decide|(simp only [zds];omega)|(have h9:=of_decide_eq_true h;omega)|(simp [gq] at h;omega)⟩) ?_;refine zai (fun h=>⟨⟨h,trivial⟩,trivial⟩) ?_;refine zai (by first|(intro h;rw [h];rfl)|(intro h;cases h)) ?_;refine qK rfl (fun h57=>?_) (fun h57=>?_)
     ·try simp only [decide_eq_true_eq,Bool.not_eq_true',Bool.or_eq_true] at h57
      try simp only [zds] at h57
      refine qC ?_;refine qB ?_;refine qL ?_;rfl
     ·try simp only [decide_eq_false_iff_not,Bool.not_eq_false',Bool.or_eq_false_iff,Int.not_lt] at h57
      try simp only [zds] at h57
      simp at h57
theorem Two_chk (s : ByteArray) (a b : List Edt) (hs : ¬ 3000 < s.size) (ha : heavyB a = false) (hb : heavyB b = false) {l : List Itm} (hp : yW s = .inr l) (h : ¬ (((chkB a).2 = 0 ∧ (chkB b).2 = 0) ∧ a.length + b.length ≤ 40)) : qU Tryz.prog 6 [is s,.one (.sl rEdt a),.one (.sl rEdt b)] (ib true):=by
  have hva:=heavy_c a;have hvb:=heavy_c b;rw [ha] at hva;rw [hb] at hvb;obtain ⟨hsa,hma⟩:=heavy_ok ha;obtain ⟨hsb,hmb⟩:=heavy_ok hb;have hfa : ∀ e ∈ a,yV e.2.2:=fun e he=>much_ok (hma e he)
  have hfb : ∀ e ∈ b,yV e.2.2:=fun e he=>much_ok (hmb e he)
  have hl:=lists_ok s (by omega) hp;have hka:=check_c9 (κ:=0) (κ':=0) a hfa (by omega);have hkb:=check_c9 (κ:=0) (κ':=0) b hfb (by omega);refine qS (rs:=[6]) Tryz.func6 rfl rfl rfl teOk rfl ?_;refine qC ?_;refine qB ?_;refine qC ?_;refine qC ?_;refine qB ?_;refine Or.inl ?_;refine zai (rfl) ?_;refine zei _ (zai (alive9_c) ?_);refine qK rfl (fun h20=>?_) (fun h20=>?_)
  ·try simp only [Bool.not_eq_true'] at h20
   try simp only [zds] at h20
   simp at h20
  ·try simp only [Bool.not_eq_false'] at h20
   try simp only [zds] at h20
   refine qM ?_;refine qC ?_;refine qC ?_;refine qB ?_;refine zai (fun h=>trivial) ?_;refine Or.inl ?_;refine zai (rfl) ?_;refine zei _ (zai (fun h=>⟨⟨⟨h,trivial⟩,trivial⟩,hva⟩) ?_);refine zai (by first|(intro h;rw [h];rfl)|(intro h;cases h)) ?_;refine zai (fun h=>trivial) ?_;refine Or.inl ?_;refine zai (rfl) ?_;refine zei _ (zai (fun h=>⟨⟨⟨h,trivial⟩,trivial⟩,hvb⟩) ?_);refine zai (by first|(intro h;rw [h];rfl)|(intro h;cases h)) ?_;refine qK rfl (fun h31=>?_) (fun h31=>?_)
   ·try simp only [decide_eq_true_eq,Bool.or_eq_true] at h31
    try simp only [zds] at h31
    exfalso
    simp at h31;omega
   ·try simp only [decide_eq_false_iff_not,Bool.or_eq_false_iff,Int.not_lt] at h31
    try simp only [zds] at h31
    refine qM ?_;refine qC ?_;refine qB ?_;refine Or.inr (Or.inl (zei [] (zei [] (zei _ (zei _ (zei _ (zei _ (zei _ (zai (hl) (zai rfl (zai True.intro (zai rfl ?_))))))))))));refine qC ?_;refine qC ?_;rcases er_cases a with ⟨hc,ec⟩|⟨hc,ec⟩|⟨hc,i,n,ec⟩ <;> rcases er_cases b with ⟨hd,ed⟩|⟨hd,ed⟩|⟨hd,j,k,ed⟩ <;> rw [ec] at hka <;> rw [ed] at hkb
    ·refine qB ?_;refine zai (fun h=>trivial) ?_;refine Or.inl ?_;refine zai (rfl) ?_;refine zei _ (zai (fun h=>⟨⟨⟨h,trivial⟩,trivial⟩,hka⟩) ?_);refine zai (fun h=>⟨⟨h,trivial⟩,trivial⟩) ?_;refine zai (by first|(intro h;rw [h];rfl)|(intro h;cases h)) ?_;refine zai (fun h=>trivial) ?_;refine Or.inl ?_;refine zai (rfl) ?_;refine zei _ (zai (fun h=>⟨⟨⟨h,trivial⟩,trivial⟩,hkb⟩) ?_);refine zai (fun h=>⟨⟨h,trivial⟩,trivial⟩) ?_;refine zai (by first|(intro h;rw [h];rfl)|(intro h;cases h)) ?_;refine zai (fun h=>trivial) ?_;refine zai (fun h=>⟨⟨h,trivial⟩,trivial⟩) ?_;refine zai (fun h=>trivial) ?_;refine zai (fun h=>⟨⟨h,trivial⟩,trivial⟩) ?_;refine zai (fun h=>⟨⟨⟨h,trivial⟩,⟨h,trivial⟩,trivial⟩,by first|omega|decide|(simp only [zds];omega)|(have h9:=of_decide_eq_true h;omega)|(simp [gq] at h;omega)⟩) ?_;refine zai (fun h=>⟨⟨h,trivial⟩,trivial⟩) ?_;refine zai (by first|(intro h;rw [h];rfl)|(intro h;cases h)) ?_;refine qK rfl (fun h57=>?_) (fun h57=>?_)
     ·try simp only [decide_eq_true_eq,Bool.not_eq_true',Bool.or_eq_true] at h57
      try simp only [zds] at h57
      refine qC ?_;refine qB ?_;refine qL ?_;rfl
     ·try simp only [decide_eq_false_iff_not,Bool.not_eq_false',Bool.or_eq_false_iff,Int.not_lt] at h57
      try simp only [zds] at h57
      exact absurd ⟨⟨by rw [hc],by rw [hd]⟩,by simp at h57;omega⟩ h
    ·refine qB ?_;refine zai (fun h=>trivial) ?_;refine Or.inl ?_;refine zai (rfl) ?_;refine zei _ (zai (fun h=>⟨⟨⟨h,trivial⟩,trivial⟩,hka⟩) ?_);refine zai (fun h=>⟨⟨h,trivial⟩,trivial⟩) ?_;refine zai (by first|(intro h;rw [h];rfl)|(intro h;cases h)) ?_;refine zai (fun h=>trivial) ?_;refine Or.inl ?_;refine zai (rfl) ?_;refine zei _ (zai (fun h=>⟨⟨⟨h,trivial⟩,trivial⟩,hkb⟩) ?_);refine zai (fun h=>⟨⟨h,trivial⟩,trivial⟩) ?_;refine zai (by first|(intro h;rw [h];rfl)|(intro h;cases h)) ?_;refine zai (fun h=>trivial) ?_;refine zai (fun h=>⟨⟨h,trivial⟩,trivial⟩) ?_;refine zai (fun h=>trivial) ?_;refine zai (fun h=>⟨⟨h,trivial⟩,trivial⟩) ?_;refine zai (fun h=>⟨⟨⟨h,trivial⟩,⟨h,trivial⟩,trivial⟩,by first|omega|decide|(simp only [zds];omega)|(have h9:=of_decide_eq_true h;omega)|(simp [gq] at h;omega)⟩) ?_;refine zai (fun h=>⟨⟨h,trivial⟩,trivial⟩) ?_;refine zai (by first|(intro h;rw [h];rfl)|(intro h;cases h)) ?_;refine qK rfl (fun h57=>?_) (fun h57=>?_)
     ·try simp only [decide_eq_true_eq,Bool.not_eq_true',Bool.or_eq_true] at h57
      try simp only [zds] at h57
      refine qC ?_;refine qB ?_;refine qL ?_;rfl
     ·try simp only [decide_eq_false_iff_not,Bool.not_eq_false',Bool.or_eq_false_iff,Int.not_lt] at h57
      try simp only [zds] at h57
      simp at h57
    ·refine qB ?_;refine zai (fun h=>trivial) ?_;refine Or.inl ?_;refine zai (rfl) ?_;refine zei _ (zai (fun h=>⟨⟨⟨h,trivial⟩,trivial⟩,hka⟩) ?_);refine zai (fun h=>⟨⟨h,trivial⟩,trivial⟩) ?_;refine zai (by first|(intro h;rw [h];rfl)|(intro h;cases h)) ?_;refine zai (fun h=>trivial) ?_;refine Or.inl ?_;refine zai (rfl) ?_;refine zei _ (zai (fun h=>⟨⟨⟨h,trivial⟩,trivial⟩,hkb⟩) ?_);refine zai (fun h=>⟨⟨h,trivial⟩,trivial⟩) ?_;refine zai (by first|(intro h;rw [h];rfl)|(intro h;cases h)) ?_;refine zai (fun h=>trivial) ?_;refine zai (fun h=>⟨⟨h,trivial⟩,trivial⟩) ?_;refine zai (fun h=>trivial) ?_;refine zai (fun h=>⟨⟨h,trivial⟩,trivial⟩) ?_;refine zai (fun h=>⟨⟨⟨h,trivial⟩,⟨h,trivial⟩,trivial⟩,by first|omega|decide|(simp only [zds];omega)|(have h9:=of_decide_eq_true h;omega)|(simp [gq] at h;omega)⟩) ?_;refine zai (fun h=>⟨⟨h,trivial⟩,trivial⟩) ?_;refine zai (by first|(intro h;rw [h];rfl)|(intro h;cases h)) ?_;refine qK rfl (fun h57=>?_) (fun h57=>?_)
     ·try simp only [decide_eq_true_eq,Bool.not_eq_true',Bool.or_eq_true] at h57
      try simp only [zds] at h57
      refine qC ?_;refine qB ?_;refine qL ?_;rfl
     ·try simp only [decide_eq_false_iff_not,Bool.not_eq_false',Bool.or_eq_false_iff,Int.not_lt] at h57
      try simp only [zds] at h57
      simp at h57
    ·refine qB ?_;refine zai (fun h=>trivial) ?_;refine Or.inl ?_;refine zai (rfl) ?_;refine zei _ (zai (fun h=>⟨⟨⟨h,trivial⟩,trivial⟩,hka⟩) ?_);refine zai (fun h=>⟨⟨h,trivial⟩,trivial⟩) ?_;refine zai (by first|(intro h;rw [h];rfl)|(intro h;cases h)) ?_;refine zai (fun h=>trivial) ?_;refine Or.inl ?_;refine zai (rfl) ?_;refine zei _ (zai (fun h=>⟨⟨⟨h,trivial⟩,trivial⟩,hkb⟩) ?_);refine zai (fun h=>⟨⟨h,trivial⟩,trivial⟩) ?_;refine zai (by first|(intro h;rw [h];rfl)|(intro h;cases h)) ?_;refine zai (fun h=>trivial) ?_;refine zai (fun h=>⟨⟨h,trivial⟩,trivial⟩) ?_;refine zai (fun h=>trivial) ?_;refine zai (fun h=>⟨⟨h,trivial⟩,trivial⟩) ?_;refine zai (fun h=>⟨⟨⟨h,trivial⟩,⟨h,trivial⟩,trivial⟩,by first|omega|decide|(simp only [zds];omega)|(have h9:=of_decide_eq_true h;omega)|(simp [gq] at h;omega)⟩) ?_;refine zai (fun h=>⟨⟨h,trivial⟩,trivial⟩) ?_;refine zai (by first|(intro h;rw [h];rfl)|(intro h;cases h)) ?_;refine qK rfl (fun h57=>?_) (fun h57=>?_)
     ·try simp only [decide_eq_true_eq,Bool.not_eq_true',Bool.or_eq_true] at h57
      try simp only [zds] at h57
      refine qC ?_;refine qB ?_;refine qL ?_;rfl
     ·try simp only [decide_eq_false_iff_not,Bool.not_eq_false',Bool.or_eq_false_iff,Int.not_lt] at h57
      try simp only [zds] at h57
      simp at h57
    ·refine qB ?_;refine zai (fun h=>trivial) ?_;refine Or.inl ?_;refine zai (rfl) ?_;refine zei _ (zai (fun h=>⟨⟨⟨h,trivial⟩,trivial⟩,hka⟩) ?_);refine zai (fun h=>⟨⟨h,trivial⟩,trivial⟩) ?_;refine zai (by first|(intro h;rw [h];rfl)|(intro h;cases h)) ?_;refine zai (fun h=>trivial) ?_;refine Or.inl ?_;refine zai (rfl) ?_;refine zei _ (zai (fun h=>⟨⟨⟨h,trivial⟩,trivial⟩,hkb⟩) ?_);refine zai (fun h=>⟨⟨h,trivial⟩,trivial⟩) ?_;refine zai (by first|(intro h;rw [h];rfl)|(intro h;cases h)) ?_;refine zai (fun h=>trivial) ?_;refine zai (fun h=>⟨⟨h,trivial⟩,trivial⟩) ?_;refine zai (fun h=>trivial) ?_;refine zai (fun h=>⟨⟨h,trivial⟩,trivial⟩) ?_;refine zai (fun h=>⟨⟨⟨h,trivial⟩,⟨h,trivial⟩,trivial⟩,by first|omega|decide|(simp only [zds];omega)|(have h9:=of_decide_eq_true h;omega)|(simp [gq] at h;omega)⟩) ?_;refine zai (fun h=>⟨⟨h,trivial⟩,trivial⟩) ?_;refine zai (by first|(intro h;rw [h];rfl)|(intro h;cases h)) ?_;refine qK rfl (fun h57=>?_) (fun h57=>?_)
     ·try simp only [decide_eq_true_eq,Bool.not_eq_true',Bool.or_eq_true] at h57
      try simp only [zds] at h57
      refine qC ?_;refine qB ?_;refine qL ?_;rfl
     ·try simp only [decide_eq_false_iff_not,Bool.not_eq_false',Bool.or_eq_false_iff,Int.not_lt] at h57
      try simp only [zds] at h57
      simp at h57
    ·refine qB ?_;refine zai (fun h=>trivial) ?_;refine Or.inl ?_;refine zai (rfl) ?_;refine zei _ (zai (fun h=>⟨⟨⟨h,trivial⟩,trivial⟩,hka⟩) ?_);refine zai (fun h=>⟨⟨h,trivial⟩,trivial⟩) ?_;refine zai (by first|(intro h;rw [h];rfl)|(intro h;cases h)) ?_;refine zai (fun h=>trivial) ?_;refine Or.inl ?_;refine zai (rfl) ?_;refine zei _ (zai (fun h=>⟨⟨⟨h,trivial⟩,trivial⟩,hkb⟩) ?_);refine zai (fun h=>⟨⟨h,trivial⟩,trivial⟩) ?_;refine zai (by first|(intro h;rw [h];rfl)|(intro h;cases h)) ?_;refine zai (fun h=>trivial) ?_;refine zai (fun h=>⟨⟨h,trivial⟩,trivial⟩) ?_;refine zai (fun h=>trivial) ?_;refine zai (fun h=>⟨⟨h,trivial⟩,trivial⟩) ?_;refine zai (fun h=>⟨⟨⟨h,trivial⟩,⟨h,trivial⟩,trivial⟩,by first|omega|decide|(simp only [zds];omega)|(have h9:=of_decide_eq_true h;omega)|(simp [gq] at h;omega)⟩) ?_;refine zai (fun h=>⟨⟨h,trivial⟩,trivial⟩) ?_;refine zai (by first|(intro h;rw [h];rfl)|(intro h;cases h)) ?_;refine qK rfl (fun h57=>?_) (fun h57=>?_)
     ·try simp only [decide_eq_true_eq,Bool.not_eq_true',Bool.or_eq_true] at h57
      try simp only [zds] at h57
      refine qC ?_;refine qB ?_;refine qL ?_;rfl
     ·try simp only [decide_eq_false_iff_not,Bool.not_eq_false',Bool.or_eq_false_iff,Int.not_lt] at h57
      try simp only [zds] at h57
      simp at h57
    ·refine qB ?_;refine zai (fun h=>trivial) ?_;refine Or.inl ?_;refine zai (rfl) ?_;refine zei _ (zai (fun h=>⟨⟨⟨h,trivial⟩,trivial⟩,hka⟩) ?_);refine zai (fun h=>⟨⟨h,trivial⟩,trivial⟩) ?_;refine zai (by first|(intro h;rw [h];rfl)|(intro h;cases h)) ?_;refine zai (fun h=>trivial) ?_;refine Or.inl ?_;refine zai (rfl) ?_;refine zei _ (zai (fun h=>⟨⟨⟨h,trivial⟩,trivial⟩,hkb⟩) ?_);refine zai (fun h=>⟨⟨h,trivial⟩,trivial⟩) ?_;refine zai (by first|(intro h;rw [h];rfl)|(intro h;cases h)) ?_;refine zai (fun h=>trivial) ?_;refine zai (fun h=>⟨⟨h,trivial⟩,trivial⟩) ?_;refine zai (fun h=>trivial) ?_;refine zai (fun h=>⟨⟨h,trivial⟩,trivial⟩) ?_;refine zai (fun h=>⟨⟨⟨h,trivial⟩,⟨h,trivial⟩,trivial⟩,by first|omega|decide|(simp only [zds];omega)|(have h9:=of_decide_eq_true h;omega)|(simp [gq] at h;omega)⟩) ?_;refine zai (fun h=>⟨⟨h,trivial⟩,trivial⟩) ?_;refine zai (by first|(intro h;rw [h];rfl)|(intro h;cases h)) ?_;refine qK rfl (fun h57=>?_) (fun h57=>?_)
     ·try simp only [decide_eq_true_eq,Bool.not_eq_true',Bool.or_eq_true] at h57
      try simp only [zds] at h57
      refine qC ?_;refine qB ?_;refine qL ?_;rfl
     ·try simp only [decide_eq_false_iff_not,Bool.not_eq_false',Bool.or_eq_false_iff,Int.not_lt] at h57
      try simp only [zds] at h57
      simp at h57
    ·refine qB ?_;refine zai (fun h=>trivial) ?_;refine Or.inl ?_;refine zai (rfl) ?_;refine zei _ (zai (fun h=>⟨⟨⟨h,trivial⟩,trivial⟩,hka⟩) ?_);refine zai (fun h=>⟨⟨h,trivial⟩,trivial⟩) ?_;refine zai (by first|(intro h;rw [h];rfl)|(intro h;cases h)) ?_;refine zai (fun h=>trivial) ?_;refine Or.inl ?_;refine zai (rfl) ?_;refine zei _ (zai (fun h=>⟨⟨⟨h,trivial⟩,trivial⟩,hkb⟩) ?_);refine zai (fun h=>⟨⟨h,trivial⟩,trivial⟩) ?_;refine zai (by first|(intro h;rw [h];rfl)|(intro h;cases h)) ?_;refine zai (fun h=>trivial) ?_;refine zai (fun h=>⟨⟨h,trivial⟩,trivial⟩) ?_;refine zai (fun h=>trivial) ?_;refine zai (fun h=>⟨⟨h,trivial⟩,trivial⟩) ?_;refine zai (fun h=>⟨⟨⟨h,trivial⟩,⟨h,trivial⟩,trivial⟩,by first|omega|decide|(simp only [zds];omega)|(have h9:=of_decide_eq_true h;omega)|(simp [gq] at h;omega)⟩) ?_;refine zai (fun h=>⟨⟨h,trivial⟩,trivial⟩) ?_;refine zai (by first|(intro h;rw [h];rfl)|(intro h;cases h)) ?_;refine qK rfl (fun h57=>?_) (fun h57=>?_)
     ·try simp only [decide_eq_true_eq,Bool.not_eq_true',Bool.or_eq_true] at h57
      try simp only [zds] at h57
      refine qC ?_;refine qB ?_;refine qL ?_;rfl
     ·try simp only [decide_eq_false_iff_not,Bool.not_eq_false',Bool.or_eq_false_iff,Int.not_lt] at h57
      try simp only [zds] at h57
      simp at h57
    ·refine qB ?_;refine zai (fun h=>trivial) ?_;refine Or.inl ?_;refine zai (rfl) ?_;refine zei _ (zai (fun h=>⟨⟨⟨h,trivial⟩,trivial⟩,hka⟩) ?_);refine zai (fun h=>⟨⟨h,trivial⟩,trivial⟩) ?_;refine zai (by first|(intro h;rw [h];rfl)|(intro h;cases h)) ?_;refine zai (fun h=>trivial) ?_;refine Or.inl ?_;refine zai (rfl) ?_;refine zei _ (zai (fun h=>⟨⟨⟨h,trivial⟩,trivial⟩,hkb⟩) ?_);refine zai (fun h=>⟨⟨h,trivial⟩,trivial⟩) ?_;refine zai (by first|(intro h;rw [h];rfl)|(intro h;cases h)) ?_;refine zai (fun h=>trivial) ?_;refine zai (fun h=>⟨⟨h,trivial⟩,trivial⟩) ?_;refine zai (fun h=>trivial) ?_;refine zai (fun h=>⟨⟨h,trivial⟩,trivial⟩) ?_;refine zai (fun h=>⟨⟨⟨h,trivial⟩,⟨h,trivial⟩,trivial⟩,by first|omega|decide|(simp only [zds];omega)|(have h9:=of_decide_eq_true h;omega)|(simp [gq] at h;omega)⟩) ?_;refine zai (fun h=>⟨⟨h,trivial⟩,trivial⟩) ?_;refine zai (by first|(intro h;rw [h];rfl)|(intro h;cases h)) ?_;refine qK rfl (fun h57=>?_) (fun h57=>?_)
     ·try simp only [decide_eq_true_eq,Bool.not_eq_true',Bool.or_eq_true] at h57
      try simp only [zds] at h57
      refine qC ?_;refine qB ?_;refine qL ?_;rfl
     ·try simp only [decide_eq_false_iff_not,Bool.not_eq_false',Bool.or_eq_false_iff,Int.not_lt] at h57
      try simp only [zds] at h57
      simp at h57
theorem Two_no1 (s : ByteArray) (a b : List Edt) (hs : ¬ 3000 < s.size) (ha : heavyB a = false) (hb : heavyB b = false) {l : List Itm} (hp : yW s = .inr l) (h0 : chkB a = (-9,0)) (h1 : chkB b = (-9,0)) (h4 : a.length + b.length ≤ 40) (q : Nat) (hq : q < a.length) (hb1 : oneN (yP (ofT l) a q) (a.getD q ((0 : Int),(0 : Int),([] : List Fld))) ≠ 0) (ht : ∀ j,j < q → oneN (yP (ofT l) a j) (a.getD j ((0 : Int),(0 : Int),([] : List Fld))) = 0) : qU Tryz.prog 6 [is s,.one (.sl rEdt a),.one (.sl rEdt b)] (ib true):=by
  have hva:=heavy_c a;have hvb:=heavy_c b;rw [ha] at hva;rw [hb] at hvb;obtain ⟨hsa,hma⟩:=heavy_ok ha;obtain ⟨hsb,hmb⟩:=heavy_ok hb;have hfa : ∀ e ∈ a,yV e.2.2:=fun e he=>much_ok (hma e he)
  have hfb : ∀ e ∈ b,yV e.2.2:=fun e he=>much_ok (hmb e he)
  have hl:=lists_ok s (by omega) hp;have hka:=check_c9 (κ:=0) (κ':=0) a hfa (by omega);have hkb:=check_c9 (κ:=0) (κ':=0) b hfb (by omega);rw [h0,erB_z] at hka;rw [h1,erB_z] at hkb;have hcab : (chkB (a ++ b)).2 = 0:=chkB_app (by rw [h0]) (by rw [h1]) h4;have hfab : ∀ e ∈ a ++ b,yV e.2.2:=fun e he=>(List.mem_append.1 he).elim (hfa e) (hfb e)
  have hlk:=of_lok (by omega) hp;have hgd:=ofT_gd hp;have hdo : ∀ e ∈ a,e.2.2.length ≤ 1000000:=fun e he=>Nat.le_trans (hfa e he).1 (by decide)
  have how:=ownV_o a hdo (by omega);obtain ⟨L,hL⟩ : ∃ L,ofT l = L:=⟨_,rfl⟩;rw [hL] at hlk hgd hl;have hla:=plays_ok hlk hfa a.length (Nat.le_refl _);have hlb:=plays_ok hla hfb b.length (Nat.le_refl _);rw [hL] at hb1 ht;have hd1:=doBad_c (κ:=0) (κ':=0) (k:=1) L a hlk (by omega) hfa (by rw [h0]) q hq hb1 ht;have hd2:=doBad_c (κ:=1) (κ':=0) (k:=1) L (a ++ b) hlk (by rw [List.length_append];omega) hfab hcab q (by rw [List.length_append];omega) (by rw [plays_l L a b (by omega),getD_l a b hq];exact hb1) (fun j hj=>by rw [plays_l L a b (by omega),getD_l a b (by omega)];exact ht j hj);rw [plays_l L a b (by omega),getD_l a b hq] at hd2;obtain ⟨n,hn⟩ : ∃ n,oneN (yP L a q) (a.getD q ((0 : Int),(0 : Int),([] : List Fld))) = n:=⟨_,rfl⟩;rw [hn] at hd1 hd2;refine qS (rs:=[6]) Tryz.func6 rfl rfl rfl teOk rfl ?_;refine qC ?_;refine qB ?_;refine qC ?_;refine qC ?_;refine qB ?_;refine Or.inl ?_;refine zai (rfl) ?_;refine zei _ (zai (alive9_c) ?_);refine qK rfl (fun h20=>?_) (fun h20=>?_)
  ·try simp only [Bool.not_eq_true'] at h20
   try simp only [zds] at h20
   simp at h20
  ·try simp only [Bool.not_eq_false'] at h20
   try simp only [zds] at h20
   refine qM ?_;refine qC ?_;refine qC ?_;refine qB ?_;refine zai (fun h=>trivial) ?_;refine Or.inl ?_;refine zai (rfl) ?_;refine zei _ (zai (fun h=>⟨⟨⟨h,trivial⟩,trivial⟩,hva⟩) ?_);refine zai (by first|(intro h;rw [h];rfl)|(intro h;cases h)) ?_;refine zai (fun h=>trivial) ?_;refine Or.inl ?_;refine zai (rfl) ?_;refine zei _ (zai (fun h=>⟨⟨⟨h,trivial⟩,trivial⟩,hvb⟩) ?_);refine zai (by first|(intro h;rw [h];rfl)|(intro h;cases h)) ?_;refine qK rfl (fun h31=>?_) (fun h31=>?_)
   ·try simp only [decide_eq_true_eq,Bool.or_eq_true] at h31
    try simp only [zds] at h31
    exfalso
    simp at h31;omega
   ·try simp only [decide_eq_false_iff_not,Bool.or_eq_false_iff,Int.not_lt] at h31
    try simp only [zds] at h31
    refine qM ?_;refine qC ?_;refine qB ?_;refine Or.inr (Or.inl (zei [] (zei [] (zei _ (zei _ (zei _ (zei _ (zei _ (zai (hl) (zai rfl (zai True.intro (zai rfl ?_))))))))))));refine qC ?_;refine qC ?_;refine qB ?_;refine zai (fun h=>trivial) ?_;refine Or.inl ?_;refine zai (rfl) ?_;refine zei _ (zai (fun h=>⟨⟨⟨h,trivial⟩,trivial⟩,hka⟩) ?_);refine zai (fun h=>⟨⟨h,trivial⟩,trivial⟩) ?_;refine zai (by first|(intro h;rw [h];rfl)|(intro h;cases h)) ?_;refine zai (fun h=>trivial) ?_;refine Or.inl ?_;refine zai (rfl) ?_;refine zei _ (zai (fun h=>⟨⟨⟨h,trivial⟩,trivial⟩,hkb⟩) ?_);refine zai (fun h=>⟨⟨h,trivial⟩,trivial⟩) ?_;refine zai (by first|(intro h;rw [h];rfl)|(intro h;cases h)) ?_;refine zai (fun h=>trivial) ?_;refine zai (fun h=>⟨⟨h,trivial⟩,trivial⟩) ?_;refine zai (fun h=>trivial) ?_;refine zai (fun h=>⟨⟨h,trivial⟩,trivial⟩) ?_;refine zai (fun h=>⟨⟨⟨h,trivial⟩,⟨h,trivial⟩,trivial⟩,by first|omega|decide|(simp only [zds];omega)|(have h9:=of_decide_eq_true h;omega)|(simp [gq] at h;omega)⟩) ?_;refine zai (fun h=>⟨⟨h,trivial⟩,trivial⟩) ?_;refine zai (by first|(intro h;rw [h];rfl)|(intro h;cases h)) ?_;refine qK rfl (fun h57=>?_) (fun h57=>?_)
    ·try simp only [decide_eq_true_eq,Bool.not_eq_true',Bool.or_eq_true] at h57
     try simp only [zds] at h57
     simp at h57;omega
    ·try simp only [decide_eq_false_iff_not,Bool.not_eq_false',Bool.or_eq_false_iff,Int.not_lt] at h57
     try simp only [zds] at h57
     refine qM ?_;refine qC ?_;refine qB ?_;refine Or.inr (Or.inr (Or.inl ?_));refine zai rfl ?_;refine zei _ (zai (hd1) ?_);refine qC ?_;refine qB ?_;refine Or.inr (Or.inl (zei [] (zei [] (zei _ (zei _ (zei _ (zei _ (zei _ (zai (how) (zai rfl (zai True.intro (zai rfl ?_))))))))))));refine zai (by first|exact qP (by first|omega|(simp only [List.length_append,List.length_cons,List.length_nil,List.length_map,List.length_take,List.length_drop,List.length_set];omega)|(simp;omega)) (by decide)|omega|assumption|decide|(simp only [zds];omega)|(simp <;> omega)) ?_;refine Or.inr (Or.inr (Or.inl ?_));refine zai rfl ?_;refine zei _ (zai (hd2) ?_);refine qC ?_;refine qC ?_;refine qB ?_;refine qK rfl (fun h76=>?_) (fun h76=>?_)
     ·skip
      refine qC ?_;refine qB ?_;refine zai (fun h=>trivial) ?_;refine Or.inl ?_;refine zai (rfl) ?_;refine zei _ (zai (fun h=>⟨⟨⟨h,trivial⟩,trivial⟩,at_fault q n⟩) ?_);refine zai (fun h=>trivial) ?_;refine Or.inl ?_;refine zai (rfl) ?_;refine zei _ (zai (fun h=>⟨⟨⟨h,trivial⟩,trivial⟩,at_fault q n⟩) ?_);refine zai (fun h=>⟨⟨h,trivial⟩,⟨h,trivial⟩,trivial⟩) ?_;refine zai (by exact fun h=>h) ?_;refine qL ?_
      first|rfl|exact ib_eq (by simp)
     ·try simp only [zbq] at h76
      try simp only [zds] at h76
      simp at h76
theorem Two_no2 (s : ByteArray) (a b : List Edt) (hs : ¬ 3000 < s.size) (ha : heavyB a = false) (hb : heavyB b = false) {l : List Itm} (hp : yW s = .inr l) (h0 : chkB a = (-9,0)) (h1 : chkB b = (-9,0)) (h4 : a.length + b.length ≤ 40) (ht1 : ∀ j,j < a.length → oneN (yP (ofT l) a j) (a.getD j ((0 : Int),(0 : Int),([] : List Fld))) = 0) (q : Nat) (hq : q < b.length) (hb1 : oneN (yP (yP (ofT l) a a.length) b q) (b.getD q ((0 : Int),(0 : Int),([] : List Fld))) ≠ 0) (ht : ∀ j,j < q → oneN (yP (yP (ofT l) a a.length) b j) (b.getD j ((0 : Int),(0 : Int),([] : List Fld))) = 0) : qU Tryz.prog 6 [is s,.one (.sl rEdt a),.one (.sl rEdt b)] (ib true):=by
  have hva:=heavy_c a;have hvb:=heavy_c b;rw [ha] at hva;rw [hb] at hvb;obtain ⟨hsa,hma⟩:=heavy_ok ha;obtain ⟨hsb,hmb⟩:=heavy_ok hb;have hfa : ∀ e ∈ a,yV e.2.2:=fun e he=>much_ok (hma e he)
  have hfb : ∀ e ∈ b,yV e.2.2:=fun e he=>much_ok (hmb e he)
  have hl:=lists_ok s (by omega) hp;have hka:=check_c9 (κ:=0) (κ':=0) a hfa (by omega);have hkb:=check_c9 (κ:=0) (κ':=0) b hfb (by omega);rw [h0,erB_z] at hka;rw [h1,erB_z] at hkb;have hcab : (chkB (a ++ b)).2 = 0:=chkB_app (by rw [h0]) (by rw [h1]) h4;have hfab : ∀ e ∈ a ++ b,yV e.2.2:=fun e he=>(List.mem_append.1 he).elim (hfa e) (hfb e)
  have hlk:=of_lok (by omega) hp;have hgd:=ofT_gd hp;have hdo : ∀ e ∈ a,e.2.2.length ≤ 1000000:=fun e he=>Nat.le_trans (hfa e he).1 (by decide)
  have how:=ownV_o a hdo (by omega);obtain ⟨L,hL⟩ : ∃ L,ofT l = L:=⟨_,rfl⟩;rw [hL] at hlk hgd hl;have hla:=plays_ok hlk hfa a.length (Nat.le_refl _);have hlb:=plays_ok hla hfb b.length (Nat.le_refl _);rw [hL] at hb1 ht ht1;have hd1:=(doOkV_o (κ:=0) (κ':=0) (k:=1) L a hlk (by omega) hfa (by rw [h0]) ht1).x;have hd2:=doBad_c (κ:=1) (κ':=0) (k:=1) L (a ++ b) hlk (by rw [List.length_append];omega) hfab hcab (a.length + q) (by rw [List.length_append];omega) (by rw [plays_r,getD_r];exact hb1) (fun j hj=>by
    rcases Nat.lt_or_ge j a.length with h5|h5
    · rw [plays_l L a b (by omega),getD_l a b h5];exact ht1 j h5
    · obtain ⟨i,rfl⟩ : ∃ i,j = a.length + i:=⟨j - a.length,by omega⟩;rw [plays_r,getD_r];exact ht i (by omega))
  rw [plays_r,getD_r] at hd2;have hd3:=doBad_c (κ:=0) (κ':=0) (k:=1) (yP L a a.length) b hla (by omega) hfb (by rw [h1]) q hq hb1 ht;obtain ⟨n,hn⟩ : ∃ n,oneN (yP (yP L a a.length) b q) (b.getD q ((0 : Int),(0 : Int),([] : List Fld))) = n:=⟨_,rfl⟩;rw [hn] at hd2 hd3;refine qS (rs:=[6]) Tryz.func6 rfl rfl rfl teOk rfl ?_;refine qC ?_;refine qB ?_;refine qC ?_;refine qC ?_;refine qB ?_;refine Or.inl ?_;refine zai (rfl) ?_;refine zei _ (zai (alive9_c) ?_);refine qK rfl (fun h20=>?_) (fun h20=>?_)
  ·try simp only [Bool.not_eq_true'] at h20
   try simp only [zds] at h20
   simp at h20
  ·try simp only [Bool.not_eq_false'] at h20
   try simp only [zds] at h20
   refine qM ?_;refine qC ?_;refine qC ?_;refine qB ?_;refine zai (fun h=>trivial) ?_;refine Or.inl ?_;refine zai (rfl) ?_;refine zei _ (zai (fun h=>⟨⟨⟨h,trivial⟩,trivial⟩,hva⟩) ?_);refine zai (by first|(intro h;rw [h];rfl)|(intro h;cases h)) ?_;refine zai (fun h=>trivial) ?_;refine Or.inl ?_;refine zai (rfl) ?_;refine zei _ (zai (fun h=>⟨⟨⟨h,trivial⟩,trivial⟩,hvb⟩) ?_);refine zai (by first|(intro h;rw [h];rfl)|(intro h;cases h)) ?_;refine qK rfl (fun h31=>?_) (fun h31=>?_)
   ·try simp only [decide_eq_true_eq,Bool.or_eq_true] at h31
    try simp only [zds] at h31
    exfalso
    simp at h31;omega
   ·try simp only [decide_eq_false_iff_not,Bool.or_eq_false_iff,Int.not_lt] at h31
    try simp only [zds] at h31
    refine qM ?_;refine qC ?_;refine qB ?_;refine Or.inr (Or.inl (zei [] (zei [] (zei _ (zei _ (zei _ (zei _ (zei _ (zai (hl) (zai rfl (zai True.intro (zai rfl ?_))))))))))));refine qC ?_;refine qC ?_;refine qB ?_;refine zai (fun h=>trivial) ?_;refine Or.inl ?_;refine zai (rfl) ?_;refine zei _ (zai (fun h=>⟨⟨⟨h,trivial⟩,trivial⟩,hka⟩) ?_);refine zai (fun h=>⟨⟨h,trivial⟩,trivial⟩) ?_;refine zai (by first|(intro h;rw [h];rfl)|(intro h;cases h)) ?_;refine zai (fun h=>trivial) ?_;refine Or.inl ?_;refine zai (rfl) ?_;refine zei _ (zai (fun h=>⟨⟨⟨h,trivial⟩,trivial⟩,hkb⟩) ?_);refine zai (fun h=>⟨⟨h,trivial⟩,trivial⟩) ?_;refine zai (by first|(intro h;rw [h];rfl)|(intro h;cases h)) ?_;refine zai (fun h=>trivial) ?_;refine zai (fun h=>⟨⟨h,trivial⟩,trivial⟩) ?_;refine zai (fun h=>trivial) ?_;refine zai (fun h=>⟨⟨h,trivial⟩,trivial⟩) ?_;refine zai (fun h=>⟨⟨⟨h,trivial⟩,⟨h,trivial⟩,trivial⟩,by first|omega|decide|(simp only [zds];omega)|(have h9:=of_decide_eq_true h;omega)|(simp [gq] at h;omega)⟩) ?_;refine zai (fun h=>⟨⟨h,trivial⟩,trivial⟩) ?_;refine zai (by first|(intro h;rw [h];rfl)|(intro h;cases h)) ?_;refine qK rfl (fun h57=>?_) (fun h57=>?_)
    ·try simp only [decide_eq_true_eq,Bool.not_eq_true',Bool.or_eq_true] at h57
     try simp only [zds] at h57
     simp at h57;omega
    ·try simp only [decide_eq_false_iff_not,Bool.not_eq_false',Bool.or_eq_false_iff,Int.not_lt] at h57
     try simp only [zds] at h57
     refine qM ?_;refine qC ?_;refine qB ?_;refine Or.inr (Or.inr (Or.inr (zei [] (zei [] (zei _ (zei _ (zei _ (zei _ (zei _ (zai (hd1) (zai rfl (zai True.intro (zai rfl ?_)))))))))))));refine qC ?_;refine qB ?_;refine Or.inr (Or.inl (zei [] (zei [] (zei _ (zei _ (zei _ (zei _ (zei _ (zai (how) (zai rfl (zai True.intro (zai rfl ?_))))))))))));refine zai (by first|exact qP (by first|omega|(simp only [List.length_append,List.length_cons,List.length_nil,List.length_map,List.length_take,List.length_drop,List.length_set];omega)|(simp;omega)) (by decide)|omega|assumption|decide|(simp only [zds];omega)|(simp <;> omega)) ?_;refine Or.inr (Or.inr (Or.inl ?_));refine zai rfl ?_;refine zei _ (zai (hd2) ?_);refine qC ?_;refine qC ?_;refine qB ?_;refine qK rfl (fun h76=>?_) (fun h76=>?_)
     ·try simp only [Bool.not_eq_true'] at h76
      try simp only [zds] at h76
      simp at h76
     ·try simp only [Bool.not_eq_false'] at h76
      try simp only [zds] at h76
      refine qM ?_;refine qC ?_;refine qB ?_;refine Or.inr (Or.inr (Or.inl ?_));refine zai rfl ?_;refine zei _ (zai (hd3) ?_);refine qC ?_;refine qC ?_;refine qB ?_;refine qK rfl (fun h94=>?_) (fun h94=>?_)
      ·skip
       refine qC ?_;refine qB ?_;refine zai (fun h=>trivial) ?_;refine Or.inl ?_;refine zai (rfl) ?_;refine zei _ (zai (fun h=>⟨⟨⟨h,trivial⟩,trivial⟩,at_fault (a.length + q : Nat) n⟩) ?_);refine zai (fun h=>trivial) ?_;refine Or.inl ?_;refine zai (rfl) ?_;refine zei _ (zai (fun h=>⟨⟨⟨h,trivial⟩,trivial⟩,at_fault q n⟩) ?_);refine zai (fun h=>trivial) ?_;refine zai (fun h=>⟨⟨h,trivial⟩,trivial⟩) ?_;refine zai (fun h=>⟨⟨⟨h,trivial⟩,⟨h,trivial⟩,trivial⟩,by first|omega|decide|(simp only [zds];omega)|(have h9:=of_decide_eq_true h;omega)|(simp [gq] at h;omega)⟩) ?_;refine zai (fun h=>⟨⟨h,trivial⟩,⟨h,trivial⟩,trivial⟩) ?_;refine zai (by exact fun h=>h) ?_;refine qL ?_
       first|rfl|exact ib_eq (by simp;omega)
      ·try simp only [zbq] at h94
       try simp only [zds] at h94
       simp at h94
theorem Two_ok (s : ByteArray) (a b : List Edt) (hs : ¬ 3000 < s.size) (ha : heavyB a = false) (hb : heavyB b = false) {l : List Itm} (hp : yW s = .inr l) (h0 : chkB a = (-9,0)) (h1 : chkB b = (-9,0)) (h4 : a.length + b.length ≤ 40) (ht1 : ∀ j,j < a.length → oneN (yP (ofT l) a j) (a.getD j ((0 : Int),(0 : Int),([] : List Fld))) = 0) (ht : ∀ j,j < b.length → oneN (yP (yP (ofT l) a a.length) b j) (b.getD j ((0 : Int),(0 : Int),([] : List Fld))) = 0) : qU Tryz.prog 6 [is s,.one (.sl rEdt a),.one (.sl rEdt b)] (ib true):=by
  have hva:=heavy_c a;have hvb:=heavy_c b;rw [ha] at hva;rw [hb] at hvb;obtain ⟨hsa,hma⟩:=heavy_ok ha;obtain ⟨hsb,hmb⟩:=heavy_ok hb;have hfa : ∀ e ∈ a,yV e.2.2:=fun e he=>much_ok (hma e he)
  have hfb : ∀ e ∈ b,yV e.2.2:=fun e he=>much_ok (hmb e he)
  have hl:=lists_ok s (by omega) hp;have hka:=check_c9 (κ:=0) (κ':=0) a hfa (by omega);have hkb:=check_c9 (κ:=0) (κ':=0) b hfb (by omega);rw [h0,erB_z] at hka;rw [h1,erB_z] at hkb;have hcab : (chkB (a ++ b)).2 = 0:=chkB_app (by rw [h0]) (by rw [h1]) h4;have hfab : ∀ e ∈ a ++ b,yV e.2.2:=fun e he=>(List.mem_append.1 he).elim (hfa e) (hfb e)
  have hlk:=of_lok (by omega) hp;have hgd:=ofT_gd hp;have hdo : ∀ e ∈ a,e.2.2.length ≤ 1000000:=fun e he=>Nat.le_trans (hfa e he).1 (by decide)
  have how:=ownV_o a hdo (by omega);obtain ⟨L,hL⟩ : ∃ L,ofT l = L:=⟨_,rfl⟩;rw [hL] at hlk hgd hl;have hla:=plays_ok hlk hfa a.length (Nat.le_refl _);have hlb:=plays_ok hla hfb b.length (Nat.le_refl _);rw [hL] at ht ht1;have hd1:=(doOkV_o (κ:=0) (κ':=0) (k:=1) L a hlk (by omega) hfa (by rw [h0]) ht1).x;have hd2:=(doOkV_o (κ:=1) (κ':=0) (k:=1) L (a ++ b) hlk (by rw [List.length_append];omega) hfab hcab (fun j hj=>by
    rcases Nat.lt_or_ge j a.length with h5|h5
    · rw [plays_l L a b (by omega),getD_l a b h5];exact ht1 j h5
    · obtain ⟨i,rfl⟩ : ∃ i,j = a.length + i:=⟨j - a.length,by omega⟩;rw [plays_r,getD_r];exact ht i (by rw [List.length_append] at hj;omega))).x
  rw [List.length_append,plays_r,idsT_app] at hd2;have hd3:=(doOkV_o (κ:=0) (κ':=0) (k:=1) (yP L a a.length) b hla (by omega) hfb (by rw [h1]) ht).x;have hga:=plays_gd hlk hgd hma a.length (Nat.le_refl _);have hgb:=plays_gd hla hga hmb b.length (Nat.le_refl _);obtain ⟨M,hM⟩ : ∃ M,yP (yP L a a.length) b b.length = M:=⟨_,rfl⟩;obtain ⟨N,hN⟩ : ∃ N,yP L a a.length = N:=⟨_,rfl⟩;have hia:=idsT_len L a a.length;have hib:=idsT_len N b b.length;rw [hM] at hlb hgb hd2 hd3;rw [hN] at hla hd1 hd2 hd3;have hMl:=hlb.len;have hMs:=hgb.sz;have htx:=textL_c (k:=1) M.1 M.2.1 M.2.2 (by omega) hlb.f1 (txt_ok (by omega) (by omega));have hst:=stanzasL_c (k:=1) M.1 M.2.1 M.2.2 (by omega) hlb.f1;refine qS (rs:=[6]) Tryz.func6 rfl rfl rfl teOk rfl ?_;refine qC ?_;refine qB ?_;refine qC ?_;refine qC ?_;refine qB ?_;refine Or.inl ?_;refine zai (rfl) ?_;refine zei _ (zai (alive9_c) ?_);refine qK rfl (fun h20=>?_) (fun h20=>?_)
  ·try simp only [Bool.not_eq_true'] at h20
   try simp only [zds] at h20
   simp at h20
  ·try simp only [Bool.not_eq_false'] at h20
   try simp only [zds] at h20
   refine qM ?_;refine qC ?_;refine qC ?_;refine qB ?_;refine zai (fun h=>trivial) ?_;refine Or.inl ?_;refine zai (rfl) ?_;refine zei _ (zai (fun h=>⟨⟨⟨h,trivial⟩,trivial⟩,hva⟩) ?_);refine zai (by first|(intro h;rw [h];rfl)|(intro h;cases h)) ?_;refine zai (fun h=>trivial) ?_;refine Or.inl ?_;refine zai (rfl) ?_;refine zei _ (zai (fun h=>⟨⟨⟨h,trivial⟩,trivial⟩,hvb⟩) ?_);refine zai (by first|(intro h;rw [h];rfl)|(intro h;cases h)) ?_;refine qK rfl (fun h31=>?_) (fun h31=>?_)
   ·try simp only [decide_eq_true_eq,Bool.or_eq_true] at h31
    try simp only [zds] at h31
    exfalso
    simp at h31;omega
   ·try simp only [decide_eq_false_iff_not,Bool.or_eq_false_iff,Int.not_lt] at h31
    try simp only [zds] at h31
    refine qM ?_;refine qC ?_;refine qB ?_;refine Or.inr (Or.inl (zei [] (zei [] (zei _ (zei _ (zei _ (zei _ (zei _ (zai (hl) (zai rfl (zai True.intro (zai rfl ?_))))))))))));refine qC ?_;refine qC ?_;refine qB ?_;refine zai (fun h=>trivial) ?_;refine Or.inl ?_;refine zai (rfl) ?_;refine zei _ (zai (fun h=>⟨⟨⟨h,trivial⟩,trivial⟩,hka⟩) ?_);refine zai (fun h=>⟨⟨h,trivial⟩,trivial⟩) ?_;refine zai (by first|(intro h;rw [h];rfl)|(intro h;cases h)) ?_;refine zai (fun h=>trivial) ?_;refine Or.inl ?_;refine zai (rfl) ?_;refine zei _ (zai (fun h=>⟨⟨⟨h,trivial⟩,trivial⟩,hkb⟩) ?_);refine zai (fun h=>⟨⟨h,trivial⟩,trivial⟩) ?_;refine zai (by first|(intro h;rw [h];rfl)|(intro h;cases h)) ?_;refine zai (fun h=>trivial) ?_;refine zai (fun h=>⟨⟨h,trivial⟩,trivial⟩) ?_;refine zai (fun h=>trivial) ?_;refine zai (fun h=>⟨⟨h,trivial⟩,trivial⟩) ?_;refine zai (fun h=>⟨⟨⟨h,trivial⟩,⟨h,trivial⟩,trivial⟩,by first|omega|decide|(simp only [zds];omega)|(have h9:=of_decide_eq_true h;omega)|(simp [gq] at h;omega)⟩) ?_;refine zai (fun h=>⟨⟨h,trivial⟩,trivial⟩) ?_;refine zai (by first|(intro h;rw [h];rfl)|(intro h;cases h)) ?_;refine qK rfl (fun h57=>?_) (fun h57=>?_)
    ·try simp only [decide_eq_true_eq,Bool.not_eq_true',Bool.or_eq_true] at h57
     try simp only [zds] at h57
     simp at h57;omega
    ·try simp only [decide_eq_false_iff_not,Bool.not_eq_false',Bool.or_eq_false_iff,Int.not_lt] at h57
     try simp only [zds] at h57
     refine qM ?_;refine qC ?_;refine qB ?_;refine Or.inr (Or.inr (Or.inr (zei [] (zei [] (zei _ (zei _ (zei _ (zei _ (zei _ (zai (hd1) (zai rfl (zai True.intro (zai rfl ?_)))))))))))));refine qC ?_;refine qB ?_;refine Or.inr (Or.inl (zei [] (zei [] (zei _ (zei _ (zei _ (zei _ (zei _ (zai (how) (zai rfl (zai True.intro (zai rfl ?_))))))))))));refine zai (by first|exact qP (by first|omega|(simp only [List.length_append,List.length_cons,List.length_nil,List.length_map,List.length_take,List.length_drop,List.length_set];omega)|(simp;omega)) (by decide)|omega|assumption|decide|(simp only [zds];omega)|(simp <;> omega)) ?_;refine Or.inr (Or.inr (Or.inr (zei [] (zei [] (zei _ (zei _ (zei _ (zei _ (zei _ (zai (hd2) (zai rfl (zai True.intro (zai rfl ?_)))))))))))));refine qC ?_;refine qC ?_;refine qB ?_;refine qK rfl (fun h76=>?_) (fun h76=>?_)
     ·try simp only [Bool.not_eq_true'] at h76
      try simp only [zds] at h76
      simp at h76
     ·try simp only [Bool.not_eq_false'] at h76
      try simp only [zds] at h76
      refine qM ?_;refine qC ?_;refine qB ?_;refine Or.inr (Or.inr (Or.inr (zei [] (zei [] (zei _ (zei _ (zei _ (zei _ (zei _ (zai (hd3) (zai rfl (zai True.intro (zai rfl ?_)))))))))))));refine qC ?_;refine qC ?_;refine qB ?_;refine qK rfl (fun h94=>?_) (fun h94=>?_)
      ·try simp only [Bool.not_eq_true'] at h94
       try simp only [zds] at h94
       simp at h94
      ·try simp only [Bool.not_eq_false'] at h94
       try simp only [zds] at h94
       refine qM ?_;refine qC ?_;refine yM [13] ?_;refine qB ?_;refine zai (fun h=>trivial) ?_;refine zai (fun h=>trivial) ?_;refine zai (fun h=>trivial) ?_;refine zai (by first|rfl|decide|simp) (zai (by repeat' (first|exact True.intro|apply zai|rfl|decide|simp)) ?_);refine zai (by first|exact qP (by first|omega|(simp only [List.length_append,List.length_cons,List.length_nil,List.length_map,List.length_take,List.length_drop,List.length_set];omega)|(simp;omega)) (by decide)|omega|assumption|decide|(simp only [zds];omega)|(simp <;> omega)) ?_;refine Or.inl ?_;refine zai (rfl) ?_;refine zei _ (zai (fun h=>⟨⟨⟨h,trivial⟩,trivial⟩,ints9_c _ _⟩) ?_);refine zai (by exact fun h=>h) ?_;refine zai (fun h=>trivial) ?_;refine Or.inl ?_;refine zai (rfl) ?_;refine zei _ (zai (fun h=>⟨⟨⟨h,trivial⟩,trivial⟩,htx⟩) ?_);refine zai (fun h=>trivial) ?_;refine Or.inl ?_;refine zai (rfl) ?_;refine zei _ (zai (fun h=>⟨⟨⟨h,trivial⟩,trivial⟩,htx⟩) ?_);refine zai (fun h=>⟨⟨h,trivial⟩,⟨h,trivial⟩,trivial⟩) ?_;refine zai (by exact fun h=>h) ?_;refine zai (fun h=>trivial) ?_;refine Or.inl ?_;refine zai (rfl) ?_;refine zei _ (zai (fun h=>⟨⟨⟨h,trivial⟩,trivial⟩,hst⟩) ?_);refine zai (fun h=>trivial) ?_;refine Or.inl ?_;refine zai (rfl) ?_;refine zei _ (zai (fun h=>⟨⟨⟨h,trivial⟩,trivial⟩,hst⟩) ?_);refine Or.inl ?_;refine zai (rfl) ?_;refine zei _ (zai (fun h=>⟨⟨⟨h,trivial⟩,⟨h,trivial⟩,trivial⟩,stz7_c (κ:=0) (κ':=0) _ _⟩) ?_);refine zai (by exact fun h=>h) ?_;refine qL ?_;exact ib_eq (by simp;rfl)
theorem EditTwo_c (s : ByteArray) (a b : List Edt) : qU Tryz.prog 6 [is s,.one (.sl rEdt a),.one (.sl rEdt b)] (ib true):=by
  by_cases h : 3000 < s.size ∨ heavyB a = true ∨ heavyB b = true
  · exact Two_big s a b h
  · have hs : ¬ 3000 < s.size:=fun e=>h (.inl e)
    have ha : heavyB a = false:=by simpa using fun e=>h (.inr (.inl e))
    have hb : heavyB b = false:=by simpa using fun e=>h (.inr (.inr e))
    rcases hp : yW s with e|l
    · exact Two_err s a b hs ha hb hp
    · by_cases hg : ((chkB a).2 = 0 ∧ (chkB b).2 = 0) ∧ a.length + b.length ≤ 40
      · obtain ⟨⟨h0,h1⟩,h4⟩:=hg;have h0':=chkB_good h0;have h1':=chkB_good h1;rcases doR_cases (ofT l) a h0 with ⟨_,ht⟩|⟨q,hq,_,hb1,ht⟩
        · rcases doR_cases (yP (ofT l) a a.length) b h1 with ⟨_,ht2⟩|⟨q,hq,_,hb1,ht2⟩
          · exact Two_ok s a b hs ha hb hp h0' h1' h4 ht ht2
          · exact Two_no2 s a b hs ha hb hp h0' h1' h4 ht q hq hb1 ht2
        · exact Two_no1 s a b hs ha hb hp h0' h1' h4 q hq hb1 ht
      · exact Two_chk s a b hs ha hb hp hg
end Q
end Ab
end Go.Proofs.YtbfhpimmlehkcaaGreatDoor
namespace Go.Proofs.YtbfhpimmlehkcaaGreatDoor
open Go.RowKit
namespace Ab
set_option maxRecDepth 100000
theorem o_str : Opens Tryz.prog 9 .str:=opens_str Tryz.underlying9 (by kernel_rfl)
theorem o_int : Opens Tryz.prog 3 (.int .i64):=opens_int Tryz.underlying3 (by kernel_rfl)
theorem o_field : Opens Tryz.prog 85 (.st .str .str):=opens_st Tryz.underlying85 (by kernel_rfl) (.cons rfl o_str (.one rfl o_str))
theorem o_fields : Opens Tryz.prog 40 (.sl (.st .str .str)):=opens_sl (by decide) Tryz.underlying40 (by kernel_rfl) o_field
theorem maxAt {W : World} (h : W.ShapedOpen Tryz.prog) : MaxCell W:=cell_of_shapedOpen_int (g:=1) (t:=3) (zero:=#[.int .i64 0]) h (of_decide_eq_true (by kernel_rfl)) (by kernel_rfl) rfl (by kernel_rfl) (by kernel_rfl) Tryz.underlying3
theorem lt_of_cell0 {W : World} {b : Nat} {v : Value} (h : W.cell? ⟨b,0,none⟩ = some v) : b < W.heap.size:=by
  rcases Nat.lt_or_ge b W.heap.size with h1|h1
  · exact h1
  · exfalso
    simp only [World.cell?,Array.getElem?_eq_none h1] at h;cases h
end Ab
end Go.Proofs.YtbfhpimmlehkcaaGreatDoor
namespace Go.Proofs.YtbfhpimmlehkcaaGreatDoor
open Go.RowKit
namespace Ab
set_option maxRecDepth 100000
theorem o_edit : Opens Tryz.prog 61 (.st (.int .i64) (.st (.int .i64) (.sl (.st .str .str)))):=opens_st Tryz.underlying61 (by kernel_rfl) (.cons rfl o_int (.cons rfl o_int (.one rfl o_fields)))
theorem o_edits : Opens Tryz.prog 78 (.sl (.st (.int .i64) (.st (.int .i64) (.sl (.st .str .str))))):=opens_sl (by decide) Tryz.underlying78 (by kernel_rfl) o_edit
theorem open_edits {H : Type} {enc : TypeId × Value → H} {W : World} {base : Nat} {v : Value} {d : DataW H} {p : List MemPlace} (hv : Value.okWide Tryz.prog W .any base 78 v) (h : DataW.Trod enc Tryz.prog W 0 (fun _=>true) true 78 v d p) :
    ∃ xs,(C.sl (.st (.int .i64) (.st (.int .i64) (.sl (.st .str .str)))) xs).rep AllOk yT W v:=open_sl Tryz.underlying78 o_edits hv h
end Ab
end Go.Proofs.YtbfhpimmlehkcaaGreatDoor
namespace Go.Proofs.YtbfhpimmlehkcaaGreatDoor
open Go.RowKit
namespace Ab
set_option maxRecDepth 100000
theorem et : Tryz.prog.globalNamed "errors.errorType" = some 0 := by kernel_rfl
theorem rt : (Tryz.prog.cutTypes.find? (·.1 == "internal/reflectlite.rtype")).map (·.2) = some 284 := by kernel_rfl
theorem oneRow : ((List.range Tryz.prog.types.size).filter fun t=>Tryz.prog.rowNamed t [101,114,114,111,114]) = [26]:=by kernel_rfl
theorem errHandle : typeHandle Tryz.prog 26 = .pointer (some ⟨3 + 1,26,none⟩):=by kernel_rfl
abbrev errDatum : String × DataW Unit := ("errors.errorType", .iface "internal/reflectlite.rtype" (.agg [.ptr (.lit (.string [101, 114, 114, 111, 114]))]))
theorem errAt {W : World} {l : List (String × DataW Unit)} (hm : errDatum ∈ l) (h : laidMetH Tryz.prog l W) : W.cell? ⟨0,0,none⟩ = some (.iface 284 (.agg #[.pointer (some ⟨3 + 1,26,none⟩)])):=by
  obtain ⟨name,u,ty,e1,e2,e3,e4,e5⟩:=(laidMetH_iff.1 h).2 _ (List.mem_filter.2 ⟨hm,rfl⟩);have en : name = [101,114,114,111,114]:=(Option.some.inj e1).symm;subst en;obtain rfl:=Option.some.inj (rt.symm.trans e2);have hm : ty ∈ (List.range Tryz.prog.types.size).filter fun t=>Tryz.prog.rowNamed t [101,114,114,111,114]:=List.mem_filter.2 ⟨List.mem_range.2 e3,e4⟩
  rw [oneRow] at hm;obtain rfl:=List.mem_singleton.1 hm;rw [errHandle] at e5
  simpa using World.var?_cell et e5 0
theorem globAtH {W : World} (h : W.ShapedOpen Tryz.prog) {l : List (String × DataW Unit)} (hm : errDatum ∈ l) (hL : laidMetH Tryz.prog l W) : GlobAt AllOk W:=by
  have hc : GlobCell W:=⟨maxAt h,errAt hm hL⟩;refine ⟨fun _ _=>trivial,?_,hc⟩;obtain ⟨⟨m,h1⟩,h2⟩:=hc;have h1:=lt_of_cell0 h1;have h2:=lt_of_cell0 h2;unfold nGlob;omega
theorem laidMet_lay {P : Program} {w0 : World} {laid : List (String × DataW Unit)} (args : Array Value)
    (hf : w0.layFits P laid [] = true) (hi : w0.layIfaces P laid (w0.layVars P laid) = true) : laidMet P laid ((w0.layVars P laid).forCall (fun _ _=>0) ⟨#[],args,[]⟩).memory:=by
  have e1 : (laid.filter fun x=>(laid.map (·.1)).contains x.1) = laid:=List.filter_eq_self.2 fun x hx=>List.contains_iff_mem.2 (List.mem_map.2 ⟨x,hx,rfl⟩)
  have e2 : (laid.filter fun x=>!(laid.map (·.1)).contains x.1) = []:=List.filter_eq_nil_iff.2 fun x hx=>by rw [List.contains_iff_mem.2 (List.mem_map.2 ⟨x,hx,rfl⟩)];simp
  have h : laidMet P laid (w0.layVars P laid):=laidMet_layVars (w0:=w0) (laid.map (·.1)) [] (by rw [e1]) (by rw [e1];exact hf) (by rw [e1];exact hi) (by rw [e2];exact LaidIn.none);exact h.of_heap (by simp [World.memory,World.forCall,Input.heap])
noncomputable def errWorld (os : Os) : World :=
  let w0:=World.holding Tryz.prog os ⟨#[],#[],[]⟩
  { w0 with heap:=w0.heap.modify 0 fun
      | .cells _ t frozen=>.cells #[.iface 284 (.agg #[.pointer (some ⟨3 + 1,26,none⟩)])] t frozen
      | o=>o }
noncomputable def laidWit (os : Os) (l : List (String × DataW Unit)) : World:=(errWorld os).layVars Tryz.prog (l.filter fun x=>x.2.handleName?.isNone)
theorem laidWit_os (os : Os) (l : List (String × DataW Unit)) : (laidWit os l).os = os:=World.layVars_os _ _ _
end Ab
end Go.Proofs.YtbfhpimmlehkcaaGreatDoor
