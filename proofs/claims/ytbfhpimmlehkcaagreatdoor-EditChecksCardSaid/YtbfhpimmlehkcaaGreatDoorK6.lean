/-
  The texts of this proof, joined: abstract values, the library, the functions of the program and what they compute (part 6). No condition.
-/
import Derived.Shelf.Vars
import Derived.KernelRfl
import Derived.LaidHandle
import Derived.LaidSub
import Derived.LaidMore
import Derived.Lay
import Derived.FnData
import Derived.Test.YtbfhpimmlehkcaaGreatDoorK1
import Derived.Test.YtbfhpimmlehkcaaGreatDoorK2
import Derived.Test.YtbfhpimmlehkcaaGreatDoorK3
import Derived.Test.YtbfhpimmlehkcaaGreatDoorK4
import Derived.Test.YtbfhpimmlehkcaaGreatDoorK5
namespace Go.Proofs.YtbfhpimmlehkcaaGreatDoor
open Go.RowKit
namespace Ab
set_option maxRecDepth 100000
abbrev rEdt3 : Rd Edt:=rEdt.kd 3
namespace Q
theorem equalF_c (a b : List Fld) : qW Tryz.prog 85 [.one (.sl rFld a),.one (.sl rFld b)] (ib (decide (a = b))):=by
  refine qT (rs:=[4]) Tryz.func85 rfl rfl rfl teOk rfl ?_;refine qC ?_;refine qB ?_;refine qC ?_;refine qC ?_;refine qB ?_;intro l1_1
  try simp only [zds] at l1_1
  intro l1_3
  try simp only [zds] at l1_3
  refine qK rfl (fun h10=>?_) (fun h10=>?_)
  ·try simp only [decide_eq_false_iff_not,Bool.not_eq_true'] at h10
   try simp only [zds] at h10
   refine qC ?_;refine qB ?_;refine qL ?_;exact ib_eq (decide_eq_false (fun e=>by rw [e] at h10;omega)).symm
  ·try simp only [decide_eq_true_eq,Bool.not_eq_false'] at h10
   try simp only [zds] at h10
   refine qM ?_;refine qC ?_;refine qC ?_;refine qB ?_;intro l3_1
   try simp only [zds] at l3_1
   refine qN ?_;refine qS (fun (i : Nat)=>i ≤ a.length ∧ a.take i = b.take i) (fun (i : Nat)=>[(0,.one (.sl rFld a)),(1,.one (.sl rFld b)),(12,ii .i64 a.length),(13,ii .i64 i)]) (fun (i : Nat)=>[]) 0 (fun (i : Nat)=>a.length - i) 0 (⟨Nat.zero_le _,by simp⟩) (qQ ⟨rfl,rfl,rfl,rfl⟩ trivial rfl) ?_;intro i hI0;obtain ⟨hi,ht⟩:=hI0;refine qC ?_;refine qB ?_;refine qC ?_;refine qK rfl (fun h14=>?_) (fun h14=>?_)
   ·try simp only [decide_eq_true_eq] at h14
    try simp only [zds] at h14
    have hla : i < a.length:=(by omega);have hlb : i < b.length:=(by omega);refine qM ?_;refine qC ?_;refine qN ?_;refine qC ?_;refine qB ?_;refine qC ?_;refine acode_draw rfl (by kernel_rfl) ?_;refine zai (by first|omega|assumption|decide|(simp only [zds];omega)|(simp <;> omega)) ?_;refine zai (by first|omega|assumption|decide|(simp only [zds];omega)|(simp <;> omega)) ?_;refine zai (by rfl) ?_;refine qK rfl (fun h24=>?_) (fun h24=>?_)
    ·try simp only [decide_eq_false_iff_not,Bool.not_eq_true',Bool.and_eq_false_iff] at h24
     try simp only [Int.toNat_natCast,qG,qE] at h24
     refine qC ?_;refine qB ?_;refine qL ?_;exact ib_eq (decide_eq_false (ne_at (i:=i) (ByteArray.empty,ByteArray.empty) (fun e=>h24.elim (fun h=>h (congrArg Prod.fst e)) (fun h=>h (congrArg Prod.snd e))))).symm
    ·try simp only [decide_eq_true_eq,Bool.and_eq_true,Bool.not_eq_false'] at h24
     try simp only [Int.toNat_natCast,qG,qE] at h24
     refine qM ?_;refine qB ?_;refine zai (by first|omega|assumption|decide|(simp only [zds];omega)|(simp <;> omega)) ?_;exact ⟨i + 1,⟨by omega,list_ext_take (ByteArray.empty,ByteArray.empty) hla hlb ht (Prod.ext h24.1 h24.2)⟩,by first|omega|(simp <;> omega),qQ ⟨rfl,rfl,rfl,(yE (by omega))⟩ trivial rfl⟩
   ·try simp only [decide_eq_false_iff_not,Int.not_lt] at h14
    try simp only [zds] at h14
    refine qY ?_;refine qC ?_;refine qB ?_;refine qL ?_;exact ib_eq (decide_eq_true (by rw [List.take_of_length_le (by omega),List.take_of_length_le (by omega)] at ht;exact ht)).symm
theorem same1_c (x y : Edt) : qW Tryz.prog 84 [.agg (toL rEdt x),.agg (toL rEdt y)] (ib (decide (x = y))):=by
  have he:=equalF_c x.2.2 y.2.2;refine qT (rs:=[4]) Tryz.func84 rfl rfl rfl teOk rfl ?_;refine qC ?_;refine qB ?_;refine qC ?_;refine qB ?_;refine zai (fun h=>trivial) ?_;refine zai (fun h=>⟨⟨h,trivial⟩,trivial⟩) ?_;refine zai (fun h=>trivial) ?_;refine zai (fun h=>⟨⟨h,trivial⟩,trivial⟩) ?_;refine zai (fun h=>⟨⟨h,trivial⟩,⟨h,trivial⟩,trivial⟩) ?_;refine zai (by exact fun h=>h) ?_;refine zai (fun h=>trivial) ?_;refine zai (fun h=>⟨⟨h,trivial⟩,trivial⟩) ?_;refine zai (fun h=>trivial) ?_;refine zai (fun h=>⟨⟨h,trivial⟩,trivial⟩) ?_;refine Or.inl ?_;refine zai (rfl) ?_;refine zei _ (zai (fun h=>⟨⟨⟨h,trivial⟩,⟨h,trivial⟩,trivial⟩,he⟩) ?_);refine zai (by exact fun h=>h) ?_;refine qL ?_;refine ib_eq ?_;obtain ⟨x1,x2,x3⟩:=x;obtain ⟨y1,y2,y3⟩:=y;rw [Bool.eq_iff_iff];simp [and_assoc]
theorem equalE_c (a b : List Edt) : qW Tryz.prog 83 [.one (.sl rEdt a),.one (.sl rEdt b),.one (.lit (.func (.func 84) #[] #[]))] (ib (decide (a = b))):=by
  refine qT (rs:=[6]) Tryz.func83 rfl rfl rfl teOk rfl ?_;refine qC ?_;refine qB ?_;refine qC ?_;refine qC ?_;refine qB ?_;intro l1_1
  try simp only [zds] at l1_1
  intro l1_3
  try simp only [zds] at l1_3
  refine qK rfl (fun h14=>?_) (fun h14=>?_)
  ·try simp only [decide_eq_false_iff_not,Bool.not_eq_true'] at h14
   try simp only [zds] at h14
   refine qC ?_;refine qB ?_;refine qL ?_;exact ib_eq (decide_eq_false (fun e=>by rw [e] at h14;omega)).symm
  ·try simp only [decide_eq_true_eq,Bool.not_eq_false'] at h14
   try simp only [zds] at h14
   refine qM ?_;refine qC ?_;refine qC ?_;refine qB ?_;intro l3_1
   try simp only [zds] at l3_1
   refine qN ?_;refine qS (fun (i : Nat)=>i ≤ a.length ∧ a.take i = b.take i) (fun (i : Nat)=>[(1,.one (.sl rEdt b)),(2,.one (.lit (.func (.func 84) #[] #[]))),(15,.one (.sl rEdt a)),(16,ii .i64 a.length),(17,ii .i64 i)]) (fun (i : Nat)=>[]) 0 (fun (i : Nat)=>a.length - i) 0 (⟨Nat.zero_le _,by simp⟩) (qQ ⟨rfl,rfl,rfl,rfl,rfl⟩ trivial rfl) ?_;intro i hI0;obtain ⟨hi,ht⟩:=hI0;refine qC ?_;refine qB ?_;refine qC ?_;refine qK rfl (fun h18=>?_) (fun h18=>?_)
   ·try simp only [decide_eq_true_eq] at h18
    try simp only [zds] at h18
    have hla : i < a.length:=(by omega);have hlb : i < b.length:=(by omega);refine qM ?_;refine qC ?_;refine qN ?_;refine qC ?_;refine qB ?_;refine zai (by first|omega|assumption|decide|(simp only [zds];omega)|(simp <;> omega)) ?_;refine qC ?_;refine qB ?_;refine zai (by first|omega|assumption|decide|(simp only [zds];omega)|(simp <;> omega)) ?_;refine qC ?_;refine qB ?_;refine Or.inl ?_;refine zai (rfl) ?_;refine zei _ (zai (same1_c (a.getD i ((0 : Int),(0 : Int),([] : List Fld))) (b.getD i ((0 : Int),(0 : Int),([] : List Fld)))) ?_);refine qK rfl (fun h30=>?_) (fun h30=>?_)
    ·try simp only [decide_eq_false_iff_not,Bool.not_eq_true'] at h30
     try simp only [zds] at h30
     refine qC ?_;refine qB ?_;refine qL ?_;exact ib_eq (decide_eq_false (ne_at (i:=i) ((0 : Int),(0 : Int),([] : List Fld)) h30)).symm
    ·try simp only [decide_eq_true_eq,Bool.not_eq_false'] at h30
     try simp only [zds] at h30
     refine qM ?_;refine qB ?_;refine zai (by first|omega|assumption|decide|(simp only [zds];omega)|(simp <;> omega)) ?_;exact ⟨i + 1,⟨by omega,list_ext_take ((0 : Int),(0 : Int),([] : List Fld)) hla hlb ht h30⟩,by first|omega|(simp <;> omega),qQ ⟨rfl,rfl,rfl,rfl,(yE (by omega))⟩ trivial rfl⟩
   ·try simp only [decide_eq_false_iff_not,Int.not_lt] at h18
    try simp only [zds] at h18
    refine qY ?_;refine qC ?_;refine qB ?_;refine qL ?_;exact ib_eq (decide_eq_true (by rw [List.take_of_length_le (by omega),List.take_of_length_le (by omega)] at ht;exact ht)).symm
theorem same_c (a b : List Edt) : qW Tryz.prog 46 [.one (.sl rEdt a),.one (.sl rEdt b)] (ib (decide (a = b))):=by
  refine qT (rs:=[4]) Tryz.func46 rfl rfl rfl teOk rfl ?_;refine qC ?_;refine qB ?_;refine qC ?_;refine qB ?_;refine Or.inl ?_;refine zai (rfl) ?_;refine zei _ (zai (equalE_c a b) ?_);refine qL ?_;rfl
theorem copy3_o (s : List Edt) (hf : ∀ e ∈ s,e.2.2.length ≤ 1000000) (hl : s.length ≤ 1000000) : qU Tryz.prog 42 [.one (.sl rEdt s)] [] 0 (.one (.vec 0)) [(0,.vec 61 rEdt3 s)] 1:=by
  refine qR (rs:=[2]) Tryz.func42 rfl rfl rfl (mapTe_ok (q:=3) teOk) (by decide) rfl ?_;refine qC ?_;refine qB ?_;refine qC ?_;refine qB ?_;refine qC ?_;refine qC ?_;refine acode_nilvec 3 61 rEdt3 rfl ?_;refine qB ?_;intro l2_1
  try simp only [zds] at l2_1
  refine qN ?_;refine qS (fun (i : Nat)=>i ≤ s.length) (fun (i : Nat)=>[(3,.one (.vec 0)),(6,.one (.sl rEdt s)),(7,ii .i64 s.length),(8,ii .i64 i)]) (fun (i : Nat)=>[(0,.vec 61 rEdt3 (s.take i))]) 1 (fun (i : Nat)=>s.length - i) 0 (Nat.zero_le _) (qQ ⟨rfl,rfl,rfl,rfl⟩ rfl rfl) ?_;intro i hI0;refine qC ?_;refine qB ?_;refine qC ?_;refine qK rfl (fun h9=>?_) (fun h9=>?_)
  ·try simp only [decide_eq_true_eq] at h9
   try simp only [zds] at h9
   have hil : i < s.length:=(by omega);refine qM ?_;refine qC ?_;refine qN ?_;refine qC ?_;refine qB ?_;refine zai (by first|omega|assumption|decide|(simp only [zds];omega)|(simp <;> omega)) ?_;refine qC ?_;refine qB ?_;refine Or.inl ?_;refine zai (rfl) ?_;refine zei _ (zai (clone3_c (s.getD i ((0 : Int),(0 : Int),([] : List Fld))).2.2 (hf _ (yA hil ((0 : Int),(0 : Int),([] : List Fld))))) ?_);refine qB ?_;refine zai (by exact qV (show (s.take i).length + 1 ≤ 1000000000 by rw [List.length_take];omega) (by decide)) ?_;refine qB ?_;refine zai (by first|omega|assumption|decide|(simp only [zds];omega)|(simp <;> omega)) ?_;exact ⟨i + 1,by omega,by first|omega|(simp <;> omega),qQ ⟨rfl,rfl,rfl,(yE (by omega))⟩ (yV (by rw [← yC ((0 : Int),(0 : Int),([] : List Fld)) hil];try exact rfl)) rfl⟩
  ·try simp only [decide_eq_false_iff_not,Int.not_lt] at h9
   try simp only [zds] at h9
   refine qY ?_;refine qC ?_;refine qB ?_;refine qL ?_;rw [List.take_of_length_le (by omega)];exact ⟨rfl,rfl,rfl⟩
def szF : List Fld → Nat
  | []=>0
  | f :: r=>f.1.size + f.2.size + szF r
def szE : List Edt → Nat
  | []=>0
  | e :: r=>szF e.2.2 + szE r
theorem szF_app : ∀ (a b : List Fld),szF (a ++ b) = szF a + szF b
  | [],b=>by simp [szF]
  | f :: r,b=>by simp only [List.cons_append,szF,szF_app r b];omega
theorem szE_app : ∀ (a b : List Edt),szE (a ++ b) = szE a + szE b
  | [],b=>by simp [szE]
  | f :: r,b=>by simp only [List.cons_append,szE,szE_app r b];omega
theorem szF_snoc {l : List Fld} {i : Nat} (h : i < l.length) : szF (l.take (i + 1)) = szF (l.take i) + ((l.getD i (ByteArray.empty,ByteArray.empty)).1.size + (l.getD i (ByteArray.empty,ByteArray.empty)).2.size):=by
  rw [← yC (ByteArray.empty,ByteArray.empty) h,szF_app];simp [szF]
theorem szE_snoc {l : List Edt} {i : Nat} (h : i < l.length) : szE (l.take (i + 1)) = szE (l.take i) + szF (l.getD i ((0 : Int),(0 : Int),([] : List Fld))).2.2:=by
  rw [← yC ((0 : Int),(0 : Int),([] : List Fld)) h,szE_app];simp [szE]
theorem szF_le : ∀ {l : List Fld},(∀ f ∈ l,f.1.size ≤ 1000000 ∧ f.2.size ≤ 1000000) → szF l ≤ 2000000 * l.length
  | [],_=>by simp [szF]
  | f :: r,h=>by
    have h1:=h f (by simp);have h2:=szF_le (l:=r) (fun g hg=>h g (by simp [hg]));simp only [szF,List.length_cons];omega
theorem szF_ok {l : List Fld} (h : yO l) (i : Nat) : szF (l.take i) ≤ 2000000000:=by
  have h1:=szF_le (l:=l.take i) (fun f hf=>h.2 f (List.mem_of_mem_take hf));have h2:=h.1;rw [List.length_take] at h1;have : min i l.length ≤ 1000:=by omega
  omega
theorem szE_ok : ∀ {s : List Edt},(∀ e ∈ s,yO e.2.2) → szE s ≤ 2000000000 * s.length
  | [],_=>by simp [szE]
  | e :: r,h=>by
    have h1:=szF_ok (h e (by simp)) e.2.2.length;rw [List.take_length] at h1;have h2:=szE_ok (s:=r) (fun g hg=>h g (by simp [hg]));simp only [szE,List.length_cons];omega
theorem szE_tk {s : List Edt} (h : ∀ e ∈ s,yO e.2.2) (hl : s.length ≤ 1000) (i : Nat) : szE (s.take i) ≤ 2000000000000:=by
  have h1:=szE_ok (s:=s.take i) (fun e he=>h e (List.mem_of_mem_take he));rw [List.length_take] at h1;have : min i s.length ≤ 1000:=by omega
  omega
theorem size_c {κ κ' : Nat} (s : List Edt) (hf : ∀ e ∈ s,yO e.2.2) (hl : s.length ≤ 1000) : qW Tryz.prog 45 [.one (.slk κ (rEdk κ') s)] (ii .i64 (szE s)):=by
  refine qT (rs:=[2]) Tryz.func45 rfl rfl rfl teOk rfl ?_;refine qC ?_;refine qB ?_;refine qC ?_;refine qB ?_;refine qC ?_;refine qC ?_;refine qB ?_;intro l2_1
  try simp only [zds] at l2_1
  refine qN ?_;refine qS (fun (i : Nat)=>i ≤ s.length) (fun (i : Nat)=>[(3,ii .i64 (szE (s.take i))),(8,.one (.slk κ (rEdk κ') s)),(9,ii .i64 s.length),(10,ii .i64 i)]) (fun (i : Nat)=>[]) 0 (fun (i : Nat)=>s.length - i) 0 (Nat.zero_le _) (qQ ⟨rfl,rfl,rfl,rfl⟩ trivial rfl) ?_;intro i hI0;refine qC ?_;refine qB ?_;refine qC ?_;refine qK rfl (fun h11=>?_) (fun h11=>?_)
  ·try simp only [decide_eq_true_eq] at h11
   try simp only [zds] at h11
   have hil : i < s.length:=(by omega);have hfe:=hf _ (yA hil ((0 : Int),(0 : Int),([] : List Fld)));have hse:=szE_tk hf hl i;have hsn:=szE_snoc hil;have hfl:=hfe.1;refine qM ?_;refine qC ?_;refine qN ?_;refine qC ?_;refine qB ?_;refine zai (by first|omega|assumption|decide|(simp only [zds];omega)|(simp <;> omega)) ?_;refine qC ?_;refine qB ?_;intro l5_2
   try simp only [Int.toNat_natCast,qG,qF] at l5_2
   refine qN ?_;refine qS (fun (j : Nat)=>j ≤ (s.getD i ((0 : Int),(0 : Int),([] : List Fld))).2.2.length) (fun (j : Nat)=>[(3,ii .i64 ((szE (s.take i) : Int) + (szF ((s.getD i ((0 : Int),(0 : Int),([] : List Fld))).2.2.take j) : Int))),(8,.one (.slk κ (rEdk κ') s)),(9,ii .i64 s.length),(10,ii .i64 i),(15,.one (.slk κ' rFld (s.getD i ((0 : Int),(0 : Int),([] : List Fld))).2.2)),(16,ii .i64 (s.getD i ((0 : Int),(0 : Int),([] : List Fld))).2.2.length),(17,ii .i64 j)]) (fun (j : Nat)=>[]) 0 (fun (j : Nat)=>(s.getD i ((0 : Int),(0 : Int),([] : List Fld))).2.2.length - j) 0 (Nat.zero_le _) (qQ ⟨rfl,rfl,rfl,rfl,rfl,rfl,rfl⟩ trivial rfl) ?_;intro j hI2;refine qC ?_;refine qB ?_;refine qC ?_;refine qK rfl (fun h18=>?_) (fun h18=>?_)
   ·try simp only [decide_eq_true_eq] at h18
    try simp only [zds] at h18
    have hjl : j < (s.getD i ((0 : Int),(0 : Int),([] : List Fld))).2.2.length:=(by omega);have hsf:=szF_ok hfe j;have hsm:=szF_snoc hjl;have hfb:=hfe.2 _ (yA hjl (ByteArray.empty,ByteArray.empty));refine qM ?_;refine qC ?_;refine qN ?_;refine qC ?_;refine qB ?_;refine zai (by first|omega|assumption|decide|(simp only [zds];omega)|(simp <;> omega)) ?_;refine qB ?_;refine zai (by first|omega|assumption|decide|(simp only [Int.toNat_natCast,qG,qE];omega)|(simp <;> omega)) ?_;refine zai (by first|omega|assumption|decide|(simp only [Int.toNat_natCast,qG,qE];omega)|(simp <;> omega)) ?_;refine qB ?_;refine zai (by first|omega|assumption|decide|(simp only [zds];omega)|(simp <;> omega)) ?_;exact ⟨j + 1,by omega,by first|omega|(simp <;> omega),qQ ⟨(yE (by (try simp only [Int.toNat_natCast,qG,qE]);omega)),rfl,rfl,rfl,rfl,rfl,(yE (by omega))⟩ trivial rfl⟩
   ·try simp only [decide_eq_false_iff_not,Int.not_lt] at h18
    try simp only [zds] at h18
    refine qY ?_;have e1 : (s.getD i ((0 : Int),(0 : Int),([] : List Fld))).2.2.take j = (s.getD i ((0 : Int),(0 : Int),([] : List Fld))).2.2:=List.take_of_length_le (by omega);refine qB ?_;refine zai (by first|omega|assumption|decide|(simp only [zds];omega)|(simp <;> omega)) ?_;exact ⟨i + 1,by omega,by first|omega|(simp <;> omega),qQ ⟨(yE (by rw [e1];omega)),rfl,rfl,(yE (by omega))⟩ trivial rfl⟩
  ·try simp only [decide_eq_false_iff_not,Int.not_lt] at h11
   try simp only [zds] at h11
   refine qY ?_;refine qC ?_;refine qB ?_;refine qL ?_;rw [List.take_of_length_le (by omega)];exact rfl
end Q
end Ab
end Go.Proofs.YtbfhpimmlehkcaaGreatDoor
namespace Go.Proofs.YtbfhpimmlehkcaaGreatDoor
open Go.RowKit
namespace Ab
set_option maxRecDepth 100000
abbrev rEdtU : Rd (Int × Int × List (Unit × Unit)):=.st (.int .i64) (.st (.int .i64) (.slk 7 rUnk2))
namespace Q
def unkE (l : List Edt) : List (Int × Int × List (Unit × Unit)):=l.map fun x=>(x.1,x.2.1,x.2.2.map fun _=>((),()))
theorem edt_unk {ok : Oks} {w : World} {cs : List Value} {x : Edt} (h : (rEdt.kd 7).is ok w cs x) : rEdtU.is ok w cs (x.1,x.2.1,x.2.2.map fun _=>((),())):=by
  obtain ⟨c,d,e,h1,c2,d2,e2,h2,h3⟩:=h;exact ⟨c,d,e,h1,c2,d2,e2,h2,row_unk h3⟩
theorem Chk_big (a b : List Edt) (h : heavyB a = true ∨ heavyB b = true) : qW Tryz.prog 5 [.one (.sl rEdt a),.one (.sl rEdt b)] (ib true):=by
  have hva:=heavy_c a;have hvb:=heavy_c b;refine qT (rs:=[4]) Tryz.func5 rfl rfl rfl teOk rfl ?_;refine qC ?_;refine qB ?_;refine qC ?_;refine qC ?_;refine qB ?_;refine Or.inl ?_;refine zai (rfl) ?_;refine zei _ (zai (alive9_c) ?_);refine qK rfl (fun h18=>?_) (fun h18=>?_)
  ·try simp only [Bool.not_eq_true'] at h18
   try simp only [zds] at h18
   simp at h18
  ·try simp only [Bool.not_eq_false'] at h18
   try simp only [zds] at h18
   refine qM ?_;refine qC ?_;refine qC ?_;refine qB ?_;refine Or.inl ?_;refine zai (rfl) ?_;refine zei _ (zai (hva) ?_);refine zai (fun h=>trivial) ?_;refine Or.inl ?_;refine zai (rfl) ?_;refine zei _ (zai (fun h=>⟨⟨⟨h,trivial⟩,trivial⟩,hvb⟩) ?_);refine zai (by first|(intro h;rw [h];rfl)|(intro h;cases h)) ?_;refine qK rfl (fun h24=>?_) (fun h24=>?_)
   ·try simp only [Bool.or_eq_true] at h24
    try simp only [zds] at h24
    refine qC ?_;refine qB ?_;refine qL ?_;rfl
   ·try simp only [Bool.or_eq_false_iff] at h24
    try simp only [zds] at h24
    obtain ⟨g1,g2⟩:=h24;exact absurd h (fun h=>by rcases h with h|h;rw [h] at g1;cases g1;rw [h] at g2;cases g2)
theorem Chk_z (a b : List Edt) (ha : heavyB a = false) (hb : heavyB b = false) (hc : chkB a = (-9,0)) : qW Tryz.prog 5 [.one (.sl rEdt a),.one (.sl rEdt b)] (ib true):=by
  have hva:=heavy_c a;have hvb:=heavy_c b;rw [ha] at hva;rw [hb] at hvb;obtain ⟨hsa,hma⟩:=heavy_ok ha;have hfa : ∀ e ∈ a,yO e.2.2:=fun e he=>much_ok (hma e he)
  have hla : ∀ e ∈ a,e.2.2.length ≤ 1000000:=fun e he=>Nat.le_trans (hfa e he).1 (by decide)
  have hka:=check_c9 (κ:=0) (κ':=0) a hfa (by omega);have hra:=refCheck9_c a hfa (by omega);rw [hc] at hka hra;rw [erB_z] at hka;refine qT (rs:=[4]) Tryz.func5 rfl rfl rfl teOk rfl ?_;refine qC ?_;refine qB ?_;refine qC ?_;refine qC ?_;refine qB ?_;refine Or.inl ?_;refine zai (rfl) ?_;refine zei _ (zai (alive9_c) ?_);refine qK rfl (fun h18=>?_) (fun h18=>?_)
  ·try simp only [Bool.not_eq_true'] at h18
   try simp only [zds] at h18
   simp at h18
  ·try simp only [Bool.not_eq_false'] at h18
   try simp only [zds] at h18
   refine qM ?_;refine qC ?_;refine qC ?_;refine qB ?_;refine Or.inl ?_;refine zai (rfl) ?_;refine zei _ (zai (hva) ?_);refine zai (fun h=>trivial) ?_;refine Or.inl ?_;refine zai (rfl) ?_;refine zei _ (zai (fun h=>⟨⟨⟨h,trivial⟩,trivial⟩,hvb⟩) ?_);refine zai (by first|(intro h;rw [h];rfl)|(intro h;cases h)) ?_;refine qK rfl (fun h24=>?_) (fun h24=>?_)
   ·try simp only [Bool.or_eq_true] at h24
    try simp only [zds] at h24
    simp at h24
   ·try simp only [Bool.or_eq_false_iff] at h24
    try simp only [zds] at h24
    refine qM ?_;refine qC ?_;refine qB ?_;refine Or.inl ?_;refine zai (rfl) ?_;refine zei _ (zai (own_c a hla (by omega)) ?_);refine qC ?_;refine qB ?_;refine Or.inl ?_;refine zai (rfl) ?_;refine zei _ (zai (hka) ?_);refine qC ?_;refine qB ?_;refine Or.inl ?_;refine zai (rfl) ?_;refine zei _ (zai (hra) ?_);refine qC ?_;refine qB ?_;refine qC ?_;refine qC ?_;refine qB ?_;intro l9_1
    try simp only [zds] at l9_1
    refine qN ?_;refine qS (fun (i : Nat)=>i ≤ a.length) (fun (i : Nat)=>[(0,.one (.sl rEdt a)),(1,.one (.sl rEdt b)),(5,.one (.sl rEdt a)),(6,.one (.lit .nilIface)),(7,ii .i64 (-9)),(8,ii .i64 0),(9,ii .i64 (szE (a.take i))),(34,.one (.sl rEdt a)),(35,ii .i64 a.length),(36,ii .i64 i)]) (fun (i : Nat)=>[]) 0 (fun (i : Nat)=>a.length - i) 0 (Nat.zero_le _) (qQ ⟨rfl,rfl,rfl,rfl,rfl,rfl,rfl,rfl,rfl,rfl⟩ trivial rfl) ?_;intro i hI0;refine qC ?_;refine qB ?_;refine qC ?_;refine qK rfl (fun h37=>?_) (fun h37=>?_)
    ·try simp only [decide_eq_true_eq] at h37
     try simp only [zds] at h37
     have hil : i < a.length:=(by omega);have hfe:=hfa _ (yA hil ((0 : Int),(0 : Int),([] : List Fld)));have hse:=szE_tk hfa (by omega) i;have hsn:=szE_snoc hil;have hfl:=hfe.1;refine qM ?_;refine qC ?_;refine qN ?_;refine qC ?_;refine qB ?_;refine zai (by first|omega|assumption|decide|(simp only [zds];omega)|(simp <;> omega)) ?_;refine qC ?_;refine qB ?_;intro l12_2
     try simp only [Int.toNat_natCast,qH,qG,qF] at l12_2
     refine qN ?_;refine qS (fun (j : Nat)=>j ≤ (a.getD i ((0 : Int),(0 : Int),([] : List Fld))).2.2.length) (fun (j : Nat)=>[(0,.one (.sl rEdt a)),(1,.one (.sl rEdt b)),(5,.one (.sl rEdt a)),(6,.one (.lit .nilIface)),(7,ii .i64 (-9)),(8,ii .i64 0),(9,ii .i64 ((szE (a.take i) : Int) + (szF ((a.getD i ((0 : Int),(0 : Int),([] : List Fld))).2.2.take j) : Int))),(34,.one (.sl rEdt a)),(35,ii .i64 a.length),(36,ii .i64 i),(41,.one (.sl rFld (a.getD i ((0 : Int),(0 : Int),([] : List Fld))).2.2)),(42,ii .i64 (a.getD i ((0 : Int),(0 : Int),([] : List Fld))).2.2.length),(43,ii .i64 j)]) (fun (j : Nat)=>[]) 0 (fun (j : Nat)=>(a.getD i ((0 : Int),(0 : Int),([] : List Fld))).2.2.length - j) 0 (Nat.zero_le _) (qQ ⟨rfl,rfl,rfl,rfl,rfl,rfl,rfl,rfl,rfl,rfl,rfl,rfl,rfl⟩ trivial rfl) ?_;intro j hI2;refine qC ?_;refine qB ?_;refine qC ?_;refine qK rfl (fun h44=>?_) (fun h44=>?_)
     ·try simp only [decide_eq_true_eq] at h44
      try simp only [zds] at h44
      have hjl : j < (a.getD i ((0 : Int),(0 : Int),([] : List Fld))).2.2.length:=(by omega);have hsf:=szF_ok hfe j;have hsm:=szF_snoc hjl;have hfb:=hfe.2 _ (yA hjl (ByteArray.empty,ByteArray.empty));refine qM ?_;refine qC ?_;refine qN ?_;refine qC ?_;refine qB ?_;refine zai (by first|omega|assumption|decide|(simp only [zds];omega)|(simp <;> omega)) ?_;refine qB ?_;refine zai (by first|omega|assumption|decide|(simp only [Int.toNat_natCast,qG,qE];omega)|(simp <;> omega)) ?_;refine zai (by first|omega|assumption|decide|(simp only [Int.toNat_natCast,qG,qE];omega)|(simp <;> omega)) ?_;refine qB ?_;refine zai (by first|omega|assumption|decide|(simp only [zds];omega)|(simp <;> omega)) ?_;exact ⟨j + 1,by omega,by first|omega|(simp <;> omega),qQ ⟨rfl,rfl,rfl,rfl,rfl,rfl,(yE (by (try simp only [Int.toNat_natCast,qG,qE]);omega)),rfl,rfl,rfl,rfl,rfl,(yE (by omega))⟩ trivial rfl⟩
     ·try simp only [decide_eq_false_iff_not,Int.not_lt] at h44
      try simp only [zds] at h44
      refine qY ?_;have e1 : (a.getD i ((0 : Int),(0 : Int),([] : List Fld))).2.2.take j = (a.getD i ((0 : Int),(0 : Int),([] : List Fld))).2.2:=List.take_of_length_le (by omega);refine qB ?_;refine zai (by first|omega|assumption|decide|(simp only [zds];omega)|(simp <;> omega)) ?_;exact ⟨i + 1,by omega,by first|omega|(simp <;> omega),qQ ⟨rfl,rfl,rfl,rfl,rfl,rfl,(yE (by rw [e1];omega)),rfl,rfl,(yE (by omega))⟩ trivial rfl⟩
    ·try simp only [decide_eq_false_iff_not,Int.not_lt] at h37
     try simp only [zds] at h37
     refine qY ?_;have hz : szE (a.take i) = szE a:=(by rw [List.take_of_length_le (by omega)]);rw [hz];show qX _ _ _ _ _ _ _ _ _;refine acode_bag [4] [] 1 rfl rfl rfl rfl (by kernel_rfl) ?_;refine zei _ (zei _ (zei _ (zai (copy3_o a hla (by omega)) (zai rfl ?_))));refine qC ?_;refine qC ?_;refine qB ?_;refine Or.inl ?_;refine zai (rfl) ?_;refine zei _ (zai (num_nil) ?_);refine zai (fun h=>trivial) ?_;refine Or.inl ?_;refine zai (rfl) ?_;refine zei _ (zai (fun h=>⟨⟨⟨h,trivial⟩,trivial⟩,at_nil⟩) ?_);refine zai (fun h=>trivial) ?_;refine zai (fun h=>⟨⟨h,trivial⟩,⟨h,trivial⟩,trivial⟩) ?_;refine zai (by first|(intro h;rw [h];rfl)|(intro h;cases h)) ?_;refine zai (fun h=>trivial) ?_;refine Or.inl ?_;refine zai (rfl) ?_;refine zei _ (zai (fun h=>⟨⟨⟨h,trivial⟩,trivial⟩,size_c a hfa (by omega)⟩) ?_);refine zai (fun h=>trivial) ?_;refine zai (fun h=>⟨⟨h,trivial⟩,⟨h,trivial⟩,trivial⟩) ?_;refine zai (by first|(intro h;rw [h];rfl)|(intro h;cases h)) ?_;refine zai (fun h=>trivial) ?_;refine zai (fun h=>trivial) ?_;refine Or.inl ?_;refine zai (rfl) ?_;refine zei _ (zai (fun h=>⟨⟨⟨h,trivial⟩,⟨h,trivial⟩,trivial⟩,same_c a b⟩) ?_);refine zai (fun h=>trivial) ?_;refine zai (fun h=>trivial) ?_;refine Or.inl ?_;refine zai (rfl) ?_;refine zei _ (zai (fun h=>⟨⟨⟨h,trivial⟩,⟨h,trivial⟩,trivial⟩,edits_c (κ:=0) (κ':=0) a b⟩) ?_);refine zai (fun h=>⟨⟨h,trivial⟩,⟨h,trivial⟩,trivial⟩) ?_;refine zai (by first|(intro h;rw [h];rfl)|(intro h;cases h)) ?_;refine zai (fun h=>trivial) ?_;refine zai (fun h=>trivial) ?_;refine Or.inl ?_;refine zai (rfl) ?_;refine zei _ (zai (fun h=>⟨⟨⟨h,trivial⟩,⟨h,trivial⟩,trivial⟩,edits_c (κ:=1) (κ':=7) a a⟩) ?_);refine zai (fun h=>⟨⟨h,trivial⟩,trivial⟩) ?_;refine zai (by first|(intro h;rw [h];rfl)|(intro h;cases h)) ?_;refine qK rfl (fun h90=>?_) (fun h90=>?_)
     ·try simp only [decide_eq_false_iff_not,Bool.not_eq_true',Bool.or_eq_true] at h90
      try simp only [zds] at h90
      simp at h90
     ·try simp only [decide_eq_true_eq,Bool.not_eq_false',Bool.or_eq_false_iff] at h90
      try simp only [zds] at h90
      refine qM ?_;refine qC ?_;refine qC ?_;refine acode_restate 0 (S:=rEdtU) (ys:=unkE a) rfl rfl (by simp [unkE]) (fun ok w cs j hj hj' h=>by rw [show (unkE a)[j] = ((a[j]).1,(a[j]).2.1,(a[j]).2.2.map fun _=>((),())) from List.getElem_map ..];exact edt_unk h) ?_;refine qB ?_;intro l21_1
      try simp only [zds] at l21_1
      refine qN ?_;refine qS (fun (j : Nat)=>j ≤ (unkE a).length) (fun (j : Nat)=>[(0,.one (.sl rEdt a)),(5,.one (.sl rEdt a)),(91,.one (.vec 0)),(92,ii .i64 (unkE a).length),(93,ii .i64 j)]) (fun (j : Nat)=>[(0,.vec 61 rEdtU (unkE a))]) 1000001 (fun (j : Nat)=>(unkE a).length - j) 0 (Nat.zero_le _) (qQ ⟨rfl,rfl,rfl,rfl,rfl⟩ rfl rfl) ?_;intro j hI4;refine qC ?_;refine qB ?_;refine qC ?_;refine qK rfl (fun h94=>?_) (fun h94=>?_)
      ·try simp only [decide_eq_true_eq] at h94
       try simp only [zds] at h94
       have hjl : j < (unkE a).length:=(by omega);refine qM ?_;refine qC ?_;refine qN ?_;refine qC ?_;refine qB ?_;refine zai (by first|omega|assumption|decide|(simp only [zds];omega)|(simp <;> omega)) ?_;refine zai (by omega) ?_;show qX _ _ _ _ _ _ _ _ _;refine acode_spoil 2 rfl rfl rfl (by rfl) ?_;refine zei _ (zei _ (zai rfl (zai (spoil7_c) (zai rfl (zai rfl (zai rfl ?_))))));refine qB ?_;refine zai (by first|omega|assumption|decide|(simp only [zds];omega)|(simp <;> omega)) ?_;exact ⟨j + 1,by omega,by first|omega|(simp <;> omega),qQ ⟨rfl,rfl,rfl,rfl,(yE (by omega))⟩ rfl rfl⟩
      ·try simp only [decide_eq_false_iff_not,Int.not_lt] at h94
       try simp only [zds] at h94
       refine qY ?_;refine qC ?_;refine qB ?_;refine Or.inl ?_;refine zai (rfl) ?_;refine zei _ (zai (edits_c (κ:=0) (κ':=0) a a) ?_);refine qL ?_;exact ib_eq (by simp)
theorem Chk_n (a b : List Edt) (ha : heavyB a = false) (hb : heavyB b = false) (hc : chkB a = (-9,1)) : qW Tryz.prog 5 [.one (.sl rEdt a),.one (.sl rEdt b)] (ib true):=by
  have hva:=heavy_c a;have hvb:=heavy_c b;rw [ha] at hva;rw [hb] at hvb;obtain ⟨hsa,hma⟩:=heavy_ok ha;have hfa : ∀ e ∈ a,yO e.2.2:=fun e he=>much_ok (hma e he)
  have hla : ∀ e ∈ a,e.2.2.length ≤ 1000000:=fun e he=>Nat.le_trans (hfa e he).1 (by decide)
  have hka:=check_c9 (κ:=0) (κ':=0) a hfa (by omega);have hra:=refCheck9_c a hfa (by omega);rw [hc] at hka hra;rw [erB_n (by decide)] at hka;refine qT (rs:=[4]) Tryz.func5 rfl rfl rfl teOk rfl ?_;refine qC ?_;refine qB ?_;refine qC ?_;refine qC ?_;refine qB ?_;refine Or.inl ?_;refine zai (rfl) ?_;refine zei _ (zai (alive9_c) ?_);refine qK rfl (fun h18=>?_) (fun h18=>?_)
  ·try simp only [Bool.not_eq_true'] at h18
   try simp only [zds] at h18
   simp at h18
  ·try simp only [Bool.not_eq_false'] at h18
   try simp only [zds] at h18
   refine qM ?_;refine qC ?_;refine qC ?_;refine qB ?_;refine Or.inl ?_;refine zai (rfl) ?_;refine zei _ (zai (hva) ?_);refine zai (fun h=>trivial) ?_;refine Or.inl ?_;refine zai (rfl) ?_;refine zei _ (zai (fun h=>⟨⟨⟨h,trivial⟩,trivial⟩,hvb⟩) ?_);refine zai (by first|(intro h;rw [h];rfl)|(intro h;cases h)) ?_;refine qK rfl (fun h24=>?_) (fun h24=>?_)
   ·try simp only [Bool.or_eq_true] at h24
    try simp only [zds] at h24
    simp at h24
   ·try simp only [Bool.or_eq_false_iff] at h24
    try simp only [zds] at h24
    refine qM ?_;refine qC ?_;refine qB ?_;refine Or.inl ?_;refine zai (rfl) ?_;refine zei _ (zai (own_c a hla (by omega)) ?_);refine qC ?_;refine qB ?_;refine Or.inl ?_;refine zai (rfl) ?_;refine zei _ (zai (hka) ?_);refine qC ?_;refine qB ?_;refine Or.inl ?_;refine zai (rfl) ?_;refine zei _ (zai (hra) ?_);refine qC ?_;refine qB ?_;refine qC ?_;refine qC ?_;refine qB ?_;intro l9_1
    try simp only [zds] at l9_1
    refine qN ?_;refine qS (fun (i : Nat)=>i ≤ a.length) (fun (i : Nat)=>[(0,.one (.sl rEdt a)),(1,.one (.sl rEdt b)),(5,.one (.sl rEdt a)),(6,.one (errN 1)),(7,ii .i64 (-9)),(8,ii .i64 1),(9,ii .i64 (szE (a.take i))),(34,.one (.sl rEdt a)),(35,ii .i64 a.length),(36,ii .i64 i)]) (fun (i : Nat)=>[]) 0 (fun (i : Nat)=>a.length - i) 0 (Nat.zero_le _) (qQ ⟨rfl,rfl,rfl,rfl,rfl,rfl,rfl,rfl,rfl,rfl⟩ trivial rfl) ?_;intro i hI0;refine qC ?_;refine qB ?_;refine qC ?_;refine qK rfl (fun h37=>?_) (fun h37=>?_)
    ·try simp only [decide_eq_true_eq] at h37
     try simp only [zds] at h37
     have hil : i < a.length:=(by omega);have hfe:=hfa _ (yA hil ((0 : Int),(0 : Int),([] : List Fld)));have hse:=szE_tk hfa (by omega) i;have hsn:=szE_snoc hil;have hfl:=hfe.1;refine qM ?_;refine qC ?_;refine qN ?_;refine qC ?_;refine qB ?_;refine zai (by first|omega|assumption|decide|(simp only [zds];omega)|(simp <;> omega)) ?_;refine qC ?_;refine qB ?_;intro l12_2
     try simp only [Int.toNat_natCast,qH,qG,qF] at l12_2
     refine qN ?_;refine qS (fun (j : Nat)=>j ≤ (a.getD i ((0 : Int),(0 : Int),([] : List Fld))).2.2.length) (fun (j : Nat)=>[(0,.one (.sl rEdt a)),(1,.one (.sl rEdt b)),(5,.one (.sl rEdt a)),(6,.one (errN 1)),(7,ii .i64 (-9)),(8,ii .i64 1),(9,ii .i64 ((szE (a.take i) : Int) + (szF ((a.getD i ((0 : Int),(0 : Int),([] : List Fld))).2.2.take j) : Int))),(34,.one (.sl rEdt a)),(35,ii .i64 a.length),(36,ii .i64 i),(41,.one (.sl rFld (a.getD i ((0 : Int),(0 : Int),([] : List Fld))).2.2)),(42,ii .i64 (a.getD i ((0 : Int),(0 : Int),([] : List Fld))).2.2.length),(43,ii .i64 j)]) (fun (j : Nat)=>[]) 0 (fun (j : Nat)=>(a.getD i ((0 : Int),(0 : Int),([] : List Fld))).2.2.length - j) 0 (Nat.zero_le _) (qQ ⟨rfl,rfl,rfl,rfl,rfl,rfl,rfl,rfl,rfl,rfl,rfl,rfl,rfl⟩ trivial rfl) ?_;intro j hI2;refine qC ?_;refine qB ?_;refine qC ?_;refine qK rfl (fun h44=>?_) (fun h44=>?_)
     ·try simp only [decide_eq_true_eq] at h44
      try simp only [zds] at h44
      have hjl : j < (a.getD i ((0 : Int),(0 : Int),([] : List Fld))).2.2.length:=(by omega);have hsf:=szF_ok hfe j;have hsm:=szF_snoc hjl;have hfb:=hfe.2 _ (yA hjl (ByteArray.empty,ByteArray.empty));refine qM ?_;refine qC ?_;refine qN ?_;refine qC ?_;refine qB ?_;refine zai (by first|omega|assumption|decide|(simp only [zds];omega)|(simp <;> omega)) ?_;refine qB ?_;refine zai (by first|omega|assumption|decide|(simp only [Int.toNat_natCast,qG,qE];omega)|(simp <;> omega)) ?_;refine zai (by first|omega|assumption|decide|(simp only [Int.toNat_natCast,qG,qE];omega)|(simp <;> omega)) ?_;refine qB ?_;refine zai (by first|omega|assumption|decide|(simp only [zds];omega)|(simp <;> omega)) ?_;exact ⟨j + 1,by omega,by first|omega|(simp <;> omega),qQ ⟨rfl,rfl,rfl,rfl,rfl,rfl,(yE (by (try simp only [Int.toNat_natCast,qG,qE]);omega)),rfl,rfl,rfl,rfl,rfl,(yE (by omega))⟩ trivial rfl⟩
     ·try simp only [decide_eq_false_iff_not,Int.not_lt] at h44
      try simp only [zds] at h44
      refine qY ?_;have e1 : (a.getD i ((0 : Int),(0 : Int),([] : List Fld))).2.2.take j = (a.getD i ((0 : Int),(0 : Int),([] : List Fld))).2.2:=List.take_of_length_le (by omega);refine qB ?_;refine zai (by first|omega|assumption|decide|(simp only [zds];omega)|(simp <;> omega)) ?_;exact ⟨i + 1,by omega,by first|omega|(simp <;> omega),qQ ⟨rfl,rfl,rfl,rfl,rfl,rfl,(yE (by rw [e1];omega)),rfl,rfl,(yE (by omega))⟩ trivial rfl⟩
    ·try simp only [decide_eq_false_iff_not,Int.not_lt] at h37
     try simp only [zds] at h37
     refine qY ?_;have hz : szE (a.take i) = szE a:=(by rw [List.take_of_length_le (by omega)]);rw [hz];show qX _ _ _ _ _ _ _ _ _;refine acode_bag [4] [] 1 rfl rfl rfl rfl (by kernel_rfl) ?_;refine zei _ (zei _ (zei _ (zai (copy3_o a hla (by omega)) (zai rfl ?_))));refine qC ?_;refine qC ?_;refine qB ?_;refine Or.inl ?_;refine zai (rfl) ?_;refine zei _ (zai (num_errno 1 (by decide)) ?_);refine zai (fun h=>trivial) ?_;refine Or.inl ?_;refine zai (rfl) ?_;refine zei _ (zai (fun h=>⟨⟨⟨h,trivial⟩,trivial⟩,at_errno 1⟩) ?_);refine zai (fun h=>trivial) ?_;refine zai (fun h=>⟨⟨h,trivial⟩,⟨h,trivial⟩,trivial⟩) ?_;refine zai (by first|(intro h;rw [h];rfl)|(intro h;cases h)) ?_;refine zai (fun h=>trivial) ?_;refine Or.inl ?_;refine zai (rfl) ?_;refine zei _ (zai (fun h=>⟨⟨⟨h,trivial⟩,trivial⟩,size_c a hfa (by omega)⟩) ?_);refine zai (fun h=>trivial) ?_;refine zai (fun h=>⟨⟨h,trivial⟩,⟨h,trivial⟩,trivial⟩) ?_;refine zai (by first|(intro h;rw [h];rfl)|(intro h;cases h)) ?_;refine zai (fun h=>trivial) ?_;refine zai (fun h=>trivial) ?_;refine Or.inl ?_;refine zai (rfl) ?_;refine zei _ (zai (fun h=>⟨⟨⟨h,trivial⟩,⟨h,trivial⟩,trivial⟩,same_c a b⟩) ?_);refine zai (fun h=>trivial) ?_;refine zai (fun h=>trivial) ?_;refine Or.inl ?_;refine zai (rfl) ?_;refine zei _ (zai (fun h=>⟨⟨⟨h,trivial⟩,⟨h,trivial⟩,trivial⟩,edits_c (κ:=0) (κ':=0) a b⟩) ?_);refine zai (fun h=>⟨⟨h,trivial⟩,⟨h,trivial⟩,trivial⟩) ?_;refine zai (by first|(intro h;rw [h];rfl)|(intro h;cases h)) ?_;refine zai (fun h=>trivial) ?_;refine zai (fun h=>trivial) ?_;refine Or.inl ?_;refine zai (rfl) ?_;refine zei _ (zai (fun h=>⟨⟨⟨h,trivial⟩,⟨h,trivial⟩,trivial⟩,edits_c (κ:=1) (κ':=7) a a⟩) ?_);refine zai (fun h=>⟨⟨h,trivial⟩,trivial⟩) ?_;refine zai (by first|(intro h;rw [h];rfl)|(intro h;cases h)) ?_;refine qK rfl (fun h90=>?_) (fun h90=>?_)
     ·try simp only [decide_eq_false_iff_not,Bool.not_eq_true',Bool.or_eq_true] at h90
      try simp only [zds] at h90
      simp at h90
     ·try simp only [decide_eq_true_eq,Bool.not_eq_false',Bool.or_eq_false_iff] at h90
      try simp only [zds] at h90
      refine qM ?_;refine qC ?_;refine qC ?_;refine acode_restate 0 (S:=rEdtU) (ys:=unkE a) rfl rfl (by simp [unkE]) (fun ok w cs j hj hj' h=>by rw [show (unkE a)[j] = ((a[j]).1,(a[j]).2.1,(a[j]).2.2.map fun _=>((),())) from List.getElem_map ..];exact edt_unk h) ?_;refine qB ?_;intro l21_1
      try simp only [zds] at l21_1
      refine qN ?_;refine qS (fun (j : Nat)=>j ≤ (unkE a).length) (fun (j : Nat)=>[(0,.one (.sl rEdt a)),(5,.one (.sl rEdt a)),(91,.one (.vec 0)),(92,ii .i64 (unkE a).length),(93,ii .i64 j)]) (fun (j : Nat)=>[(0,.vec 61 rEdtU (unkE a))]) 1000001 (fun (j : Nat)=>(unkE a).length - j) 0 (Nat.zero_le _) (qQ ⟨rfl,rfl,rfl,rfl,rfl⟩ rfl rfl) ?_;intro j hI4;refine qC ?_;refine qB ?_;refine qC ?_;refine qK rfl (fun h94=>?_) (fun h94=>?_)
      ·try simp only [decide_eq_true_eq] at h94
       try simp only [zds] at h94
       have hjl : j < (unkE a).length:=(by omega);refine qM ?_;refine qC ?_;refine qN ?_;refine qC ?_;refine qB ?_;refine zai (by first|omega|assumption|decide|(simp only [zds];omega)|(simp <;> omega)) ?_;refine zai (by omega) ?_;show qX _ _ _ _ _ _ _ _ _;refine acode_spoil 2 rfl rfl rfl (by rfl) ?_;refine zei _ (zei _ (zai rfl (zai (spoil7_c) (zai rfl (zai rfl (zai rfl ?_))))));refine qB ?_;refine zai (by first|omega|assumption|decide|(simp only [zds];omega)|(simp <;> omega)) ?_;exact ⟨j + 1,by omega,by first|omega|(simp <;> omega),qQ ⟨rfl,rfl,rfl,rfl,(yE (by omega))⟩ rfl rfl⟩
      ·try simp only [decide_eq_false_iff_not,Int.not_lt] at h94
       try simp only [zds] at h94
       refine qY ?_;refine qC ?_;refine qB ?_;refine Or.inl ?_;refine zai (rfl) ?_;refine zei _ (zai (edits_c (κ:=0) (κ':=0) a a) ?_);refine qL ?_;exact ib_eq (by simp)
theorem Chk_f (a b : List Edt) (ha : heavyB a = false) (hb : heavyB b = false) (p : Nat) (n : Int) (hn : n ≠ 0) (hc : chkB a = ((p : Int),n)) : qW Tryz.prog 5 [.one (.sl rEdt a),.one (.sl rEdt b)] (ib true):=by
  have hva:=heavy_c a;have hvb:=heavy_c b;rw [ha] at hva;rw [hb] at hvb;obtain ⟨hsa,hma⟩:=heavy_ok ha;have hfa : ∀ e ∈ a,yO e.2.2:=fun e he=>much_ok (hma e he)
  have hla : ∀ e ∈ a,e.2.2.length ≤ 1000000:=fun e he=>Nat.le_trans (hfa e he).1 (by decide)
  have hka:=check_c9 (κ:=0) (κ':=0) a hfa (by omega);have hra:=refCheck9_c a hfa (by omega);rw [hc] at hka hra;rw [erB_f hn] at hka;refine qT (rs:=[4]) Tryz.func5 rfl rfl rfl teOk rfl ?_;refine qC ?_;refine qB ?_;refine qC ?_;refine qC ?_;refine qB ?_;refine Or.inl ?_;refine zai (rfl) ?_;refine zei _ (zai (alive9_c) ?_);refine qK rfl (fun h18=>?_) (fun h18=>?_)
  ·try simp only [Bool.not_eq_true'] at h18
   try simp only [zds] at h18
   simp at h18
  ·try simp only [Bool.not_eq_false'] at h18
   try simp only [zds] at h18
   refine qM ?_;refine qC ?_;refine qC ?_;refine qB ?_;refine Or.inl ?_;refine zai (rfl) ?_;refine zei _ (zai (hva) ?_);refine zai (fun h=>trivial) ?_;refine Or.inl ?_;refine zai (rfl) ?_;refine zei _ (zai (fun h=>⟨⟨⟨h,trivial⟩,trivial⟩,hvb⟩) ?_);refine zai (by first|(intro h;rw [h];rfl)|(intro h;cases h)) ?_;refine qK rfl (fun h24=>?_) (fun h24=>?_)
   ·try simp only [Bool.or_eq_true] at h24
    try simp only [zds] at h24
    simp at h24
   ·try simp only [Bool.or_eq_false_iff] at h24
    try simp only [zds] at h24
    refine qM ?_;refine qC ?_;refine qB ?_;refine Or.inl ?_;refine zai (rfl) ?_;refine zei _ (zai (own_c a hla (by omega)) ?_);refine qC ?_;refine qB ?_;refine Or.inl ?_;refine zai (rfl) ?_;refine zei _ (zai (hka) ?_);refine qC ?_;refine qB ?_;refine Or.inl ?_;refine zai (rfl) ?_;refine zei _ (zai (hra) ?_);refine qC ?_;refine qB ?_;refine qC ?_;refine qC ?_;refine qB ?_;intro l9_1
    try simp only [zds] at l9_1
    refine qN ?_;refine qS (fun (i : Nat)=>i ≤ a.length) (fun (i : Nat)=>[(0,.one (.sl rEdt a)),(1,.one (.sl rEdt b)),(5,.one (.sl rEdt a)),(6,.one (errF p n)),(7,ii .i64 p),(8,ii .i64 n),(9,ii .i64 (szE (a.take i))),(34,.one (.sl rEdt a)),(35,ii .i64 a.length),(36,ii .i64 i)]) (fun (i : Nat)=>[]) 0 (fun (i : Nat)=>a.length - i) 0 (Nat.zero_le _) (qQ ⟨rfl,rfl,rfl,rfl,rfl,rfl,rfl,rfl,rfl,rfl⟩ trivial rfl) ?_;intro i hI0;refine qC ?_;refine qB ?_;refine qC ?_;refine qK rfl (fun h37=>?_) (fun h37=>?_)
    ·try simp only [decide_eq_true_eq] at h37
     try simp only [zds] at h37
     have hil : i < a.length:=(by omega);have hfe:=hfa _ (yA hil ((0 : Int),(0 : Int),([] : List Fld)));have hse:=szE_tk hfa (by omega) i;have hsn:=szE_snoc hil;have hfl:=hfe.1;refine qM ?_;refine qC ?_;refine qN ?_;refine qC ?_;refine qB ?_;refine zai (by first|omega|assumption|decide|(simp only [zds];omega)|(simp <;> omega)) ?_;refine qC ?_;refine qB ?_;intro l12_2
     try simp only [Int.toNat_natCast,qH,qG,qF] at l12_2
     refine qN ?_;refine qS (fun (j : Nat)=>j ≤ (a.getD i ((0 : Int),(0 : Int),([] : List Fld))).2.2.length) (fun (j : Nat)=>[(0,.one (.sl rEdt a)),(1,.one (.sl rEdt b)),(5,.one (.sl rEdt a)),(6,.one (errF p n)),(7,ii .i64 p),(8,ii .i64 n),(9,ii .i64 ((szE (a.take i) : Int) + (szF ((a.getD i ((0 : Int),(0 : Int),([] : List Fld))).2.2.take j) : Int))),(34,.one (.sl rEdt a)),(35,ii .i64 a.length),(36,ii .i64 i),(41,.one (.sl rFld (a.getD i ((0 : Int),(0 : Int),([] : List Fld))).2.2)),(42,ii .i64 (a.getD i ((0 : Int),(0 : Int),([] : List Fld))).2.2.length),(43,ii .i64 j)]) (fun (j : Nat)=>[]) 0 (fun (j : Nat)=>(a.getD i ((0 : Int),(0 : Int),([] : List Fld))).2.2.length - j) 0 (Nat.zero_le _) (qQ ⟨rfl,rfl,rfl,rfl,rfl,rfl,rfl,rfl,rfl,rfl,rfl,rfl,rfl⟩ trivial rfl) ?_;intro j hI2;refine qC ?_;refine qB ?_;refine qC ?_;refine qK rfl (fun h44=>?_) (fun h44=>?_)
     ·try simp only [decide_eq_true_eq] at h44
      try simp only [zds] at h44
      have hjl : j < (a.getD i ((0 : Int),(0 : Int),([] : List Fld))).2.2.length:=(by omega);have hsf:=szF_ok hfe j;have hsm:=szF_snoc hjl;have hfb:=hfe.2 _ (yA hjl (ByteArray.empty,ByteArray.empty));refine qM ?_;refine qC ?_;refine qN ?_;refine qC ?_;refine qB ?_;refine zai (by first|omega|assumption|decide|(simp only [zds];omega)|(simp <;> omega)) ?_;refine qB ?_;refine zai (by first|omega|assumption|decide|(simp only [Int.toNat_natCast,qG,qE];omega)|(simp <;> omega)) ?_;refine zai (by first|omega|assumption|decide|(simp only [Int.toNat_natCast,qG,qE];omega)|(simp <;> omega)) ?_;refine qB ?_;refine zai (by first|omega|assumption|decide|(simp only [zds];omega)|(simp <;> omega)) ?_;exact ⟨j + 1,by omega,by first|omega|(simp <;> omega),qQ ⟨rfl,rfl,rfl,rfl,rfl,rfl,(yE (by (try simp only [Int.toNat_natCast,qG,qE]);omega)),rfl,rfl,rfl,rfl,rfl,(yE (by omega))⟩ trivial rfl⟩
     ·try simp only [decide_eq_false_iff_not,Int.not_lt] at h44
      try simp only [zds] at h44
      refine qY ?_;have e1 : (a.getD i ((0 : Int),(0 : Int),([] : List Fld))).2.2.take j = (a.getD i ((0 : Int),(0 : Int),([] : List Fld))).2.2:=List.take_of_length_le (by omega);refine qB ?_;refine zai (by first|omega|assumption|decide|(simp only [zds];omega)|(simp <;> omega)) ?_;exact ⟨i + 1,by omega,by first|omega|(simp <;> omega),qQ ⟨rfl,rfl,rfl,rfl,rfl,rfl,(yE (by rw [e1];omega)),rfl,rfl,(yE (by omega))⟩ trivial rfl⟩
    ·try simp only [decide_eq_false_iff_not,Int.not_lt] at h37
     try simp only [zds] at h37
     refine qY ?_;have hz : szE (a.take i) = szE a:=(by rw [List.take_of_length_le (by omega)]);rw [hz];show qX _ _ _ _ _ _ _ _ _;refine acode_bag [4] [] 1 rfl rfl rfl rfl (by kernel_rfl) ?_;refine zei _ (zei _ (zei _ (zai (copy3_o a hla (by omega)) (zai rfl ?_))));refine qC ?_;refine qC ?_;refine qB ?_;refine Or.inl ?_;refine zai (rfl) ?_;refine zei _ (zai (num_fault p n hn) ?_);refine zai (fun h=>trivial) ?_;refine Or.inl ?_;refine zai (rfl) ?_;refine zei _ (zai (fun h=>⟨⟨⟨h,trivial⟩,trivial⟩,at_fault p n⟩) ?_);refine zai (fun h=>trivial) ?_;refine zai (fun h=>⟨⟨h,trivial⟩,⟨h,trivial⟩,trivial⟩) ?_;refine zai (by first|(intro h;rw [h];rfl)|(intro h;cases h)) ?_;refine zai (fun h=>trivial) ?_;refine Or.inl ?_;refine zai (rfl) ?_;refine zei _ (zai (fun h=>⟨⟨⟨h,trivial⟩,trivial⟩,size_c a hfa (by omega)⟩) ?_);refine zai (fun h=>trivial) ?_;refine zai (fun h=>⟨⟨h,trivial⟩,⟨h,trivial⟩,trivial⟩) ?_;refine zai (by first|(intro h;rw [h];rfl)|(intro h;cases h)) ?_;refine zai (fun h=>trivial) ?_;refine zai (fun h=>trivial) ?_;refine Or.inl ?_;refine zai (rfl) ?_;refine zei _ (zai (fun h=>⟨⟨⟨h,trivial⟩,⟨h,trivial⟩,trivial⟩,same_c a b⟩) ?_);refine zai (fun h=>trivial) ?_;refine zai (fun h=>trivial) ?_;refine Or.inl ?_;refine zai (rfl) ?_;refine zei _ (zai (fun h=>⟨⟨⟨h,trivial⟩,⟨h,trivial⟩,trivial⟩,edits_c (κ:=0) (κ':=0) a b⟩) ?_);refine zai (fun h=>⟨⟨h,trivial⟩,⟨h,trivial⟩,trivial⟩) ?_;refine zai (by first|(intro h;rw [h];rfl)|(intro h;cases h)) ?_;refine zai (fun h=>trivial) ?_;refine zai (fun h=>trivial) ?_;refine Or.inl ?_;refine zai (rfl) ?_;refine zei _ (zai (fun h=>⟨⟨⟨h,trivial⟩,⟨h,trivial⟩,trivial⟩,edits_c (κ:=1) (κ':=7) a a⟩) ?_);refine zai (fun h=>⟨⟨h,trivial⟩,trivial⟩) ?_;refine zai (by first|(intro h;rw [h];rfl)|(intro h;cases h)) ?_;refine qK rfl (fun h90=>?_) (fun h90=>?_)
     ·try simp only [decide_eq_false_iff_not,Bool.not_eq_true',Bool.or_eq_true] at h90
      try simp only [zds] at h90
      simp at h90
     ·try simp only [decide_eq_true_eq,Bool.not_eq_false',Bool.or_eq_false_iff] at h90
      try simp only [zds] at h90
      refine qM ?_;refine qC ?_;refine qC ?_;refine acode_restate 0 (S:=rEdtU) (ys:=unkE a) rfl rfl (by simp [unkE]) (fun ok w cs j hj hj' h=>by rw [show (unkE a)[j] = ((a[j]).1,(a[j]).2.1,(a[j]).2.2.map fun _=>((),())) from List.getElem_map ..];exact edt_unk h) ?_;refine qB ?_;intro l21_1
      try simp only [zds] at l21_1
      refine qN ?_;refine qS (fun (j : Nat)=>j ≤ (unkE a).length) (fun (j : Nat)=>[(0,.one (.sl rEdt a)),(5,.one (.sl rEdt a)),(91,.one (.vec 0)),(92,ii .i64 (unkE a).length),(93,ii .i64 j)]) (fun (j : Nat)=>[(0,.vec 61 rEdtU (unkE a))]) 1000001 (fun (j : Nat)=>(unkE a).length - j) 0 (Nat.zero_le _) (qQ ⟨rfl,rfl,rfl,rfl,rfl⟩ rfl rfl) ?_;intro j hI4;refine qC ?_;refine qB ?_;refine qC ?_;refine qK rfl (fun h94=>?_) (fun h94=>?_)
      ·try simp only [decide_eq_true_eq] at h94
       try simp only [zds] at h94
       have hjl : j < (unkE a).length:=(by omega);refine qM ?_;refine qC ?_;refine qN ?_;refine qC ?_;refine qB ?_;refine zai (by first|omega|assumption|decide|(simp only [zds];omega)|(simp <;> omega)) ?_;refine zai (by omega) ?_;show qX _ _ _ _ _ _ _ _ _;refine acode_spoil 2 rfl rfl rfl (by rfl) ?_;refine zei _ (zei _ (zai rfl (zai (spoil7_c) (zai rfl (zai rfl (zai rfl ?_))))));refine qB ?_;refine zai (by first|omega|assumption|decide|(simp only [zds];omega)|(simp <;> omega)) ?_;exact ⟨j + 1,by omega,by first|omega|(simp <;> omega),qQ ⟨rfl,rfl,rfl,rfl,(yE (by omega))⟩ rfl rfl⟩
      ·try simp only [decide_eq_false_iff_not,Int.not_lt] at h94
       try simp only [zds] at h94
       refine qY ?_;refine qC ?_;refine qB ?_;refine Or.inl ?_;refine zai (rfl) ?_;refine zei _ (zai (edits_c (κ:=0) (κ':=0) a a) ?_);refine qL ?_;exact ib_eq (by simp)
theorem EditChecks_c (a b : List Edt) : qW Tryz.prog 5 [.one (.sl rEdt a),.one (.sl rEdt b)] (ib true):=by
  by_cases h : heavyB a = true ∨ heavyB b = true
  · exact Chk_big a b h
  · have ha : heavyB a = false:=by simpa using fun e=>h (.inl e)
    have hb : heavyB b = false:=by simpa using fun e=>h (.inr e)
    rcases chkB_cases a with ⟨hc,_⟩|hc|⟨i,n,hn,hc⟩
    · exact Chk_z a b ha hb hc
    · exact Chk_n a b ha hb hc
    · exact Chk_f a b ha hb i n hn hc
end Q
end Ab
end Go.Proofs.YtbfhpimmlehkcaaGreatDoor
namespace Go.Proofs.YtbfhpimmlehkcaaGreatDoor
open Go.RowKit
namespace Ab
set_option maxRecDepth 100000
theorem o_str : Opens Tryz.prog 9 .str:=opens_str Tryz.underlying9 (by kernel_rfl)
theorem o_int : Opens Tryz.prog 3 (.int .i64):=opens_int Tryz.underlying3 (by kernel_rfl)
theorem o_field : Opens Tryz.prog 85 (.st .str .str):=opens_st Tryz.underlying85 (by kernel_rfl) (.cons rfl o_str (.one rfl o_str))
theorem o_fields : Opens Tryz.prog 40 (.sl (.st .str .str)):=opens_sl (by decide) Tryz.underlying40 (by kernel_rfl) o_field
theorem maxAt {W : World} (h : W.ShapedOpen Tryz.prog) : MaxCell W:=cell_of_shapedOpen_int (g:=1) (t:=3) (zero:=#[.int .i64 0]) h (of_decide_eq_true (by kernel_rfl)) (by kernel_rfl) rfl (by kernel_rfl) (by kernel_rfl) Tryz.underlying3
theorem lt_of_cell0 {W : World} {b : Nat} {v : Value} (h : W.cell? ⟨b,0,none⟩ = some v) : b < W.heap.size:=by
  rcases Nat.lt_or_ge b W.heap.size with h1|h1
  · exact h1
  · exfalso
    simp only [World.cell?,Array.getElem?_eq_none h1] at h;cases h
end Ab
end Go.Proofs.YtbfhpimmlehkcaaGreatDoor
namespace Go.Proofs.YtbfhpimmlehkcaaGreatDoor
open Go.RowKit
namespace Ab
set_option maxRecDepth 100000
theorem o_edit : Opens Tryz.prog 61 (.st (.int .i64) (.st (.int .i64) (.sl (.st .str .str)))):=opens_st Tryz.underlying61 (by kernel_rfl) (.cons rfl o_int (.cons rfl o_int (.one rfl o_fields)))
theorem o_edits : Opens Tryz.prog 78 (.sl (.st (.int .i64) (.st (.int .i64) (.sl (.st .str .str))))):=opens_sl (by decide) Tryz.underlying78 (by kernel_rfl) o_edit
theorem open_edits {H : Type} {enc : TypeId × Value → H} {W : World} {base : Nat} {v : Value} {d : DataW H} {p : List MemPlace} (hv : Value.okWide Tryz.prog W .any base 78 v) (h : DataW.Trod enc Tryz.prog W 0 (fun _=>true) true 78 v d p) :
    ∃ xs,(C.sl (.st (.int .i64) (.st (.int .i64) (.sl (.st .str .str)))) xs).rep AllOk yB W v:=open_sl Tryz.underlying78 o_edits hv h
end Ab
end Go.Proofs.YtbfhpimmlehkcaaGreatDoor
namespace Go.Proofs.YtbfhpimmlehkcaaGreatDoor
open Go.RowKit
namespace Ab
set_option maxRecDepth 100000
theorem et : Tryz.prog.globalNamed "errors.errorType" = some 0 := by kernel_rfl
theorem rt : (Tryz.prog.cutTypes.find? (·.1 == "internal/reflectlite.rtype")).map (·.2) = some 284 := by kernel_rfl
theorem oneRow : ((List.range Tryz.prog.types.size).filter fun t=>Tryz.prog.rowNamed t [101,114,114,111,114]) = [26]:=by kernel_rfl
theorem errHandle : typeHandle Tryz.prog 26 = .pointer (some ⟨3 + 1,26,none⟩):=by kernel_rfl
abbrev errDatum : String × DataW Unit := ("errors.errorType", .iface "internal/reflectlite.rtype" (.agg [.ptr (.lit (.string [101, 114, 114, 111, 114]))]))
theorem errAt {W : World} {l : List (String × DataW Unit)} (hm : errDatum ∈ l) (h : laidMetH Tryz.prog l W) : W.cell? ⟨0,0,none⟩ = some (.iface 284 (.agg #[.pointer (some ⟨3 + 1,26,none⟩)])):=by
  obtain ⟨name,u,ty,e1,e2,e3,e4,e5⟩:=(laidMetH_iff.1 h).2 _ (List.mem_filter.2 ⟨hm,rfl⟩);have en : name = [101,114,114,111,114]:=(Option.some.inj e1).symm;subst en;obtain rfl:=Option.some.inj (rt.symm.trans e2);have hm : ty ∈ (List.range Tryz.prog.types.size).filter fun t=>Tryz.prog.rowNamed t [101,114,114,111,114]:=List.mem_filter.2 ⟨List.mem_range.2 e3,e4⟩
  rw [oneRow] at hm;obtain rfl:=List.mem_singleton.1 hm;rw [errHandle] at e5
  simpa using World.var?_cell et e5 0
theorem globAtH {W : World} (h : W.ShapedOpen Tryz.prog) {l : List (String × DataW Unit)} (hm : errDatum ∈ l) (hL : laidMetH Tryz.prog l W) : GlobAt AllOk W:=by
  have hc : GlobCell W:=⟨maxAt h,errAt hm hL⟩;refine ⟨fun _ _=>trivial,?_,hc⟩;obtain ⟨⟨m,h1⟩,h2⟩:=hc;have h1:=lt_of_cell0 h1;have h2:=lt_of_cell0 h2;unfold nGlob;omega
theorem laidMet_lay {P : Program} {w0 : World} {laid : List (String × DataW Unit)} (args : Array Value)
    (hf : w0.layFits P laid [] = true) (hi : w0.layIfaces P laid (w0.layVars P laid) = true) : laidMet P laid ((w0.layVars P laid).forCall (fun _ _=>0) ⟨#[],args,[]⟩).memory:=by
  have e1 : (laid.filter fun x=>(laid.map (·.1)).contains x.1) = laid:=List.filter_eq_self.2 fun x hx=>List.contains_iff_mem.2 (List.mem_map.2 ⟨x,hx,rfl⟩)
  have e2 : (laid.filter fun x=>!(laid.map (·.1)).contains x.1) = []:=List.filter_eq_nil_iff.2 fun x hx=>by rw [List.contains_iff_mem.2 (List.mem_map.2 ⟨x,hx,rfl⟩)];simp
  have h : laidMet P laid (w0.layVars P laid):=laidMet_layVars (w0:=w0) (laid.map (·.1)) [] (by rw [e1]) (by rw [e1];exact hf) (by rw [e1];exact hi) (by rw [e2];exact LaidIn.none);exact h.of_heap (by simp [World.memory,World.forCall,Input.heap])
noncomputable def errWorld (os : Os) : World :=
  let w0:=World.holding Tryz.prog os ⟨#[],#[],[]⟩
  { w0 with heap:=w0.heap.modify 0 fun
      | .cells _ t frozen=>.cells #[.iface 284 (.agg #[.pointer (some ⟨3 + 1,26,none⟩)])] t frozen
      | o=>o }
noncomputable def laidWit (os : Os) (l : List (String × DataW Unit)) : World:=(errWorld os).layVars Tryz.prog (l.filter fun x=>x.2.handleName?.isNone)
theorem laidWit_os (os : Os) (l : List (String × DataW Unit)) : (laidWit os l).os = os:=World.layVars_os _ _ _
end Ab
end Go.Proofs.YtbfhpimmlehkcaaGreatDoor
