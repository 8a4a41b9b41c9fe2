/-
  The texts of this proof, joined: abstract values, the library, the functions of the program and what they compute (part 7). No condition.
-/
import Derived.Shelf.Vars
import Derived.KernelRfl
import Derived.LaidHandle
import Derived.LaidSub
import Derived.LaidMore
import Derived.Lay
import Derived.FnData
import Derived.Test.YtpfkncffaanjcaaGreatDoorK1
import Derived.Test.YtpfkncffaanjcaaGreatDoorK2
import Derived.Test.YtpfkncffaanjcaaGreatDoorK3
import Derived.Test.YtpfkncffaanjcaaGreatDoorK4
import Derived.Test.YtpfkncffaanjcaaGreatDoorK5
import Derived.Test.YtpfkncffaanjcaaGreatDoorK6
namespace Go.Proofs.YtpfkncffaanjcaaGreatDoor
open Go.RowKit
namespace Ab
set_option maxRecDepth 100000
namespace Q
theorem txt_ok {L : Lst} (hl : L.1.length ≤ 1000000) (hs : szI (itmL L.1) ≤ 50000000) : szI (kF (itmL L.1)) ≤ 100000000:=by
  have hal:=apart_len (itmL L.1) 1;have hil : (itmL L.1).length = L.1.length:=List.length_map _;show szI (apartK 1 (itmL L.1)) ≤ _;omega
theorem ints9_c {κ κ' : Nat} (a b : List Int) : qV Tryz.prog 17 [.one (.slk κ (.int .i64) a),.one (.slk κ' (.int .i64) b)] (ib (decide (a = b))):=by
  refine qT (rs:=[4]) Tryz.func17 rfl rfl rfl teOk rfl ?_;refine qC ?_;refine qB ?_;refine qC ?_;refine qC ?_;refine qB ?_;intro l1_1
  try simp only [zds] at l1_1
  intro l1_3
  try simp only [zds] at l1_3
  refine qK rfl (fun h10=>?_) (fun h10=>?_)
  ·try simp only [decide_eq_false_iff_not,Bool.not_eq_true'] at h10
   try simp only [zds] at h10
   refine qC ?_;refine qB ?_;refine qM ?_;exact ib_eq (decide_eq_false (fun e=>by rw [e] at h10;omega)).symm
  ·try simp only [decide_eq_true_eq,Bool.not_eq_false'] at h10
   try simp only [zds] at h10
   refine qL ?_;refine qC ?_;refine qC ?_;refine qB ?_;intro l3_1
   try simp only [zds] at l3_1
   refine qO ?_;refine qU (fun (i : Nat)=>i ≤ a.length ∧ a.take i = b.take i) (fun (i : Nat)=>[(0,.one (.slk κ (.int .i64) a)),(1,.one (.slk κ' (.int .i64) b)),(12,ii .i64 a.length),(13,ii .i64 i)]) (fun (i : Nat)=>[]) 0 (fun (i : Nat)=>a.length - i) 0 (⟨Nat.zero_le _,by simp⟩) (qP ⟨rfl,rfl,rfl,rfl⟩ trivial rfl) ?_;intro i hI0;obtain ⟨hi,ht⟩:=hI0;refine qC ?_;refine qB ?_;refine qC ?_;refine qK rfl (fun h14=>?_) (fun h14=>?_)
   ·try simp only [decide_eq_true_eq] at h14
    try simp only [zds] at h14
    have hla : i < a.length:=(by omega);have hlb : i < b.length:=(by omega);refine qL ?_;refine qC ?_;refine qO ?_;refine qC ?_;refine qB ?_;refine qC ?_;refine acode_draw rfl (by kernel_rfl) ?_;refine zai (by first|omega|assumption|decide|(simp only [zds];omega)|(simp <;> omega)) ?_;refine zai (by first|omega|assumption|decide|(simp only [zds];omega)|(simp <;> omega)) ?_;refine qK rfl (fun h24=>?_) (fun h24=>?_)
    ·try simp only [decide_eq_false_iff_not,Bool.not_eq_true'] at h24
     try simp only [Int.toNat_natCast,qE] at h24
     refine qC ?_;refine qB ?_;refine qM ?_;exact ib_eq (decide_eq_false (ne_at (i:=i) 0 h24)).symm
    ·try simp only [decide_eq_true_eq,Bool.not_eq_false'] at h24
     try simp only [Int.toNat_natCast,qE] at h24
     refine qL ?_;refine qB ?_;refine zai (by first|omega|assumption|decide|(simp only [zds];omega)|(simp <;> omega)) ?_;exact ⟨i + 1,⟨by omega,list_ext_take 0 hla hlb ht h24⟩,by first|omega|(simp <;> omega),qP ⟨rfl,rfl,rfl,(qS (by omega))⟩ trivial rfl⟩
   ·try simp only [decide_eq_false_iff_not,Int.not_lt] at h14
    try simp only [zds] at h14
    refine qW ?_;refine qC ?_;refine qB ?_;refine qM ?_;exact ib_eq (decide_eq_true (by rw [List.take_of_length_le (by omega),List.take_of_length_le (by omega)] at ht;exact ht)).symm
end Q
end Ab
end Go.Proofs.YtpfkncffaanjcaaGreatDoor
namespace Go.Proofs.YtpfkncffaanjcaaGreatDoor
open Go.RowKit
namespace Ab
set_option maxRecDepth 100000
abbrev rEdt3 : Rd Edt:=rEdt.kd 3
namespace Q
theorem copies3_c (l : List Fld) (hl : l.length ≤ 1000000) : qV Tryz.prog 39 [.one (.sl rFld l)] (.one (.slk 3 rFld l)):=by
  refine qT (rs:=[2]) Tryz.func39 rfl rfl rfl teOk rfl ?_;refine qC ?_;refine qB ?_;refine qC ?_;refine qB ?_;refine zai (by first|exact qQ (by first|omega|(simp only [List.length_nil];omega)|(simp;omega)) (by decide)|omega|assumption|decide|(simp only [zds];omega)|(simp <;> omega)) ?_;refine acode_frzk 0 3 rfl ?_;refine qM ?_;exact rfl
theorem own3_o (s : List Edt) (hf : ∀ e ∈ s,e.2.2.length ≤ 1000000) (hl : s.length ≤ 1000000) : yD Tryz.prog 12 [.one (.sl rEdt s)] [] 0 (.one (.vec 0)) [(0,.vec 46 rEdt3 s)] 1:=by
  refine yA (rs:=[2]) Tryz.func12 rfl rfl rfl (mapTe_ok (q:=3) teOk) (by decide) rfl ?_;refine qC ?_;refine qB ?_;refine qC ?_;refine qB ?_;refine qC ?_;refine qC ?_;refine qB ?_;intro l2_1
  try simp only [zds] at l2_1
  refine qO ?_;refine qU (fun (i : Nat)=>i ≤ s.length) (fun (i : Nat)=>[(3,.one (.vec 0)),(7,.one (.sl rEdt s)),(8,ii .i64 s.length),(9,ii .i64 i)]) (fun (i : Nat)=>[(0,.vec 46 rEdt3 (s.take i))]) 1 (fun (i : Nat)=>s.length - i) 0 (Nat.zero_le _) (qP ⟨rfl,rfl,rfl,rfl⟩ rfl rfl) ?_;intro i hI0;refine qC ?_;refine qB ?_;refine qC ?_;refine qK rfl (fun h10=>?_) (fun h10=>?_)
  ·try simp only [decide_eq_true_eq] at h10
   try simp only [zds] at h10
   have hil : i < s.length:=(by omega);refine qL ?_;refine qC ?_;refine qO ?_;refine qC ?_;refine qB ?_;refine zai (by first|omega|assumption|decide|(simp only [zds];omega)|(simp <;> omega)) ?_;refine yP rfl ?_;refine qJ 0 rfl rfl rfl (by kernel_rfl) ?_;refine qJ 1 rfl rfl rfl (by kernel_rfl) ?_;refine qJ 3 rfl rfl rfl (by kernel_rfl) ?_;refine qJ 5 rfl rfl rfl (by kernel_rfl) ?_;refine qI [2,4,6] (by kernel_rfl) rfl ?_;refine zai ?_ ?_
   ·refine qI [4,6] (by kernel_rfl) rfl ?_;refine zai ?_ ?_
    ·refine qI [6] (by kernel_rfl) rfl ?_;refine qI [7] (by kernel_rfl) rfl ?_;refine Or.inl ?_;refine zai (rfl) ?_;refine zei _ (zai (copies3_c (s.getD i ((0 : Int),(0 : Int),([] : List Fld))).2.2 (hf _ (qZ hil ((0 : Int),(0 : Int),([] : List Fld))))) ?_);refine qI [8] (by kernel_rfl) rfl ?_;refine qI [9] (by kernel_rfl) rfl ?_;refine qI [10] (by kernel_rfl) rfl ?_;refine zai (by exact qQ (show (s.take i).length + 1 ≤ 1000000000 by rw [List.length_take];omega) (by decide)) ?_;refine qJ 11 rfl rfl rfl (by kernel_rfl) ?_;refine qN (by kernel_rfl) ?_;refine qB ?_;refine zai (by first|omega|assumption|decide|(simp only [zds];omega)|(simp <;> omega)) ?_;exact ⟨i + 1,by omega,by first|omega|(simp <;> omega),qP ⟨rfl,rfl,rfl,(qS (by omega))⟩ (qR (by rw [← qX ((0 : Int),(0 : Int),([] : List Fld)) hil];try exact rfl)) rfl⟩
    ·refine qI [4,7] (by kernel_rfl) rfl ?_;refine zai ?_ ?_
     ·refine qI [7] (by kernel_rfl) rfl ?_;refine Or.inl ?_;refine zai (rfl) ?_;refine zei _ (zai (copies3_c (s.getD i ((0 : Int),(0 : Int),([] : List Fld))).2.2 (hf _ (qZ hil ((0 : Int),(0 : Int),([] : List Fld))))) ?_);refine qI [8] (by kernel_rfl) rfl ?_;refine qI [9] (by kernel_rfl) rfl ?_;refine qI [10] (by kernel_rfl) rfl ?_;refine zai (by exact qQ (show (s.take i).length + 1 ≤ 1000000000 by rw [List.length_take];omega) (by decide)) ?_;refine qJ 11 rfl rfl rfl (by kernel_rfl) ?_;refine qN (by kernel_rfl) ?_;refine qB ?_;refine zai (by first|omega|assumption|decide|(simp only [zds];omega)|(simp <;> omega)) ?_;exact ⟨i + 1,by omega,by first|omega|(simp <;> omega),qP ⟨rfl,rfl,rfl,(qS (by omega))⟩ (qR (by rw [← qX ((0 : Int),(0 : Int),([] : List Fld)) hil];try exact rfl)) rfl⟩
     ·refine Or.inl ?_;refine zai (rfl) ?_;refine zei _ (zai (copies3_c (s.getD i ((0 : Int),(0 : Int),([] : List Fld))).2.2 (hf _ (qZ hil ((0 : Int),(0 : Int),([] : List Fld))))) ?_);refine qI [4] (by kernel_rfl) rfl ?_;refine qI [8] (by kernel_rfl) rfl ?_;refine qI [9] (by kernel_rfl) rfl ?_;refine qI [10] (by kernel_rfl) rfl ?_;refine zai (by exact qQ (show (s.take i).length + 1 ≤ 1000000000 by rw [List.length_take];omega) (by decide)) ?_;refine qJ 11 rfl rfl rfl (by kernel_rfl) ?_;refine qN (by kernel_rfl) ?_;refine qB ?_;refine zai (by first|omega|assumption|decide|(simp only [zds];omega)|(simp <;> omega)) ?_;exact ⟨i + 1,by omega,by first|omega|(simp <;> omega),qP ⟨rfl,rfl,rfl,(qS (by omega))⟩ (qR (by rw [← qX ((0 : Int),(0 : Int),([] : List Fld)) hil];try exact rfl)) rfl⟩
   refine zai ?_ ?_
   ·refine qI [2,6] (by kernel_rfl) rfl ?_;refine zai ?_ ?_
    ·refine qI [6] (by kernel_rfl) rfl ?_;refine qI [7] (by kernel_rfl) rfl ?_;refine Or.inl ?_;refine zai (rfl) ?_;refine zei _ (zai (copies3_c (s.getD i ((0 : Int),(0 : Int),([] : List Fld))).2.2 (hf _ (qZ hil ((0 : Int),(0 : Int),([] : List Fld))))) ?_);refine qI [8] (by kernel_rfl) rfl ?_;refine qI [9] (by kernel_rfl) rfl ?_;refine qI [10] (by kernel_rfl) rfl ?_;refine zai (by exact qQ (show (s.take i).length + 1 ≤ 1000000000 by rw [List.length_take];omega) (by decide)) ?_;refine qJ 11 rfl rfl rfl (by kernel_rfl) ?_;refine qN (by kernel_rfl) ?_;refine qB ?_;refine zai (by first|omega|assumption|decide|(simp only [zds];omega)|(simp <;> omega)) ?_;exact ⟨i + 1,by omega,by first|omega|(simp <;> omega),qP ⟨rfl,rfl,rfl,(qS (by omega))⟩ (qR (by rw [← qX ((0 : Int),(0 : Int),([] : List Fld)) hil];try exact rfl)) rfl⟩
    ·refine qI [2,7] (by kernel_rfl) rfl ?_;refine zai ?_ ?_
     ·refine qI [7] (by kernel_rfl) rfl ?_;refine Or.inl ?_;refine zai (rfl) ?_;refine zei _ (zai (copies3_c (s.getD i ((0 : Int),(0 : Int),([] : List Fld))).2.2 (hf _ (qZ hil ((0 : Int),(0 : Int),([] : List Fld))))) ?_);refine qI [8] (by kernel_rfl) rfl ?_;refine qI [9] (by kernel_rfl) rfl ?_;refine qI [10] (by kernel_rfl) rfl ?_;refine zai (by exact qQ (show (s.take i).length + 1 ≤ 1000000000 by rw [List.length_take];omega) (by decide)) ?_;refine qJ 11 rfl rfl rfl (by kernel_rfl) ?_;refine qN (by kernel_rfl) ?_;refine qB ?_;refine zai (by first|omega|assumption|decide|(simp only [zds];omega)|(simp <;> omega)) ?_;exact ⟨i + 1,by omega,by first|omega|(simp <;> omega),qP ⟨rfl,rfl,rfl,(qS (by omega))⟩ (qR (by rw [← qX ((0 : Int),(0 : Int),([] : List Fld)) hil];try exact rfl)) rfl⟩
     ·refine Or.inl ?_;refine zai (rfl) ?_;refine zei _ (zai (copies3_c (s.getD i ((0 : Int),(0 : Int),([] : List Fld))).2.2 (hf _ (qZ hil ((0 : Int),(0 : Int),([] : List Fld))))) ?_);refine qI [2] (by kernel_rfl) rfl ?_;refine qI [8] (by kernel_rfl) rfl ?_;refine qI [9] (by kernel_rfl) rfl ?_;refine qI [10] (by kernel_rfl) rfl ?_;refine zai (by exact qQ (show (s.take i).length + 1 ≤ 1000000000 by rw [List.length_take];omega) (by decide)) ?_;refine qJ 11 rfl rfl rfl (by kernel_rfl) ?_;refine qN (by kernel_rfl) ?_;refine qB ?_;refine zai (by first|omega|assumption|decide|(simp only [zds];omega)|(simp <;> omega)) ?_;exact ⟨i + 1,by omega,by first|omega|(simp <;> omega),qP ⟨rfl,rfl,rfl,(qS (by omega))⟩ (qR (by rw [← qX ((0 : Int),(0 : Int),([] : List Fld)) hil];try exact rfl)) rfl⟩
   ·refine qI [2,4,7] (by kernel_rfl) rfl ?_;refine zai ?_ ?_
    ·refine qI [4,7] (by kernel_rfl) rfl ?_;refine zai ?_ ?_
     ·refine qI [7] (by kernel_rfl) rfl ?_;refine Or.inl ?_;refine zai (rfl) ?_;refine zei _ (zai (copies3_c (s.getD i ((0 : Int),(0 : Int),([] : List Fld))).2.2 (hf _ (qZ hil ((0 : Int),(0 : Int),([] : List Fld))))) ?_);refine qI [8] (by kernel_rfl) rfl ?_;refine qI [9] (by kernel_rfl) rfl ?_;refine qI [10] (by kernel_rfl) rfl ?_;refine zai (by exact qQ (show (s.take i).length + 1 ≤ 1000000000 by rw [List.length_take];omega) (by decide)) ?_;refine qJ 11 rfl rfl rfl (by kernel_rfl) ?_;refine qN (by kernel_rfl) ?_;refine qB ?_;refine zai (by first|omega|assumption|decide|(simp only [zds];omega)|(simp <;> omega)) ?_;exact ⟨i + 1,by omega,by first|omega|(simp <;> omega),qP ⟨rfl,rfl,rfl,(qS (by omega))⟩ (qR (by rw [← qX ((0 : Int),(0 : Int),([] : List Fld)) hil];try exact rfl)) rfl⟩
     ·refine Or.inl ?_;refine zai (rfl) ?_;refine zei _ (zai (copies3_c (s.getD i ((0 : Int),(0 : Int),([] : List Fld))).2.2 (hf _ (qZ hil ((0 : Int),(0 : Int),([] : List Fld))))) ?_);refine qI [4] (by kernel_rfl) rfl ?_;refine qI [8] (by kernel_rfl) rfl ?_;refine qI [9] (by kernel_rfl) rfl ?_;refine qI [10] (by kernel_rfl) rfl ?_;refine zai (by exact qQ (show (s.take i).length + 1 ≤ 1000000000 by rw [List.length_take];omega) (by decide)) ?_;refine qJ 11 rfl rfl rfl (by kernel_rfl) ?_;refine qN (by kernel_rfl) ?_;refine qB ?_;refine zai (by first|omega|assumption|decide|(simp only [zds];omega)|(simp <;> omega)) ?_;exact ⟨i + 1,by omega,by first|omega|(simp <;> omega),qP ⟨rfl,rfl,rfl,(qS (by omega))⟩ (qR (by rw [← qX ((0 : Int),(0 : Int),([] : List Fld)) hil];try exact rfl)) rfl⟩
    refine zai ?_ ?_
    ·refine qI [2,7] (by kernel_rfl) rfl ?_;refine zai ?_ ?_
     ·refine qI [7] (by kernel_rfl) rfl ?_;refine Or.inl ?_;refine zai (rfl) ?_;refine zei _ (zai (copies3_c (s.getD i ((0 : Int),(0 : Int),([] : List Fld))).2.2 (hf _ (qZ hil ((0 : Int),(0 : Int),([] : List Fld))))) ?_);refine qI [8] (by kernel_rfl) rfl ?_;refine qI [9] (by kernel_rfl) rfl ?_;refine qI [10] (by kernel_rfl) rfl ?_;refine zai (by exact qQ (show (s.take i).length + 1 ≤ 1000000000 by rw [List.length_take];omega) (by decide)) ?_;refine qJ 11 rfl rfl rfl (by kernel_rfl) ?_;refine qN (by kernel_rfl) ?_;refine qB ?_;refine zai (by first|omega|assumption|decide|(simp only [zds];omega)|(simp <;> omega)) ?_;exact ⟨i + 1,by omega,by first|omega|(simp <;> omega),qP ⟨rfl,rfl,rfl,(qS (by omega))⟩ (qR (by rw [← qX ((0 : Int),(0 : Int),([] : List Fld)) hil];try exact rfl)) rfl⟩
     ·refine Or.inl ?_;refine zai (rfl) ?_;refine zei _ (zai (copies3_c (s.getD i ((0 : Int),(0 : Int),([] : List Fld))).2.2 (hf _ (qZ hil ((0 : Int),(0 : Int),([] : List Fld))))) ?_);refine qI [2] (by kernel_rfl) rfl ?_;refine qI [8] (by kernel_rfl) rfl ?_;refine qI [9] (by kernel_rfl) rfl ?_;refine qI [10] (by kernel_rfl) rfl ?_;refine zai (by exact qQ (show (s.take i).length + 1 ≤ 1000000000 by rw [List.length_take];omega) (by decide)) ?_;refine qJ 11 rfl rfl rfl (by kernel_rfl) ?_;refine qN (by kernel_rfl) ?_;refine qB ?_;refine zai (by first|omega|assumption|decide|(simp only [zds];omega)|(simp <;> omega)) ?_;exact ⟨i + 1,by omega,by first|omega|(simp <;> omega),qP ⟨rfl,rfl,rfl,(qS (by omega))⟩ (qR (by rw [← qX ((0 : Int),(0 : Int),([] : List Fld)) hil];try exact rfl)) rfl⟩
    ·refine Or.inl ?_;refine zai (rfl) ?_;refine zei _ (zai (copies3_c (s.getD i ((0 : Int),(0 : Int),([] : List Fld))).2.2 (hf _ (qZ hil ((0 : Int),(0 : Int),([] : List Fld))))) ?_);refine qI [2,4] (by kernel_rfl) rfl ?_;refine zai ?_ ?_
     ·refine qI [4] (by kernel_rfl) rfl ?_;refine qI [8] (by kernel_rfl) rfl ?_;refine qI [9] (by kernel_rfl) rfl ?_;refine qI [10] (by kernel_rfl) rfl ?_;refine zai (by exact qQ (show (s.take i).length + 1 ≤ 1000000000 by rw [List.length_take];omega) (by decide)) ?_;refine qJ 11 rfl rfl rfl (by kernel_rfl) ?_;refine qN (by kernel_rfl) ?_;refine qB ?_;refine zai (by first|omega|assumption|decide|(simp only [zds];omega)|(simp <;> omega)) ?_;exact ⟨i + 1,by omega,by first|omega|(simp <;> omega),qP ⟨rfl,rfl,rfl,(qS (by omega))⟩ (qR (by rw [← qX ((0 : Int),(0 : Int),([] : List Fld)) hil];try exact rfl)) rfl⟩
     ·refine qI [2] (by kernel_rfl) rfl ?_;refine qI [8] (by kernel_rfl) rfl ?_;refine qI [9] (by kernel_rfl) rfl ?_;refine qI [10] (by kernel_rfl) rfl ?_;refine zai (by exact qQ (show (s.take i).length + 1 ≤ 1000000000 by rw [List.length_take];omega) (by decide)) ?_;refine qJ 11 rfl rfl rfl (by kernel_rfl) ?_;refine qN (by kernel_rfl) ?_;refine qB ?_;refine zai (by first|omega|assumption|decide|(simp only [zds];omega)|(simp <;> omega)) ?_;exact ⟨i + 1,by omega,by first|omega|(simp <;> omega),qP ⟨rfl,rfl,rfl,(qS (by omega))⟩ (qR (by rw [← qX ((0 : Int),(0 : Int),([] : List Fld)) hil];try exact rfl)) rfl⟩
  ·try simp only [decide_eq_false_iff_not,Int.not_lt] at h10
   try simp only [zds] at h10
   refine qW ?_;refine qC ?_;refine qB ?_;refine qM ?_;rw [List.take_of_length_le (by omega)];exact ⟨rfl,rfl,rfl⟩
def szF : List Fld → Nat
  | []=>0
  | f :: r=>f.1.size + f.2.size + szF r
def szE : List Edt → Nat
  | []=>0
  | e :: r=>szF e.2.2 + szE r
end Q
end Ab
end Go.Proofs.YtpfkncffaanjcaaGreatDoor
namespace Go.Proofs.YtpfkncffaanjcaaGreatDoor
open Go.RowKit
namespace Ab
set_option maxRecDepth 100000
abbrev rEdtU : Rd (Int × Int × List (Unit × Unit)):=.st (.int .i64) (.st (.int .i64) (.slk 7 rUnk2))
namespace Q
def unkE (l : List Edt) : List (Int × Int × List (Unit × Unit)):=l.map fun x=>(x.1,x.2.1,x.2.2.map fun _=>((),()))
theorem edt_unk {ok : Oks} {w : World} {cs : List Value} {x : Edt} (h : (rEdt.kd 7).is ok w cs x) : rEdtU.is ok w cs (x.1,x.2.1,x.2.2.map fun _=>((),())):=by
  obtain ⟨c,d,e,h1,c2,d2,e2,h2,h3⟩:=h;exact ⟨c,d,e,h1,c2,d2,e2,h2,row_unk h3⟩
end Q
end Ab
end Go.Proofs.YtpfkncffaanjcaaGreatDoor
namespace Go.Proofs.YtpfkncffaanjcaaGreatDoor
open Go.RowKit
namespace Ab
set_option maxRecDepth 100000
namespace Q
theorem intsN_c : qV Tryz.prog 17 [.one (.lit (.slice none 0 0)),.one (.lit (.slice none 0 0))] (ib true):=by
  have h:=ints9_c (κ:=0) (κ':=0) [] [];rw [decide_eq_true rfl] at h;exact acall_arg (fun ok ρ w vs h=>by obtain ⟨v,t,rfl,hv,u,s,rfl,hu,hs⟩:=h;exact ⟨v,_,rfl,by rw [show v = _ from hv];exact slOk_nil,u,s,rfl,by rw [show u = _ from hu];exact slOk_nil,hs⟩) h
theorem Does_big (s : ByteArray) (a : List Edt) (h : 3000 < s.size ∨ heavyB a = true) : qV Tryz.prog 3 [is s,.one (.sl rEdt a)] (ib true):=by
  have hva:=heavy_c a;refine qT (rs:=[4]) Tryz.func3 rfl rfl rfl teOk rfl ?_;refine qC ?_;refine qB ?_;refine qC ?_;refine qC ?_;refine qB ?_;refine Or.inl ?_;refine zai (rfl) ?_;refine zei _ (zai (alive9_c) ?_);refine qK rfl (fun h19=>?_) (fun h19=>?_)
  ·try simp only [Bool.not_eq_true'] at h19
   try simp only [zds] at h19
   simp at h19
  ·try simp only [Bool.not_eq_false'] at h19
   try simp only [zds] at h19
   refine qL ?_;refine qC ?_;refine qC ?_;refine qB ?_;refine zai (fun h=>trivial) ?_;refine Or.inl ?_;refine zai (rfl) ?_;refine zei _ (zai (fun h=>⟨⟨⟨h,trivial⟩,trivial⟩,hva⟩) ?_);refine zai (by first|(intro h;rw [h];rfl)|(intro h;cases h)) ?_;refine qK rfl (fun h26=>?_) (fun h26=>?_)
   ·try simp only [decide_eq_true_eq,Bool.or_eq_true] at h26
    try simp only [zds] at h26
    refine qC ?_;refine qB ?_;refine qM ?_;rfl
   ·try simp only [decide_eq_false_iff_not,Bool.or_eq_false_iff,Int.not_lt] at h26
    try simp only [zds] at h26
    obtain ⟨g1,g2⟩:=h26;exact absurd h (fun h=>by rcases h with h|h;omega;rw [h] at g2;cases g2)
theorem Does_err (s : ByteArray) (a : List Edt) (hs : ¬ 3000 < s.size) (ha : heavyB a = false) {e : Int × Int} (hp : xC s = .inl e) : qV Tryz.prog 3 [is s,.one (.sl rEdt a)] (ib true):=by
  have hva:=heavy_c a;rw [ha] at hva;have hl:=lists_err s (by omega) hp;refine qT (rs:=[4]) Tryz.func3 rfl rfl rfl teOk rfl ?_;refine qC ?_;refine qB ?_;refine qC ?_;refine qC ?_;refine qB ?_;refine Or.inl ?_;refine zai (rfl) ?_;refine zei _ (zai (alive9_c) ?_);refine qK rfl (fun h19=>?_) (fun h19=>?_)
  ·try simp only [Bool.not_eq_true'] at h19
   try simp only [zds] at h19
   simp at h19
  ·try simp only [Bool.not_eq_false'] at h19
   try simp only [zds] at h19
   refine qL ?_;refine qC ?_;refine qC ?_;refine qB ?_;refine zai (fun h=>trivial) ?_;refine Or.inl ?_;refine zai (rfl) ?_;refine zei _ (zai (fun h=>⟨⟨⟨h,trivial⟩,trivial⟩,hva⟩) ?_);refine zai (by first|(intro h;rw [h];rfl)|(intro h;cases h)) ?_;refine qK rfl (fun h26=>?_) (fun h26=>?_)
   ·try simp only [decide_eq_true_eq,Bool.or_eq_true] at h26
    try simp only [zds] at h26
    exfalso
    simp at h26;omega
   ·try simp only [decide_eq_false_iff_not,Bool.or_eq_false_iff,Int.not_lt] at h26
    try simp only [zds] at h26
    refine qL ?_;refine qC ?_;refine qB ?_;refine Or.inr (Or.inl (zei [] (zei [] (zei _ (zei _ (zei _ (zei _ (zei _ (zai (hl) (zai rfl (zai True.intro (zai rfl ?_))))))))))));refine qC ?_;refine qC ?_;refine qB ?_;refine qK rfl (fun h34=>?_) (fun h34=>?_)
    ·try simp only [Bool.not_eq_true'] at h34
     try simp only [zds] at h34
     refine qC ?_;refine qB ?_;refine qM ?_;rfl
    ·try simp only [Bool.not_eq_false'] at h34
     try simp only [zds] at h34
     simp at h34
theorem Does_N (s : ByteArray) (a : List Edt) (hs : ¬ 3000 < s.size) (ha : heavyB a = false) {l : List Itm} (hp : xC s = .inr l) (hc : chkB a = (-9,1)) : qV Tryz.prog 3 [is s,.one (.sl rEdt a)] (ib true):=by
  have hva:=heavy_c a;rw [ha] at hva;obtain ⟨hsa,hma⟩:=heavy_ok ha;have hfa : ∀ e ∈ a,xA e.2.2:=fun e he=>much_ok (hma e he)
  have hla : ∀ e ∈ a,e.2.2.length ≤ 1000000:=fun e he=>Nat.le_trans (hfa e he).1 (by decide)
  have hl:=lists_ok s (by omega) hp;have hlk:=of_lok (by omega) hp;have hgd:=ofT_gd hp;obtain ⟨L,hL⟩ : ∃ L,ofT l = L:=⟨_,rfl⟩;rw [hL] at hlk hgd hl;have hLl:=hlk.len;have hLs:=hgd.sz;have htx:=textL_c (k:=1) L.1 L.2.1 L.2.2 (by omega) hlk.f1 (txt_ok (by omega) (by omega));have hrt:=refText7_c L.1 L.2.1 (by omega) (txt_ok (by omega) (by omega));have hed:=edits_c (κ:=0) (κ':=0) a a;have hdo:=doN_c (κ:=0) (κ':=0) (k:=1) L a hfa (by omega) 1 (by decide) hc;have hrd:=refDoC_c L a hfa (by omega) (by rw [hc];decide);rw [hc] at hrd;refine qT (rs:=[4]) Tryz.func3 rfl rfl rfl teOk rfl ?_;refine qC ?_;refine qB ?_;refine qC ?_;refine qC ?_;refine qB ?_;refine Or.inl ?_;refine zai (rfl) ?_;refine zei _ (zai (alive9_c) ?_);refine qK rfl (fun h19=>?_) (fun h19=>?_)
  ·try simp only [Bool.not_eq_true'] at h19
   try simp only [zds] at h19
   simp at h19
  ·try simp only [Bool.not_eq_false'] at h19
   try simp only [zds] at h19
   refine qL ?_;refine qC ?_;refine qC ?_;refine qB ?_;refine zai (fun h=>trivial) ?_;refine Or.inl ?_;refine zai (rfl) ?_;refine zei _ (zai (fun h=>⟨⟨⟨h,trivial⟩,trivial⟩,hva⟩) ?_);refine zai (by first|(intro h;rw [h];rfl)|(intro h;cases h)) ?_;refine qK rfl (fun h26=>?_) (fun h26=>?_)
   ·try simp only [decide_eq_true_eq,Bool.or_eq_true] at h26
    try simp only [zds] at h26
    exfalso
    simp at h26;omega
   ·try simp only [decide_eq_false_iff_not,Bool.or_eq_false_iff,Int.not_lt] at h26
    try simp only [zds] at h26
    refine qL ?_;refine qC ?_;refine qB ?_;refine Or.inr (Or.inl (zei [] (zei [] (zei _ (zei _ (zei _ (zei _ (zei _ (zai (hl) (zai rfl (zai True.intro (zai rfl ?_))))))))))));refine qC ?_;refine qC ?_;refine qB ?_;refine qK rfl (fun h34=>?_) (fun h34=>?_)
    ·try simp only [Bool.not_eq_true'] at h34
     try simp only [zds] at h34
     simp at h34
    ·try simp only [Bool.not_eq_false'] at h34
     try simp only [zds] at h34
     refine qL ?_;refine qC ?_;refine qB ?_;refine Or.inl ?_;refine zai (rfl) ?_;refine zei _ (zai (own_c a hla (by omega)) ?_);refine qC ?_;refine qB ?_;refine Or.inr (Or.inr (Or.inl ?_));refine zai rfl ?_;refine zei _ (zai (hdo) ?_);refine qC ?_;refine qB ?_;refine Or.inl ?_;refine zai (rfl) ?_;refine zei _ (zai (hrd) ?_);refine qC ?_;refine qC ?_;refine acode_draw rfl (by kernel_rfl) ?_;refine zai (rfl) ?_;refine zei _ (zai (num_errno 1 (by decide)) ?_);refine zai (fun h=>trivial) ?_;refine zai (rfl) ?_;refine zei _ (zai (fun h=>⟨⟨⟨h,trivial⟩,trivial⟩,at_errno 1⟩) ?_);refine zai (fun h=>trivial) ?_;refine zai (fun h=>⟨⟨h,trivial⟩,⟨h,trivial⟩,trivial⟩) ?_;refine zai (by first|(intro h;rw [h];rfl)|(intro h;cases h)) ?_;refine zai (fun h=>trivial) ?_;refine zai (fun h=>trivial) ?_;refine zai (rfl) ?_;refine zei _ (zai (fun h=>⟨⟨⟨h,trivial⟩,⟨h,trivial⟩,trivial⟩,intsN_c⟩) ?_);refine zai (fun h=>⟨⟨h,trivial⟩,trivial⟩) ?_;refine zai (by first|(intro h;rw [h];rfl)|(intro h;cases h)) ?_;refine zai (fun h=>trivial) ?_;refine zai (rfl) ?_;refine zei _ (zai (fun h=>⟨⟨⟨h,trivial⟩,trivial⟩,htx⟩) ?_);refine zai (fun h=>trivial) ?_;refine zai (rfl) ?_;refine zei _ (zai (fun h=>⟨⟨⟨h,trivial⟩,trivial⟩,hrt⟩) ?_);refine zai (fun h=>⟨⟨h,trivial⟩,⟨h,trivial⟩,trivial⟩) ?_;refine zai (by first|(intro h;rw [h];rfl)|(intro h;cases h)) ?_;refine zai (fun h=>trivial) ?_;refine zai (fun h=>trivial) ?_;refine zai (rfl) ?_;refine zei _ (zai (fun h=>⟨⟨⟨h,trivial⟩,⟨h,trivial⟩,trivial⟩,hed⟩) ?_);refine zai (fun h=>⟨⟨h,trivial⟩,trivial⟩) ?_;refine zai (by first|(intro h;rw [h];rfl)|(intro h;cases h)) ?_;refine qK rfl (fun h80=>?_) (fun h80=>?_)
     ·try simp only [decide_eq_false_iff_not,Bool.not_eq_true',Bool.or_eq_true] at h80
      try simp only [zds] at h80
      simp at h80
     ·try simp only [decide_eq_true_eq,Bool.not_eq_false',Bool.or_eq_false_iff] at h80
      try simp only [zds] at h80
      refine qL ?_;refine qC ?_;refine qC ?_;refine qB ?_;refine qK rfl (fun h82=>?_) (fun h82=>?_)
      ·try simp only [decide_eq_false_iff_not,Bool.not_eq_true'] at h82
       try simp only [zds] at h82
       refine qC ?_;refine qB ?_;refine qM ?_
       first|rfl|exact ib_eq (by simp)
      ·try simp only [decide_eq_true_eq,Bool.not_eq_false'] at h82
       try simp only [zds] at h82
       simp at h82
theorem Does_F (s : ByteArray) (a : List Edt) (hs : ¬ 3000 < s.size) (ha : heavyB a = false) {l : List Itm} (hp : xC s = .inr l) (p : Nat) (n : Int) (hn : n ≠ 0) (hc : chkB a = ((p : Int),n)) : qV Tryz.prog 3 [is s,.one (.sl rEdt a)] (ib true):=by
  have hva:=heavy_c a;rw [ha] at hva;obtain ⟨hsa,hma⟩:=heavy_ok ha;have hfa : ∀ e ∈ a,xA e.2.2:=fun e he=>much_ok (hma e he)
  have hla : ∀ e ∈ a,e.2.2.length ≤ 1000000:=fun e he=>Nat.le_trans (hfa e he).1 (by decide)
  have hl:=lists_ok s (by omega) hp;have hlk:=of_lok (by omega) hp;have hgd:=ofT_gd hp;obtain ⟨L,hL⟩ : ∃ L,ofT l = L:=⟨_,rfl⟩;rw [hL] at hlk hgd hl;have hLl:=hlk.len;have hLs:=hgd.sz;have htx:=textL_c (k:=1) L.1 L.2.1 L.2.2 (by omega) hlk.f1 (txt_ok (by omega) (by omega));have hrt:=refText7_c L.1 L.2.1 (by omega) (txt_ok (by omega) (by omega));have hed:=edits_c (κ:=0) (κ':=0) a a;have hdo:=doF_c (κ:=0) (κ':=0) (k:=1) L a hfa (by omega) p n hn hc;have hrd:=refDoC_c L a hfa (by omega) (by rw [hc];exact hn);rw [hc] at hrd;refine qT (rs:=[4]) Tryz.func3 rfl rfl rfl teOk rfl ?_;refine qC ?_;refine qB ?_;refine qC ?_;refine qC ?_;refine qB ?_;refine Or.inl ?_;refine zai (rfl) ?_;refine zei _ (zai (alive9_c) ?_);refine qK rfl (fun h19=>?_) (fun h19=>?_)
  ·try simp only [Bool.not_eq_true'] at h19
   try simp only [zds] at h19
   simp at h19
  ·try simp only [Bool.not_eq_false'] at h19
   try simp only [zds] at h19
   refine qL ?_;refine qC ?_;refine qC ?_;refine qB ?_;refine zai (fun h=>trivial) ?_;refine Or.inl ?_;refine zai (rfl) ?_;refine zei _ (zai (fun h=>⟨⟨⟨h,trivial⟩,trivial⟩,hva⟩) ?_);refine zai (by first|(intro h;rw [h];rfl)|(intro h;cases h)) ?_;refine qK rfl (fun h26=>?_) (fun h26=>?_)
   ·try simp only [decide_eq_true_eq,Bool.or_eq_true] at h26
    try simp only [zds] at h26
    exfalso
    simp at h26;omega
   ·try simp only [decide_eq_false_iff_not,Bool.or_eq_false_iff,Int.not_lt] at h26
    try simp only [zds] at h26
    refine qL ?_;refine qC ?_;refine qB ?_;refine Or.inr (Or.inl (zei [] (zei [] (zei _ (zei _ (zei _ (zei _ (zei _ (zai (hl) (zai rfl (zai True.intro (zai rfl ?_))))))))))));refine qC ?_;refine qC ?_;refine qB ?_;refine qK rfl (fun h34=>?_) (fun h34=>?_)
    ·try simp only [Bool.not_eq_true'] at h34
     try simp only [zds] at h34
     simp at h34
    ·try simp only [Bool.not_eq_false'] at h34
     try simp only [zds] at h34
     refine qL ?_;refine qC ?_;refine qB ?_;refine Or.inl ?_;refine zai (rfl) ?_;refine zei _ (zai (own_c a hla (by omega)) ?_);refine qC ?_;refine qB ?_;refine Or.inr (Or.inr (Or.inl ?_));refine zai rfl ?_;refine zei _ (zai (hdo) ?_);refine qC ?_;refine qB ?_;refine Or.inl ?_;refine zai (rfl) ?_;refine zei _ (zai (hrd) ?_);refine qC ?_;refine qC ?_;refine acode_draw rfl (by kernel_rfl) ?_;refine zai (rfl) ?_;refine zei _ (zai (num_fault p n hn) ?_);refine zai (fun h=>trivial) ?_;refine zai (rfl) ?_;refine zei _ (zai (fun h=>⟨⟨⟨h,trivial⟩,trivial⟩,at_fault p n⟩) ?_);refine zai (fun h=>trivial) ?_;refine zai (fun h=>⟨⟨h,trivial⟩,⟨h,trivial⟩,trivial⟩) ?_;refine zai (by first|(intro h;rw [h];rfl)|(intro h;cases h)) ?_;refine zai (fun h=>trivial) ?_;refine zai (fun h=>trivial) ?_;refine zai (rfl) ?_;refine zei _ (zai (fun h=>⟨⟨⟨h,trivial⟩,⟨h,trivial⟩,trivial⟩,intsN_c⟩) ?_);refine zai (fun h=>⟨⟨h,trivial⟩,trivial⟩) ?_;refine zai (by first|(intro h;rw [h];rfl)|(intro h;cases h)) ?_;refine zai (fun h=>trivial) ?_;refine zai (rfl) ?_;refine zei _ (zai (fun h=>⟨⟨⟨h,trivial⟩,trivial⟩,htx⟩) ?_);refine zai (fun h=>trivial) ?_;refine zai (rfl) ?_;refine zei _ (zai (fun h=>⟨⟨⟨h,trivial⟩,trivial⟩,hrt⟩) ?_);refine zai (fun h=>⟨⟨h,trivial⟩,⟨h,trivial⟩,trivial⟩) ?_;refine zai (by first|(intro h;rw [h];rfl)|(intro h;cases h)) ?_;refine zai (fun h=>trivial) ?_;refine zai (fun h=>trivial) ?_;refine zai (rfl) ?_;refine zei _ (zai (fun h=>⟨⟨⟨h,trivial⟩,⟨h,trivial⟩,trivial⟩,hed⟩) ?_);refine zai (fun h=>⟨⟨h,trivial⟩,trivial⟩) ?_;refine zai (by first|(intro h;rw [h];rfl)|(intro h;cases h)) ?_;refine qK rfl (fun h80=>?_) (fun h80=>?_)
     ·try simp only [decide_eq_false_iff_not,Bool.not_eq_true',Bool.or_eq_true] at h80
      try simp only [zds] at h80
      simp at h80
     ·try simp only [decide_eq_true_eq,Bool.not_eq_false',Bool.or_eq_false_iff] at h80
      try simp only [zds] at h80
      refine qL ?_;refine qC ?_;refine qC ?_;refine qB ?_;refine qK rfl (fun h82=>?_) (fun h82=>?_)
      ·try simp only [decide_eq_false_iff_not,Bool.not_eq_true'] at h82
       try simp only [zds] at h82
       refine qC ?_;refine qB ?_;refine qM ?_
       first|rfl|exact ib_eq (by simp)
      ·try simp only [decide_eq_true_eq,Bool.not_eq_false'] at h82
       try simp only [zds] at h82
       exact absurd h82 hn
theorem Does_B (s : ByteArray) (a : List Edt) (hs : ¬ 3000 < s.size) (ha : heavyB a = false) {l : List Itm} (hp : xC s = .inr l) (hc : (chkB a).2 = 0) (q : Nat) (hq : q < a.length) (hb : oneN (yR (ofT l) a q) (a.getD q ((0 : Int),(0 : Int),([] : List Fld))) ≠ 0) (ht : ∀ j,j < q → oneN (yR (ofT l) a j) (a.getD j ((0 : Int),(0 : Int),([] : List Fld))) = 0) : qV Tryz.prog 3 [is s,.one (.sl rEdt a)] (ib true):=by
  have hva:=heavy_c a;rw [ha] at hva;obtain ⟨hsa,hma⟩:=heavy_ok ha;have hfa : ∀ e ∈ a,xA e.2.2:=fun e he=>much_ok (hma e he)
  have hla : ∀ e ∈ a,e.2.2.length ≤ 1000000:=fun e he=>Nat.le_trans (hfa e he).1 (by decide)
  have hl:=lists_ok s (by omega) hp;have hlk:=of_lok (by omega) hp;have hgd:=ofT_gd hp;obtain ⟨L,hL⟩ : ∃ L,ofT l = L:=⟨_,rfl⟩;rw [hL] at hlk hgd hl;have hLl:=hlk.len;have hLs:=hgd.sz;have htx:=textL_c (k:=1) L.1 L.2.1 L.2.2 (by omega) hlk.f1 (txt_ok (by omega) (by omega));have hrt:=refText7_c L.1 L.2.1 (by omega) (txt_ok (by omega) (by omega));have hed:=edits_c (κ:=0) (κ':=0) a a;rw [hL] at hb ht;have hdo:=doBad_c (κ:=0) (κ':=0) (k:=1) L a hlk (by omega) hfa hc q hq hb ht;have hrd:=refDoBad_c L a hlk (by omega) hfa hc q hq hb ht;obtain ⟨n,hn⟩ : ∃ n,oneN (yR L a q) (a.getD q ((0 : Int),(0 : Int),([] : List Fld))) = n:=⟨_,rfl⟩;rw [hn] at hdo hrd hb;refine qT (rs:=[4]) Tryz.func3 rfl rfl rfl teOk rfl ?_;refine qC ?_;refine qB ?_;refine qC ?_;refine qC ?_;refine qB ?_;refine Or.inl ?_;refine zai (rfl) ?_;refine zei _ (zai (alive9_c) ?_);refine qK rfl (fun h19=>?_) (fun h19=>?_)
  ·try simp only [Bool.not_eq_true'] at h19
   try simp only [zds] at h19
   simp at h19
  ·try simp only [Bool.not_eq_false'] at h19
   try simp only [zds] at h19
   refine qL ?_;refine qC ?_;refine qC ?_;refine qB ?_;refine zai (fun h=>trivial) ?_;refine Or.inl ?_;refine zai (rfl) ?_;refine zei _ (zai (fun h=>⟨⟨⟨h,trivial⟩,trivial⟩,hva⟩) ?_);refine zai (by first|(intro h;rw [h];rfl)|(intro h;cases h)) ?_;refine qK rfl (fun h26=>?_) (fun h26=>?_)
   ·try simp only [decide_eq_true_eq,Bool.or_eq_true] at h26
    try simp only [zds] at h26
    exfalso
    simp at h26;omega
   ·try simp only [decide_eq_false_iff_not,Bool.or_eq_false_iff,Int.not_lt] at h26
    try simp only [zds] at h26
    refine qL ?_;refine qC ?_;refine qB ?_;refine Or.inr (Or.inl (zei [] (zei [] (zei _ (zei _ (zei _ (zei _ (zei _ (zai (hl) (zai rfl (zai True.intro (zai rfl ?_))))))))))));refine qC ?_;refine qC ?_;refine qB ?_;refine qK rfl (fun h34=>?_) (fun h34=>?_)
    ·try simp only [Bool.not_eq_true'] at h34
     try simp only [zds] at h34
     simp at h34
    ·try simp only [Bool.not_eq_false'] at h34
     try simp only [zds] at h34
     refine qL ?_;refine qC ?_;refine qB ?_;refine Or.inl ?_;refine zai (rfl) ?_;refine zei _ (zai (own_c a hla (by omega)) ?_);refine qC ?_;refine qB ?_;refine Or.inr (Or.inr (Or.inl ?_));refine zai rfl ?_;refine zei _ (zai (hdo) ?_);refine qC ?_;refine qB ?_;refine Or.inl ?_;refine zai (rfl) ?_;refine zei _ (zai (hrd) ?_);refine qC ?_;refine qC ?_;refine acode_draw rfl (by kernel_rfl) ?_;refine zai (rfl) ?_;refine zei _ (zai (num_fault q n hb) ?_);refine zai (fun h=>trivial) ?_;refine zai (rfl) ?_;refine zei _ (zai (fun h=>⟨⟨⟨h,trivial⟩,trivial⟩,at_fault q n⟩) ?_);refine zai (fun h=>trivial) ?_;refine zai (fun h=>⟨⟨h,trivial⟩,⟨h,trivial⟩,trivial⟩) ?_;refine zai (by first|(intro h;rw [h];rfl)|(intro h;cases h)) ?_;refine zai (fun h=>trivial) ?_;refine zai (fun h=>trivial) ?_;refine zai (rfl) ?_;refine zei _ (zai (fun h=>⟨⟨⟨h,trivial⟩,⟨h,trivial⟩,trivial⟩,intsN_c⟩) ?_);refine zai (fun h=>⟨⟨h,trivial⟩,trivial⟩) ?_;refine zai (by first|(intro h;rw [h];rfl)|(intro h;cases h)) ?_;refine zai (fun h=>trivial) ?_;refine zai (rfl) ?_;refine zei _ (zai (fun h=>⟨⟨⟨h,trivial⟩,trivial⟩,htx⟩) ?_);refine zai (fun h=>trivial) ?_;refine zai (rfl) ?_;refine zei _ (zai (fun h=>⟨⟨⟨h,trivial⟩,trivial⟩,hrt⟩) ?_);refine zai (fun h=>⟨⟨h,trivial⟩,⟨h,trivial⟩,trivial⟩) ?_;refine zai (by first|(intro h;rw [h];rfl)|(intro h;cases h)) ?_;refine zai (fun h=>trivial) ?_;refine zai (fun h=>trivial) ?_;refine zai (rfl) ?_;refine zei _ (zai (fun h=>⟨⟨⟨h,trivial⟩,⟨h,trivial⟩,trivial⟩,hed⟩) ?_);refine zai (fun h=>⟨⟨h,trivial⟩,trivial⟩) ?_;refine zai (by first|(intro h;rw [h];rfl)|(intro h;cases h)) ?_;refine qK rfl (fun h80=>?_) (fun h80=>?_)
     ·try simp only [decide_eq_false_iff_not,Bool.not_eq_true',Bool.or_eq_true] at h80
      try simp only [zds] at h80
      simp at h80
     ·try simp only [decide_eq_true_eq,Bool.not_eq_false',Bool.or_eq_false_iff] at h80
      try simp only [zds] at h80
      refine qL ?_;refine qC ?_;refine qC ?_;refine qB ?_;refine qK rfl (fun h82=>?_) (fun h82=>?_)
      ·try simp only [decide_eq_false_iff_not,Bool.not_eq_true'] at h82
       try simp only [zds] at h82
       refine qC ?_;refine qB ?_;refine qM ?_
       first|rfl|exact ib_eq (by simp)
      ·try simp only [decide_eq_true_eq,Bool.not_eq_false'] at h82
       try simp only [zds] at h82
       exact absurd h82 hb
theorem Does_ok (s : ByteArray) (a : List Edt) (hs : ¬ 3000 < s.size) (ha : heavyB a = false) {l : List Itm} (hp : xC s = .inr l) (hc : (chkB a).2 = 0) (ht : ∀ j,j < a.length → oneN (yR (ofT l) a j) (a.getD j ((0 : Int),(0 : Int),([] : List Fld))) = 0) : qV Tryz.prog 3 [is s,.one (.sl rEdt a)] (ib true):=by
  have hva:=heavy_c a;rw [ha] at hva;obtain ⟨hsa,hma⟩:=heavy_ok ha;have hfa : ∀ e ∈ a,xA e.2.2:=fun e he=>much_ok (hma e he)
  have hla : ∀ e ∈ a,e.2.2.length ≤ 1000000:=fun e he=>Nat.le_trans (hfa e he).1 (by decide)
  have hl:=lists_ok s (by omega) hp;have hlk:=of_lok (by omega) hp;have hgd:=ofT_gd hp;obtain ⟨L,hL⟩ : ∃ L,ofT l = L:=⟨_,rfl⟩;rw [hL] at hlk hgd hl;have hLl:=hlk.len;have hLs:=hgd.sz;have htx:=textL_c (k:=1) L.1 L.2.1 L.2.2 (by omega) hlk.f1 (txt_ok (by omega) (by omega));have hrt:=refText7_c L.1 L.2.1 (by omega) (txt_ok (by omega) (by omega));have hed:=edits_c (κ:=0) (κ':=0) a a;rw [hL] at ht;have hdo:=(doOkV_o (κ:=1) (κ':=7) (k:=1) L a hlk (by omega) hfa hc ht).x;have hrd:=refDoOk_c L a hlk (by omega) hfa hc ht;have hpl:=plays_ok hlk hfa a.length (Nat.le_refl _);have hpg:=plays_gd hlk hgd hma a.length (Nat.le_refl _);obtain ⟨M,hM⟩ : ∃ M,yR L a a.length = M:=⟨_,rfl⟩;rw [hM] at hdo hrd hpl hpg;have hMl:=hpl.len;have hMs:=hpg.sz;have htm:=textL_c (k:=1) M.1 M.2.1 M.2.2 (by omega) hpl.f1 (txt_ok (by omega) (by omega));have hrm:=refText7_c M.1 M.2.1 (by omega) (txt_ok (by omega) (by omega));have hst:=stanzasL_c (k:=1) M.1 M.2.1 M.2.2 (by omega) hpl.f1;have hrs:=refStz_c M.1 M.2.1 (by omega);refine qT (rs:=[4]) Tryz.func3 rfl rfl rfl teOk rfl ?_;refine qC ?_;refine qB ?_;refine qC ?_;refine qC ?_;refine qB ?_;refine Or.inl ?_;refine zai (rfl) ?_;refine zei _ (zai (alive9_c) ?_);refine qK rfl (fun h19=>?_) (fun h19=>?_)
  ·try simp only [Bool.not_eq_true'] at h19
   try simp only [zds] at h19
   simp at h19
  ·try simp only [Bool.not_eq_false'] at h19
   try simp only [zds] at h19
   refine qL ?_;refine qC ?_;refine qC ?_;refine qB ?_;refine zai (fun h=>trivial) ?_;refine Or.inl ?_;refine zai (rfl) ?_;refine zei _ (zai (fun h=>⟨⟨⟨h,trivial⟩,trivial⟩,hva⟩) ?_);refine zai (by first|(intro h;rw [h];rfl)|(intro h;cases h)) ?_;refine qK rfl (fun h26=>?_) (fun h26=>?_)
   ·try simp only [decide_eq_true_eq,Bool.or_eq_true] at h26
    try simp only [zds] at h26
    exfalso
    simp at h26;omega
   ·try simp only [decide_eq_false_iff_not,Bool.or_eq_false_iff,Int.not_lt] at h26
    try simp only [zds] at h26
    refine qL ?_;refine qC ?_;refine qB ?_;refine Or.inr (Or.inl (zei [] (zei [] (zei _ (zei _ (zei _ (zei _ (zei _ (zai (hl) (zai rfl (zai True.intro (zai rfl ?_))))))))))));refine qC ?_;refine qC ?_;refine qB ?_;refine qK rfl (fun h34=>?_) (fun h34=>?_)
    ·try simp only [Bool.not_eq_true'] at h34
     try simp only [zds] at h34
     simp at h34
    ·try simp only [Bool.not_eq_false'] at h34
     try simp only [zds] at h34
     refine qL ?_;show yG _ _ _ _ _ _ _ _ _;refine acode_bag [4] [] 1 rfl rfl rfl rfl (by kernel_rfl) ?_;refine zei _ (zei _ (zei _ (zai (own3_o a hla (by omega)) (zai rfl ?_))));refine qC ?_;refine qB ?_;refine Or.inr (Or.inr (Or.inr (zei [] (zei [] (zei _ (zei _ (zei _ (zei _ (zei _ (zai (hdo) (zai rfl (zai True.intro (zai rfl ?_)))))))))))));refine qC ?_;refine qB ?_;refine Or.inl ?_;refine zai (rfl) ?_;refine zei _ (zai (hrd) ?_);refine qC ?_;refine qC ?_;refine acode_draw rfl (by kernel_rfl) ?_;refine zai (rfl) ?_;refine zei _ (zai (num_nil) ?_);refine zai (fun h=>trivial) ?_;refine zai (rfl) ?_;refine zei _ (zai (fun h=>⟨⟨⟨h,trivial⟩,trivial⟩,at_nil⟩) ?_);refine zai (fun h=>trivial) ?_;refine zai (fun h=>⟨⟨h,trivial⟩,⟨h,trivial⟩,trivial⟩) ?_;refine zai (by first|(intro h;rw [h];rfl)|(intro h;cases h)) ?_;refine zai (fun h=>trivial) ?_;refine zai (fun h=>trivial) ?_;refine zai (rfl) ?_;refine zei _ (zai (fun h=>⟨⟨⟨h,trivial⟩,⟨h,trivial⟩,trivial⟩,ints9_c (κ:=1) (κ':=0) _ _⟩) ?_);refine zai (fun h=>⟨⟨h,trivial⟩,trivial⟩) ?_;refine zai (by first|(intro h;rw [h];rfl)|(intro h;cases h)) ?_;refine zai (fun h=>trivial) ?_;refine zai (rfl) ?_;refine zei _ (zai (fun h=>⟨⟨⟨h,trivial⟩,trivial⟩,htx⟩) ?_);refine zai (fun h=>trivial) ?_;refine zai (rfl) ?_;refine zei _ (zai (fun h=>⟨⟨⟨h,trivial⟩,trivial⟩,hrt⟩) ?_);refine zai (fun h=>⟨⟨h,trivial⟩,⟨h,trivial⟩,trivial⟩) ?_;refine zai (by first|(intro h;rw [h];rfl)|(intro h;cases h)) ?_;refine zai (fun h=>trivial) ?_;refine zai (fun h=>trivial) ?_;refine zai (rfl) ?_;refine zei _ (zai (fun h=>⟨⟨⟨h,trivial⟩,⟨h,trivial⟩,trivial⟩,edits_c (κ:=1) (κ':=7) a a⟩) ?_);refine zai (fun h=>⟨⟨h,trivial⟩,trivial⟩) ?_;refine zai (by first|(intro h;rw [h];rfl)|(intro h;cases h)) ?_;refine qK rfl (fun h80=>?_) (fun h80=>?_)
     ·try simp only [decide_eq_false_iff_not,Bool.not_eq_true',Bool.or_eq_true] at h80
      try simp only [zds] at h80
      simp at h80
     ·try simp only [decide_eq_true_eq,Bool.not_eq_false',Bool.or_eq_false_iff] at h80
      try simp only [zds] at h80
      refine qL ?_;refine qC ?_;refine qC ?_;refine qB ?_;refine qK rfl (fun h82=>?_) (fun h82=>?_)
      ·try simp only [decide_eq_false_iff_not,Bool.not_eq_true'] at h82
       try simp only [zds] at h82
       simp at h82
      ·try simp only [decide_eq_true_eq,Bool.not_eq_false'] at h82
       try simp only [zds] at h82
       refine qL ?_;refine qC ?_;refine qC ?_;refine acode_restate 4 (S:=rEdtU) (ys:=unkE a) rfl rfl (by simp [unkE]) (fun ok w cs j hj hj' h=>by rw [show (unkE a)[j] = ((a[j]).1,(a[j]).2.1,(a[j]).2.2.map fun _=>((),())) from List.getElem_map ..];exact edt_unk h) ?_;refine qB ?_;intro l15_1
       try simp only [zds] at l15_1
       refine qO ?_;refine qU (fun (j : Nat)=>j ≤ (unkE a).length) (fun (j : Nat)=>[(0,is s),(9,.one (.own 1000006 0)),(12,.one (.own 1000008 0)),(85,.one (.vec 4)),(86,ii .i64 (unkE a).length),(87,ii .i64 j)]) (fun (j : Nat)=>[(1000006,.box 116 [.vec 1000005,.lit (.int .i64 M.2.1),.lit (.int .i64 M.2.2)]),(1000005,.vec 111 rEnt M.1),(1000008,.box 28 (toL rRL (M.1,M.2.1))),(4,.vec 46 rEdtU (unkE a))]) 1000009 (fun (j : Nat)=>(unkE a).length - j) 0 (Nat.zero_le _) (qP ⟨rfl,rfl,rfl,rfl,rfl,rfl⟩ ⟨rfl,rfl,rfl,rfl⟩ rfl) ?_;intro j hI0;refine qC ?_;refine qB ?_;refine qC ?_;refine qK rfl (fun h88=>?_) (fun h88=>?_)
       ·try simp only [decide_eq_true_eq] at h88
        try simp only [zds] at h88
        have hjl : j < (unkE a).length:=(by omega);refine qL ?_;refine qC ?_;refine qO ?_;refine qC ?_;refine qB ?_;refine zai (by first|omega|assumption|decide|(simp only [zds];omega)|(simp <;> omega)) ?_;refine zai (by omega) ?_;show yG _ _ _ _ _ _ _ _ _;refine acode_spoil 2 rfl rfl rfl (by rfl) ?_;refine zei _ (zei _ (zai rfl (zai (spoil7_c) (zai rfl (zai rfl (zai rfl ?_))))));refine qB ?_;refine zai (by first|omega|assumption|decide|(simp only [zds];omega)|(simp <;> omega)) ?_;exact ⟨j + 1,by omega,by first|omega|(simp <;> omega),qP ⟨rfl,rfl,rfl,rfl,rfl,(qS (by omega))⟩ ⟨rfl,rfl,rfl,rfl⟩ rfl⟩
       ·try simp only [decide_eq_false_iff_not,Int.not_lt] at h88
        try simp only [zds] at h88
        refine qW ?_;refine qC ?_;refine acode_draw rfl (by kernel_rfl) ?_;refine zai (rfl) ?_;refine zei _ (zai (htm) ?_);refine zai (rfl) ?_;refine zei _ (zai (hrm) ?_);refine zai (fun h=>trivial) ?_;refine zai (rfl) ?_;refine zei _ (zai (fun h=>⟨⟨⟨h,trivial⟩,trivial⟩,hst⟩) ?_);refine zai (fun h=>trivial) ?_;refine zai (rfl) ?_;refine zei _ (zai (fun h=>⟨⟨⟨h,trivial⟩,trivial⟩,hrs⟩) ?_);refine zai (rfl) ?_;refine zei _ (zai (fun h=>⟨⟨⟨h,trivial⟩,⟨h,trivial⟩,trivial⟩,stz7_c (κ:=0) (κ':=0) _ _⟩) ?_);refine zai (by exact fun h=>h) ?_;refine zai (fun h=>trivial) ?_;refine zai (rfl) ?_;refine zei _ (zai (fun h=>⟨⟨⟨h,trivial⟩,trivial⟩,next_c M.1 M.2.1 M.2.2⟩) ?_);refine zai (fun h=>trivial) ?_;refine zai (fun h=>⟨⟨h,trivial⟩,trivial⟩) ?_;refine zai (fun h=>⟨⟨h,trivial⟩,⟨h,trivial⟩,trivial⟩) ?_;refine zai (by exact fun h=>h) ?_;refine qM ?_
        first|rfl|exact ib_eq (by simp)
theorem EditDoes_c (s : ByteArray) (a : List Edt) : qV Tryz.prog 3 [is s,.one (.sl rEdt a)] (ib true):=by
  by_cases h : 3000 < s.size ∨ heavyB a = true
  · exact Does_big s a h
  · have hs : ¬ 3000 < s.size:=fun e=>h (.inl e)
    have ha : heavyB a = false:=by simpa using fun e=>h (.inr e)
    rcases hp : xC s with e|l
    · exact Does_err s a hs ha hp
    · rcases chkB_cases a with ⟨hc,_⟩|hc|⟨i,n,hn,hc⟩
      · rcases doR_cases (ofT l) a (by rw [hc]) with ⟨_,ht⟩|⟨q,hq,_,hb,ht⟩
        · exact Does_ok s a hs ha hp (by rw [hc]) ht
        · exact Does_B s a hs ha hp (by rw [hc]) q hq hb ht
      · exact Does_N s a hs ha hp hc
      · exact Does_F s a hs ha hp i n hn hc
end Q
end Ab
end Go.Proofs.YtpfkncffaanjcaaGreatDoor
namespace Go.Proofs.YtpfkncffaanjcaaGreatDoor
open Go.RowKit
namespace Ab
set_option maxRecDepth 100000
theorem o_str : Opens Tryz.prog 9 .str:=opens_str Tryz.underlying9 (by kernel_rfl)
theorem o_int : Opens Tryz.prog 3 (.int .i64):=opens_int Tryz.underlying3 (by kernel_rfl)
theorem o_field : Opens Tryz.prog 82 (.st .str .str):=opens_st Tryz.underlying82 (by kernel_rfl) (.cons rfl o_str (.one rfl o_str))
theorem o_fields : Opens Tryz.prog 44 (.sl (.st .str .str)):=opens_sl (by decide) Tryz.underlying44 (by kernel_rfl) o_field
theorem maxAt {W : World} (h : W.ShapedOpen Tryz.prog) : MaxCell W:=cell_of_shapedOpen_int (g:=1) (t:=3) (zero:=#[.int .i64 0]) h (of_decide_eq_true (by kernel_rfl)) (by kernel_rfl) rfl (by kernel_rfl) (by kernel_rfl) Tryz.underlying3
theorem lt_of_cell0 {W : World} {b : Nat} {v : Value} (h : W.cell? ⟨b,0,none⟩ = some v) : b < W.heap.size:=by
  rcases Nat.lt_or_ge b W.heap.size with h1|h1
  · exact h1
  · exfalso
    simp only [World.cell?,Array.getElem?_eq_none h1] at h;cases h
theorem o_edit : Opens Tryz.prog 46 (.st (.int .i64) (.st (.int .i64) (.sl (.st .str .str)))):=opens_st Tryz.underlying46 (by kernel_rfl) (.cons rfl o_int (.cons rfl o_int (.one rfl o_fields)))
theorem o_edits : Opens Tryz.prog 22 (.sl (.st (.int .i64) (.st (.int .i64) (.sl (.st .str .str))))):=opens_sl (by decide) Tryz.underlying22 (by kernel_rfl) o_edit
theorem open_edits {H : Type} {enc : TypeId × Value → H} {W : World} {base : Nat} {v : Value} {d : DataW H} {p : List MemPlace} (hv : Value.okWide Tryz.prog W .any base 22 v) (h : DataW.Trod enc Tryz.prog W 0 (fun _=>true) true 22 v d p) :
    ∃ xs,(C.sl (.st (.int .i64) (.st (.int .i64) (.sl (.st .str .str)))) xs).rep AllOk yL W v:=open_sl Tryz.underlying22 o_edits hv h
theorem et : Tryz.prog.globalNamed "errors.errorType" = some 0 := by kernel_rfl
theorem rt : (Tryz.prog.cutTypes.find? (·.1 == "internal/reflectlite.rtype")).map (·.2) = some 239 := by kernel_rfl
theorem oneRow : ((List.range Tryz.prog.types.size).filter fun t=>Tryz.prog.rowNamed t [101,114,114,111,114]) = [34]:=by kernel_rfl
theorem errHandle : typeHandle Tryz.prog 34 = .pointer (some ⟨3 + 1,34,none⟩):=by kernel_rfl
abbrev errDatum : String × DataW Unit := ("errors.errorType", .iface "internal/reflectlite.rtype" (.agg [.ptr (.lit (.string [101, 114, 114, 111, 114]))]))
theorem errAt {W : World} {l : List (String × DataW Unit)} (hm : errDatum ∈ l) (h : laidMetH Tryz.prog l W) : W.cell? ⟨0,0,none⟩ = some (.iface 239 (.agg #[.pointer (some ⟨3 + 1,34,none⟩)])):=by
  obtain ⟨name,u,ty,e1,e2,e3,e4,e5⟩:=(laidMetH_iff.1 h).2 _ (List.mem_filter.2 ⟨hm,rfl⟩);have en : name = [101,114,114,111,114]:=(Option.some.inj e1).symm;subst en;obtain rfl:=Option.some.inj (rt.symm.trans e2);have hm : ty ∈ (List.range Tryz.prog.types.size).filter fun t=>Tryz.prog.rowNamed t [101,114,114,111,114]:=List.mem_filter.2 ⟨List.mem_range.2 e3,e4⟩
  rw [oneRow] at hm;obtain rfl:=List.mem_singleton.1 hm;rw [errHandle] at e5
  simpa using World.var?_cell et e5 0
theorem globAtH {W : World} (h : W.ShapedOpen Tryz.prog) {l : List (String × DataW Unit)} (hm : errDatum ∈ l) (hL : laidMetH Tryz.prog l W) : GlobAt AllOk W:=by
  have hc : GlobCell W:=⟨maxAt h,errAt hm hL⟩;refine ⟨fun _ _=>trivial,?_,hc⟩;obtain ⟨⟨m,h1⟩,h2⟩:=hc;have h1:=lt_of_cell0 h1;have h2:=lt_of_cell0 h2;unfold nGlob;omega
theorem laidMet_lay {P : Program} {w0 : World} {laid : List (String × DataW Unit)} (args : Array Value)
    (hf : w0.layFits P laid [] = true) (hi : w0.layIfaces P laid (w0.layVars P laid) = true) : laidMet P laid ((w0.layVars P laid).forCall (fun _ _=>0) ⟨#[],args,[]⟩).memory:=by
  have e1 : (laid.filter fun x=>(laid.map (·.1)).contains x.1) = laid:=List.filter_eq_self.2 fun x hx=>List.contains_iff_mem.2 (List.mem_map.2 ⟨x,hx,rfl⟩)
  have e2 : (laid.filter fun x=>!(laid.map (·.1)).contains x.1) = []:=List.filter_eq_nil_iff.2 fun x hx=>by rw [List.contains_iff_mem.2 (List.mem_map.2 ⟨x,hx,rfl⟩)];simp
  have h : laidMet P laid (w0.layVars P laid):=laidMet_layVars (w0:=w0) (laid.map (·.1)) [] (by rw [e1]) (by rw [e1];exact hf) (by rw [e1];exact hi) (by rw [e2];exact LaidIn.none);exact h.of_heap (by simp [World.memory,World.forCall,Input.heap])
noncomputable def errWorld (os : Os) : World :=
  let w0:=World.holding Tryz.prog os ⟨#[],#[],[]⟩
  { w0 with heap:=w0.heap.modify 0 fun
      | .cells _ t frozen=>.cells #[.iface 239 (.agg #[.pointer (some ⟨3 + 1,34,none⟩)])] t frozen
      | o=>o }
noncomputable def laidWit (os : Os) (l : List (String × DataW Unit)) : World:=(errWorld os).layVars Tryz.prog (l.filter fun x=>x.2.handleName?.isNone)
theorem laidWit_os (os : Os) (l : List (String × DataW Unit)) : (laidWit os l).os = os:=World.layVars_os _ _ _
end Ab
end Go.Proofs.YtpfkncffaanjcaaGreatDoor
