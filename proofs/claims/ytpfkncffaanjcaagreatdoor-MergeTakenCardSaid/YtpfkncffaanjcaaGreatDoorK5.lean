/-
  The texts of this proof, joined: abstract values, the library, the functions of the program and what they compute (part 5). No condition.
-/
import Derived.Shelf.Vars
import Derived.KernelRfl
import Derived.LaidHandle
import Derived.LaidSub
import Derived.LaidMore
import Derived.Lay
import Derived.FnData
import Derived.Test.YtpfkncffaanjcaaGreatDoorK1
import Derived.Test.YtpfkncffaanjcaaGreatDoorK2
import Derived.Test.YtpfkncffaanjcaaGreatDoorK3
import Derived.Test.YtpfkncffaanjcaaGreatDoorK4
namespace Go.Proofs.YtpfkncffaanjcaaGreatDoor
open Go.RowKit
namespace Ab
set_option maxRecDepth 100000
namespace Q
theorem doN_c {κ κ' k : Nat} (L : Lst) (s : List Edt) (hf : ∀ e ∈ s,qW e.2.2) (hl : s.length ≤ 1000000) (n : Int) (hn : n ≠ 0) (h : chkB s = (-9,n)) : qT Tryz.prog 13 [.one (.adk k (rLst k) L),.one (.slk κ (rEdk κ') s)] (.tup [(false,[.lit (.pointer none)]),(false,[.lit (.slice none 0 0)]),(false,[errN n])]):=by
  have hk:=check_c9 (κ:=κ) (κ':=κ') s hf hl;rw [h,erB_n hn] at hk;refine qQ (rs:=[4,5,6]) Tryz.func13 rfl rfl rfl teOk rfl ?_;refine qC ?_;refine qB ?_;refine qC ?_;refine qC ?_;refine qB ?_;refine Or.inl ?_;refine zai (rfl) ?_;refine zei _ (zai (hk) ?_);refine qC ?_;refine qB ?_;refine qJ rfl (fun h17=>?_) (fun h17=>?_)
  ·skip
   refine qC ?_;refine qB ?_;refine qM ?_;rfl
  ·try simp only [zbq] at h17
   try simp only [zds] at h17
   simp at h17
theorem doF_c {κ κ' k : Nat} (L : Lst) (s : List Edt) (hf : ∀ e ∈ s,qW e.2.2) (hl : s.length ≤ 1000000) (i : Nat) (n : Int) (hn : n ≠ 0) (h : chkB s = ((i : Int),n)) : qT Tryz.prog 13 [.one (.adk k (rLst k) L),.one (.slk κ (rEdk κ') s)] (.tup [(false,[.lit (.pointer none)]),(false,[.lit (.slice none 0 0)]),(false,[errF i n])]):=by
  have hk:=check_c9 (κ:=κ) (κ':=κ') s hf hl;rw [h,erB_f hn] at hk;refine qQ (rs:=[4,5,6]) Tryz.func13 rfl rfl rfl teOk rfl ?_;refine qC ?_;refine qB ?_;refine qC ?_;refine qC ?_;refine qB ?_;refine Or.inl ?_;refine zai (rfl) ?_;refine zei _ (zai (hk) ?_);refine qC ?_;refine qB ?_;refine qJ rfl (fun h17=>?_) (fun h17=>?_)
  ·skip
   refine qC ?_;refine qB ?_;refine qM ?_;rfl
  ·try simp only [zbq] at h17
   try simp only [zds] at h17
   simp at h17
theorem lsbox0_eq {L M : Lst} (h : M = L) : some (Ob.box 116 [.vec 0,.lit (.int .i64 L.2.1),.lit (.int .i64 L.2.2)]) = some (Ob.box 116 [.vec 0,.lit (.int .i64 M.2.1),.lit (.int .i64 M.2.2)]):=by rw [h]
theorem took {c : Nat} {L : Lst} {s : List Edt} (h : LOk c L) (hf : ∀ e ∈ s,qW e.2.2) {i : Nat} (hi : i < s.length) : LOk (c + i) (yG L s i) ∧ qW (s.getD i ((0 : Int),(0 : Int),([] : List Fld))).2.2:=⟨plays_ok h hf i (by omega),hf _ (yF hi ((0 : Int),(0 : Int),([] : List Fld)))⟩
theorem doBad_c {κ κ' k c : Nat} (L : Lst) (s : List Edt) (hL : LOk c L) (hc : c + s.length ≤ 200000) (hf : ∀ e ∈ s,qW e.2.2) (h : (chkB s).2 = 0) (q : Nat) (hq : q < s.length) (hb : oneN (yG L s q) (s.getD q ((0 : Int),(0 : Int),([] : List Fld))) ≠ 0) (ht : ∀ j,j < q → oneN (yG L s j) (s.getD j ((0 : Int),(0 : Int),([] : List Fld))) = 0) :
    qT Tryz.prog 13 [.one (.adk k (rLst k) L),.one (.slk κ (rEdk κ') s)] (.tup [(false,[.lit (.pointer none)]),(false,[.lit (.slice none 0 0)]),(false,[errF q (oneN (yG L s q) (s.getD q ((0 : Int),(0 : Int),([] : List Fld))))])]):=by
  obtain ⟨hln,hgd⟩:=chkB_zero h;have hk:=check_c9 (κ:=κ) (κ':=κ') s hf (by omega);rw [chkB_good h,erB_z] at hk;have hlen:=hL.len;have hcp:=copyL_o (k:=k) L.1 L.2.1 L.2.2 (by omega);refine qQ (rs:=[4,5,6]) Tryz.func13 rfl rfl rfl teOk rfl ?_;refine qC ?_;refine qB ?_;refine qC ?_;refine qC ?_;refine qB ?_;refine Or.inl ?_;refine zai (rfl) ?_;refine zei _ (zai (hk) ?_);refine qC ?_;refine qB ?_;refine qJ rfl (fun h17=>?_) (fun h17=>?_)
  ·try simp only [Bool.not_eq_true'] at h17
   try simp only [zds] at h17
   cases h17
  ·try simp only [Bool.not_eq_false'] at h17
   try simp only [zds] at h17
   refine qL ?_;refine qC ?_;refine qB ?_;refine Or.inr (Or.inl (zei [] (zei [] (zei _ (zei _ (zei _ (zei _ (zei _ (zai (hcp) (zai rfl (zai True.intro (zai rfl ?_))))))))))));refine qC ?_;refine qB ?_;refine qC ?_;refine qC ?_;refine xA 9 3 (.int .i64) rfl ?_;refine qB ?_;intro l6_1
   try simp only [zds] at l6_1
   refine qN ?_;refine qR (fun (i : Nat)=>i ≤ q) (fun (i : Nat)=>[(8,.one (.own 1 0)),(9,.one (.vec 2)),(21,.one (.slk κ (rEdk κ') s)),(22,ii .i64 s.length),(23,ii .i64 i)]) (fun (i : Nat)=>[(0,.vec 111 rEnt (yG L s i).1),(1,.box 116 [.vec 0,.lit (.int .i64 (yG L s i).2.1),.lit (.int .i64 (yG L s i).2.2)]),(2,.vec 3 (.int .i64) (idsT L s i))]) 3 (fun (i : Nat)=>q - i) 0 (Nat.zero_le _) (qP ⟨rfl,rfl,rfl,rfl,rfl⟩ ⟨rfl,rfl,rfl⟩ rfl) ?_;intro i hI0;refine qC ?_;refine qB ?_;refine qC ?_;refine qJ rfl (fun h24=>?_) (fun h24=>?_)
   ·try simp only [decide_eq_true_eq] at h24
    try simp only [zds] at h24
    have hil : i < s.length:=(by omega);obtain ⟨hLi,hfe⟩:=took hL hf hil;have hsn:=plays_snoc L hil;have hin:=idsT_snoc L s i;have hilen:=idsT_len L s i;refine qL ?_;refine qC ?_;refine qN ?_;refine qC ?_;refine qB ?_;refine zai (by first|omega|assumption|decide|(simp only [zds];omega)|(simp <;> omega)) ?_;refine qC ?_;rcases one_cases (κ:=κ') hLi (by omega) (s.getD i ((0 : Int),(0 : Int),([] : List Fld))) hfe with ⟨hz,ho⟩|⟨n,hn,hz,ho⟩|⟨a,n,hn,hz,ho⟩
    ·refine qB ?_;refine Or.inr (Or.inl (zei [] (zei [1,0] (zei _ (zei _ (zei _ (zei _ (zei _ (zai (ho) (zai rfl (zai (zai (zai rfl rfl) (zai (zai rfl rfl) True.intro)) (zai rfl ?_))))))))))));refine qC ?_;refine qC ?_;refine qB ?_;refine qJ rfl (fun h35=>?_) (fun h35=>?_)
     ·try simp only [Bool.not_eq_true'] at h35
      try simp only [zds] at h35
      cases h35
     ·try simp only [Bool.not_eq_false'] at h35
      try simp only [zds] at h35
      have hlt : i < q:=(by rcases Nat.lt_or_ge i q with h1|h1;exact h1;have e1 : i = q:=(by omega);rw [e1] at hz;exact absurd hz hb);refine qL ?_;refine qC ?_;refine qB ?_;refine qJ rfl (fun h40=>?_) (fun h40=>?_)
      ·try simp only [decide_eq_true_eq] at h40
       try simp only [zds] at h40
       refine qB ?_;refine zai (by first|exact qU (by first|omega|(simp only [List.length_cons,List.length_nil];omega)|(simp;omega)) (by decide)|omega|assumption|decide|(simp only [zds];omega)|(simp <;> omega)) ?_;refine qB ?_;refine zai (by first|omega|assumption|decide|(simp only [zds];omega)|(simp <;> omega)) ?_;exact ⟨i + 1,by omega,by first|omega|(simp <;> omega),qP ⟨rfl,rfl,rfl,rfl,(qS (by omega))⟩ ⟨(lsvec_eq hsn),(lsbox0_eq hsn),(qX (by rw [hin,if_pos (by omega)];try exact rfl))⟩ rfl⟩
      ·try simp only [decide_eq_false_iff_not,Int.not_lt] at h40
       try simp only [zds] at h40
       refine qL ?_;refine qB ?_;refine zai (by first|omega|assumption|decide|(simp only [zds];omega)|(simp <;> omega)) ?_;exact ⟨i + 1,by omega,by first|omega|(simp <;> omega),qP ⟨rfl,rfl,rfl,rfl,(qS (by omega))⟩ ⟨(lsvec_eq hsn),(lsbox0_eq hsn),(qX (by rw [hin,if_neg (by omega),List.append_nil]))⟩ rfl⟩
    ·refine qB ?_;refine Or.inr (Or.inl (zei [] (zei [1,0] (zei _ (zei _ (zei _ (zei _ (zei _ (zai (ho) (zai rfl (zai (zai (zai rfl rfl) (zai (zai rfl rfl) True.intro)) (zai rfl ?_))))))))))));refine qC ?_;refine qC ?_;refine qB ?_;refine qJ rfl (fun h35=>?_) (fun h35=>?_)
     ·skip
      have hiq : i = q:=(by rcases Nat.lt_or_ge i q with h1|h1;exact absurd ((ht i h1).symm.trans hz) (by omega);omega);subst hiq;refine qC ?_;refine qB ?_;refine Or.inl ?_;refine zai (rfl) ?_;refine zei _ (zai (faultN_c i n) ?_);refine qM ?_;rw [hz];exact rfl
     ·try simp only [zbq] at h35
      try simp only [zds] at h35
      simp at h35
    ·refine qB ?_;refine Or.inr (Or.inl (zei [] (zei [1,0] (zei _ (zei _ (zei _ (zei _ (zei _ (zai (ho) (zai rfl (zai (zai (zai rfl rfl) (zai (zai rfl rfl) True.intro)) (zai rfl ?_))))))))))));refine qC ?_;refine qC ?_;refine qB ?_;refine qJ rfl (fun h35=>?_) (fun h35=>?_)
     ·skip
      have hiq : i = q:=(by rcases Nat.lt_or_ge i q with h1|h1;exact absurd ((ht i h1).symm.trans hz) (by omega);omega);subst hiq;refine qC ?_;refine qB ?_;refine Or.inl ?_;refine zai (rfl) ?_;refine zei _ (zai (faultF_c i a n) ?_);refine qM ?_;rw [hz];exact rfl
     ·try simp only [zbq] at h35
      try simp only [zds] at h35
      simp at h35
   ·try simp only [decide_eq_false_iff_not,Int.not_lt] at h24
    try simp only [zds] at h24
    omega
theorem doOk_o {κ κ' k c : Nat} (L : Lst) (s : List Edt) (hL : LOk c L) (hc : c + s.length ≤ 200000) (hf : ∀ e ∈ s,qW e.2.2) (h : (chkB s).2 = 0) (ht : ∀ j,j < s.length → oneN (yG L s j) (s.getD j ((0 : Int),(0 : Int),([] : List Fld))) = 0) :
    yA Tryz.prog 13 [.one (.adk k (rLst k) L),.one (.slk κ (rEdk κ') s)] [] 0 (.tup [(false,[.own 1 0]),(false,[.sl (.int .i64) (idsT L s s.length)]),(false,[.lit .nilIface])]) [(1,.box 116 [.vec 0,.lit (.int .i64 (yG L s s.length).2.1),.lit (.int .i64 (yG L s s.length).2.2)]),(0,.vec 111 rEnt (yG L s s.length).1)] 2:=by
  obtain ⟨hln,hgd⟩:=chkB_zero h;have hk:=check_c9 (κ:=κ) (κ':=κ') s hf (by omega);rw [chkB_good h,erB_z] at hk;have hlen:=hL.len;have hcp:=copyL_o (k:=k) L.1 L.2.1 L.2.2 (by omega);refine qY (rs:=[4,5,6]) Tryz.func13 rfl rfl rfl teOk (by decide) rfl ?_;refine qC ?_;refine qB ?_;refine qC ?_;refine qC ?_;refine qB ?_;refine Or.inl ?_;refine zai (rfl) ?_;refine zei _ (zai (hk) ?_);refine qC ?_;refine qB ?_;refine qJ rfl (fun h17=>?_) (fun h17=>?_)
  ·try simp only [Bool.not_eq_true'] at h17
   try simp only [zds] at h17
   cases h17
  ·try simp only [Bool.not_eq_false'] at h17
   try simp only [zds] at h17
   refine qL ?_;refine qC ?_;refine qB ?_;refine Or.inr (Or.inl (zei [] (zei [] (zei _ (zei _ (zei _ (zei _ (zei _ (zai (hcp) (zai rfl (zai True.intro (zai rfl ?_))))))))))));refine qC ?_;refine qB ?_;refine qC ?_;refine qC ?_;refine xA 9 3 (.int .i64) rfl ?_;refine qB ?_;intro l6_1
   try simp only [zds] at l6_1
   refine qN ?_;refine qR (fun (i : Nat)=>i ≤ s.length) (fun (i : Nat)=>[(8,.one (.own 1 0)),(9,.one (.vec 2)),(21,.one (.slk κ (rEdk κ') s)),(22,ii .i64 s.length),(23,ii .i64 i)]) (fun (i : Nat)=>[(0,.vec 111 rEnt (yG L s i).1),(1,.box 116 [.vec 0,.lit (.int .i64 (yG L s i).2.1),.lit (.int .i64 (yG L s i).2.2)]),(2,.vec 3 (.int .i64) (idsT L s i))]) 3 (fun (i : Nat)=>s.length - i) 0 (Nat.zero_le _) (qP ⟨rfl,rfl,rfl,rfl,rfl⟩ ⟨rfl,rfl,rfl⟩ rfl) ?_;intro i hI0;refine qC ?_;refine qB ?_;refine qC ?_;refine qJ rfl (fun h24=>?_) (fun h24=>?_)
   ·try simp only [decide_eq_true_eq] at h24
    try simp only [zds] at h24
    have hil : i < s.length:=(by omega);obtain ⟨hLi,hfe⟩:=took hL hf hil;have hsn:=plays_snoc L hil;have hin:=idsT_snoc L s i;have hilen:=idsT_len L s i;refine qL ?_;refine qC ?_;refine qN ?_;refine qC ?_;refine qB ?_;refine zai (by first|omega|assumption|decide|(simp only [zds];omega)|(simp <;> omega)) ?_;refine qC ?_;rcases one_cases (κ:=κ') hLi (by omega) (s.getD i ((0 : Int),(0 : Int),([] : List Fld))) hfe with ⟨hz,ho⟩|⟨n,hn,hz,ho⟩|⟨a,n,hn,hz,ho⟩
    ·refine qB ?_;refine Or.inr (Or.inl (zei [] (zei [1,0] (zei _ (zei _ (zei _ (zei _ (zei _ (zai (ho) (zai rfl (zai (zai (zai rfl rfl) (zai (zai rfl rfl) True.intro)) (zai rfl ?_))))))))))));refine qC ?_;refine qC ?_;refine qB ?_;refine qJ rfl (fun h35=>?_) (fun h35=>?_)
     ·try simp only [Bool.not_eq_true'] at h35
      try simp only [zds] at h35
      cases h35
     ·try simp only [Bool.not_eq_false'] at h35
      try simp only [zds] at h35
      refine qL ?_;refine qC ?_;refine qB ?_;refine qJ rfl (fun h40=>?_) (fun h40=>?_)
      ·try simp only [decide_eq_true_eq] at h40
       try simp only [zds] at h40
       refine qB ?_;refine zai (by first|exact qU (by first|omega|(simp only [List.length_cons,List.length_nil];omega)|(simp;omega)) (by decide)|omega|assumption|decide|(simp only [zds];omega)|(simp <;> omega)) ?_;refine qB ?_;refine zai (by first|omega|assumption|decide|(simp only [zds];omega)|(simp <;> omega)) ?_;exact ⟨i + 1,by omega,by first|omega|(simp <;> omega),qP ⟨rfl,rfl,rfl,rfl,(qS (by omega))⟩ ⟨(lsvec_eq hsn),(lsbox0_eq hsn),(qX (by rw [hin,if_pos (by omega)];try exact rfl))⟩ rfl⟩
      ·try simp only [decide_eq_false_iff_not,Int.not_lt] at h40
       try simp only [zds] at h40
       refine qL ?_;refine qB ?_;refine zai (by first|omega|assumption|decide|(simp only [zds];omega)|(simp <;> omega)) ?_;exact ⟨i + 1,by omega,by first|omega|(simp <;> omega),qP ⟨rfl,rfl,rfl,rfl,(qS (by omega))⟩ ⟨(lsvec_eq hsn),(lsbox0_eq hsn),(qX (by rw [hin,if_neg (by omega),List.append_nil]))⟩ rfl⟩
    ·refine qB ?_;refine Or.inr (Or.inl (zei [] (zei [1,0] (zei _ (zei _ (zei _ (zei _ (zei _ (zai (ho) (zai rfl (zai (zai (zai rfl rfl) (zai (zai rfl rfl) True.intro)) (zai rfl ?_))))))))))));refine qC ?_;refine qC ?_;refine qB ?_;refine qJ rfl (fun h35=>?_) (fun h35=>?_)
     ·skip
      exact absurd ((ht i hil).symm.trans hz) (by omega)
     ·try simp only [zbq] at h35
      try simp only [zds] at h35
      simp at h35
    ·refine qB ?_;refine Or.inr (Or.inl (zei [] (zei [1,0] (zei _ (zei _ (zei _ (zei _ (zei _ (zai (ho) (zai rfl (zai (zai (zai rfl rfl) (zai (zai rfl rfl) True.intro)) (zai rfl ?_))))))))))));refine qC ?_;refine qC ?_;refine qB ?_;refine qJ rfl (fun h35=>?_) (fun h35=>?_)
     ·skip
      exact absurd ((ht i hil).symm.trans hz) (by omega)
     ·try simp only [zbq] at h35
      try simp only [zds] at h35
      simp at h35
   ·try simp only [decide_eq_false_iff_not,Int.not_lt] at h24
    try simp only [zds] at h24
    refine qV ?_;refine qC ?_;refine qB ?_;refine acode_frz [2] ?_;refine qM ?_;rw [show i = s.length by omega];exact ⟨rfl,⟨rfl,rfl⟩,rfl⟩
def unkR (l : List (List Fld)) : List (List (Unit × Unit)):=l.map fun r=>r.map fun _=>((),())
def plainI (x : Itm) : Bool:=decide ((chkR x.2.2).2 = 0) && decide (x.1 = 3) && decide (bytes (foldL x.2.2) = x.2.1)
abbrev rItmU : Rd (Int × ByteArray × List (Unit × Unit)):=.st (.int .i64) (.st .str (.slk 7 rUnk2))
def unkI (l : List Itm) : List (Int × ByteArray × List (Unit × Unit)):=l.map fun x=>(x.1,x.2.1,x.2.2.map fun _=>((),()))
abbrev rStzU : Rd (Int × List (Unit × Unit)):=.st (.int .i64) (.slk 7 rUnk2)
def unkS (l : List Stz) : List (Int × List (Unit × Unit)):=l.map fun x=>(x.1,x.2.map fun _=>((),()))
def BlankI (x : Itm) : Prop:=∃ t : ByteArray,x = (1,t ++ ⟨#[10]⟩,[]) ∧ yD (ls t) = 1 ∧ (10 : UInt8) ∉ ls t
def Good1 (x : Itm) : Prop:=BlankI x ∨ (x.1 ≠ 1 ∧ Blk x)
def BIP (p : PSt) : Prop:=(∀ x ∈ p.its,x.1 = 1 → BlankI x) ∧ p.recs = (cntR p.its : Int)
theorem isRec1 (t : ByteArray) : isRec (1,t,[]) = false:=by unfold isRec;simp
theorem close_bi {p : PSt} (h : BIP p) : BIP (xO p):=by
  unfold xO;split
  · exact h
  · by_cases hf : p.flds = []
    · simp only [if_pos hf];refine ⟨fun x hx hx1=>?_,?_⟩
      · rcases List.mem_append.1 hx with hx|hx
        · exact h.1 x hx hx1
        · rw [List.mem_singleton.1 hx] at hx1;cases hx1
      · simp only [cntR_app];rw [h.2];simp [cntR,isRec]
    · simp only [if_neg hf];refine ⟨fun x hx hx1=>?_,?_⟩
      · rcases List.mem_append.1 hx with hx|hx
        · exact h.1 x hx hx1
        · rw [List.mem_singleton.1 hx] at hx1;cases hx1
      · simp only [cntR_app];rw [h.2];simp [cntR,isRec]
theorem flush_bi {p q : PSt} (h : BIP p) (hf : yO p = .inr q) : BIP q:=by
  unfold BIP;rw [(flush_same hf).1,flush_recs hf];exact h
theorem end_bi {p q : PSt} (h : BIP p) (hf : endS p = .inr q) : BIP q:=by
  unfold endS at hf;cases e : yO p with
  | inl x=>rw [e] at hf;cases hf
  | inr r=>rw [e] at hf;cases hf;exact close_bi (flush_bi h e)
theorem take_bi {p q : PSt} {l : Lne} (h : BIP p) (hf : yT p l = .inr q) (hn : (10 : UInt8) ∉ ls l.2.2.1) : BIP q:=by
  unfold yT at hf;cases e : yQ p l (yD (ls l.2.2.1)) with
  | inl x=>rw [e] at hf;cases hf
  | inr r =>
    rw [e] at hf;have hr : BIP r:=by
      unfold yQ at e;split at e
      · split at e
        · cases e
        · split at e
          · cases e;exact h
          · exact flush_bi (p:={ p with lns:=p.lns ++ [l.2.2.1] }) h e
      · split at e
        · exact end_bi h e
        · exact flush_bi h e
    simp only at hf;unfold lineS at hf;split at hf
    · cases hf
    · split at hf
      · rename_i hk;cases hf;refine ⟨fun x hx hx1=>?_,?_⟩
        · rcases List.mem_append.1 hx with hx|hx
          · exact hr.1 x hx hx1
          · exact ⟨l.2.2.1,List.mem_singleton.1 hx,hk,hn⟩
        · simp only [cntR_app];rw [hr.2];simp [cntR,isRec1]
      · split at hf
        · cases hf;exact hr
        · cases hf;exact hr
theorem run_bi : ∀ (L : List Lne) (p q : PSt),BIP p → runS p L = .inr q → (∀ l ∈ L,(10 : UInt8) ∉ ls l.2.2.1) → BIP q
  | [],p,q,hp,h,_=>by cases h;exact hp
  | l :: r,p,q,hp,h,hn=>by
    simp only [runS] at h;cases e : yT p l with
    | inl x=>rw [e] at h;cases h
    | inr p1 =>
      rw [e] at h;exact run_bi r p1 q (take_bi hp e (hn l List.mem_cons_self)) h (fun x hx=>hn x (List.mem_cons_of_mem _ hx))
theorem parse_good {s : ByteArray} {l : List Itm} (hp : xF s = .inr l) : (∀ x ∈ l,Good1 x) ∧ cntR l ≤ 400:=by
  have hb:=parse_blks hp;unfold xF at hp;cases e : runS pst0 (yZ s) with
  | inl x=>rw [e] at hp;cases hp
  | inr p =>
    rw [e] at hp;simp only at hp;cases e2 : endS p with
    | inl x=>rw [e2] at hp;cases hp
    | inr q =>
      rw [e2] at hp;cases hp;have hno : ∀ l ∈ yZ s,(10 : UInt8) ∉ ls l.2.2.1:=fun l hl=>by
        have h1 : l.2.2 ∈ (yZ s).map (·.2.2):=List.mem_map_of_mem hl;rw [lines_text] at h1;exact linesB_no _ _ _ h1
      have h1 : BIP q:=end_bi (run_bi _ _ _ ⟨(fun _ h=>by cases h),rfl⟩ e hno) e2;have h2:=(end_par (run_par _ _ _ ⟨[],0,[],pst0,rel_0,rfl,rfl,rfl,(fun _ h=>by cases h),(fun _ h=>by cases h)⟩ e hno) e2).2.2.2;refine ⟨fun x hx=>?_,by have:=h1.2;omega⟩
      by_cases hx1 : x.1 = 1
      · exact .inl (h1.1 x hx hx1)
      · exact .inr ⟨hx1,hb x hx hx1⟩
def HF (p : PSt) : Prop:=p.lns ≠ [] ∨ p.flds ≠ []
structure LGd (B : Nat) (L : Lst) : Prop where
  good : ∀ e ∈ L.1,Good1 e.1 ∧ isRec e.1 = live e
  m4 : L.2.2 ≤ 400
  sz : szI (itmL L.1) ≤ B
theorem num_good : ∀ (l : List Itm) (n : Int),1 ≤ n → (∀ x ∈ l,Good1 x) → ∀ e ∈ numI n l,Good1 e.1 ∧ isRec e.1 = live e
  | [],_,_,_,e,he=>by cases he
  | x :: r,n,hn,hg,e,he=>by
    unfold numI at he;split at he
    · rename_i hr;rcases List.mem_cons.1 he with rfl|he
      · refine ⟨hg x List.mem_cons_self,?_⟩;rw [hr];unfold live;rw [decide_eq_true (by simp only;omega)]
      · exact num_good r (n + 1) (by omega) (fun y hy=>hg y (List.mem_cons_of_mem _ hy)) e he
    · rename_i hr;rcases List.mem_cons.1 he with rfl|he
      · refine ⟨hg x List.mem_cons_self,?_⟩;rw [hr];rfl
      · exact num_good r n hn (fun y hy=>hg y (List.mem_cons_of_mem _ hy)) e he
theorem ofT_gd {s : ByteArray} {l : List Itm} (hp : xF s = .inr l) : LGd s.size (ofT l):=by
  obtain ⟨h1,h2⟩:=parse_good hp;refine ⟨num_good l 1 (Int.le_refl _) h1,by show (cntR l : Int) ≤ 400;omega,?_⟩;show szI (itmL (numI 1 l)) ≤ _;unfold itmL;rw [numI_items];have h3:=raws_text hp;rw [← raws_sz,← h3,yU];exact Nat.le_refl _
abbrev zRL9 : List C:=[.lit (.slice none 0 0),.lit (.int .i64 0)]
theorem xQ {c : Nat} (L : Lst) (h : LOk c L) (hc : c ≤ 200000) (e : Edt) (hf : qW e.2.2) : qT Tryz.prog 55 [.agg (toL rRL (L.1,L.2.1)),.agg (toL rEdt e)] (.tup [(true,toL rRL ((doL L e).1,(doL L e).2.1)),(false,[.lit (.int .i64 (newN L e))]),(false,[.lit (.int .i64 (oneN L e))])]):=by
  have hln:=h.len;have hnx:=h.next;obtain ⟨g1,g2,g3⟩:=ref_one h e;have hr1:=refRep_c L.1 L.2.1 e.2.1 e.2.2 hf (by omega);have hr2:=refDel_c L.1 L.2.1 e.2.1 (by omega);have hr3:=refIns_c L.1 L.2.1 e.2.1 e.2.2 hf (by omega) (by omega);refine yX (rs:=[.cell 4 28,.tmp 5,.tmp 6]) Tryz.func55 rfl rfl rfl teOk rfl ?_;refine qC ?_;refine qB ?_;refine qC ?_;refine qC ?_;refine qB ?_;refine qJ rfl (fun h18=>?_) (fun h18=>?_)
  ·try simp only [decide_eq_true_eq] at h18
   try simp only [zds] at h18
   refine qC ?_;refine qB ?_;refine Or.inl ?_;refine zai (rfl) ?_;refine zei _ (zai (hr1) ?_);refine qC ?_;refine qB ?_;refine qM ?_;rw [← (g1 h18).1,← (g1 h18).2,show newN L e = 0 from by unfold newN;rw [if_pos (.inl h18)]];exact rfl
  ·try simp only [decide_eq_false_iff_not] at h18
   try simp only [zds] at h18
   refine qL ?_;refine qC ?_;refine qC ?_;refine qB ?_;refine qJ rfl (fun h33=>?_) (fun h33=>?_)
   ·try simp only [decide_eq_true_eq] at h33
    try simp only [zds] at h33
    refine qC ?_;refine qB ?_;refine Or.inl ?_;refine zai (rfl) ?_;refine zei _ (zai (hr2) ?_);refine qC ?_;refine qB ?_;refine qM ?_;rw [← (g2 h33).1,← (g2 h33).2,show newN L e = 0 from by unfold newN;rw [if_pos (.inr h33)]];exact rfl
   ·try simp only [decide_eq_false_iff_not] at h33
    try simp only [zds] at h33
    refine qL ?_;refine qC ?_;refine qB ?_;refine Or.inl ?_;refine zai (rfl) ?_;refine zei _ (zai (hr3) ?_);refine qC ?_;refine qB ?_;refine qM ?_;rw [← (g3 h18 h33).1,← (g3 h18 h33).2.1,← (g3 h18 h33).2.2];exact rfl
theorem refDoC_c (L : Lst) (s : List Edt) (hf : ∀ e ∈ s,qW e.2.2) (hl : s.length ≤ 1000000) (h : (chkB s).2 ≠ 0) : qT Tryz.prog 14 [.agg (toL rRL (L.1,L.2.1)),.one (.sl rEdt s)] (.tup [(true,toL rRL (L.1,L.2.1)),(false,[.lit (.slice none 0 0)]),(false,[.lit (.int .i64 (chkB s).1)]),(false,[.lit (.int .i64 (chkB s).2)])]):=by
  have hr:=refCheck9_c s hf hl;refine yX (rs:=[.cell 4 28,.tmp 5,.tmp 6,.tmp 7]) Tryz.func14 rfl rfl rfl teOk rfl ?_;refine qC ?_;refine qB ?_;refine qC ?_;refine qC ?_;refine qB ?_;refine Or.inl ?_;refine zai (rfl) ?_;refine zei _ (zai (hr) ?_);refine qC ?_;refine qB ?_;refine qJ rfl (fun h22=>?_) (fun h22=>?_)
  ·try simp only [decide_eq_false_iff_not,Bool.not_eq_true'] at h22
   try simp only [zds] at h22
   refine qC ?_;refine qB ?_;refine qM ?_;rfl
  ·try simp only [decide_eq_true_eq,Bool.not_eq_false'] at h22
   try simp only [zds] at h22
   exact absurd h22 h
theorem yW {L M : Lst} (h : M = L) : some (Ob.box 28 (toL rRL (L.1,L.2.1))) = some (Ob.box 28 (toL rRL (M.1,M.2.1))):=by rw [h]
theorem refDoBad_c {c : Nat} (L : Lst) (s : List Edt) (hL : LOk c L) (hc : c + s.length ≤ 200000) (hf : ∀ e ∈ s,qW e.2.2) (h : (chkB s).2 = 0) (q : Nat) (hq : q < s.length) (hb : oneN (yG L s q) (s.getD q ((0 : Int),(0 : Int),([] : List Fld))) ≠ 0) (ht : ∀ j,j < q → oneN (yG L s j) (s.getD j ((0 : Int),(0 : Int),([] : List Fld))) = 0) :
    qT Tryz.prog 14 [.agg (toL rRL (L.1,L.2.1)),.one (.sl rEdt s)] (.tup [(true,toL rRL (L.1,L.2.1)),(false,[.lit (.slice none 0 0)]),(false,[.lit (.int .i64 q)]),(false,[.lit (.int .i64 (oneN (yG L s q) (s.getD q ((0 : Int),(0 : Int),([] : List Fld)))))])]):=by
  obtain ⟨hln,hgd⟩:=chkB_zero h;have hr:=refCheck9_c s hf (by omega);rw [chkB_good h] at hr;have hlen:=hL.len;refine yX (rs:=[.cell 4 28,.tmp 5,.tmp 6,.tmp 7]) Tryz.func14 rfl rfl rfl teOk rfl ?_;refine qC ?_;refine qB ?_;refine qC ?_;refine qC ?_;refine qB ?_;refine Or.inl ?_;refine zai (rfl) ?_;refine zei _ (zai (hr) ?_);refine qC ?_;refine qB ?_;refine qJ rfl (fun h22=>?_) (fun h22=>?_)
  ·try simp only [decide_eq_false_iff_not,Bool.not_eq_true'] at h22
   try simp only [zds] at h22
   simp at h22
  ·try simp only [decide_eq_true_eq,Bool.not_eq_false'] at h22
   try simp only [zds] at h22
   refine qL ?_;refine qC ?_;refine qB ?_;refine qC ?_;refine qB ?_;refine qC ?_;refine qC ?_;refine xA 11 3 (.int .i64) rfl ?_;refine qB ?_;refine qN ?_;refine qR (fun (i : Nat)=>i ≤ q) (fun (i : Nat)=>[(1,.one (.sl rEdt s)),(2,.one (.own 0 0)),(4,.one (.own 1 0)),(10,.one (.own 2 0)),(11,.one (.vec 3)),(12,ii .i64 i)]) (fun (i : Nat)=>[(0,.box 28 (toL rRL (L.1,L.2.1))),(1,.box 28 zRL9),(2,.box 28 (toL rRL ((yG L s i).1,(yG L s i).2.1))),(3,.vec 3 (.int .i64) (idsT L s i))]) 4 (fun (i : Nat)=>q - i) 0 (Nat.zero_le _) (qP ⟨rfl,rfl,rfl,rfl,rfl,rfl⟩ ⟨rfl,rfl,rfl,rfl⟩ rfl) ?_;intro i hI0;refine qC ?_;refine qC ?_;refine qB ?_;intro l7_2
   try simp only [zds] at l7_2
   refine qJ rfl (fun h30=>?_) (fun h30=>?_)
   ·try simp only [decide_eq_true_eq] at h30
    try simp only [zds] at h30
    have hil : i < s.length:=(by omega);obtain ⟨hLi,hfe⟩:=took hL hf hil;have hsn:=plays_snoc L hil;have hin:=idsT_snoc L s i;have hilen:=idsT_len L s i;refine qL ?_;refine qC ?_;refine qN ?_;refine qC ?_;refine yV rfl ?_;refine qI 1 rfl rfl rfl (by kernel_rfl) ?_;refine qI 2 rfl rfl rfl (by kernel_rfl) ?_;refine qI 3 rfl rfl rfl (by kernel_rfl) ?_;refine zai (by first|omega|assumption|decide|(simp only [zds];omega)|(simp <;> omega)) ?_;refine qK [0,4,10] (by kernel_rfl) rfl ?_;refine zai ?_ ?_
    ·refine qK [4,10] (by kernel_rfl) rfl ?_;refine zai ?_ ?_
     ·refine qK [5,10] (by kernel_rfl) rfl ?_;refine zai ?_ ?_
      ·refine Or.inl ?_;refine zai (rfl) ?_;refine zei _ (zai (xQ (yG L s i) hLi (by omega) (s.getD i ((0 : Int),(0 : Int),([] : List Fld))) hfe) ?_);refine qI 6 rfl rfl rfl (by kernel_rfl) ?_;refine qI 7 rfl rfl rfl (by kernel_rfl) ?_;refine qI 8 rfl rfl rfl (by kernel_rfl) ?_;refine qI 9 rfl rfl rfl (by kernel_rfl) ?_;refine qK [10] (by kernel_rfl) rfl ?_;refine qK [11] (by kernel_rfl) rfl ?_;refine qI 12 rfl rfl rfl (by kernel_rfl) ?_;refine qI 13 rfl rfl rfl (by kernel_rfl) ?_;refine qO (by kernel_rfl) ?_;refine qC ?_;refine qC ?_;refine qB ?_;refine qJ rfl (fun h44=>?_) (fun h44=>?_)
       ·try simp only [decide_eq_false_iff_not,Bool.not_eq_true'] at h44
        try simp only [zds] at h44
        have hiq : i = q:=(by rcases Nat.lt_or_ge i q with h1|h1;exact absurd (ht i h1) h44;omega);subst hiq;refine qC ?_;refine qB ?_;refine qM ?_;rfl
       ·try simp only [decide_eq_true_eq,Bool.not_eq_false'] at h44
        try simp only [zds] at h44
        have hlt : i < q:=(by rcases Nat.lt_or_ge i q with h1|h1;exact h1;have e1 : i = q:=(by omega);rw [e1] at h44;exact absurd h44 hb);refine qL ?_;refine qC ?_;refine qB ?_;refine qC ?_;refine qB ?_;refine qJ rfl (fun h50=>?_) (fun h50=>?_)
        ·try simp only [decide_eq_true_eq] at h50
         try simp only [zds] at h50
         refine qB ?_;refine zai (by first|exact qU (by first|omega|(simp only [List.length_cons,List.length_nil];omega)|(simp;omega)) (by decide)|omega|assumption|decide|(simp only [zds];omega)|(simp <;> omega)) ?_;refine qB ?_;refine zai (by first|omega|assumption|decide|(simp only [zds];omega)|(simp <;> omega)) ?_;exact ⟨i + 1,by omega,by first|omega|(simp <;> omega),qP ⟨rfl,rfl,rfl,rfl,rfl,(qS (by omega))⟩ ⟨rfl,rfl,(yW hsn),(qX (by rw [hin];(try rw [if_pos (by omega)]);(try rw [if_neg (by omega),List.append_nil]);(try exact rfl)))⟩ rfl⟩
        ·try simp only [decide_eq_false_iff_not,Int.not_lt] at h50
         try simp only [zds] at h50
         refine qL ?_;refine qB ?_;refine zai (by first|omega|assumption|decide|(simp only [zds];omega)|(simp <;> omega)) ?_;exact ⟨i + 1,by omega,by first|omega|(simp <;> omega),qP ⟨rfl,rfl,rfl,rfl,rfl,(qS (by omega))⟩ ⟨rfl,rfl,(yW hsn),(qX (by rw [hin];(try rw [if_pos (by omega)]);(try rw [if_neg (by omega),List.append_nil]);(try exact rfl)))⟩ rfl⟩
      ·refine qK [5] (by kernel_rfl) rfl ?_;refine Or.inl ?_;refine zai (rfl) ?_;refine zei _ (zai (xQ (yG L s i) hLi (by omega) (s.getD i ((0 : Int),(0 : Int),([] : List Fld))) hfe) ?_);refine qI 6 rfl rfl rfl (by kernel_rfl) ?_;refine qI 7 rfl rfl rfl (by kernel_rfl) ?_;refine qI 8 rfl rfl rfl (by kernel_rfl) ?_;refine qI 9 rfl rfl rfl (by kernel_rfl) ?_;refine qK [11] (by kernel_rfl) rfl ?_;refine qI 12 rfl rfl rfl (by kernel_rfl) ?_;refine qI 13 rfl rfl rfl (by kernel_rfl) ?_;refine qO (by kernel_rfl) ?_;refine qC ?_;refine qC ?_;refine qB ?_;refine qJ rfl (fun h44=>?_) (fun h44=>?_)
       ·try simp only [decide_eq_false_iff_not,Bool.not_eq_true'] at h44
        try simp only [zds] at h44
        have hiq : i = q:=(by rcases Nat.lt_or_ge i q with h1|h1;exact absurd (ht i h1) h44;omega);subst hiq;refine qC ?_;refine qB ?_;refine qM ?_;rfl
       ·try simp only [decide_eq_true_eq,Bool.not_eq_false'] at h44
        try simp only [zds] at h44
        have hlt : i < q:=(by rcases Nat.lt_or_ge i q with h1|h1;exact h1;have e1 : i = q:=(by omega);rw [e1] at h44;exact absurd h44 hb);refine qL ?_;refine qC ?_;refine qB ?_;refine qC ?_;refine qB ?_;refine qJ rfl (fun h50=>?_) (fun h50=>?_)
        ·try simp only [decide_eq_true_eq] at h50
         try simp only [zds] at h50
         refine qB ?_;refine zai (by first|exact qU (by first|omega|(simp only [List.length_cons,List.length_nil];omega)|(simp;omega)) (by decide)|omega|assumption|decide|(simp only [zds];omega)|(simp <;> omega)) ?_;refine qB ?_;refine zai (by first|omega|assumption|decide|(simp only [zds];omega)|(simp <;> omega)) ?_;exact ⟨i + 1,by omega,by first|omega|(simp <;> omega),qP ⟨rfl,rfl,rfl,rfl,rfl,(qS (by omega))⟩ ⟨rfl,rfl,(yW hsn),(qX (by rw [hin];(try rw [if_pos (by omega)]);(try rw [if_neg (by omega),List.append_nil]);(try exact rfl)))⟩ rfl⟩
        ·try simp only [decide_eq_false_iff_not,Int.not_lt] at h50
         try simp only [zds] at h50
         refine qL ?_;refine qB ?_;refine zai (by first|omega|assumption|decide|(simp only [zds];omega)|(simp <;> omega)) ?_;exact ⟨i + 1,by omega,by first|omega|(simp <;> omega),qP ⟨rfl,rfl,rfl,rfl,rfl,(qS (by omega))⟩ ⟨rfl,rfl,(yW hsn),(qX (by rw [hin];(try rw [if_pos (by omega)]);(try rw [if_neg (by omega),List.append_nil]);(try exact rfl)))⟩ rfl⟩
     ·refine qK [4] (by kernel_rfl) rfl ?_;refine qK [5] (by kernel_rfl) rfl ?_;refine Or.inl ?_;refine zai (rfl) ?_;refine zei _ (zai (xQ (yG L s i) hLi (by omega) (s.getD i ((0 : Int),(0 : Int),([] : List Fld))) hfe) ?_);refine qI 6 rfl rfl rfl (by kernel_rfl) ?_;refine qI 7 rfl rfl rfl (by kernel_rfl) ?_;refine qI 8 rfl rfl rfl (by kernel_rfl) ?_;refine qI 9 rfl rfl rfl (by kernel_rfl) ?_;refine qK [11] (by kernel_rfl) rfl ?_;refine qI 12 rfl rfl rfl (by kernel_rfl) ?_;refine qI 13 rfl rfl rfl (by kernel_rfl) ?_;refine qO (by kernel_rfl) ?_;refine qC ?_;refine qC ?_;refine qB ?_;refine qJ rfl (fun h44=>?_) (fun h44=>?_)
      ·try simp only [decide_eq_false_iff_not,Bool.not_eq_true'] at h44
       try simp only [zds] at h44
       have hiq : i = q:=(by rcases Nat.lt_or_ge i q with h1|h1;exact absurd (ht i h1) h44;omega);subst hiq;refine qC ?_;refine qB ?_;refine qM ?_;rfl
      ·try simp only [decide_eq_true_eq,Bool.not_eq_false'] at h44
       try simp only [zds] at h44
       have hlt : i < q:=(by rcases Nat.lt_or_ge i q with h1|h1;exact h1;have e1 : i = q:=(by omega);rw [e1] at h44;exact absurd h44 hb);refine qL ?_;refine qC ?_;refine qB ?_;refine qC ?_;refine qB ?_;refine qJ rfl (fun h50=>?_) (fun h50=>?_)
       ·try simp only [decide_eq_true_eq] at h50
        try simp only [zds] at h50
        refine qB ?_;refine zai (by first|exact qU (by first|omega|(simp only [List.length_cons,List.length_nil];omega)|(simp;omega)) (by decide)|omega|assumption|decide|(simp only [zds];omega)|(simp <;> omega)) ?_;refine qB ?_;refine zai (by first|omega|assumption|decide|(simp only [zds];omega)|(simp <;> omega)) ?_;exact ⟨i + 1,by omega,by first|omega|(simp <;> omega),qP ⟨rfl,rfl,rfl,rfl,rfl,(qS (by omega))⟩ ⟨rfl,rfl,(yW hsn),(qX (by rw [hin];(try rw [if_pos (by omega)]);(try rw [if_neg (by omega),List.append_nil]);(try exact rfl)))⟩ rfl⟩
       ·try simp only [decide_eq_false_iff_not,Int.not_lt] at h50
        try simp only [zds] at h50
        refine qL ?_;refine qB ?_;refine zai (by first|omega|assumption|decide|(simp only [zds];omega)|(simp <;> omega)) ?_;exact ⟨i + 1,by omega,by first|omega|(simp <;> omega),qP ⟨rfl,rfl,rfl,rfl,rfl,(qS (by omega))⟩ ⟨rfl,rfl,(yW hsn),(qX (by rw [hin];(try rw [if_pos (by omega)]);(try rw [if_neg (by omega),List.append_nil]);(try exact rfl)))⟩ rfl⟩
    refine zai ?_ ?_
    ·refine qK [0,10] (by kernel_rfl) rfl ?_;refine zai ?_ ?_
     ·refine qK [5,10] (by kernel_rfl) rfl ?_;refine zai ?_ ?_
      ·refine Or.inl ?_;refine zai (rfl) ?_;refine zei _ (zai (xQ (yG L s i) hLi (by omega) (s.getD i ((0 : Int),(0 : Int),([] : List Fld))) hfe) ?_);refine qI 6 rfl rfl rfl (by kernel_rfl) ?_;refine qI 7 rfl rfl rfl (by kernel_rfl) ?_;refine qI 8 rfl rfl rfl (by kernel_rfl) ?_;refine qI 9 rfl rfl rfl (by kernel_rfl) ?_;refine qK [10] (by kernel_rfl) rfl ?_;refine qK [11] (by kernel_rfl) rfl ?_;refine qI 12 rfl rfl rfl (by kernel_rfl) ?_;refine qI 13 rfl rfl rfl (by kernel_rfl) ?_;refine qO (by kernel_rfl) ?_;refine qC ?_;refine qC ?_;refine qB ?_;refine qJ rfl (fun h44=>?_) (fun h44=>?_)
       ·try simp only [decide_eq_false_iff_not,Bool.not_eq_true'] at h44
        try simp only [zds] at h44
        have hiq : i = q:=(by rcases Nat.lt_or_ge i q with h1|h1;exact absurd (ht i h1) h44;omega);subst hiq;refine qC ?_;refine qB ?_;refine qM ?_;rfl
       ·try simp only [decide_eq_true_eq,Bool.not_eq_false'] at h44
        try simp only [zds] at h44
        have hlt : i < q:=(by rcases Nat.lt_or_ge i q with h1|h1;exact h1;have e1 : i = q:=(by omega);rw [e1] at h44;exact absurd h44 hb);refine qL ?_;refine qC ?_;refine qB ?_;refine qC ?_;refine qB ?_;refine qJ rfl (fun h50=>?_) (fun h50=>?_)
        ·try simp only [decide_eq_true_eq] at h50
         try simp only [zds] at h50
         refine qB ?_;refine zai (by first|exact qU (by first|omega|(simp only [List.length_cons,List.length_nil];omega)|(simp;omega)) (by decide)|omega|assumption|decide|(simp only [zds];omega)|(simp <;> omega)) ?_;refine qB ?_;refine zai (by first|omega|assumption|decide|(simp only [zds];omega)|(simp <;> omega)) ?_;exact ⟨i + 1,by omega,by first|omega|(simp <;> omega),qP ⟨rfl,rfl,rfl,rfl,rfl,(qS (by omega))⟩ ⟨rfl,rfl,(yW hsn),(qX (by rw [hin];(try rw [if_pos (by omega)]);(try rw [if_neg (by omega),List.append_nil]);(try exact rfl)))⟩ rfl⟩
        ·try simp only [decide_eq_false_iff_not,Int.not_lt] at h50
         try simp only [zds] at h50
         refine qL ?_;refine qB ?_;refine zai (by first|omega|assumption|decide|(simp only [zds];omega)|(simp <;> omega)) ?_;exact ⟨i + 1,by omega,by first|omega|(simp <;> omega),qP ⟨rfl,rfl,rfl,rfl,rfl,(qS (by omega))⟩ ⟨rfl,rfl,(yW hsn),(qX (by rw [hin];(try rw [if_pos (by omega)]);(try rw [if_neg (by omega),List.append_nil]);(try exact rfl)))⟩ rfl⟩
      ·refine qK [5] (by kernel_rfl) rfl ?_;refine Or.inl ?_;refine zai (rfl) ?_;refine zei _ (zai (xQ (yG L s i) hLi (by omega) (s.getD i ((0 : Int),(0 : Int),([] : List Fld))) hfe) ?_);refine qI 6 rfl rfl rfl (by kernel_rfl) ?_;refine qI 7 rfl rfl rfl (by kernel_rfl) ?_;refine qI 8 rfl rfl rfl (by kernel_rfl) ?_;refine qI 9 rfl rfl rfl (by kernel_rfl) ?_;refine qK [11] (by kernel_rfl) rfl ?_;refine qI 12 rfl rfl rfl (by kernel_rfl) ?_;refine qI 13 rfl rfl rfl (by kernel_rfl) ?_;refine qO (by kernel_rfl) ?_;refine qC ?_;refine qC ?_;refine qB ?_;refine qJ rfl (fun h44=>?_) (fun h44=>?_)
       ·try simp only [decide_eq_false_iff_not,Bool.not_eq_true'] at h44
        try simp only [zds] at h44
        have hiq : i = q:=(by rcases Nat.lt_or_ge i q with h1|h1;exact absurd (ht i h1) h44;omega);subst hiq;refine qC ?_;refine qB ?_;refine qM ?_;rfl
       ·try simp only [decide_eq_true_eq,Bool.not_eq_false'] at h44
        try simp only [zds] at h44
        have hlt : i < q:=(by rcases Nat.lt_or_ge i q with h1|h1;exact h1;have e1 : i = q:=(by omega);rw [e1] at h44;exact absurd h44 hb);refine qL ?_;refine qC ?_;refine qB ?_;refine qC ?_;refine qB ?_;refine qJ rfl (fun h50=>?_) (fun h50=>?_)
        ·try simp only [decide_eq_true_eq] at h50
         try simp only [zds] at h50
         refine qB ?_;refine zai (by first|exact qU (by first|omega|(simp only [List.length_cons,List.length_nil];omega)|(simp;omega)) (by decide)|omega|assumption|decide|(simp only [zds];omega)|(simp <;> omega)) ?_;refine qB ?_;refine zai (by first|omega|assumption|decide|(simp only [zds];omega)|(simp <;> omega)) ?_;exact ⟨i + 1,by omega,by first|omega|(simp <;> omega),qP ⟨rfl,rfl,rfl,rfl,rfl,(qS (by omega))⟩ ⟨rfl,rfl,(yW hsn),(qX (by rw [hin];(try rw [if_pos (by omega)]);(try rw [if_neg (by omega),List.append_nil]);(try exact rfl)))⟩ rfl⟩
        ·try simp only [decide_eq_false_iff_not,Int.not_lt] at h50
         try simp only [zds] at h50
         refine qL ?_;refine qB ?_;refine zai (by first|omega|assumption|decide|(simp only [zds];omega)|(simp <;> omega)) ?_;exact ⟨i + 1,by omega,by first|omega|(simp <;> omega),qP ⟨rfl,rfl,rfl,rfl,rfl,(qS (by omega))⟩ ⟨rfl,rfl,(yW hsn),(qX (by rw [hin];(try rw [if_pos (by omega)]);(try rw [if_neg (by omega),List.append_nil]);(try exact rfl)))⟩ rfl⟩
     ·refine qK [0] (by kernel_rfl) rfl ?_;refine qK [5] (by kernel_rfl) rfl ?_;refine Or.inl ?_;refine zai (rfl) ?_;refine zei _ (zai (xQ (yG L s i) hLi (by omega) (s.getD i ((0 : Int),(0 : Int),([] : List Fld))) hfe) ?_);refine qI 6 rfl rfl rfl (by kernel_rfl) ?_;refine qI 7 rfl rfl rfl (by kernel_rfl) ?_;refine qI 8 rfl rfl rfl (by kernel_rfl) ?_;refine qI 9 rfl rfl rfl (by kernel_rfl) ?_;refine qK [11] (by kernel_rfl) rfl ?_;refine qI 12 rfl rfl rfl (by kernel_rfl) ?_;refine qI 13 rfl rfl rfl (by kernel_rfl) ?_;refine qO (by kernel_rfl) ?_;refine qC ?_;refine qC ?_;refine qB ?_;refine qJ rfl (fun h44=>?_) (fun h44=>?_)
      ·try simp only [decide_eq_false_iff_not,Bool.not_eq_true'] at h44
       try simp only [zds] at h44
       have hiq : i = q:=(by rcases Nat.lt_or_ge i q with h1|h1;exact absurd (ht i h1) h44;omega);subst hiq;refine qC ?_;refine qB ?_;refine qM ?_;rfl
      ·try simp only [decide_eq_true_eq,Bool.not_eq_false'] at h44
       try simp only [zds] at h44
       have hlt : i < q:=(by rcases Nat.lt_or_ge i q with h1|h1;exact h1;have e1 : i = q:=(by omega);rw [e1] at h44;exact absurd h44 hb);refine qL ?_;refine qC ?_;refine qB ?_;refine qC ?_;refine qB ?_;refine qJ rfl (fun h50=>?_) (fun h50=>?_)
       ·try simp only [decide_eq_true_eq] at h50
        try simp only [zds] at h50
        refine qB ?_;refine zai (by first|exact qU (by first|omega|(simp only [List.length_cons,List.length_nil];omega)|(simp;omega)) (by decide)|omega|assumption|decide|(simp only [zds];omega)|(simp <;> omega)) ?_;refine qB ?_;refine zai (by first|omega|assumption|decide|(simp only [zds];omega)|(simp <;> omega)) ?_;exact ⟨i + 1,by omega,by first|omega|(simp <;> omega),qP ⟨rfl,rfl,rfl,rfl,rfl,(qS (by omega))⟩ ⟨rfl,rfl,(yW hsn),(qX (by rw [hin];(try rw [if_pos (by omega)]);(try rw [if_neg (by omega),List.append_nil]);(try exact rfl)))⟩ rfl⟩
       ·try simp only [decide_eq_false_iff_not,Int.not_lt] at h50
        try simp only [zds] at h50
        refine qL ?_;refine qB ?_;refine zai (by first|omega|assumption|decide|(simp only [zds];omega)|(simp <;> omega)) ?_;exact ⟨i + 1,by omega,by first|omega|(simp <;> omega),qP ⟨rfl,rfl,rfl,rfl,rfl,(qS (by omega))⟩ ⟨rfl,rfl,(yW hsn),(qX (by rw [hin];(try rw [if_pos (by omega)]);(try rw [if_neg (by omega),List.append_nil]);(try exact rfl)))⟩ rfl⟩
    ·refine qK [0,4] (by kernel_rfl) rfl ?_;refine zai ?_ ?_
     ·refine qK [4] (by kernel_rfl) rfl ?_;refine qK [5] (by kernel_rfl) rfl ?_;refine Or.inl ?_;refine zai (rfl) ?_;refine zei _ (zai (xQ (yG L s i) hLi (by omega) (s.getD i ((0 : Int),(0 : Int),([] : List Fld))) hfe) ?_);refine qI 6 rfl rfl rfl (by kernel_rfl) ?_;refine qI 7 rfl rfl rfl (by kernel_rfl) ?_;refine qI 8 rfl rfl rfl (by kernel_rfl) ?_;refine qI 9 rfl rfl rfl (by kernel_rfl) ?_;refine qK [11] (by kernel_rfl) rfl ?_;refine qI 12 rfl rfl rfl (by kernel_rfl) ?_;refine qI 13 rfl rfl rfl (by kernel_rfl) ?_;refine qO (by kernel_rfl) ?_;refine qC ?_;refine qC ?_;refine qB ?_;refine qJ rfl (fun h44=>?_) (fun h44=>?_)
      ·try simp only [decide_eq_false_iff_not,Bool.not_eq_true'] at h44
       try simp only [zds] at h44
       have hiq : i = q:=(by rcases Nat.lt_or_ge i q with h1|h1;exact absurd (ht i h1) h44;omega);subst hiq;refine qC ?_;refine qB ?_;refine qM ?_;rfl
      ·try simp only [decide_eq_true_eq,Bool.not_eq_false'] at h44
       try simp only [zds] at h44
       have hlt : i < q:=(by rcases Nat.lt_or_ge i q with h1|h1;exact h1;have e1 : i = q:=(by omega);rw [e1] at h44;exact absurd h44 hb);refine qL ?_;refine qC ?_;refine qB ?_;refine qC ?_;refine qB ?_;refine qJ rfl (fun h50=>?_) (fun h50=>?_)
       ·try simp only [decide_eq_true_eq] at h50
        try simp only [zds] at h50
        refine qB ?_;refine zai (by first|exact qU (by first|omega|(simp only [List.length_cons,List.length_nil];omega)|(simp;omega)) (by decide)|omega|assumption|decide|(simp only [zds];omega)|(simp <;> omega)) ?_;refine qB ?_;refine zai (by first|omega|assumption|decide|(simp only [zds];omega)|(simp <;> omega)) ?_;exact ⟨i + 1,by omega,by first|omega|(simp <;> omega),qP ⟨rfl,rfl,rfl,rfl,rfl,(qS (by omega))⟩ ⟨rfl,rfl,(yW hsn),(qX (by rw [hin];(try rw [if_pos (by omega)]);(try rw [if_neg (by omega),List.append_nil]);(try exact rfl)))⟩ rfl⟩
       ·try simp only [decide_eq_false_iff_not,Int.not_lt] at h50
        try simp only [zds] at h50
        refine qL ?_;refine qB ?_;refine zai (by first|omega|assumption|decide|(simp only [zds];omega)|(simp <;> omega)) ?_;exact ⟨i + 1,by omega,by first|omega|(simp <;> omega),qP ⟨rfl,rfl,rfl,rfl,rfl,(qS (by omega))⟩ ⟨rfl,rfl,(yW hsn),(qX (by rw [hin];(try rw [if_pos (by omega)]);(try rw [if_neg (by omega),List.append_nil]);(try exact rfl)))⟩ rfl⟩
     ·refine qK [0] (by kernel_rfl) rfl ?_;refine qK [5] (by kernel_rfl) rfl ?_;refine Or.inl ?_;refine zai (rfl) ?_;refine zei _ (zai (xQ (yG L s i) hLi (by omega) (s.getD i ((0 : Int),(0 : Int),([] : List Fld))) hfe) ?_);refine qI 6 rfl rfl rfl (by kernel_rfl) ?_;refine qI 7 rfl rfl rfl (by kernel_rfl) ?_;refine qI 8 rfl rfl rfl (by kernel_rfl) ?_;refine qI 9 rfl rfl rfl (by kernel_rfl) ?_;refine qK [11] (by kernel_rfl) rfl ?_;refine qI 12 rfl rfl rfl (by kernel_rfl) ?_;refine qI 13 rfl rfl rfl (by kernel_rfl) ?_;refine qO (by kernel_rfl) ?_;refine qC ?_;refine qC ?_;refine qB ?_;refine qJ rfl (fun h44=>?_) (fun h44=>?_)
      ·try simp only [decide_eq_false_iff_not,Bool.not_eq_true'] at h44
       try simp only [zds] at h44
       have hiq : i = q:=(by rcases Nat.lt_or_ge i q with h1|h1;exact absurd (ht i h1) h44;omega);subst hiq;refine qC ?_;refine qB ?_;refine qM ?_;rfl
      ·try simp only [decide_eq_true_eq,Bool.not_eq_false'] at h44
       try simp only [zds] at h44
       have hlt : i < q:=(by rcases Nat.lt_or_ge i q with h1|h1;exact h1;have e1 : i = q:=(by omega);rw [e1] at h44;exact absurd h44 hb);refine qL ?_;refine qC ?_;refine qB ?_;refine qC ?_;refine qB ?_;refine qJ rfl (fun h50=>?_) (fun h50=>?_)
       ·try simp only [decide_eq_true_eq] at h50
        try simp only [zds] at h50
        refine qB ?_;refine zai (by first|exact qU (by first|omega|(simp only [List.length_cons,List.length_nil];omega)|(simp;omega)) (by decide)|omega|assumption|decide|(simp only [zds];omega)|(simp <;> omega)) ?_;refine qB ?_;refine zai (by first|omega|assumption|decide|(simp only [zds];omega)|(simp <;> omega)) ?_;exact ⟨i + 1,by omega,by first|omega|(simp <;> omega),qP ⟨rfl,rfl,rfl,rfl,rfl,(qS (by omega))⟩ ⟨rfl,rfl,(yW hsn),(qX (by rw [hin];(try rw [if_pos (by omega)]);(try rw [if_neg (by omega),List.append_nil]);(try exact rfl)))⟩ rfl⟩
       ·try simp only [decide_eq_false_iff_not,Int.not_lt] at h50
        try simp only [zds] at h50
        refine qL ?_;refine qB ?_;refine zai (by first|omega|assumption|decide|(simp only [zds];omega)|(simp <;> omega)) ?_;exact ⟨i + 1,by omega,by first|omega|(simp <;> omega),qP ⟨rfl,rfl,rfl,rfl,rfl,(qS (by omega))⟩ ⟨rfl,rfl,(yW hsn),(qX (by rw [hin];(try rw [if_pos (by omega)]);(try rw [if_neg (by omega),List.append_nil]);(try exact rfl)))⟩ rfl⟩
   ·try simp only [decide_eq_false_iff_not,Int.not_lt] at h30
    try simp only [zds] at h30
    omega
theorem refDoOk_c {c : Nat} (L : Lst) (s : List Edt) (hL : LOk c L) (hc : c + s.length ≤ 200000) (hf : ∀ e ∈ s,qW e.2.2) (h : (chkB s).2 = 0) (ht : ∀ j,j < s.length → oneN (yG L s j) (s.getD j ((0 : Int),(0 : Int),([] : List Fld))) = 0) :
    qT Tryz.prog 14 [.agg (toL rRL (L.1,L.2.1)),.one (.sl rEdt s)] (.tup [(true,toL rRL ((yG L s s.length).1,(yG L s s.length).2.1)),(false,[.sl (.int .i64) (idsT L s s.length)]),(false,[.lit (.int .i64 (-9))]),(false,[.lit (.int .i64 0)])]):=by
  obtain ⟨hln,hgd⟩:=chkB_zero h;have hr:=refCheck9_c s hf (by omega);rw [chkB_good h] at hr;have hlen:=hL.len;refine yX (rs:=[.cell 4 28,.tmp 5,.tmp 6,.tmp 7]) Tryz.func14 rfl rfl rfl teOk rfl ?_;refine qC ?_;refine qB ?_;refine qC ?_;refine qC ?_;refine qB ?_;refine Or.inl ?_;refine zai (rfl) ?_;refine zei _ (zai (hr) ?_);refine qC ?_;refine qB ?_;refine qJ rfl (fun h22=>?_) (fun h22=>?_)
  ·try simp only [decide_eq_false_iff_not,Bool.not_eq_true'] at h22
   try simp only [zds] at h22
   simp at h22
  ·try simp only [decide_eq_true_eq,Bool.not_eq_false'] at h22
   try simp only [zds] at h22
   refine qL ?_;refine qC ?_;refine qB ?_;refine qC ?_;refine qB ?_;refine qC ?_;refine qC ?_;refine xA 11 3 (.int .i64) rfl ?_;refine qB ?_;refine qN ?_;refine qR (fun (i : Nat)=>i ≤ s.length) (fun (i : Nat)=>[(1,.one (.sl rEdt s)),(2,.one (.own 0 0)),(4,.one (.own 1 0)),(10,.one (.own 2 0)),(11,.one (.vec 3)),(12,ii .i64 i)]) (fun (i : Nat)=>[(0,.box 28 (toL rRL (L.1,L.2.1))),(1,.box 28 zRL9),(2,.box 28 (toL rRL ((yG L s i).1,(yG L s i).2.1))),(3,.vec 3 (.int .i64) (idsT L s i))]) 4 (fun (i : Nat)=>s.length - i) 0 (Nat.zero_le _) (qP ⟨rfl,rfl,rfl,rfl,rfl,rfl⟩ ⟨rfl,rfl,rfl,rfl⟩ rfl) ?_;intro i hI0;refine qC ?_;refine qC ?_;refine qB ?_;intro l7_2
   try simp only [zds] at l7_2
   refine qJ rfl (fun h30=>?_) (fun h30=>?_)
   ·try simp only [decide_eq_true_eq] at h30
    try simp only [zds] at h30
    have hil : i < s.length:=(by omega);obtain ⟨hLi,hfe⟩:=took hL hf hil;have hsn:=plays_snoc L hil;have hin:=idsT_snoc L s i;have hilen:=idsT_len L s i;refine qL ?_;refine qC ?_;refine qN ?_;refine qC ?_;refine yV rfl ?_;refine qI 1 rfl rfl rfl (by kernel_rfl) ?_;refine qI 2 rfl rfl rfl (by kernel_rfl) ?_;refine qI 3 rfl rfl rfl (by kernel_rfl) ?_;refine zai (by first|omega|assumption|decide|(simp only [zds];omega)|(simp <;> omega)) ?_;refine qK [0,4,10] (by kernel_rfl) rfl ?_;refine zai ?_ ?_
    ·refine qK [4,10] (by kernel_rfl) rfl ?_;refine zai ?_ ?_
     ·refine qK [5,10] (by kernel_rfl) rfl ?_;refine zai ?_ ?_
      ·refine Or.inl ?_;refine zai (rfl) ?_;refine zei _ (zai (xQ (yG L s i) hLi (by omega) (s.getD i ((0 : Int),(0 : Int),([] : List Fld))) hfe) ?_);refine qI 6 rfl rfl rfl (by kernel_rfl) ?_;refine qI 7 rfl rfl rfl (by kernel_rfl) ?_;refine qI 8 rfl rfl rfl (by kernel_rfl) ?_;refine qI 9 rfl rfl rfl (by kernel_rfl) ?_;refine qK [10] (by kernel_rfl) rfl ?_;refine qK [11] (by kernel_rfl) rfl ?_;refine qI 12 rfl rfl rfl (by kernel_rfl) ?_;refine qI 13 rfl rfl rfl (by kernel_rfl) ?_;refine qO (by kernel_rfl) ?_;refine qC ?_;refine qC ?_;refine qB ?_;refine qJ rfl (fun h44=>?_) (fun h44=>?_)
       ·try simp only [decide_eq_false_iff_not,Bool.not_eq_true'] at h44
        try simp only [zds] at h44
        exact absurd (ht i hil) h44
       ·try simp only [decide_eq_true_eq,Bool.not_eq_false'] at h44
        try simp only [zds] at h44
        refine qL ?_;refine qC ?_;refine qB ?_;refine qC ?_;refine qB ?_;refine qJ rfl (fun h50=>?_) (fun h50=>?_)
        ·try simp only [decide_eq_true_eq] at h50
         try simp only [zds] at h50
         refine qB ?_;refine zai (by first|exact qU (by first|omega|(simp only [List.length_cons,List.length_nil];omega)|(simp;omega)) (by decide)|omega|assumption|decide|(simp only [zds];omega)|(simp <;> omega)) ?_;refine qB ?_;refine zai (by first|omega|assumption|decide|(simp only [zds];omega)|(simp <;> omega)) ?_;exact ⟨i + 1,by omega,by first|omega|(simp <;> omega),qP ⟨rfl,rfl,rfl,rfl,rfl,(qS (by omega))⟩ ⟨rfl,rfl,(yW hsn),(qX (by rw [hin];(try rw [if_pos (by omega)]);(try rw [if_neg (by omega),List.append_nil]);(try exact rfl)))⟩ rfl⟩
        ·try simp only [decide_eq_false_iff_not,Int.not_lt] at h50
         try simp only [zds] at h50
         refine qL ?_;refine qB ?_;refine zai (by first|omega|assumption|decide|(simp only [zds];omega)|(simp <;> omega)) ?_;exact ⟨i + 1,by omega,by first|omega|(simp <;> omega),qP ⟨rfl,rfl,rfl,rfl,rfl,(qS (by omega))⟩ ⟨rfl,rfl,(yW hsn),(qX (by rw [hin];(try rw [if_pos (by omega)]);(try rw [if_neg (by omega),List.append_nil]);(try exact rfl)))⟩ rfl⟩
      ·refine qK [5] (by kernel_rfl) rfl ?_;refine Or.inl ?_;refine zai (rfl) ?_;refine zei _ (zai (xQ (yG L s i) hLi (by omega) (s.getD i ((0 : Int),(0 : Int),([] : List Fld))) hfe) ?_);refine qI 6 rfl rfl rfl (by kernel_rfl) ?_;refine qI 7 rfl rfl rfl (by kernel_rfl) ?_;refine qI 8 rfl rfl rfl (by kernel_rfl) ?_;refine qI 9 rfl rfl rfl (by kernel_rfl) ?_;refine qK [11] (by kernel_rfl) rfl ?_;refine qI 12 rfl rfl rfl (by kernel_rfl) ?_;refine qI 13 rfl rfl rfl (by kernel_rfl) ?_;refine qO (by kernel_rfl) ?_;refine qC ?_;refine qC ?_;refine qB ?_;refine qJ rfl (fun h44=>?_) (fun h44=>?_)
       ·try simp only [decide_eq_false_iff_not,Bool.not_eq_true'] at h44
        try simp only [zds] at h44
        exact absurd (ht i hil) h44
       ·try simp only [decide_eq_true_eq,Bool.not_eq_false'] at h44
        try simp only [zds] at h44
        refine qL ?_;refine qC ?_;refine qB ?_;refine qC ?_;refine qB ?_;refine qJ rfl (fun h50=>?_) (fun h50=>?_)
        ·try simp only [decide_eq_true_eq] at h50
         try simp only [zds] at h50
         refine qB ?_;refine zai (by first|exact qU (by first|omega|(simp only [List.length_cons,List.length_nil];omega)|(simp;omega)) (by decide)|omega|assumption|decide|(simp only [zds];omega)|(simp <;> omega)) ?_;refine qB ?_;refine zai (by first|omega|assumption|decide|(simp only [zds];omega)|(simp <;> omega)) ?_;exact ⟨i + 1,by omega,by first|omega|(simp <;> omega),qP ⟨rfl,rfl,rfl,rfl,rfl,(qS (by omega))⟩ ⟨rfl,rfl,(yW hsn),(qX (by rw [hin];(try rw [if_pos (by omega)]);(try rw [if_neg (by omega),List.append_nil]);(try exact rfl)))⟩ rfl⟩
        ·try simp only [decide_eq_false_iff_not,Int.not_lt] at h50
         try simp only [zds] at h50
         refine qL ?_;refine qB ?_;refine zai (by first|omega|assumption|decide|(simp only [zds];omega)|(simp <;> omega)) ?_;exact ⟨i + 1,by omega,by first|omega|(simp <;> omega),qP ⟨rfl,rfl,rfl,rfl,rfl,(qS (by omega))⟩ ⟨rfl,rfl,(yW hsn),(qX (by rw [hin];(try rw [if_pos (by omega)]);(try rw [if_neg (by omega),List.append_nil]);(try exact rfl)))⟩ rfl⟩
     ·refine qK [4] (by kernel_rfl) rfl ?_;refine qK [5] (by kernel_rfl) rfl ?_;refine Or.inl ?_;refine zai (rfl) ?_;refine zei _ (zai (xQ (yG L s i) hLi (by omega) (s.getD i ((0 : Int),(0 : Int),([] : List Fld))) hfe) ?_);refine qI 6 rfl rfl rfl (by kernel_rfl) ?_;refine qI 7 rfl rfl rfl (by kernel_rfl) ?_;refine qI 8 rfl rfl rfl (by kernel_rfl) ?_;refine qI 9 rfl rfl rfl (by kernel_rfl) ?_;refine qK [11] (by kernel_rfl) rfl ?_;refine qI 12 rfl rfl rfl (by kernel_rfl) ?_;refine qI 13 rfl rfl rfl (by kernel_rfl) ?_;refine qO (by kernel_rfl) ?_;refine qC ?_;refine qC ?_;refine qB ?_;refine qJ rfl (fun h44=>?_) (fun h44=>?_)
      ·try simp only [decide_eq_false_iff_not,Bool.not_eq_true'] at h44
       try simp only [zds] at h44
       exact absurd (ht i hil) h44
      ·try simp only [decide_eq_true_eq,Bool.not_eq_false'] at h44
       try simp only [zds] at h44
       refine qL ?_;refine qC ?_;refine qB ?_;refine qC ?_;refine qB ?_;refine qJ rfl (fun h50=>?_) (fun h50=>?_)
       ·try simp only [decide_eq_true_eq] at h50
        try simp only [zds] at h50
        refine qB ?_;refine zai (by first|exact qU (by first|omega|(simp only [List.length_cons,List.length_nil];omega)|(simp;omega)) (by decide)|omega|assumption|decide|(simp only [zds];omega)|(simp <;> omega)) ?_;refine qB ?_;refine zai (by first|omega|assumption|decide|(simp only [zds];omega)|(simp <;> omega)) ?_;exact ⟨i + 1,by omega,by first|omega|(simp <;> omega),qP ⟨rfl,rfl,rfl,rfl,rfl,(qS (by omega))⟩ ⟨rfl,rfl,(yW hsn),(qX (by rw [hin];(try rw [if_pos (by omega)]);(try rw [if_neg (by omega),List.append_nil]);(try exact rfl)))⟩ rfl⟩
       ·try simp only [decide_eq_false_iff_not,Int.not_lt] at h50
        try simp only [zds] at h50
        refine qL ?_;refine qB ?_;refine zai (by first|omega|assumption|decide|(simp only [zds];omega)|(simp <;> omega)) ?_;exact ⟨i + 1,by omega,by first|omega|(simp <;> omega),qP ⟨rfl,rfl,rfl,rfl,rfl,(qS (by omega))⟩ ⟨rfl,rfl,(yW hsn),(qX (by rw [hin];(try rw [if_pos (by omega)]);(try rw [if_neg (by omega),List.append_nil]);(try exact rfl)))⟩ rfl⟩
    refine zai ?_ ?_
    ·refine qK [0,10] (by kernel_rfl) rfl ?_;refine zai ?_ ?_
     ·refine qK [5,10] (by kernel_rfl) rfl ?_;refine zai ?_ ?_
      ·refine Or.inl ?_;refine zai (rfl) ?_;refine zei _ (zai (xQ (yG L s i) hLi (by omega) (s.getD i ((0 : Int),(0 : Int),([] : List Fld))) hfe) ?_);refine qI 6 rfl rfl rfl (by kernel_rfl) ?_;refine qI 7 rfl rfl rfl (by kernel_rfl) ?_;refine qI 8 rfl rfl rfl (by kernel_rfl) ?_;refine qI 9 rfl rfl rfl (by kernel_rfl) ?_;refine qK [10] (by kernel_rfl) rfl ?_;refine qK [11] (by kernel_rfl) rfl ?_;refine qI 12 rfl rfl rfl (by kernel_rfl) ?_;refine qI 13 rfl rfl rfl (by kernel_rfl) ?_;refine qO (by kernel_rfl) ?_;refine qC ?_;refine qC ?_;refine qB ?_;refine qJ rfl (fun h44=>?_) (fun h44=>?_)
       ·try simp only [decide_eq_false_iff_not,Bool.not_eq_true'] at h44
        try simp only [zds] at h44
        exact absurd (ht i hil) h44
       ·try simp only [decide_eq_true_eq,Bool.not_eq_false'] at h44
        try simp only [zds] at h44
        refine qL ?_;refine qC ?_;refine qB ?_;refine qC ?_;refine qB ?_;refine qJ rfl (fun h50=>?_) (fun h50=>?_)
        ·try simp only [decide_eq_true_eq] at h50
         try simp only [zds] at h50
         refine qB ?_;refine zai (by first|exact qU (by first|omega|(simp only [List.length_cons,List.length_nil];omega)|(simp;omega)) (by decide)|omega|assumption|decide|(simp only [zds];omega)|(simp <;> omega)) ?_;refine qB ?_;refine zai (by first|omega|assumption|decide|(simp only [zds];omega)|(simp <;> omega)) ?_;exact ⟨i + 1,by omega,by first|omega|(simp <;> omega),qP ⟨rfl,rfl,rfl,rfl,rfl,(qS (by omega))⟩ ⟨rfl,rfl,(yW hsn),(qX (by rw [hin];(try rw [if_pos (by omega)]);(try rw [if_neg (by omega),List.append_nil]);(try exact rfl)))⟩ rfl⟩
        ·try simp only [decide_eq_false_iff_not,Int.not_lt] at h50
         try simp only [zds] at h50
         refine qL ?_;refine qB ?_;refine zai (by first|omega|assumption|decide|(simp only [zds];omega)|(simp <;> omega)) ?_;exact ⟨i + 1,by omega,by first|omega|(simp <;> omega),qP ⟨rfl,rfl,rfl,rfl,rfl,(qS (by omega))⟩ ⟨rfl,rfl,(yW hsn),(qX (by rw [hin];(try rw [if_pos (by omega)]);(try rw [if_neg (by omega),List.append_nil]);(try exact rfl)))⟩ rfl⟩
      ·refine qK [5] (by kernel_rfl) rfl ?_;refine Or.inl ?_;refine zai (rfl) ?_;refine zei _ (zai (xQ (yG L s i) hLi (by omega) (s.getD i ((0 : Int),(0 : Int),([] : List Fld))) hfe) ?_);refine qI 6 rfl rfl rfl (by kernel_rfl) ?_;refine qI 7 rfl rfl rfl (by kernel_rfl) ?_;refine qI 8 rfl rfl rfl (by kernel_rfl) ?_;refine qI 9 rfl rfl rfl (by kernel_rfl) ?_;refine qK [11] (by kernel_rfl) rfl ?_;refine qI 12 rfl rfl rfl (by kernel_rfl) ?_;refine qI 13 rfl rfl rfl (by kernel_rfl) ?_;refine qO (by kernel_rfl) ?_;refine qC ?_;refine qC ?_;refine qB ?_;refine qJ rfl (fun h44=>?_) (fun h44=>?_)
       ·try simp only [decide_eq_false_iff_not,Bool.not_eq_true'] at h44
        try simp only [zds] at h44
        exact absurd (ht i hil) h44
       ·try simp only [decide_eq_true_eq,Bool.not_eq_false'] at h44
        try simp only [zds] at h44
        refine qL ?_;refine qC ?_;refine qB ?_;refine qC ?_;refine qB ?_;refine qJ rfl (fun h50=>?_) (fun h50=>?_)
        ·try simp only [decide_eq_true_eq] at h50
         try simp only [zds] at h50
         refine qB ?_;refine zai (by first|exact qU (by first|omega|(simp only [List.length_cons,List.length_nil];omega)|(simp;omega)) (by decide)|omega|assumption|decide|(simp only [zds];omega)|(simp <;> omega)) ?_;refine qB ?_;refine zai (by first|omega|assumption|decide|(simp only [zds];omega)|(simp <;> omega)) ?_;exact ⟨i + 1,by omega,by first|omega|(simp <;> omega),qP ⟨rfl,rfl,rfl,rfl,rfl,(qS (by omega))⟩ ⟨rfl,rfl,(yW hsn),(qX (by rw [hin];(try rw [if_pos (by omega)]);(try rw [if_neg (by omega),List.append_nil]);(try exact rfl)))⟩ rfl⟩
        ·try simp only [decide_eq_false_iff_not,Int.not_lt] at h50
         try simp only [zds] at h50
         refine qL ?_;refine qB ?_;refine zai (by first|omega|assumption|decide|(simp only [zds];omega)|(simp <;> omega)) ?_;exact ⟨i + 1,by omega,by first|omega|(simp <;> omega),qP ⟨rfl,rfl,rfl,rfl,rfl,(qS (by omega))⟩ ⟨rfl,rfl,(yW hsn),(qX (by rw [hin];(try rw [if_pos (by omega)]);(try rw [if_neg (by omega),List.append_nil]);(try exact rfl)))⟩ rfl⟩
     ·refine qK [0] (by kernel_rfl) rfl ?_;refine qK [5] (by kernel_rfl) rfl ?_;refine Or.inl ?_;refine zai (rfl) ?_;refine zei _ (zai (xQ (yG L s i) hLi (by omega) (s.getD i ((0 : Int),(0 : Int),([] : List Fld))) hfe) ?_);refine qI 6 rfl rfl rfl (by kernel_rfl) ?_;refine qI 7 rfl rfl rfl (by kernel_rfl) ?_;refine qI 8 rfl rfl rfl (by kernel_rfl) ?_;refine qI 9 rfl rfl rfl (by kernel_rfl) ?_;refine qK [11] (by kernel_rfl) rfl ?_;refine qI 12 rfl rfl rfl (by kernel_rfl) ?_;refine qI 13 rfl rfl rfl (by kernel_rfl) ?_;refine qO (by kernel_rfl) ?_;refine qC ?_;refine qC ?_;refine qB ?_;refine qJ rfl (fun h44=>?_) (fun h44=>?_)
      ·try simp only [decide_eq_false_iff_not,Bool.not_eq_true'] at h44
       try simp only [zds] at h44
       exact absurd (ht i hil) h44
      ·try simp only [decide_eq_true_eq,Bool.not_eq_false'] at h44
       try simp only [zds] at h44
       refine qL ?_;refine qC ?_;refine qB ?_;refine qC ?_;refine qB ?_;refine qJ rfl (fun h50=>?_) (fun h50=>?_)
       ·try simp only [decide_eq_true_eq] at h50
        try simp only [zds] at h50
        refine qB ?_;refine zai (by first|exact qU (by first|omega|(simp only [List.length_cons,List.length_nil];omega)|(simp;omega)) (by decide)|omega|assumption|decide|(simp only [zds];omega)|(simp <;> omega)) ?_;refine qB ?_;refine zai (by first|omega|assumption|decide|(simp only [zds];omega)|(simp <;> omega)) ?_;exact ⟨i + 1,by omega,by first|omega|(simp <;> omega),qP ⟨rfl,rfl,rfl,rfl,rfl,(qS (by omega))⟩ ⟨rfl,rfl,(yW hsn),(qX (by rw [hin];(try rw [if_pos (by omega)]);(try rw [if_neg (by omega),List.append_nil]);(try exact rfl)))⟩ rfl⟩
       ·try simp only [decide_eq_false_iff_not,Int.not_lt] at h50
        try simp only [zds] at h50
        refine qL ?_;refine qB ?_;refine zai (by first|omega|assumption|decide|(simp only [zds];omega)|(simp <;> omega)) ?_;exact ⟨i + 1,by omega,by first|omega|(simp <;> omega),qP ⟨rfl,rfl,rfl,rfl,rfl,(qS (by omega))⟩ ⟨rfl,rfl,(yW hsn),(qX (by rw [hin];(try rw [if_pos (by omega)]);(try rw [if_neg (by omega),List.append_nil]);(try exact rfl)))⟩ rfl⟩
    ·refine qK [0,4] (by kernel_rfl) rfl ?_;refine zai ?_ ?_
     ·refine qK [4] (by kernel_rfl) rfl ?_;refine qK [5] (by kernel_rfl) rfl ?_;refine Or.inl ?_;refine zai (rfl) ?_;refine zei _ (zai (xQ (yG L s i) hLi (by omega) (s.getD i ((0 : Int),(0 : Int),([] : List Fld))) hfe) ?_);refine qI 6 rfl rfl rfl (by kernel_rfl) ?_;refine qI 7 rfl rfl rfl (by kernel_rfl) ?_;refine qI 8 rfl rfl rfl (by kernel_rfl) ?_;refine qI 9 rfl rfl rfl (by kernel_rfl) ?_;refine qK [11] (by kernel_rfl) rfl ?_;refine qI 12 rfl rfl rfl (by kernel_rfl) ?_;refine qI 13 rfl rfl rfl (by kernel_rfl) ?_;refine qO (by kernel_rfl) ?_;refine qC ?_;refine qC ?_;refine qB ?_;refine qJ rfl (fun h44=>?_) (fun h44=>?_)
      ·try simp only [decide_eq_false_iff_not,Bool.not_eq_true'] at h44
       try simp only [zds] at h44
       exact absurd (ht i hil) h44
      ·try simp only [decide_eq_true_eq,Bool.not_eq_false'] at h44
       try simp only [zds] at h44
       refine qL ?_;refine qC ?_;refine qB ?_;refine qC ?_;refine qB ?_;refine qJ rfl (fun h50=>?_) (fun h50=>?_)
       ·try simp only [decide_eq_true_eq] at h50
        try simp only [zds] at h50
        refine qB ?_;refine zai (by first|exact qU (by first|omega|(simp only [List.length_cons,List.length_nil];omega)|(simp;omega)) (by decide)|omega|assumption|decide|(simp only [zds];omega)|(simp <;> omega)) ?_;refine qB ?_;refine zai (by first|omega|assumption|decide|(simp only [zds];omega)|(simp <;> omega)) ?_;exact ⟨i + 1,by omega,by first|omega|(simp <;> omega),qP ⟨rfl,rfl,rfl,rfl,rfl,(qS (by omega))⟩ ⟨rfl,rfl,(yW hsn),(qX (by rw [hin];(try rw [if_pos (by omega)]);(try rw [if_neg (by omega),List.append_nil]);(try exact rfl)))⟩ rfl⟩
       ·try simp only [decide_eq_false_iff_not,Int.not_lt] at h50
        try simp only [zds] at h50
        refine qL ?_;refine qB ?_;refine zai (by first|omega|assumption|decide|(simp only [zds];omega)|(simp <;> omega)) ?_;exact ⟨i + 1,by omega,by first|omega|(simp <;> omega),qP ⟨rfl,rfl,rfl,rfl,rfl,(qS (by omega))⟩ ⟨rfl,rfl,(yW hsn),(qX (by rw [hin];(try rw [if_pos (by omega)]);(try rw [if_neg (by omega),List.append_nil]);(try exact rfl)))⟩ rfl⟩
     ·refine qK [0] (by kernel_rfl) rfl ?_;refine qK [5] (by kernel_rfl) rfl ?_;refine Or.inl ?_;refine zai (rfl) ?_;refine zei _ (zai (xQ (yG L s i) hLi (by omega) (s.getD i ((0 : Int),(0 : Int),([] : List Fld))) hfe) ?_);refine qI 6 rfl rfl rfl (by kernel_rfl) ?_;refine qI 7 rfl rfl rfl (by kernel_rfl) ?_;refine qI 8 rfl rfl rfl (by kernel_rfl) ?_;refine qI 9 rfl rfl rfl (by kernel_rfl) ?_;refine qK [11] (by kernel_rfl) rfl ?_;refine qI 12 rfl rfl rfl (by kernel_rfl) ?_;refine qI 13 rfl rfl rfl (by kernel_rfl) ?_;refine qO (by kernel_rfl) ?_;refine qC ?_;refine qC ?_;refine qB ?_;refine qJ rfl (fun h44=>?_) (fun h44=>?_)
      ·try simp only [decide_eq_false_iff_not,Bool.not_eq_true'] at h44
       try simp only [zds] at h44
       exact absurd (ht i hil) h44
      ·try simp only [decide_eq_true_eq,Bool.not_eq_false'] at h44
       try simp only [zds] at h44
       refine qL ?_;refine qC ?_;refine qB ?_;refine qC ?_;refine qB ?_;refine qJ rfl (fun h50=>?_) (fun h50=>?_)
       ·try simp only [decide_eq_true_eq] at h50
        try simp only [zds] at h50
        refine qB ?_;refine zai (by first|exact qU (by first|omega|(simp only [List.length_cons,List.length_nil];omega)|(simp;omega)) (by decide)|omega|assumption|decide|(simp only [zds];omega)|(simp <;> omega)) ?_;refine qB ?_;refine zai (by first|omega|assumption|decide|(simp only [zds];omega)|(simp <;> omega)) ?_;exact ⟨i + 1,by omega,by first|omega|(simp <;> omega),qP ⟨rfl,rfl,rfl,rfl,rfl,(qS (by omega))⟩ ⟨rfl,rfl,(yW hsn),(qX (by rw [hin];(try rw [if_pos (by omega)]);(try rw [if_neg (by omega),List.append_nil]);(try exact rfl)))⟩ rfl⟩
       ·try simp only [decide_eq_false_iff_not,Int.not_lt] at h50
        try simp only [zds] at h50
        refine qL ?_;refine qB ?_;refine zai (by first|omega|assumption|decide|(simp only [zds];omega)|(simp <;> omega)) ?_;exact ⟨i + 1,by omega,by first|omega|(simp <;> omega),qP ⟨rfl,rfl,rfl,rfl,rfl,(qS (by omega))⟩ ⟨rfl,rfl,(yW hsn),(qX (by rw [hin];(try rw [if_pos (by omega)]);(try rw [if_neg (by omega),List.append_nil]);(try exact rfl)))⟩ rfl⟩
   ·try simp only [decide_eq_false_iff_not,Int.not_lt] at h30
    try simp only [zds] at h30
    refine qV ?_;refine qC ?_;refine qB ?_;refine qM ?_;rw [show i = s.length by omega];exact rfl
abbrev lsO12 (L : Lst) : Obs:=[(1,.box 116 [.vec 2,.lit (.int .i64 L.2.1),.lit (.int .i64 L.2.2)]),(2,.vec 111 rEnt L.1)]
def getF (L : Lst) (id : Int) : Option (List Fld):=if atE L.1 id < 0 then none else some (getL L.1 id)
theorem stz_app (a b : List Ent) : stzL (a ++ b) = stzL a ++ stzL b:=by unfold stzL;rw [List.filter_append,List.map_append]
theorem stz_cons (e : Ent) (b : List Ent) : stzL (e :: b) = if live e then stzOf e :: stzL b else stzL b:=by
  unfold stzL;rw [List.filter_cons];split <;> rfl
theorem stz_num {es : List Ent} {x : Stz} (h : x ∈ stzL es) : x.1 ∈ nmsL es:=by
  rw [← ids_eq];unfold stzL at h;obtain ⟨e,he,rfl⟩:=List.mem_map.1 h;exact List.mem_map_of_mem he
theorem getF_at {L : Lst} {i : Nat} {id : Int} (hi : i < L.1.length) (he : atE L.1 id = i) : getF L id = some (L.1.getD i (((0 : Int),ByteArray.empty,([] : List Fld)),(0 : Int))).1.2.2:=by
  unfold getF getL;rw [if_neg (by omega),he,Int.toNat_natCast]
theorem getF_no {L : Lst} {id : Int} (h : atE L.1 id < 0) : getF L id = none:=if_pos h
theorem getF_iff {c : Nat} {L : Lst} (h : LOk c L) (id : Int) (f : List Fld) : getF L id = some f ↔ (id,f) ∈ stzL L.1:=by
  rcases at_cases L.1 id with ⟨h1,h2⟩|⟨i,h1,h2,h3,h4,h5⟩
  · rw [getF_no (by rw [h1];decide)];refine ⟨fun e=>(by cases e),fun hm=>?_⟩;unfold stzL at hm;obtain ⟨e,he,hx⟩:=List.mem_map.1 hm;have hl:=(List.mem_filter.1 he).2;have hx1 : e.2 = id:=congrArg Prod.fst hx;exact absurd hx1 (h2 e (List.mem_filter.1 he).1 (by rw [← hx1];exact of_decide_eq_true hl))
  · rw [getF_at h1 h2];have hsp:=del_split h1;have hlv : live (L.1.getD i (((0 : Int),ByteArray.empty,([] : List Fld)),(0 : Int))) = true:=decide_eq_true (by rw [h4];exact h3);have hst : stzL L.1 = stzL (L.1.take i) ++ stzOf (L.1.getD i (((0 : Int),ByteArray.empty,([] : List Fld)),(0 : Int))) :: stzL (L.1.drop (i + 1)):=by
      conv=>lhs;rw [hsp,stz_app,stz_cons,if_pos hlv]
    have hnm : nmsL L.1 = nmsL (L.1.take i) ++ id :: nmsL (L.1.drop (i + 1)):=by
      conv=>lhs;rw [hsp,ids_app,ids_cons,h4,if_pos h3]
    have hn:=h.nd;rw [hnm] at hn;obtain ⟨n1,n2,n3⟩:=List.nodup_append.1 hn;rw [hst];refine ⟨fun e=>?_,fun hm=>?_⟩
    · refine List.mem_append_right _ (List.mem_cons.2 (.inl ?_));rw [← Option.some.inj e,← h4];rfl
    · rcases List.mem_append.1 hm with hm|hm
      · exact absurd rfl (n3 _ (stz_num hm) _ List.mem_cons_self)
      · rcases List.mem_cons.1 hm with hm|hm
        · rw [show f = _ from congrArg Prod.snd hm];rfl
        · exact absurd (stz_num hm) (List.nodup_cons.1 n2).1
theorem getF_pos {c : Nat} {L : Lst} (h : LOk c L) {id : Int} (hg : getF L id ≠ none) : 0 < id ∧ id < L.2.1 ∧ ¬ atE L.1 id < 0:=by
  rcases at_cases L.1 id with ⟨h1,_⟩|⟨i,h1,h2,h3,h4,_⟩
  · exact absurd (getF_no (by rw [h1];decide)) hg
  · refine ⟨h3,?_,by omega⟩;have:=(h.ids _ (yF h1 (((0 : Int),ByteArray.empty,([] : List Fld)),(0 : Int)))).2;rw [h4] at this;exact this
theorem getF_some {L : Lst} {id : Int} (h : ¬ atE L.1 id < 0) : getF L id ≠ none:=by unfold getF;rw [if_neg h];exact fun e=>by cases e
theorem step_rep {c : Nat} {L : Lst} {e : Edt} (h : LOk c L) (hf : qW e.2.2) (h1 : e.1 = 1) (h0 : oneN L e = 0) :
    (∀ j,getF (doL L e) j = if j = e.2.1 then some e.2.2 else getF L j) ∧ (doL L e).2 = L.2 ∧ getF L e.2.1 ≠ none ∧ (chkR e.2.2).2 = 0:=by
  have hk:=doL_ok h hf;unfold oneN at h0;rw [if_pos h1] at h0
  by_cases hat : atE L.1 e.2.1 < 0
  · rw [if_pos hat] at h0;cases h0
  · rw [if_neg hat] at h0;obtain ⟨i,hi,he,hp,hid⟩:=at_lt hat;have hd : doL L e = (replE L.1 i (xH e.2.2),L.2):=by
      unfold doL;rw [if_pos h1,if_neg hat,if_neg (by omega),he,Int.toNat_natCast]
    refine ⟨fun j=>?_,by rw [hd],getF_some hat,h0⟩;have hsp:=del_split hi;have hre : replE L.1 i (xH e.2.2) = L.1.take i ++ (xH e.2.2,e.2.1) :: L.1.drop (i + 1):=by
      unfold replE;rw [List.set_eq_take_append_cons_drop,if_pos hi,hid]
    have hst : stzL L.1 = stzL (L.1.take i) ++ stzOf (L.1.getD i (((0 : Int),ByteArray.empty,([] : List Fld)),(0 : Int))) :: stzL (L.1.drop (i + 1)):=by
      conv=>lhs;rw [hsp,stz_app,stz_cons,if_pos (show live (L.1.getD i (((0 : Int),ByteArray.empty,([] : List Fld)),(0 : Int))) = true from decide_eq_true (by rw [hid];exact hp))]
    have hst2 : stzL (doL L e).1 = stzL (L.1.take i) ++ (e.2.1,e.2.2) :: stzL (L.1.drop (i + 1)):=by
      rw [hd];show stzL (replE L.1 i (xH e.2.2)) = _;rw [hre,stz_app,stz_cons,if_pos (show live (xH e.2.2,e.2.1) = true from decide_eq_true hp)];rfl
    by_cases hj : j = e.2.1
    · rw [if_pos hj,hj,getF_iff hk,hst2];exact List.mem_append_right _ List.mem_cons_self
    · rw [if_neg hj];refine Option.ext fun f=>?_
      rw [getF_iff hk,getF_iff h,hst,hst2];simp only [List.mem_append,List.mem_cons];refine ⟨fun h=>h.imp id (Or.imp (fun e=>absurd (congrArg Prod.fst e) hj) id),fun h=>h.imp id (Or.imp (fun e=>absurd ((congrArg Prod.fst e).trans hid) hj) id)⟩
theorem step_del {c : Nat} {L : Lst} {e : Edt} (h : LOk c L) (hf : qW e.2.2) (h1 : e.1 = 2) (h0 : oneN L e = 0) :
    (∀ j,getF (doL L e) j = if j = e.2.1 then none else getF L j) ∧ (doL L e).2.1 = L.2.1 ∧ (doL L e).2.2 = L.2.2 - 1 ∧ getF L e.2.1 ≠ none:=by
  have hk:=doL_ok h hf;unfold oneN at h0;rw [if_neg (by omega),if_pos h1] at h0
  by_cases hat : atE L.1 e.2.1 < 0
  · rw [if_pos hat] at h0;cases h0
  · obtain ⟨i,hi,he,hp,hid⟩:=at_lt hat;have hd : doL L e = (delE L.1 i,L.2.1,L.2.2 - 1):=by
      unfold doL;rw [if_neg (by omega),if_pos h1,if_neg hat,he,Int.toNat_natCast]
    refine ⟨fun j=>?_,by rw [hd],by rw [hd],getF_some hat⟩;have hsp:=del_split hi;have hst : stzL L.1 = stzL (L.1.take i) ++ stzOf (L.1.getD i (((0 : Int),ByteArray.empty,([] : List Fld)),(0 : Int))) :: stzL (L.1.drop (i + 1)):=by
      conv=>lhs;rw [hsp,stz_app,stz_cons,if_pos (show live (L.1.getD i (((0 : Int),ByteArray.empty,([] : List Fld)),(0 : Int))) = true from decide_eq_true (by rw [hid];exact hp))]
    have hst2 : stzL (doL L e).1 = stzL (L.1.take i) ++ stzL (L.1.drop (i + 1)):=by
      rw [hd];exact stz_app _ _
    have hnm : nmsL L.1 = nmsL (L.1.take i) ++ e.2.1 :: nmsL (L.1.drop (i + 1)):=by
      conv=>lhs;rw [hsp,ids_app,ids_cons,hid,if_pos hp]
    have hn:=h.nd;rw [hnm] at hn;obtain ⟨n1,n2,n3⟩:=List.nodup_append.1 hn;refine Option.ext fun f=>?_
    rw [getF_iff hk,hst2]
    by_cases hj : j = e.2.1
    · rw [if_pos hj,List.mem_append];refine ⟨fun hm=>?_,fun e=>by cases e⟩;rw [hj] at hm;rcases hm with hm|hm
      · exact absurd rfl (n3 _ (stz_num hm) _ List.mem_cons_self)
      · exact absurd (stz_num hm) (List.nodup_cons.1 n2).1
    · rw [if_neg hj,getF_iff h,hst];simp only [List.mem_append,List.mem_cons];exact ⟨fun h=>h.imp id .inr,fun h=>h.imp id fun h=>h.elim (fun e=>absurd ((congrArg Prod.fst e).trans hid) hj) id⟩
theorem step_ins {c : Nat} {L : Lst} {e : Edt} (h : LOk c L) (hf : qW e.2.2) (h1 : e.1 ≠ 1) (h2 : e.1 ≠ 2) (h0 : oneN L e = 0) :
    (∀ j,getF (doL L e) j = if j = L.2.1 then some e.2.2 else getF L j) ∧ (doL L e).2.1 = L.2.1 + 1 ∧ (doL L e).2.2 = L.2.2 + 1 ∧ (e.2.1 = 0 ∨ getF L e.2.1 ≠ none) ∧ (chkR e.2.2).2 = 0:=by
  have hk:=doL_ok h hf;unfold oneN at h0;rw [if_neg h1,if_neg h2] at h0
  by_cases hat : atE L.1 e.2.1 < 0 ∧ e.2.1 ≠ 0
  · rw [if_pos hat] at h0;cases h0
  · rw [if_neg hat] at h0
    by_cases hc : (chkR e.2.2).2 ≠ 0
    · rw [if_pos hc] at h0;exact absurd h0 hc
    · rw [if_neg hc] at h0
      by_cases h4 : 400 ≤ L.2.2
      · rw [if_pos h4] at h0;cases h0
      · obtain ⟨i,hie⟩ : ∃ i,(atE L.1 e.2.1 + 1).toNat = i:=⟨_,rfl⟩;have hd : doL L e = (insE L.1 i (xH e.2.2,L.2.1),L.2.1 + 1,L.2.2 + 1):=by
          unfold doL;rw [if_neg h1,if_neg h2,if_neg hat,if_neg hc,if_neg h4,hie]
        refine ⟨fun j=>?_,by rw [hd],by rw [hd],?_,Classical.not_not.1 hc⟩
        · have hnx:=h.next;have hst : stzL L.1 = stzL (L.1.take i) ++ stzL (L.1.drop i):=by
            conv=>lhs;rw [← List.take_append_drop i L.1,stz_app]
          have hst2 : stzL (doL L e).1 = stzL (L.1.take i) ++ (L.2.1,e.2.2) :: stzL (L.1.drop i):=by
            rw [hd];show stzL (L.1.take i ++ (xH e.2.2,L.2.1) :: L.1.drop i) = _;rw [stz_app,stz_cons,if_pos (show live (xH e.2.2,L.2.1) = true from decide_eq_true (by show 0 < L.2.1;omega))];rfl
          by_cases hj : j = L.2.1
          · rw [if_pos hj,hj,getF_iff hk,hst2];exact List.mem_append_right _ List.mem_cons_self
          · rw [if_neg hj];refine Option.ext fun f=>?_
            rw [getF_iff hk,getF_iff h,hst,hst2];simp only [List.mem_append,List.mem_cons];exact ⟨fun h=>h.imp id fun h=>h.elim (fun e=>absurd (congrArg Prod.fst e) hj) id,fun h=>h.imp id .inr⟩
        · by_cases hz : e.2.1 = 0
          · exact .inl hz
          · exact .inr (getF_some fun hlt=>hat ⟨hlt,hz⟩)
theorem one_rep0 {L : Lst} {e : Edt} (h1 : e.1 = 1) (hg : ¬ atE L.1 e.2.1 < 0) (hc : (chkR e.2.2).2 = 0) : oneN L e = 0:=by
  unfold oneN;rw [if_pos h1,if_neg hg];exact hc
theorem one_del0 {L : Lst} {e : Edt} (h1 : e.1 = 2) (hg : ¬ atE L.1 e.2.1 < 0) : oneN L e = 0:=by
  unfold oneN;rw [if_neg (by omega),if_pos h1,if_neg hg]
theorem one_ins0 {L : Lst} {e : Edt} (h1 : e.1 ≠ 1) (h2 : e.1 ≠ 2) (hg : e.2.1 = 0 ∨ ¬ atE L.1 e.2.1 < 0) (hc : (chkR e.2.2).2 = 0) : oneN L e = if 400 ≤ L.2.2 then 11 else 0:=by
  unfold oneN;rw [if_neg h1,if_neg h2,if_neg (fun h=>hg.elim h.2 fun g=>g h.1),if_neg (fun h=>h hc)]
def repA (a : List Edt) (id : Int) : Bool:=a.any fun x=>decide (x.1 = 1) && decide (x.2.1 = id)
def delA (a : List Edt) (id : Int) : Bool:=a.any fun x=>decide (x.1 = 2) && decide (x.2.1 = id)
def tchA (a : List Edt) (id : Int) : Bool:=repA a id || delA a id
def insA : List Edt → Nat
  | []=>0
  | x :: r=>(if x.1 = 3 then 1 else 0) + insA r
def clsh (a : List Edt) (x : Edt) : Bool:=if x.1 = 1 then tchA a x.2.1 else if x.1 = 2 then tchA a x.2.1 && !delA a x.2.1 else if x.1 = 3 then delA a x.2.1 else false
def reb1 (next k : Int) (a : List Edt) (x : Edt) : List Edt:=if next ≤ x.2.1 then [(x.1,x.2.1 + k,x.2.2)] else if x.1 = 2 ∧ delA a x.2.1 = true then [] else [x]
def rebB (next : Int) (a b : List Edt) : List Edt:=b.flatMap (reb1 next (insA a) a)
def takes (L : Lst) : List Edt → Prop
  | []=>True
  | x :: r=>oneN L x = 0 ∧ takes (doL L x) r
def runL (L : Lst) (s : List Edt) : Lst:=s.foldl doL L
def kindsOk (s : List Edt) : Prop:=∀ x ∈ s,x.1 = 1 ∨ x.1 = 2 ∨ x.1 = 3
theorem takes_of : ∀ (s : List Edt) (L : Lst),(∀ j,j < s.length → oneN (yG L s j) (s.getD j ((0 : Int),(0 : Int),([] : List Fld))) = 0) → takes L s
  | [],_,_=>trivial
  | x :: r,L,h=>⟨h 0 (by simp),takes_of r (doL L x) fun j hj=>h (j + 1) (by simpa using hj)⟩
theorem takes_to : ∀ (s : List Edt) (L : Lst),takes L s → ∀ j,j < s.length → oneN (yG L s j) (s.getD j ((0 : Int),(0 : Int),([] : List Fld))) = 0
  | _ :: _,_,h,0,_=>h.1
  | x :: r,L,h,j + 1,hj=>takes_to r (doL L x) h.2 j (by simpa using hj)
theorem run_plays (L : Lst) (s : List Edt) : yG L s s.length = runL L s:=by unfold yG runL;rw [List.take_length]
theorem kinds_good {s : List Edt} (h : (chkB s).2 = 0) : kindsOk s:=fun x hx=>by
  have hg:=(chkB_zero h).2 x hx;unfold goodN at hg
  by_cases h2 : x.1 = 2
  · exact .inr (.inl h2)
  · rw [if_neg h2] at hg
    by_cases h13 : x.1 = 1 ∨ x.1 = 3
    · exact h13.elim .inl fun h=>.inr (.inr h)
    · rw [if_neg h13] at hg;cases hg
theorem run_ok {c : Nat} {L : Lst} : ∀ {s : List Edt},LOk c L → (∀ e ∈ s,qW e.2.2) → LOk (c + s.length) (runL L s)
  | s,h,hf=>by rw [← run_plays];exact plays_ok h hf s.length (Nat.le_refl _)
theorem delA_cons (x : Edt) (r : List Edt) (id : Int) : delA (x :: r) id = ((decide (x.1 = 2) && decide (x.2.1 = id)) || delA r id):=rfl
theorem repA_cons (x : Edt) (r : List Edt) (id : Int) : repA (x :: r) id = ((decide (x.1 = 1) && decide (x.2.1 = id)) || repA r id):=rfl
structure Ran (L : Lst) (a : List Edt) (P : Lst) : Prop where
  next : P.2.1 = L.2.1 + (insA a : Int)
  unt : ∀ id,id < L.2.1 → tchA a id = false → getF P id = getF L id
  gone : ∀ id,id < L.2.1 → getF L id = none → getF P id = none
  del : ∀ id,id < L.2.1 → delA a id = true → getF P id = none
  keep : ∀ id,id < L.2.1 → getF L id ≠ none → delA a id = false → getF P id ≠ none
theorem ran : ∀ (a : List Edt) {c : Nat} {L : Lst},LOk c L → (∀ e ∈ a,qW e.2.2) → kindsOk a → takes L a → Ran L a (runL L a)
  | [],_,L,_,_,_,_=>⟨by show L.2.1 = L.2.1 + ((0 : Nat) : Int);omega,fun _ _ _=>rfl,fun _ _ h=>h,fun _ _ h=>(by cases h),fun _ _ h _=>h⟩
  | x :: r,c,L,h,hf,hk,ht=>by
    have hfx:=hf x List.mem_cons_self;have hL':=doL_ok h hfx;have ih:=ran r hL' (fun e he=>hf e (List.mem_cons_of_mem _ he)) (fun e he=>hk e (List.mem_cons_of_mem _ he)) ht.2;have hkx:=hk x List.mem_cons_self;have e0 : runL L (x :: r) = runL (doL L x) r:=rfl;rw [e0]
    by_cases h1 : x.1 = 1
    · obtain ⟨g1,g2,g3,_⟩:=step_rep h hfx h1 ht.1;have g2' : (doL L x).2.1 = L.2.1:=by rw [g2]
      refine ⟨?_,fun id hid hu=>?_,fun id hid hn=>?_,fun id hid hd=>?_,fun id hid hn hd=>?_⟩
      · rw [ih.next,g2'];simp only [insA];rw [if_neg (by omega)];omega
      · unfold tchA at hu;rw [repA_cons,delA_cons,h1] at hu;simp at hu;rw [ih.unt id (by omega) (by unfold tchA;simp [hu]),g1,if_neg (fun e=>hu.1.1 e.symm)]
      · refine ih.gone id (by omega) ?_;rw [g1,if_neg (fun e=>g3 (by rw [← e];exact hn))];exact hn
      · rw [delA_cons,h1] at hd;exact ih.del id (by omega) (by simpa using hd)
      · rw [delA_cons,h1] at hd;refine ih.keep id (by omega) ?_ (by simpa using hd);rw [g1];split
        · exact fun e=>by cases e
        · exact hn
    · by_cases h2 : x.1 = 2
      · obtain ⟨g1,g2,_,g3⟩:=step_del h hfx h2 ht.1;refine ⟨?_,fun id hid hu=>?_,fun id hid hn=>?_,fun id hid hd=>?_,fun id hid hn hd=>?_⟩
        · rw [ih.next,g2];simp only [insA];rw [if_neg (by omega)];omega
        · unfold tchA at hu;rw [repA_cons,delA_cons,h2] at hu;simp at hu;rw [ih.unt id (by omega) (by unfold tchA;simp [hu]),g1,if_neg (fun e=>hu.2.1 e.symm)]
        · refine ih.gone id (by omega) ?_;rw [g1];split
          · rfl
          · exact hn
        · by_cases hx : id = x.2.1
          · exact ih.gone id (by omega) (by rw [g1,if_pos hx])
          · rw [delA_cons,h2] at hd;simp at hd;exact ih.del id (by omega) (hd.elim (fun e=>absurd e.symm hx) (fun h=>h))
        · rw [delA_cons,h2] at hd;simp at hd;refine ih.keep id (by omega) ?_ hd.2;rw [g1,if_neg (fun e=>hd.1 e.symm)];exact hn
      · have h3 : x.1 = 3:=by rcases hkx with h|h|h;exact absurd h h1;exact absurd h h2;exact h
        obtain ⟨g1,g2,_,_,_⟩:=step_ins h hfx h1 h2 ht.1;refine ⟨?_,fun id hid hu=>?_,fun id hid hn=>?_,fun id hid hd=>?_,fun id hid hn hd=>?_⟩
        · rw [ih.next,g2];simp only [insA];rw [if_pos h3];omega
        · unfold tchA at hu;rw [repA_cons,delA_cons,h3] at hu;simp at hu;rw [ih.unt id (by omega) (by unfold tchA;simp [hu]),g1,if_neg (by omega)]
        · refine ih.gone id (by omega) ?_;rw [g1,if_neg (by omega)];exact hn
        · rw [delA_cons,h3] at hd;exact ih.del id (by omega) (by simpa using hd)
        · rw [delA_cons,h3] at hd;refine ih.keep id (by omega) ?_ (by simpa using hd);rw [g1,if_neg (by omega)];exact hn
structure Sim (L P : Lst) (a : List Edt) (k : Int) (Q Y : Lst) (sk : Int) : Prop where
  old : ∀ id,id < L.2.1 → getF Y id = if tchA a id = true then getF P id else getF Q id
  mid : ∀ id,L.2.1 ≤ id → id < P.2.1 → getF Y id = getF P id
  new : ∀ id,L.2.1 ≤ id → getF Y (id + k) = getF Q id
  next : Y.2.1 = Q.2.1 + k
  mono : L.2.1 ≤ Q.2.1
  keep : ∀ id,id < L.2.1 → getF Q id ≠ none → getF L id ≠ none
  many : Y.2.2 - P.2.2 = Q.2.2 - L.2.2 + sk
theorem not_at {c : Nat} {L : Lst} (h : LOk c L) {id : Int} (hg : getF L id ≠ none) : ¬ atE L.1 id < 0:=(getF_pos h hg).2.2
theorem sim_step {c c' : Nat} {L P Q Y : Lst} {a : List Edt} {k sk : Int} (hk : k = (insA a : Int)) (hL1 : 1 ≤ L.2.1) (hPn : P.2.1 = L.2.1 + k) (hR : Ran L a P) (hQ : LOk c Q) (hY : LOk c' Y) (S : Sim L P a k Q Y sk) (x : Edt) (hf : qW x.2.2) (hx : oneN Q x = 0) (hkd : x.1 = 1 ∨ x.1 = 2 ∨ x.1 = 3) (hcl : x.2.1 < L.2.1 → clsh a x = false) :
    (x.2.1 < L.2.1 ∧ x.1 = 2 ∧ delA a x.2.1 = true ∧ reb1 L.2.1 k a x = [] ∧ Sim L P a k (doL Q x) Y (sk + 1)) ∨ ∃ y,reb1 L.2.1 k a x = [y] ∧ y.2.2 = x.2.2 ∧ y.1 = x.1 ∧ ((oneN Y y = 0 ∧ Sim L P a k (doL Q x) (doL Y y) sk) ∨ (oneN Y y = 11 ∧ 400 ≤ Y.2.2 ∧ x.1 = 3)):=by
  have hk0 : 0 ≤ k:=by omega
  have hmo:=S.mono
  by_cases h1 : x.1 = 1
  · obtain ⟨g1,g2,g3,g4⟩:=step_rep hQ hf h1 hx;have g2n : (doL Q x).2.1 = Q.2.1:=by rw [g2]
    have g2m : (doL Q x).2.2 = Q.2.2:=by rw [g2]
    by_cases hid : x.2.1 < L.2.1
    · have ht : tchA a x.2.1 = false:=by have:=hcl hid;unfold clsh at this;rwa [if_pos h1] at this
      have hg : getF Y x.2.1 ≠ none:=by rw [S.old _ hid,if_neg (by rw [ht];decide)];exact g3
      have h0 : oneN Y x = 0:=one_rep0 h1 (not_at hY hg) g4;obtain ⟨y1,y2,_,_⟩:=step_rep hY hf h1 h0;have y2n : (doL Y x).2.1 = Y.2.1:=by rw [y2]
      have y2m : (doL Y x).2.2 = Y.2.2:=by rw [y2]
      refine .inr ⟨x,by unfold reb1;rw [if_neg (by omega),if_neg (by rintro ⟨e,_⟩;omega)],rfl,rfl,.inl ⟨h0,⟨fun j hj=>?_,fun j hj hj2=>?_,fun j hj=>?_,by rw [y2n,g2n];exact S.next,by rw [g2n];exact hmo,fun j hj hn=>?_,by rw [y2m,g2m];exact S.many⟩⟩⟩
      · rw [y1,g1]
        by_cases e : j = x.2.1
        · rw [if_pos e,if_neg (by rw [e,ht];decide),if_pos e]
        · rw [if_neg e,if_neg e];exact S.old j hj
      · rw [y1,if_neg (by omega)];exact S.mid j hj hj2
      · rw [y1,if_neg (by omega),g1,if_neg (by omega)];exact S.new j hj
      · rw [g1] at hn
        by_cases e : j = x.2.1
        · rw [e];exact S.keep _ hid g3
        · rw [if_neg e] at hn;exact S.keep j hj hn
    · have hg : getF Y (x.2.1 + k) ≠ none:=by rw [S.new _ (by omega)];exact g3
      have h0 : oneN Y (x.1,x.2.1 + k,x.2.2) = 0:=one_rep0 h1 (not_at hY hg) g4;obtain ⟨y1,y2,_,_⟩:=step_rep (e:=(x.1,x.2.1 + k,x.2.2)) hY hf h1 h0;have y2n : (doL Y (x.1,x.2.1 + k,x.2.2)).2.1 = Y.2.1:=by rw [y2]
      have y2m : (doL Y (x.1,x.2.1 + k,x.2.2)).2.2 = Y.2.2:=by rw [y2]
      simp only at y1;refine .inr ⟨(x.1,x.2.1 + k,x.2.2),by unfold reb1;rw [if_pos (by omega)],rfl,rfl,.inl ⟨h0,⟨fun j hj=>?_,fun j hj hj2=>?_,fun j hj=>?_,by rw [y2n,g2n];exact S.next,by rw [g2n];exact hmo,fun j hj hn=>?_,by rw [y2m,g2m];exact S.many⟩⟩⟩
      · rw [y1,g1,if_neg (by omega),if_neg (show ¬ j = x.2.1 by omega)];exact S.old j hj
      · rw [y1,if_neg (by omega)];exact S.mid j hj hj2
      · rw [y1,g1]
        by_cases e : j = x.2.1
        · rw [if_pos (by omega),if_pos e]
        · rw [if_neg (by omega),if_neg e];exact S.new j hj
      · rw [g1,if_neg (by omega)] at hn;exact S.keep j hj hn
  · by_cases h2 : x.1 = 2
    · obtain ⟨g1,g2,g2m,g3⟩:=step_del hQ hf h2 hx
      by_cases hid : x.2.1 < L.2.1
      · by_cases hd : delA a x.2.1 = true
        · refine .inl ⟨hid,h2,hd,by unfold reb1;rw [if_neg (by omega),if_pos ⟨h2,hd⟩],⟨fun j hj=>?_,S.mid,fun j hj=>?_,by rw [g2];exact S.next,by rw [g2];exact hmo,fun j hj hn=>?_,by have:=S.many;rw [g2m];omega⟩⟩
          · rw [S.old j hj,g1]
            by_cases e : j = x.2.1
            · have ht : tchA a j = true:=by unfold tchA;rw [e,hd,Bool.or_true]
              rw [if_pos ht,if_pos ht]
            · rw [if_neg e]
          · rw [g1,if_neg (by omega)];exact S.new j hj
          · rw [g1] at hn
            by_cases e : j = x.2.1
            · rw [if_pos e] at hn;exact absurd rfl hn
            · rw [if_neg e] at hn;exact S.keep j hj hn
        · have ht : tchA a x.2.1 = false:=by
            have h5:=hcl hid;unfold clsh at h5;rw [if_neg h1,if_pos h2] at h5;cases e : tchA a x.2.1
            · rfl
            · rw [e] at h5;simp at h5;exact absurd h5 hd
          have hg : getF Y x.2.1 ≠ none:=by rw [S.old _ hid,if_neg (by rw [ht];decide)];exact g3
          have h0 : oneN Y x = 0:=one_del0 h2 (not_at hY hg);obtain ⟨y1,y2,y2m,_⟩:=step_del hY hf h2 h0;refine .inr ⟨x,by unfold reb1;rw [if_neg (by omega),if_neg (fun h=>hd h.2)],rfl,rfl,.inl ⟨h0,⟨fun j hj=>?_,fun j hj hj2=>?_,fun j hj=>?_,by rw [y2,g2];exact S.next,by rw [g2];exact hmo,fun j hj hn=>?_,by have:=S.many;rw [y2m,g2m];omega⟩⟩⟩
          · rw [y1,g1]
            by_cases e : j = x.2.1
            · rw [if_pos e,if_neg (by rw [e,ht];decide),if_pos e]
            · rw [if_neg e,if_neg e];exact S.old j hj
          · rw [y1,if_neg (by omega)];exact S.mid j hj hj2
          · rw [y1,if_neg (by omega),g1,if_neg (by omega)];exact S.new j hj
          · rw [g1] at hn
            by_cases e : j = x.2.1
            · rw [if_pos e] at hn;exact absurd rfl hn
            · rw [if_neg e] at hn;exact S.keep j hj hn
      · have hg : getF Y (x.2.1 + k) ≠ none:=by rw [S.new _ (by omega)];exact g3
        have h0 : oneN Y (x.1,x.2.1 + k,x.2.2) = 0:=one_del0 h2 (not_at hY hg);obtain ⟨y1,y2,y2m,_⟩:=step_del (e:=(x.1,x.2.1 + k,x.2.2)) hY hf h2 h0;simp only at y1;refine .inr ⟨(x.1,x.2.1 + k,x.2.2),by unfold reb1;rw [if_pos (by omega)],rfl,rfl,.inl ⟨h0,⟨fun j hj=>?_,fun j hj hj2=>?_,fun j hj=>?_,by rw [y2,g2];exact S.next,by rw [g2];exact hmo,fun j hj hn=>?_,by have:=S.many;rw [y2m,g2m];omega⟩⟩⟩
        · rw [y1,g1,if_neg (by omega),if_neg (show ¬ j = x.2.1 by omega)];exact S.old j hj
        · rw [y1,if_neg (by omega)];exact S.mid j hj hj2
        · rw [y1,g1]
          by_cases e : j = x.2.1
          · rw [if_pos (by omega),if_pos e]
          · rw [if_neg (by omega),if_neg e];exact S.new j hj
        · rw [g1,if_neg (by omega)] at hn;exact S.keep j hj hn
    · have h3 : x.1 = 3:=by rcases hkd with h|h|h;exact absurd h h1;exact absurd h h2;exact h
      obtain ⟨g1,g2,g2m,g3,g4⟩:=step_ins hQ hf h1 h2 hx;have hn:=S.next;obtain ⟨y,hy,hyf,hyk,hg⟩ : ∃ y : Edt,reb1 L.2.1 k a x = [y] ∧ y.2.2 = x.2.2 ∧ y.1 = x.1 ∧ (y.2.1 = 0 ∨ ¬ atE Y.1 y.2.1 < 0):=by
        by_cases hid : x.2.1 < L.2.1
        · refine ⟨x,by unfold reb1;rw [if_neg (by omega),if_neg (fun h=>h2 h.1)],rfl,rfl,?_⟩;refine g3.imp id fun hg=>not_at hY ?_
          have hd : delA a x.2.1 = false:=by have h5:=hcl hid;unfold clsh at h5;rwa [if_neg h1,if_neg h2,if_pos h3] at h5
          rw [S.old _ hid];split
          · exact hR.keep _ hid (S.keep _ hid hg) hd
          · exact hg
        · have hnx:=hQ.next;refine ⟨(x.1,x.2.1 + k,x.2.2),by unfold reb1;rw [if_pos (by omega)],rfl,rfl,.inr ?_⟩;refine not_at hY ?_;show getF Y (x.2.1 + k) ≠ none;rw [S.new _ (by omega)];exact g3.elim (fun e=>by have:=hL1;omega) id
      have ho:=one_ins0 (L:=Y) (e:=y) (by omega) (by omega) hg (by rw [hyf];exact g4);refine .inr ⟨y,hy,hyf,hyk,?_⟩
      by_cases h4 : 400 ≤ Y.2.2
      · rw [if_pos h4] at ho;exact .inr ⟨ho,h4,h3⟩
      · rw [if_neg h4] at ho;obtain ⟨y1,y2,y2m,_,_⟩:=step_ins hY (by rw [hyf];exact hf) (by omega) (by omega) ho;refine .inl ⟨ho,⟨fun j hj=>?_,fun j hj hj2=>?_,fun j hj=>?_,by rw [y2,g2];omega,by rw [g2];omega,fun j hj hn=>?_,by have:=S.many;rw [y2m,g2m];omega⟩⟩
        · have e1 : getF (doL Q x) j = getF Q j:=by rw [g1,if_neg (by omega)]
          rw [y1,if_neg (by omega),e1];exact S.old j hj
        · rw [y1,if_neg (by omega)];exact S.mid j hj hj2
        · rw [y1,g1,hyf]
          by_cases e : j = Q.2.1
          · rw [if_pos (by omega),if_pos e]
          · rw [if_neg (by omega),if_neg e];exact S.new j hj
        · rw [g1,if_neg (by omega)] at hn;exact S.keep j hj hn
def alS : List Edt:=[(2,1,[]),(1,1,[(⟨#[65]⟩,ByteArray.empty)])]
theorem plays_l (L : Lst) (a b : List Edt) {i : Nat} (h : i ≤ a.length) : yG L (a ++ b) i = yG L a i:=by
  unfold yG;rw [List.take_append_of_le_length h]
theorem plays_r (L : Lst) (a b : List Edt) (i : Nat) : yG L (a ++ b) (a.length + i) = yG (yG L a a.length) b i:=by
  unfold yG;rw [List.take_append,List.take_of_length_le (by omega),List.take_length,List.foldl_append,Nat.add_sub_cancel_left]
theorem getD_l (a b : List Edt) {i : Nat} (h : i < a.length) : (a ++ b).getD i ((0 : Int),(0 : Int),([] : List Fld)) = a.getD i ((0 : Int),(0 : Int),([] : List Fld)):=by
  rw [List.getD_eq_getElem?_getD,List.getElem?_append_left h,List.getD_eq_getElem?_getD]
theorem getD_r (a b : List Edt) (i : Nat) : (a ++ b).getD (a.length + i) ((0 : Int),(0 : Int),([] : List Fld)) = b.getD i ((0 : Int),(0 : Int),([] : List Fld)):=by
  rw [List.getD_eq_getElem?_getD,List.getElem?_append_right (by omega),Nat.add_sub_cancel_left,List.getD_eq_getElem?_getD]
def clear (next : Int) (a b : List Edt) : Prop:=∀ x ∈ b,x.2.1 < next → clsh a x = false
def whole (next : Int) (a b : List Edt) : Prop:=∀ x ∈ b,¬ (x.2.1 < next ∧ x.1 = 2 ∧ delA a x.2.1 = true)
def fullAt (Y : Lst) (s : List Edt) : Prop:=∃ q,q < s.length ∧ oneN (yG Y s q) (s.getD q ((0 : Int),(0 : Int),([] : List Fld))) = 11 ∧ (∀ j,j < q → oneN (yG Y s j) (s.getD j ((0 : Int),(0 : Int),([] : List Fld))) = 0) ∧ 400 ≤ (yG Y s q).2.2
theorem full_cons {Y : Lst} {y : Edt} {s : List Edt} (h0 : oneN Y y = 0) (h : fullAt (doL Y y) s) : fullAt Y (y :: s):=by
  obtain ⟨q,h1,h2,h3,h4⟩:=h;refine ⟨q + 1,by simpa using h1,h2,fun j hj=>?_,h4⟩;cases j with
  | zero=>exact h0
  | succ j=>exact h3 j (by omega)
theorem sim_run {L P : Lst} {a : List Edt} {k : Int} (hk : k = (insA a : Int)) (hL1 : 1 ≤ L.2.1) (hPn : P.2.1 = L.2.1 + k) (hR : Ran L a P) : ∀ (b : List Edt) {c c' : Nat} {Q Y : Lst} {sk : Int},LOk c Q → LOk c' Y → Sim L P a k Q Y sk → (∀ e ∈ b,qW e.2.2) → kindsOk b → takes Q b → clear L.2.1 a b →
    (takes Y (b.flatMap (reb1 L.2.1 k a)) ∧ ∃ sk',Sim L P a k (runL Q b) (runL Y (b.flatMap (reb1 L.2.1 k a))) sk' ∧ (whole L.2.1 a b → sk' = sk)) ∨ fullAt Y (b.flatMap (reb1 L.2.1 k a))
  | [],_,_,_,_,sk,_,_,S,_,_,_,_=>.inl ⟨trivial,sk,S,fun _=>rfl⟩
  | x :: r,c,c',Q,Y,sk,hQ,hY,S,hf,hkd,ht,hcl=>by
    have hfx:=hf x List.mem_cons_self;have hQ':=doL_ok hQ hfx;have hfr : ∀ e ∈ r,qW e.2.2:=fun e he=>hf e (List.mem_cons_of_mem _ he)
    have hkr : kindsOk r:=fun e he=>hkd e (List.mem_cons_of_mem _ he)
    have hcr : clear L.2.1 a r:=fun e he=>hcl e (List.mem_cons_of_mem _ he)
    rw [List.flatMap_cons];rcases sim_step hk hL1 hPn hR hQ hY S x hfx ht.1 (hkd x List.mem_cons_self) (hcl x List.mem_cons_self) with ⟨h1,h2,h3,h4,h5⟩|⟨y,h4,hyf,_,h5⟩
    · rw [h4,List.nil_append];rcases sim_run hk hL1 hPn hR r hQ' hY h5 hfr hkr ht.2 hcr with ⟨g1,sk',g2,_⟩|g
      · exact .inl ⟨g1,sk',g2,fun hw=>absurd ⟨h1,h2,h3⟩ (hw x List.mem_cons_self)⟩
      · exact .inr g
    · rw [h4,List.singleton_append];rcases h5 with ⟨h0,h6⟩|⟨h0,h6,_⟩
      · have hY':=doL_ok hY (e:=y) (by rw [hyf];exact hfx);rcases sim_run hk hL1 hPn hR r hQ' hY' h6 hfr hkr ht.2 hcr with ⟨g1,sk',g2,g3⟩|g
        · exact .inl ⟨⟨h0,g1⟩,sk',g2,fun hw=>g3 fun e he=>hw e (List.mem_cons_of_mem _ he)⟩
        · exact .inr (full_cons h0 g)
      · exact .inr ⟨0,by simp,h0,fun j hj=>absurd hj (Nat.not_lt_zero _),h6⟩
theorem sim_0 {c : Nat} {L : Lst} (h : LOk c L) {a : List Edt} {P : Lst} (hR : Ran L a P) {cp : Nat} (hP : LOk cp P) : Sim L P a (insA a : Int) L P 0:=by
  refine ⟨fun id hid=>?_,fun _ _ _=>rfl,fun id hid=>?_,hR.next,Int.le_refl _,fun _ _ h=>h,by omega⟩
  · split
    · rfl
    · rename_i ht;exact hR.unt id hid (by simpa using ht)
  · have h1 : getF L id = none:=by
      refine Classical.byContradiction fun hn=>?_
      have:=(getF_pos h hn).2.1;omega
    have h2 : getF P (id + (insA a : Int)) = none:=by
      refine Classical.byContradiction fun hn=>?_
      have:=(getF_pos hP hn).2.1;have:=hR.next;omega
    rw [h1,h2]
theorem both_run {c : Nat} {L : Lst} (h : LOk c L) {a b : List Edt} (hfa : ∀ e ∈ a,qW e.2.2) (hfb : ∀ e ∈ b,qW e.2.2) (hka : kindsOk a) (hkb : kindsOk b) (hta : takes L a) (htb : takes L b) (hcl : clear L.2.1 a b) :
    (takes (runL L a) (rebB L.2.1 a b) ∧ ∃ sk,Sim L (runL L a) a (insA a : Int) (runL L b) (runL (runL L a) (rebB L.2.1 a b)) sk ∧ (whole L.2.1 a b → sk = 0)) ∨ fullAt (runL L a) (rebB L.2.1 a b):=by
  have hR:=ran a h hfa hka hta;have hP:=run_ok h hfa;exact sim_run rfl h.next.1 hR.next hR b h hP (sim_0 h hR hP) hfb hkb htb hcl
theorem takes_app : ∀ {a : List Edt} {L : Lst} {b : List Edt},takes L a → takes (runL L a) b → takes L (a ++ b)
  | [],_,_,_,h=>h
  | _ :: _,_,_,h,h2=>⟨h.1,takes_app h.2 h2⟩
theorem runL_app (L : Lst) (a b : List Edt) : runL L (a ++ b) = runL (runL L a) b:=List.foldl_append
theorem full_app {L : Lst} {a s : List Edt} (hta : takes L a) (h : fullAt (runL L a) s) : fullAt L (a ++ s):=by
  obtain ⟨q,h1,h2,h3,h4⟩:=h;rw [← run_plays] at h2 h3 h4;refine ⟨a.length + q,by rw [List.length_append];omega,by rw [plays_r,getD_r];exact h2,fun j hj=>?_,by rw [plays_r];exact h4⟩;rcases Nat.lt_or_ge j a.length with h5|h5
  · rw [plays_l L a s (by omega),getD_l a s h5];exact takes_to a L hta j h5
  · obtain ⟨i,rfl⟩ : ∃ i,j = a.length + i:=⟨j - a.length,by omega⟩;rw [plays_r,getD_r];exact h3 i (by omega)
theorem idsT_cons (L : Lst) (x : Edt) (r : List Edt) (n : Nat) : idsT L (x :: r) (n + 1) = (if 0 < newN L x then [newN L x] else []) ++ idsT (doL L x) r n:=by
  unfold idsT;rw [List.range_succ_eq_map,List.map_cons,List.map_map,List.filter_cons];show (if posI (newN L x) then _ else _) = _;unfold posI;simp only [decide_eq_true_eq];split
  · rfl
  · rfl
theorem ids_run : ∀ (a : List Edt) {c : Nat} {L : Lst},LOk c L → (∀ e ∈ a,qW e.2.2) → kindsOk a → takes L a → idsT L a a.length = (List.range (insA a)).map fun i : Nat=>L.2.1 + (i : Int)
  | [],_,_,_,_,_,_=>rfl
  | x :: r,c,L,h,hf,hk,ht=>by
    have hfx:=hf x List.mem_cons_self;have hL':=doL_ok h hfx;have hnx:=h.next;rw [List.length_cons,idsT_cons,ids_run r hL' (fun e he=>hf e (List.mem_cons_of_mem _ he)) (fun e he=>hk e (List.mem_cons_of_mem _ he)) ht.2];have hkx:=hk x List.mem_cons_self
    by_cases h12 : x.1 = 1 ∨ x.1 = 2
    · have hn : newN L x = 0:=by unfold newN;rw [if_pos h12]
      have hd : (doL L x).2.1 = L.2.1:=doL_n L x h12;rw [hn,hd];simp only [insA];rw [if_neg (show ¬ x.1 = 3 by omega),if_neg (by decide),Nat.zero_add];rfl
    · have h3 : x.1 = 3:=by omega
      obtain ⟨_,g2,_⟩:=step_ins h hfx (by omega) (by omega) ht.1;have hn : newN L x = L.2.1:=by unfold newN;rw [if_neg h12,if_pos ht.1]
      rw [hn,g2];simp only [insA];rw [if_pos h3,if_pos (by omega),Nat.add_comm 1,List.range_succ_eq_map,List.map_cons,List.map_map];show L.2.1 :: _ = (L.2.1 + ((0 : Nat) : Int)) :: _
      congr 1
      · omega
      · refine List.map_congr_left fun i _=>?_
        simp only [Function.comp];omega
theorem ids_cnt {a : List Edt} {c : Nat} {L : Lst} (h : LOk c L) (hf : ∀ e ∈ a,qW e.2.2) (hk : kindsOk a) (ht : takes L a) : (idsT L a a.length).length = insA a:=by
  rw [ids_run a h hf hk ht,List.length_map,List.length_range]
theorem ids_mem {a : List Edt} {c : Nat} {L : Lst} (h : LOk c L) (hf : ∀ e ∈ a,qW e.2.2) (hk : kindsOk a) (ht : takes L a) {id : Int} (hm : id ∈ idsT L a a.length) : L.2.1 ≤ id ∧ id < L.2.1 + (insA a : Int):=by
  rw [ids_run a h hf hk ht] at hm;obtain ⟨i,hi,rfl⟩:=List.mem_map.1 hm;have:=List.mem_range.1 hi;omega
theorem taken_old {L P Q Y : Lst} {a b : List Edt} {k sk : Int} (S : Sim L P a k Q Y sk) (hb : Ran L b Q) {id : Int} (hid : id < L.2.1) : getF Y id = getF (if tchA a id = true then P else if tchA b id = true then Q else L) id:=by
  rw [S.old id hid];split
  · rfl
  · split
    · rfl
    · rename_i ht;exact hb.unt id hid (by simpa using ht)
def apartB (next : Int) (a b : List Edt) : Prop:=(∀ x ∈ b,x.2.1 < next → (x.1 ≠ 3 → tchA a x.2.1 = false) ∧ delA a x.2.1 = false) ∧ ∀ x ∈ a,x.2.1 < next → delA b x.2.1 = false
theorem reb_len (next k : Int) (a : List Edt) : ∀ (b : List Edt),(b.flatMap (reb1 next k a)).length ≤ b.length ∧ (whole next a b → (b.flatMap (reb1 next k a)).length = b.length)
  | []=>⟨Nat.le_refl _,fun _=>rfl⟩
  | x :: r=>by
    obtain ⟨h1,h2⟩:=reb_len next k a r;rw [List.flatMap_cons,List.length_append,List.length_cons];have h3 : (reb1 next k a x).length ≤ 1 ∧ (¬ (x.2.1 < next ∧ x.1 = 2 ∧ delA a x.2.1 = true) → (reb1 next k a x).length = 1):=by
      unfold reb1;split
      · exact ⟨Nat.le_refl _,fun _=>rfl⟩
      · split
        · rename_i h4 h5;exact ⟨Nat.zero_le _,fun h=>absurd ⟨by omega,h5⟩ h⟩
        · exact ⟨Nat.le_refl _,fun _=>rfl⟩
    refine ⟨by omega,fun hw=>?_⟩;have:=h2 fun e he=>hw e (List.mem_cons_of_mem _ he)
    have:=h3.2 (hw x List.mem_cons_self);omega
theorem index_Ed (f : FuncId) {κ : Nat} {β γ : Type} (S : Rd β) (y : β) (T : Rd γ) (z : γ) (l : List Edt) (p : Edt → Bool) (hp : ∀ x ∈ l,qT Tryz.prog f [.agg (toL rEdt x),.one (.addr S y),.one (.addr T z)] (ib (p x))) : qT Tryz.prog 99 [.one (.slk κ rEdt l),.one (.clo2 f (.addr S y) (.addr T z))] (ii .i64 (ixOf p l)):=by
  refine qQ (rs:=[4]) Tryz.func99 rfl rfl rfl teOk rfl ?_;refine qC ?_;refine qB ?_;refine qC ?_;refine qC ?_;refine qB ?_;intro l1_1
  try simp only [zds] at l1_1
  refine qN ?_;refine qR (fun (i : Nat)=>i ≤ l.length ∧ (l.take i).any p = false) (fun (i : Nat)=>[(0,.one (.slk κ rEdt l)),(1,.one (.clo2 f (.addr S y) (.addr T z))),(7,ii .i64 l.length),(8,ii .i64 i)]) (fun (i : Nat)=>[]) 0 (fun (i : Nat)=>l.length - i) 0 (⟨Nat.zero_le _,rfl⟩) (qP ⟨rfl,rfl,rfl,rfl⟩ trivial rfl) ?_;intro i hI0;obtain ⟨hi,hn⟩:=hI0;refine qC ?_;refine qB ?_;refine qC ?_;refine qJ rfl (fun h9=>?_) (fun h9=>?_)
  ·try simp only [decide_eq_true_eq] at h9
   try simp only [zds] at h9
   refine qL ?_;refine qC ?_;refine qN ?_;refine qC ?_;refine qB ?_;refine qC ?_;refine qB ?_;refine zai (by first|omega|assumption|decide|(simp only [zds];omega)|(simp <;> omega)) ?_;refine Or.inl ?_;refine zai (rfl) ?_;refine zei _ (zai (hp _ (yF (show i < l.length by omega) _)) ?_);refine qJ rfl (fun h16=>?_) (fun h16=>?_)
   ·try simp only [zbq] at h16
    try simp only [Int.toNat_natCast,qH,qG,qE] at h16
    refine qC ?_;refine qB ?_;refine qM ?_;exact qS (ixOf_at ((0 : Int),(0 : Int),([] : List Fld)) (by omega) hn h16).symm
   ·try simp only [zbq] at h16
    try simp only [Int.toNat_natCast,qH,qG,qE] at h16
    refine qL ?_;refine qB ?_;refine zai (by first|omega|assumption|decide|(simp only [zds];omega)|(simp <;> omega)) ?_;exact ⟨i + 1,⟨by omega,by rw [take_any l p ((0 : Int),(0 : Int),([] : List Fld)) i (by omega),hn];exact h16⟩,by first|omega|(simp <;> omega),qP ⟨rfl,rfl,rfl,rfl⟩ trivial rfl⟩
  ·try simp only [decide_eq_false_iff_not,Int.not_lt] at h9
   try simp only [zds] at h9
   refine qV ?_;refine qC ?_;refine qB ?_;refine qM ?_;have e : i = l.length:=by omega
   subst e;rw [List.take_length] at hn;exact qS (ixOf_none hn).symm
theorem contains_Ed (f : FuncId) {κ : Nat} {β γ : Type} (S : Rd β) (y : β) (T : Rd γ) (z : γ) (l : List Edt) (p : Edt → Bool) (hp : ∀ x ∈ l,qT Tryz.prog f [.agg (toL rEdt x),.one (.addr S y),.one (.addr T z)] (ib (p x))) : qT Tryz.prog 102 [.one (.slk κ rEdt l),.one (.clo2 f (.addr S y) (.addr T z))] (ib (l.any p)):=by
  refine qQ (rs:=[4]) Tryz.func102 rfl rfl rfl teOk rfl ?_;refine qC ?_;refine qB ?_;refine qC ?_;refine qB ?_;refine Or.inl ?_;refine zai (rfl) ?_;refine zei _ (zai (index_Ed f S y T z l p hp) ?_);refine qM ?_;exact ib_eq (ixOf_ge p l)
theorem does1_c (k id : Int) (x : Edt) : qT Tryz.prog 103 [.agg (toL rEdt x),.one (.addr (.int .i64) k),.one (.addr (.int .i64) id)] (ib (decide (x.1 = k) && decide (x.2.1 = id))):=by
  refine qQ (rs:=[4]) Tryz.func103 rfl rfl rfl teOk rfl ?_;refine qC ?_;refine qB ?_;refine qC ?_;refine qB ?_;refine zai (fun h=>trivial) ?_;refine zai (fun h=>⟨⟨h,trivial⟩,trivial⟩) ?_;refine zai (fun h=>trivial) ?_;refine zai (fun h=>⟨⟨h,trivial⟩,⟨h,trivial⟩,trivial⟩) ?_;refine zai (by exact fun h=>h) ?_;refine qM ?_;exact ib_eq (by simp)
theorem does_c {κ : Nat} (a : List Edt) (k id : Int) : qT Tryz.prog 67 [.one (.slk κ rEdt a),ii .i64 k,ii .i64 id] (ib (a.any fun x=>decide (x.1 = k) && decide (x.2.1 = id))):=by
  refine qQ (rs:=[6]) Tryz.func67 rfl rfl rfl teOk rfl ?_;refine qC ?_;refine qB ?_;refine qC ?_;refine qB ?_;refine Or.inl ?_;refine zai (rfl) ?_;refine zei _ (zai (contains_Ed _ (.int .i64) k (.int .i64) id a _ (fun x _=>does1_c k id x)) ?_);refine qM ?_;rfl
theorem deletes_c {κ : Nat} (a : List Edt) (id : Int) : qT Tryz.prog 33 [.one (.slk κ rEdt a),ii .i64 id] (ib (delA a id)):=by
  refine qQ (rs:=[4]) Tryz.func33 rfl rfl rfl teOk rfl ?_;refine qC ?_;refine qB ?_;refine qC ?_;refine qB ?_;refine Or.inl ?_;refine zai (rfl) ?_;refine zei _ (zai (does_c a 2 id) ?_);refine qM ?_;rfl
theorem touches_c {κ : Nat} (a : List Edt) (id : Int) : qT Tryz.prog 30 [.one (.slk κ rEdt a),ii .i64 id] (ib (tchA a id)):=by
  have h1 : qT Tryz.prog 67 [.one (.slk κ rEdt a),ii .i64 1,ii .i64 id] (ib (repA a id)):=does_c a 1 id;refine qQ (rs:=[4]) Tryz.func30 rfl rfl rfl teOk rfl ?_;refine qC ?_;refine qB ?_;refine qC ?_;refine qB ?_;refine Or.inl ?_;refine zai (rfl) ?_;refine zei _ (zai (h1) ?_);refine zai (fun h=>trivial) ?_;refine zai (fun h=>trivial) ?_;refine Or.inl ?_;refine zai (rfl) ?_;refine zei _ (zai (fun h=>⟨⟨⟨h,trivial⟩,⟨h,trivial⟩,trivial⟩,deletes_c a id⟩) ?_);refine zai (by first|(intro h;rw [h];rfl)|(intro h;cases h)) ?_;refine qM ?_;exact ib_eq (by unfold tchA;simp)
theorem insA_snoc : ∀ (a : List Edt) (i : Nat),i < a.length → insA (a.take (i + 1)) = insA (a.take i) + if (a.getD i ((0 : Int),(0 : Int),([] : List Fld))).1 = 3 then 1 else 0
  | x :: r,0,_=>by simp [insA]
  | x :: r,i + 1,h=>by
    have:=insA_snoc r i (by simpa using h);simp only [List.take_succ_cons,insA,List.getD_cons_succ] at this ⊢;rw [this];omega
theorem insA_le : ∀ (a : List Edt),insA a ≤ a.length
  | []=>Nat.le_refl _
  | x :: r=>by
    have:=insA_le r;simp only [insA,List.length_cons];split <;> omega
theorem inserts_c {κ : Nat} (a : List Edt) (hl : a.length ≤ 1000000) : qT Tryz.prog 34 [.one (.slk κ rEdt a)] (ii .i64 (insA a)):=by
  refine qQ (rs:=[2]) Tryz.func34 rfl rfl rfl teOk rfl ?_;refine qC ?_;refine qB ?_;refine qC ?_;refine qB ?_;refine qC ?_;refine qC ?_;refine qB ?_;intro l2_1
  try simp only [zds] at l2_1
  refine qN ?_;refine qR (fun (i : Nat)=>i ≤ a.length) (fun (i : Nat)=>[(3,ii .i64 (insA (a.take i))),(6,.one (.slk κ rEdt a)),(7,ii .i64 a.length),(8,ii .i64 i)]) (fun (i : Nat)=>[]) 0 (fun (i : Nat)=>a.length - i) 0 (Nat.zero_le _) (qP ⟨rfl,rfl,rfl,rfl⟩ trivial rfl) ?_;intro i hI0;refine qC ?_;refine qB ?_;refine qC ?_;refine qJ rfl (fun h9=>?_) (fun h9=>?_)
  ·try simp only [decide_eq_true_eq] at h9
   try simp only [zds] at h9
   have hil : i < a.length:=(by omega);have hsn:=insA_snoc a i hil;have hle:=insA_le (a.take i);rw [List.length_take] at hle;refine qL ?_;refine qC ?_;refine qN ?_;refine qC ?_;refine qB ?_;refine zai (by first|omega|assumption|decide|(simp only [zds];omega)|(simp <;> omega)) ?_;refine qC ?_;refine qB ?_;refine qJ rfl (fun h14=>?_) (fun h14=>?_)
   ·try simp only [decide_eq_true_eq] at h14
    try simp only [Int.toNat_natCast,qH,qG,qE] at h14
    rw [if_pos h14] at hsn;refine qB ?_;refine zai (by first|omega|assumption|decide|(simp only [zds];omega)|(simp <;> omega)) ?_;refine qB ?_;refine zai (by first|omega|assumption|decide|(simp only [zds];omega)|(simp <;> omega)) ?_;exact ⟨i + 1,by omega,by first|omega|(simp <;> omega),qP ⟨(qS (by omega)),rfl,rfl,(qS (by omega))⟩ trivial rfl⟩
   ·try simp only [decide_eq_false_iff_not] at h14
    try simp only [Int.toNat_natCast,qH,qG,qE] at h14
    rw [if_neg h14] at hsn;refine qL ?_;refine qB ?_;refine zai (by first|omega|assumption|decide|(simp only [zds];omega)|(simp <;> omega)) ?_;exact ⟨i + 1,by omega,by first|omega|(simp <;> omega),qP ⟨(qS (by omega)),rfl,rfl,(qS (by omega))⟩ trivial rfl⟩
  ·try simp only [decide_eq_false_iff_not,Int.not_lt] at h9
   try simp only [zds] at h9
   refine qV ?_;refine qC ?_;refine qB ?_;refine qM ?_;rw [List.take_of_length_le (by omega)];exact rfl
theorem clashes_c {κ : Nat} (a : List Edt) (x : Edt) : qT Tryz.prog 101 [.one (.slk κ rEdt a),.agg (toL rEdt x)] (ib (clsh a x)):=by
  refine qQ (rs:=[4]) Tryz.func101 rfl rfl rfl teOk rfl ?_;refine qC ?_;refine qB ?_;refine qC ?_;refine qC ?_;refine qB ?_;refine qN ?_;refine qC ?_;refine qB ?_;refine qJ rfl (fun h7=>?_) (fun h7=>?_)
  ·try simp only [decide_eq_true_eq] at h7
   try simp only [zds] at h7
   refine qC ?_;refine qB ?_;refine Or.inl ?_;refine zai (rfl) ?_;refine zei _ (zai (touches_c a x.2.1) ?_);refine qM ?_;unfold clsh;rw [if_pos h7];exact rfl
  ·try simp only [decide_eq_false_iff_not] at h7
   try simp only [zds] at h7
   refine qC ?_;refine qB ?_;refine qJ rfl (fun h13=>?_) (fun h13=>?_)
   ·try simp only [decide_eq_true_eq] at h13
    try simp only [zds] at h13
    refine qC ?_;refine qB ?_;refine Or.inl ?_;refine zai (rfl) ?_;refine zei _ (zai (touches_c a x.2.1) ?_);refine zai (fun h=>trivial) ?_;refine zai (fun h=>trivial) ?_;refine zai (fun h=>⟨⟨h,trivial⟩,trivial⟩) ?_;refine Or.inl ?_;refine zai (rfl) ?_;refine zei _ (zai (fun h=>⟨⟨⟨h,trivial⟩,⟨h,trivial⟩,trivial⟩,deletes_c a x.2.1⟩) ?_);refine zai (fun h=>⟨⟨h,trivial⟩,trivial⟩) ?_;refine zai (by exact fun h=>h) ?_;refine qM ?_;unfold clsh;rw [if_neg h7,if_pos h13];exact ib_eq (by simp)
   ·try simp only [decide_eq_false_iff_not] at h13
    try simp only [zds] at h13
    refine qC ?_;refine qB ?_;refine qJ rfl (fun h26=>?_) (fun h26=>?_)
    ·try simp only [decide_eq_true_eq] at h26
     try simp only [zds] at h26
     refine qC ?_;refine qB ?_;refine Or.inl ?_;refine zai (rfl) ?_;refine zei _ (zai (deletes_c a x.2.1) ?_);refine qM ?_;unfold clsh;rw [if_neg h7,if_neg h13,if_pos h26];exact rfl
    ·try simp only [decide_eq_false_iff_not] at h26
     try simp only [zds] at h26
     refine qL ?_;refine qC ?_;refine qB ?_;refine qM ?_;unfold clsh;rw [if_neg h7,if_neg h13,if_neg h26];exact rfl
def clashX (next : Int) (a : List Edt) (x : Edt) : Bool:=decide (x.2.1 < next) && clsh a x
theorem clash1_c {κ : Nat} (next : Int) (a : List Edt) (x : Edt) : qT Tryz.prog 100 [.agg (toL rEdt x),.one (.addr (.int .i64) next),.one (.addr (.slk κ rEdt) a)] (ib (clashX next a x)):=by
  refine qQ (rs:=[4]) Tryz.func100 rfl rfl rfl teOk rfl ?_;refine qC ?_;refine qB ?_;refine qC ?_;refine qB ?_;refine zai (fun h=>trivial) ?_;refine zai (fun h=>trivial) ?_;refine Or.inl ?_;refine zai (rfl) ?_;refine zei _ (zai (fun h=>⟨⟨⟨h,trivial⟩,⟨h,trivial⟩,trivial⟩,clashes_c a x⟩) ?_);refine zai (by exact fun h=>h) ?_;refine qM ?_;exact ib_eq (by unfold clashX;simp)
def clashI (next : Int) (a b : List Edt) : Int:=ixOf (clashX next a) b
theorem clash_c {κ' : Nat} (next : Int) (a b : List Edt) : qT Tryz.prog 64 [ii .i64 next,.one (.sl rEdt a),.one (.slk κ' rEdt b)] (ii .i64 (clashI next a b)):=by
  refine qQ (rs:=[6]) Tryz.func64 rfl rfl rfl teOk rfl ?_;refine qC ?_;refine qB ?_;refine qC ?_;refine qB ?_;refine Or.inl ?_;refine zai (rfl) ?_;refine zei _ (zai (index_Ed _ (.int .i64) next (.sl rEdt) a b (clashX next a) (fun x _=>clash1_c next a x)) ?_);refine qM ?_;rfl
theorem copyE_o (s : List Edt) (hf : ∀ e ∈ s,e.2.2.length ≤ 1000000) (hl : s.length ≤ 1000000) : yA Tryz.prog 65 [.one (.sl rEdt s)] [] 0 (.one (.vec 0)) [(0,.vec 46 rEdt s)] 1:=by
  refine qY (rs:=[2]) Tryz.func65 rfl rfl rfl teOk (by decide) rfl ?_;refine qC ?_;refine qB ?_;refine qC ?_;refine qB ?_;refine qC ?_;refine qC ?_;refine xA 3 46 rEdt rfl ?_;refine qB ?_;intro l2_1
  try simp only [zds] at l2_1
  refine qN ?_;refine qR (fun (i : Nat)=>i ≤ s.length) (fun (i : Nat)=>[(3,.one (.vec 0)),(6,.one (.sl rEdt s)),(7,ii .i64 s.length),(8,ii .i64 i)]) (fun (i : Nat)=>[(0,.vec 46 rEdt (s.take i))]) 1 (fun (i : Nat)=>s.length - i) 0 (Nat.zero_le _) (qP ⟨rfl,rfl,rfl,rfl⟩ rfl rfl) ?_;intro i hI0;refine qC ?_;refine qB ?_;refine qC ?_;refine qJ rfl (fun h9=>?_) (fun h9=>?_)
  ·try simp only [decide_eq_true_eq] at h9
   try simp only [zds] at h9
   have hil : i < s.length:=(by omega);refine qL ?_;refine qC ?_;refine qN ?_;refine qC ?_;refine qB ?_;refine zai (by first|omega|assumption|decide|(simp only [zds];omega)|(simp <;> omega)) ?_;refine qC ?_;refine qB ?_;refine Or.inl ?_;refine zai (rfl) ?_;refine zei _ (zai (clone_c (s.getD i ((0 : Int),(0 : Int),([] : List Fld))).2.2 (hf _ (yF hil ((0 : Int),(0 : Int),([] : List Fld))))) ?_);refine qB ?_;refine zai (by exact qU (show (s.take i).length + 1 ≤ 1000000000 by rw [List.length_take];omega) (by decide)) ?_;refine qB ?_;refine zai (by first|omega|assumption|decide|(simp only [zds];omega)|(simp <;> omega)) ?_;exact ⟨i + 1,by omega,by first|omega|(simp <;> omega),qP ⟨rfl,rfl,rfl,(qS (by omega))⟩ (qX (by rw [← yH ((0 : Int),(0 : Int),([] : List Fld)) hil];try exact rfl)) rfl⟩
  ·try simp only [decide_eq_false_iff_not,Int.not_lt] at h9
   try simp only [zds] at h9
   refine qV ?_;refine qC ?_;refine qB ?_;refine qM ?_;rw [List.take_of_length_le (by omega)];exact ⟨rfl,rfl,rfl⟩
theorem copyE_c (s : List Edt) (hf : ∀ e ∈ s,e.2.2.length ≤ 1000000) (hl : s.length ≤ 1000000) : qT Tryz.prog 65 [.one (.sl rEdt s)] (.one (.sl rEdt s)):=by
  refine qQ (rs:=[2]) Tryz.func65 rfl rfl rfl teOk rfl ?_;refine qC ?_;refine qB ?_;refine qC ?_;refine qB ?_;refine qC ?_;refine qC ?_;refine xA 3 46 rEdt rfl ?_;refine qB ?_;intro l2_1
  try simp only [zds] at l2_1
  refine qN ?_;refine qR (fun (i : Nat)=>i ≤ s.length) (fun (i : Nat)=>[(3,.one (.vec 0)),(6,.one (.sl rEdt s)),(7,ii .i64 s.length),(8,ii .i64 i)]) (fun (i : Nat)=>[(0,.vec 46 rEdt (s.take i))]) 1 (fun (i : Nat)=>s.length - i) 0 (Nat.zero_le _) (qP ⟨rfl,rfl,rfl,rfl⟩ rfl rfl) ?_;intro i hI0;refine qC ?_;refine qB ?_;refine qC ?_;refine qJ rfl (fun h9=>?_) (fun h9=>?_)
  ·try simp only [decide_eq_true_eq] at h9
   try simp only [zds] at h9
   have hil : i < s.length:=(by omega);refine qL ?_;refine qC ?_;refine qN ?_;refine qC ?_;refine qB ?_;refine zai (by first|omega|assumption|decide|(simp only [zds];omega)|(simp <;> omega)) ?_;refine qC ?_;refine qB ?_;refine Or.inl ?_;refine zai (rfl) ?_;refine zei _ (zai (clone_c (s.getD i ((0 : Int),(0 : Int),([] : List Fld))).2.2 (hf _ (yF hil ((0 : Int),(0 : Int),([] : List Fld))))) ?_);refine qB ?_;refine zai (by exact qU (show (s.take i).length + 1 ≤ 1000000000 by rw [List.length_take];omega) (by decide)) ?_;refine qB ?_;refine zai (by first|omega|assumption|decide|(simp only [zds];omega)|(simp <;> omega)) ?_;exact ⟨i + 1,by omega,by first|omega|(simp <;> omega),qP ⟨rfl,rfl,rfl,(qS (by omega))⟩ (qX (by rw [← yH ((0 : Int),(0 : Int),([] : List Fld)) hil];try exact rfl)) rfl⟩
  ·try simp only [decide_eq_false_iff_not,Int.not_lt] at h9
   try simp only [zds] at h9
   refine qV ?_;refine qC ?_;refine qB ?_;refine qM ?_;rw [List.take_of_length_le (by omega)];exact rfl
theorem flat_snoc {α : Type} (f : Edt → List α) {b : List Edt} {i : Nat} (h : i < b.length) : (b.take (i + 1)).flatMap f = (b.take i).flatMap f ++ f (b.getD i ((0 : Int),(0 : Int),([] : List Fld))):=by
  rw [← yH ((0 : Int),(0 : Int),([] : List Fld)) h,List.flatMap_append];simp
theorem flat_len (next k : Int) (a b : List Edt) : (b.flatMap (reb1 next k a)).length ≤ b.length:=(reb_len next k a b).1
theorem rebase_c {κ : Nat} (next : Int) (a b : List Edt) (ha : a.length ≤ 1000000) (hb : b.length ≤ 1000000) (hf : ∀ e ∈ b,e.2.2.length ≤ 1000000) (hi : ∀ e ∈ b,e.2.1 ≤ 1000000) (hn : 0 ≤ next) : qT Tryz.prog 66 [ii .i64 next,.one (.slk κ rEdt a),.one (.sl rEdt b)] (.one (.sl rEdt (rebB next a b))):=by
  have hia:=insA_le a;refine qQ (rs:=[6]) Tryz.func66 rfl rfl rfl teOk rfl ?_;refine qC ?_;refine qB ?_;refine qC ?_;refine qB ?_;refine qC ?_;refine qB ?_;refine Or.inl ?_;refine zai (rfl) ?_;refine zei _ (zai (inserts_c a ha) ?_);refine qC ?_;refine qC ?_;refine xA 7 46 rEdt rfl ?_;refine qB ?_;refine Or.inl ?_;refine zai (rfl) ?_;refine zei _ (zai (copyE_c b hf hb) ?_);intro l3_2
  try simp only [zds] at l3_2
  refine qN ?_;refine qR (fun (i : Nat)=>i ≤ b.length) (fun (i : Nat)=>[(0,ii .i64 next),(1,.one (.slk κ rEdt a)),(7,.one (.vec 0)),(8,ii .i64 (insA a)),(14,.one (.sl rEdt b)),(15,ii .i64 b.length),(16,ii .i64 i)]) (fun (i : Nat)=>[(0,.vec 46 rEdt ((b.take i).flatMap (reb1 next (insA a) a)))]) 1 (fun (i : Nat)=>b.length - i) 0 (Nat.zero_le _) (qP ⟨rfl,rfl,rfl,rfl,rfl,rfl,rfl⟩ rfl rfl) ?_;intro i hI0;refine qC ?_;refine qB ?_;refine qC ?_;refine qJ rfl (fun h17=>?_) (fun h17=>?_)
  ·try simp only [decide_eq_true_eq] at h17
   try simp only [zds] at h17
   have hil : i < b.length:=(by omega);have hsn:=flat_snoc (reb1 next (insA a) a) hil;have hbi:=hi _ (yF hil ((0 : Int),(0 : Int),([] : List Fld)));have hfl:=flat_len next (insA a) a (b.take i);rw [List.length_take] at hfl;refine qL ?_;refine qC ?_;refine qN ?_;refine qC ?_;refine qB ?_;refine zai (by first|omega|assumption|decide|(simp only [zds];omega)|(simp <;> omega)) ?_;refine qC ?_;refine qN ?_;refine qC ?_;refine qB ?_;refine qJ rfl (fun h20=>?_) (fun h20=>?_)
   ·try simp only [decide_eq_true_eq] at h20
    try simp only [Int.toNat_natCast,qH,qG,qE] at h20
    have hr1 : reb1 next (insA a) a (b.getD i ((0 : Int),(0 : Int),([] : List Fld))) = [((b.getD i ((0 : Int),(0 : Int),([] : List Fld))).1,(b.getD i ((0 : Int),(0 : Int),([] : List Fld))).2.1 + insA a,(b.getD i ((0 : Int),(0 : Int),([] : List Fld))).2.2)]:=(if_pos (by omega));refine qB ?_;refine zai (by show -9223372036854775808 ≤ (b.getD i ((0 : Int),(0 : Int),([] : List Fld))).2.1 + (insA a : Int) ∧ (b.getD i ((0 : Int),(0 : Int),([] : List Fld))).2.1 + (insA a : Int) ≤ 9223372036854775807;omega) ?_;refine qB ?_;refine zai (by exact qU (show ((b.take i).flatMap (reb1 next (insA a) a)).length + 1 ≤ 1000000000 by omega) (by decide)) ?_;refine qB ?_;refine zai (by first|omega|assumption|decide|(simp only [zds];omega)|(simp <;> omega)) ?_;exact ⟨i + 1,by omega,by first|omega|(simp <;> omega),qP ⟨rfl,rfl,rfl,rfl,rfl,rfl,(qS (by omega))⟩ (qX (by rw [hsn];(first|rw [hr1]|rw [hr2,List.append_nil]|rw [hr3]);try exact rfl)) rfl⟩
   ·try simp only [decide_eq_false_iff_not,Int.not_le] at h20
    try simp only [Int.toNat_natCast,qH,qG,qE] at h20
    refine qC ?_;refine qB ?_;refine zai (fun h=>trivial) ?_;refine zai (fun h=>trivial) ?_;refine zai (fun h=>⟨⟨h,trivial⟩,trivial⟩) ?_;refine Or.inl ?_;refine zai (rfl) ?_;refine zei _ (zai (fun h=>⟨⟨⟨h,trivial⟩,⟨h,trivial⟩,trivial⟩,deletes_c a (b.getD i ((0 : Int),(0 : Int),([] : List Fld))).2.1⟩) ?_);refine zai (by exact fun h=>h) ?_;refine qJ rfl (fun h30=>?_) (fun h30=>?_)
    ·try simp only [decide_eq_true_eq,Bool.and_eq_true] at h30
     try simp only [Int.toNat_natCast,qH,qG,qE] at h30
     have hr2 : reb1 next (insA a) a (b.getD i ((0 : Int),(0 : Int),([] : List Fld))) = []:=(by unfold reb1;rw [if_neg (by omega),if_pos (by simpa using h30)]);refine qV ?_;refine qB ?_;refine zai (by first|omega|assumption|decide|(simp only [zds];omega)|(simp <;> omega)) ?_;exact ⟨i + 1,by omega,by first|omega|(simp <;> omega),qP ⟨rfl,rfl,rfl,rfl,rfl,rfl,(qS (by omega))⟩ (qX (by rw [hsn];(first|rw [hr1]|rw [hr2,List.append_nil]|rw [hr3]);try exact rfl)) rfl⟩
    ·try simp only [decide_eq_false_iff_not,Bool.and_eq_false_iff] at h30
     try simp only [Int.toNat_natCast,qH,qG,qE] at h30
     have hr3 : reb1 next (insA a) a (b.getD i ((0 : Int),(0 : Int),([] : List Fld))) = [b.getD i ((0 : Int),(0 : Int),([] : List Fld))]:=(by unfold reb1;rw [if_neg (by omega),if_neg (fun h=>by have h9:=h30;simp at h9;rcases h9 with h1|h1;exact h1 (by simpa using h.1);have h2:=h.2;simp at h2;rw [h1] at h2;cases h2)]);refine qL ?_;refine qB ?_;refine zai (by exact qU (show ((b.take i).flatMap (reb1 next (insA a) a)).length + 1 ≤ 1000000000 by omega) (by decide)) ?_;refine qB ?_;refine zai (by first|omega|assumption|decide|(simp only [zds];omega)|(simp <;> omega)) ?_;exact ⟨i + 1,by omega,by first|omega|(simp <;> omega),qP ⟨rfl,rfl,rfl,rfl,rfl,rfl,(qS (by omega))⟩ (qX (by rw [hsn];(first|rw [hr1]|rw [hr2,List.append_nil]|rw [hr3]);try exact rfl)) rfl⟩
  ·try simp only [decide_eq_false_iff_not,Int.not_lt] at h17
   try simp only [zds] at h17
   refine qV ?_;refine qC ?_;refine qB ?_;refine qM ?_;rw [List.take_of_length_le (by omega)];exact rfl
theorem any_snoc {α : Type} (p : α → Bool) (l : List α) (d : α) (i : Nat) (h : i < l.length) : (l.take (i + 1)).any p = ((l.take i).any p || p (l.getD i d)):=take_any l p d i h
theorem what_c (a : List Edt) (id : Int) : qT Tryz.prog 110 [.one (.sl rEdt a),ii .i64 id] (.tup [(false,[.lit (.bool (repA a id))]),(false,[.lit (.bool (delA a id))])]):=by
  refine qQ (rs:=[4,5]) Tryz.func110 rfl rfl rfl teOk rfl ?_;refine qC ?_;refine qB ?_;refine qC ?_;refine qB ?_;refine qC ?_;refine qB ?_;refine qC ?_;refine qC ?_;refine qB ?_;refine qN ?_;refine qR (fun (i : Nat)=>i ≤ a.length) (fun (i : Nat)=>[(0,.one (.sl rEdt a)),(1,ii .i64 id),(6,ib (repA (a.take i) id)),(7,ib (delA (a.take i) id)),(8,ii .i64 i)]) (fun (i : Nat)=>[]) 0 (fun (i : Nat)=>a.length - i) 0 (Nat.zero_le _) (qP ⟨rfl,rfl,rfl,rfl,rfl⟩ trivial rfl) ?_;intro i hI0;refine qC ?_;refine qC ?_;refine qB ?_;intro l4_2
  try simp only [zds] at l4_2
  refine qJ rfl (fun h12=>?_) (fun h12=>?_)
  ·try simp only [decide_eq_true_eq] at h12
   try simp only [zds] at h12
   have hil : i < a.length:=(by omega);have hr:=any_snoc (fun x : Edt=>decide (x.1 = 1) && decide (x.2.1 = id)) a ((0 : Int),(0 : Int),([] : List Fld)) i hil;have hd:=any_snoc (fun x : Edt=>decide (x.1 = 2) && decide (x.2.1 = id)) a ((0 : Int),(0 : Int),([] : List Fld)) i hil;refine qL ?_;refine qC ?_;refine qN ?_;refine qC ?_;refine qB ?_;refine zai (fun h=>trivial) ?_;refine zai (fun h=>trivial) ?_;refine zai (fun h=>⟨⟨⟨h,trivial⟩,⟨h,trivial⟩,trivial⟩,by first|omega|decide|(simp only [zds];omega)|(have h9:=of_decide_eq_true h;omega)|(simp [gq] at h;omega)⟩) ?_;refine zai (fun h=>⟨⟨h,trivial⟩,trivial⟩) ?_;refine zai (fun h=>⟨⟨h,trivial⟩,trivial⟩) ?_;refine zai (fun h=>⟨⟨h,trivial⟩,trivial⟩) ?_;refine zai (fun h=>⟨⟨h,trivial⟩,trivial⟩) ?_;refine zai (fun h=>trivial) ?_;refine zai (fun h=>trivial) ?_;refine zai (fun h=>⟨⟨⟨h,trivial⟩,⟨h,trivial⟩,trivial⟩,by first|omega|decide|(simp only [zds];omega)|(have h9:=of_decide_eq_true h;omega)|(simp [gq] at h;omega)⟩) ?_;refine zai (fun h=>⟨⟨h,trivial⟩,trivial⟩) ?_;refine zai (fun h=>⟨⟨h,trivial⟩,trivial⟩) ?_;refine zai (fun h=>trivial) ?_;refine zai (fun h=>⟨⟨h,trivial⟩,⟨h,trivial⟩,trivial⟩) ?_;refine zai (fun h=>⟨⟨⟨h,trivial⟩,trivial⟩,by first|exact fun h2=>h2|(intro h2;rw [h,h2];rfl)|(intro h2;cases h2)|(intro h2;simp_all [gq])⟩) ?_;refine zai (by first|(intro h;rw [h];rfl)|(intro h;cases h)) ?_;refine qB ?_;refine zai (fun h=>trivial) ?_;refine zai (fun h=>trivial) ?_;refine zai (fun h=>⟨⟨⟨h,trivial⟩,⟨h,trivial⟩,trivial⟩,by first|omega|decide|(simp only [zds];omega)|(have h9:=of_decide_eq_true h;omega)|(simp [gq] at h;omega)⟩) ?_;refine zai (fun h=>⟨⟨h,trivial⟩,trivial⟩) ?_;refine zai (fun h=>⟨⟨h,trivial⟩,trivial⟩) ?_;refine zai (fun h=>⟨⟨h,trivial⟩,trivial⟩) ?_;refine zai (fun h=>⟨⟨h,trivial⟩,trivial⟩) ?_;refine zai (fun h=>trivial) ?_;refine zai (fun h=>trivial) ?_;refine zai (fun h=>⟨⟨⟨h,trivial⟩,⟨h,trivial⟩,trivial⟩,by first|omega|decide|(simp only [zds];omega)|(have h9:=of_decide_eq_true h;omega)|(simp [gq] at h;omega)⟩) ?_;refine zai (fun h=>⟨⟨h,trivial⟩,trivial⟩) ?_;refine zai (fun h=>⟨⟨h,trivial⟩,trivial⟩) ?_;refine zai (fun h=>trivial) ?_;refine zai (fun h=>⟨⟨h,trivial⟩,⟨h,trivial⟩,trivial⟩) ?_;refine zai (fun h=>⟨⟨⟨h,trivial⟩,trivial⟩,by first|exact fun h2=>h2|(intro h2;rw [h,h2];rfl)|(intro h2;cases h2)|(intro h2;simp_all [gq])⟩) ?_;refine zai (by first|(intro h;rw [h];rfl)|(intro h;cases h)) ?_;refine qB ?_;refine zai (by first|omega|assumption|decide|(simp only [zds];omega)|(simp <;> omega)) ?_;exact ⟨i + 1,by omega,by first|omega|(simp <;> omega),qP ⟨rfl,rfl,(ib_eq (by unfold repA;rw [hr];simp;rfl)),(ib_eq (by unfold delA;rw [hd];simp;rfl)),(qS (by omega))⟩ trivial rfl⟩
  ·try simp only [decide_eq_false_iff_not,Int.not_lt] at h12
   try simp only [zds] at h12
   refine qV ?_;refine qC ?_;refine qB ?_;refine qM ?_;rw [List.take_of_length_le (by omega)];exact rfl
theorem refDeletes_c (a : List Edt) (id : Int) : qT Tryz.prog 111 [.one (.sl rEdt a),ii .i64 id] (ib (delA a id)):=by
  refine qQ (rs:=[4]) Tryz.func111 rfl rfl rfl teOk rfl ?_;refine qC ?_;refine qB ?_;refine qC ?_;refine qB ?_;refine Or.inl ?_;refine zai (rfl) ?_;refine zei _ (zai (what_c a id) ?_);refine qC ?_;refine qB ?_;refine qM ?_;rfl
theorem refInserts_c (a : List Edt) (hl : a.length ≤ 1000000) : qT Tryz.prog 112 [.one (.sl rEdt a)] (ii .i64 (insA a)):=by
  refine qQ (rs:=[2]) Tryz.func112 rfl rfl rfl teOk rfl ?_;refine qC ?_;refine qB ?_;refine qC ?_;refine qB ?_;refine qC ?_;refine qC ?_;refine qB ?_;refine qN ?_;refine qR (fun (i : Nat)=>i ≤ a.length) (fun (i : Nat)=>[(0,.one (.sl rEdt a)),(3,ii .i64 (insA (a.take i))),(4,ii .i64 i)]) (fun (i : Nat)=>[]) 0 (fun (i : Nat)=>a.length - i) 0 (Nat.zero_le _) (qP ⟨rfl,rfl,rfl⟩ trivial rfl) ?_;intro i hI0;refine qC ?_;refine qC ?_;refine qB ?_;intro l3_2
  try simp only [zds] at l3_2
  refine qJ rfl (fun h8=>?_) (fun h8=>?_)
  ·try simp only [decide_eq_true_eq] at h8
   try simp only [zds] at h8
   have hil : i < a.length:=(by omega);have hsn:=insA_snoc a i hil;have hle:=insA_le (a.take i);rw [List.length_take] at hle;refine qL ?_;refine qC ?_;refine qN ?_;refine qC ?_;refine qB ?_;refine zai (by first|omega|assumption|decide|(simp only [zds];omega)|(simp <;> omega)) ?_;refine qJ rfl (fun h16=>?_) (fun h16=>?_)
   ·try simp only [decide_eq_true_eq] at h16
    try simp only [Int.toNat_natCast,qH,qG,qE] at h16
    rw [if_pos h16] at hsn;refine qB ?_;refine zai (by first|omega|assumption|decide|(simp only [zds];omega)|(simp <;> omega)) ?_;refine qB ?_;refine zai (by first|omega|assumption|decide|(simp only [zds];omega)|(simp <;> omega)) ?_;exact ⟨i + 1,by omega,by first|omega|(simp <;> omega),qP ⟨rfl,(qS (by omega)),(qS (by omega))⟩ trivial rfl⟩
   ·try simp only [decide_eq_false_iff_not] at h16
    try simp only [Int.toNat_natCast,qH,qG,qE] at h16
    rw [if_neg h16] at hsn;refine qL ?_;refine qB ?_;refine zai (by first|omega|assumption|decide|(simp only [zds];omega)|(simp <;> omega)) ?_;exact ⟨i + 1,by omega,by first|omega|(simp <;> omega),qP ⟨rfl,(qS (by omega)),(qS (by omega))⟩ trivial rfl⟩
  ·try simp only [decide_eq_false_iff_not,Int.not_lt] at h8
   try simp only [zds] at h8
   refine qV ?_;refine qC ?_;refine qB ?_;refine qM ?_;rw [List.take_of_length_le (by omega)];exact rfl
theorem clash_bool (a : List Edt) (x : Edt) : ((decide (x.1 = 1) && (repA a x.2.1 || delA a x.2.1)) || ((decide (x.1 = 2) && repA a x.2.1) && !delA a x.2.1) || (decide (x.1 = 3) && delA a x.2.1)) = clsh a x:=by
  unfold clsh tchA
  by_cases h1 : x.1 = 1
  · simp [h1]
  · by_cases h2 : x.1 = 2
    · simp [h2];cases repA a x.2.1 <;> cases delA a x.2.1 <;> rfl
    · by_cases h3 : x.1 = 3
      · simp [h3]
      · simp [h1,h2,h3]
theorem clash_no {next : Int} {a : List Edt} {x : Edt} (h : ((¬ x.1 = 1 ∨ repA a x.2.1 = false ∧ delA a x.2.1 = false) ∧ ((¬ x.1 = 2 ∨ repA a x.2.1 = false) ∨ delA a x.2.1 = true)) ∧ (¬ x.1 = 3 ∨ delA a x.2.1 = false)) : clashX next a x = false:=by
  have e : clsh a x = false:=by
    unfold clsh tchA;split
    · rename_i h1;have h2:=h.1.1.resolve_left (fun h=>h h1);rw [h2.1,h2.2];rfl
    · split
      · rename_i h1;rcases h.1.2 with h2|h2
        · rw [h2.resolve_left (fun h=>h h1)];cases delA a x.2.1 <;> rfl
        · rw [h2];cases repA a x.2.1 <;> rfl
      · split
        · rename_i h1;exact h.2.resolve_left (fun h=>h h1)
        · rfl
  unfold clashX;rw [e,Bool.and_false]
theorem reb_drop {next k : Int} {a : List Edt} {x : Edt} (h : (x.2.1 < next ∧ x.1 = 2) ∧ delA a x.2.1 = true) : reb1 next k a x = []:=by
  unfold reb1;rw [if_neg (by omega),if_pos ⟨h.1.2,h.2⟩]
theorem reb_stay {next k : Int} {a : List Edt} {x : Edt} (h : (next ≤ x.2.1 ∨ ¬ x.1 = 2) ∨ delA a x.2.1 = false) (h2 : x.2.1 < next) : reb1 next k a x = [x]:=by
  unfold reb1;rw [if_neg (by omega),if_neg]
  rintro ⟨h3,h4⟩
  rcases h with (h|h)|h
  · omega
  · exact h h3
  · rw [h4] at h;cases h
theorem refClash_c (next : Int) (a b : List Edt) : qT Tryz.prog 70 [ii .i64 next,.one (.sl rEdt a),.one (.sl rEdt b)] (ii .i64 (clashI next a b)):=by
  refine qQ (rs:=[6]) Tryz.func70 rfl rfl rfl teOk rfl ?_;refine qC ?_;refine qB ?_;refine qC ?_;refine qC ?_;refine qB ?_;refine qN ?_;refine qR (fun (i : Nat)=>i ≤ b.length ∧ (b.take i).any (clashX next a) = false) (fun (i : Nat)=>[(0,ii .i64 next),(1,.one (.sl rEdt a)),(2,.one (.sl rEdt b)),(7,ii .i64 i)]) (fun (i : Nat)=>[]) 0 (fun (i : Nat)=>b.length - i) 0 (⟨Nat.zero_le _,rfl⟩) (qP ⟨rfl,rfl,rfl,rfl⟩ trivial rfl) ?_;intro i hI0;obtain ⟨hi,hn⟩:=hI0;refine qC ?_;refine qC ?_;refine qB ?_;intro l2_2
  try simp only [zds] at l2_2
  refine qJ rfl (fun h13=>?_) (fun h13=>?_)
  ·try simp only [decide_eq_true_eq] at h13
   try simp only [zds] at h13
   have hil : i < b.length:=(by omega);have hsn:=any_snoc (clashX next a) b ((0 : Int),(0 : Int),([] : List Fld)) i hil;rw [hn,Bool.false_or] at hsn;have hcb:=clash_bool a (b.getD i ((0 : Int),(0 : Int),([] : List Fld)));refine qL ?_;refine qC ?_;refine qN ?_;refine qC ?_;refine qC ?_;refine qB ?_;refine zai (by first|omega|assumption|decide|(simp only [zds];omega)|(simp <;> omega)) ?_;refine qJ rfl (fun h22=>?_) (fun h22=>?_)
   ·try simp only [decide_eq_true_eq] at h22
    try simp only [Int.toNat_natCast,qH,qG,qE] at h22
    have hcx : clashX next a (b.getD i ((0 : Int),(0 : Int),([] : List Fld))) = false:=(by unfold clashX;rw [decide_eq_false (by omega)];rfl);refine qV ?_;refine qB ?_;refine zai (by first|omega|assumption|decide|(simp only [zds];omega)|(simp <;> omega)) ?_;exact ⟨i + 1,⟨by omega,by rw [hsn];exact hcx⟩,by first|omega|(simp <;> omega),qP ⟨rfl,rfl,rfl,(qS (by omega))⟩ trivial rfl⟩
   ·try simp only [decide_eq_false_iff_not,Int.not_le] at h22
    try simp only [Int.toNat_natCast,qH,qG,qE] at h22
    refine qL ?_;refine qC ?_;refine qB ?_;refine zai (by first|omega|assumption|decide|(simp only [zds];omega)|(simp <;> omega)) ?_;refine Or.inl ?_;refine zai (rfl) ?_;refine zei _ (zai (what_c a (b.getD i ((0 : Int),(0 : Int),([] : List Fld))).2.1) ?_);refine qC ?_;refine qB ?_;refine zai (by first|omega|assumption|decide|(simp only [zds];omega)|(simp <;> omega)) ?_;refine zai (fun h=>trivial) ?_;refine zai (fun h=>⟨⟨h,trivial⟩,trivial⟩) ?_;refine zai (fun h=>trivial) ?_;refine zai (fun h=>⟨⟨⟨h,trivial⟩,trivial⟩,by first|exact fun h2=>h2|(intro h2;rw [h,h2];rfl)|(intro h2;cases h2)|(intro h2;simp_all [gq])⟩) ?_;refine zai (by exact fun h=>h) ?_;refine zai (fun h=>trivial) ?_;refine zai (fun h=>trivial) ?_;refine zai (fun h=>⟨⟨⟨h,trivial⟩,⟨h,trivial⟩,trivial⟩,by first|omega|decide|(simp only [zds];omega)|(have h9:=of_decide_eq_true h;omega)|(simp [gq] at h;omega)⟩) ?_;refine zai (fun h=>⟨⟨h,trivial⟩,trivial⟩) ?_;refine zai (fun h=>⟨⟨h,trivial⟩,trivial⟩) ?_;refine zai (fun h=>⟨⟨h,trivial⟩,trivial⟩) ?_;refine zai (fun h=>⟨⟨h,trivial⟩,trivial⟩) ?_;refine zai (fun h=>trivial) ?_;refine zai (fun h=>⟨⟨⟨h,trivial⟩,trivial⟩,by first|exact fun h2=>h2|(intro h2;rw [h,h2];rfl)|(intro h2;cases h2)|(intro h2;simp_all [gq])⟩) ?_;refine zai (fun h=>⟨⟨h,trivial⟩,trivial⟩) ?_;refine zai (fun h=>trivial) ?_;refine zai (fun h=>⟨⟨h,trivial⟩,trivial⟩) ?_;refine zai (fun h=>⟨⟨⟨h,trivial⟩,trivial⟩,by first|exact fun h2=>h2|(intro h2;rw [h,h2];rfl)|(intro h2;cases h2)|(intro h2;simp_all [gq])⟩) ?_;refine zai (by first|(intro h;rw [h];rfl)|(intro h;cases h)) ?_;refine zai (fun h=>trivial) ?_;refine zai (fun h=>trivial) ?_;refine zai (fun h=>⟨⟨⟨h,trivial⟩,⟨h,trivial⟩,trivial⟩,by first|omega|decide|(simp only [zds];omega)|(have h9:=of_decide_eq_true h;omega)|(simp [gq] at h;omega)⟩) ?_;refine zai (fun h=>⟨⟨h,trivial⟩,trivial⟩) ?_;refine zai (fun h=>⟨⟨h,trivial⟩,trivial⟩) ?_;refine zai (fun h=>⟨⟨h,trivial⟩,trivial⟩) ?_;refine zai (fun h=>⟨⟨h,trivial⟩,trivial⟩) ?_;refine zai (fun h=>trivial) ?_;refine zai (fun h=>⟨⟨⟨h,trivial⟩,trivial⟩,by first|exact fun h2=>h2|(intro h2;rw [h,h2];rfl)|(intro h2;cases h2)|(intro h2;simp_all [gq])⟩) ?_;refine zai (by first|(intro h;rw [h];rfl)|(intro h;cases h)) ?_;refine qJ rfl (fun h70=>?_) (fun h70=>?_)
    ·try simp only [decide_eq_true_eq,Bool.and_eq_true,Bool.not_eq_true',Bool.or_eq_true] at h70
     try simp only [Int.toNat_natCast,qH,qG,qE] at h70
     have hcx : clashX next a (b.getD i ((0 : Int),(0 : Int),([] : List Fld))) = true:=(by unfold clashX;rw [decide_eq_true (by omega),← hcb];simpa using h70);refine qC ?_;refine qB ?_;refine qM ?_;exact qS (ixOf_at ((0 : Int),(0 : Int),([] : List Fld)) hil hn hcx).symm
    ·try simp only [decide_eq_false_iff_not,Bool.not_eq_false',Bool.or_eq_false_iff,Bool.and_eq_false_iff] at h70
     try simp only [Int.toNat_natCast,qH,qG,qE] at h70
     have hcx : clashX next a (b.getD i ((0 : Int),(0 : Int),([] : List Fld))) = false:=clash_no h70;refine qL ?_;refine qB ?_;refine zai (by first|omega|assumption|decide|(simp only [zds];omega)|(simp <;> omega)) ?_;exact ⟨i + 1,⟨by omega,by rw [hsn];exact hcx⟩,by first|omega|(simp <;> omega),qP ⟨rfl,rfl,rfl,(qS (by omega))⟩ trivial rfl⟩
  ·try simp only [decide_eq_false_iff_not,Int.not_lt] at h13
   try simp only [zds] at h13
   refine qV ?_;refine qC ?_;refine qB ?_;refine qM ?_;rw [List.take_of_length_le (by omega)] at hn;exact qS (ixOf_none hn).symm
theorem refRebase_c (next : Int) (a b : List Edt) (ha : a.length ≤ 1000000) (hb : b.length ≤ 1000000) (hi : ∀ e ∈ b,e.2.1 ≤ 1000000) (hn : 0 ≤ next) : qT Tryz.prog 71 [ii .i64 next,.one (.sl rEdt a),.one (.sl rEdt b)] (.one (.sl rEdt (rebB next a b))):=by
  have hia:=insA_le a;refine qQ (rs:=[6]) Tryz.func71 rfl rfl rfl teOk rfl ?_;refine qC ?_;refine qB ?_;refine qC ?_;refine qB ?_;refine qC ?_;refine qC ?_;refine xA 7 46 rEdt rfl ?_;refine qB ?_;refine qN ?_;refine qR (fun (i : Nat)=>i ≤ b.length) (fun (i : Nat)=>[(0,ii .i64 next),(1,.one (.sl rEdt a)),(2,.one (.sl rEdt b)),(7,.one (.vec 0)),(8,ii .i64 i)]) (fun (i : Nat)=>[(0,.vec 46 rEdt ((b.take i).flatMap (reb1 next (insA a) a)))]) 1 (fun (i : Nat)=>b.length - i) 0 (Nat.zero_le _) (qP ⟨rfl,rfl,rfl,rfl,rfl⟩ rfl rfl) ?_;intro i hI0;refine qC ?_;refine qC ?_;refine qB ?_;intro l3_2
  try simp only [zds] at l3_2
  refine qJ rfl (fun h13=>?_) (fun h13=>?_)
  ·try simp only [decide_eq_true_eq] at h13
   try simp only [zds] at h13
   have hil : i < b.length:=(by omega);have hsn:=flat_snoc (reb1 next (insA a) a) hil;have hbi:=hi _ (yF hil ((0 : Int),(0 : Int),([] : List Fld)));have hfl:=flat_len next (insA a) a (b.take i);rw [List.length_take] at hfl;refine qL ?_;refine qC ?_;refine qN ?_;refine qC ?_;refine qB ?_;refine zai (by first|omega|assumption|decide|(simp only [zds];omega)|(simp <;> omega)) ?_;refine qC ?_;refine qC ?_;refine qB ?_;refine zai (fun h=>trivial) ?_;refine zai (fun h=>⟨⟨h,trivial⟩,trivial⟩) ?_;refine zai (fun h=>⟨⟨h,trivial⟩,trivial⟩) ?_;refine zai (by exact fun h=>h) ?_;refine zai (fun h=>trivial) ?_;refine zai (fun h=>trivial) ?_;refine zai (fun h=>⟨⟨h,trivial⟩,trivial⟩) ?_;refine Or.inl ?_;refine zai (rfl) ?_;refine zei _ (zai (fun h=>⟨⟨⟨h,trivial⟩,⟨h,trivial⟩,trivial⟩,refDeletes_c a (b.getD i ((0 : Int),(0 : Int),([] : List Fld))).2.1⟩) ?_);refine zai (by exact fun h=>h) ?_;refine qJ rfl (fun h34=>?_) (fun h34=>?_)
   ·try simp only [decide_eq_true_eq,Bool.and_eq_true] at h34
    try simp only [Int.toNat_natCast,qH,qG,qE] at h34
    have hr2 : reb1 next (insA a) a (b.getD i ((0 : Int),(0 : Int),([] : List Fld))) = []:=reb_drop h34;refine qV ?_;refine qB ?_;refine zai (by first|omega|assumption|decide|(simp only [zds];omega)|(simp <;> omega)) ?_;exact ⟨i + 1,by omega,by first|omega|(simp <;> omega),qP ⟨rfl,rfl,rfl,rfl,(qS (by omega))⟩ (qX (by rw [hsn];(first|rw [hr1]|rw [hr2,List.append_nil]|rw [hr3]);try exact rfl)) rfl⟩
   ·try simp only [decide_eq_false_iff_not,Bool.and_eq_false_iff,Int.not_lt] at h34
    try simp only [Int.toNat_natCast,qH,qG,qE] at h34
    refine qL ?_;refine qC ?_;refine qC ?_;refine qB ?_;refine qJ rfl (fun h38=>?_) (fun h38=>?_)
    ·try simp only [decide_eq_true_eq] at h38
     try simp only [Int.toNat_natCast,qH,qG,qE] at h38
     have hr1 : reb1 next (insA a) a (b.getD i ((0 : Int),(0 : Int),([] : List Fld))) = [((b.getD i ((0 : Int),(0 : Int),([] : List Fld))).1,(b.getD i ((0 : Int),(0 : Int),([] : List Fld))).2.1 + insA a,(b.getD i ((0 : Int),(0 : Int),([] : List Fld))).2.2)]:=(if_pos (by omega));refine yV rfl ?_;refine qI 0 rfl rfl rfl (by kernel_rfl) ?_;refine qI 2 rfl rfl rfl (by kernel_rfl) ?_;refine qK [1,3] (by kernel_rfl) rfl ?_;refine zai ?_ ?_
     ·refine qK [3] (by kernel_rfl) rfl ?_;refine Or.inl ?_;refine zai (rfl) ?_;refine zei _ (zai (refInserts_c a ha) ?_);refine qI 4 rfl rfl rfl (by kernel_rfl) ?_;refine zai (by show -9223372036854775808 ≤ (b.getD i ((0 : Int),(0 : Int),([] : List Fld))).2.1 + (insA a : Int) ∧ (b.getD i ((0 : Int),(0 : Int),([] : List Fld))).2.1 + (insA a : Int) ≤ 9223372036854775807;omega) ?_;refine qI 5 rfl rfl rfl (by kernel_rfl) ?_;refine qK [6] (by kernel_rfl) rfl ?_;refine qO (by kernel_rfl) ?_;refine qB ?_;refine zai (by exact qU (show ((b.take i).flatMap (reb1 next (insA a) a)).length + 1 ≤ 1000000000 by omega) (by decide)) ?_;refine qB ?_;refine zai (by first|omega|assumption|decide|(simp only [zds];omega)|(simp <;> omega)) ?_;exact ⟨i + 1,by omega,by first|omega|(simp <;> omega),qP ⟨rfl,rfl,rfl,rfl,(qS (by omega))⟩ (qX (by rw [hsn];(first|rw [hr1]|rw [hr2,List.append_nil]|rw [hr3]);try exact rfl)) rfl⟩
     ·refine Or.inl ?_;refine zai (rfl) ?_;refine zei _ (zai (refInserts_c a ha) ?_);refine qK [1] (by kernel_rfl) rfl ?_;refine qI 4 rfl rfl rfl (by kernel_rfl) ?_;refine zai (by show -9223372036854775808 ≤ (b.getD i ((0 : Int),(0 : Int),([] : List Fld))).2.1 + (insA a : Int) ∧ (b.getD i ((0 : Int),(0 : Int),([] : List Fld))).2.1 + (insA a : Int) ≤ 9223372036854775807;omega) ?_;refine qI 5 rfl rfl rfl (by kernel_rfl) ?_;refine qK [6] (by kernel_rfl) rfl ?_;refine qO (by kernel_rfl) ?_;refine qB ?_;refine zai (by exact qU (show ((b.take i).flatMap (reb1 next (insA a) a)).length + 1 ≤ 1000000000 by omega) (by decide)) ?_;refine qB ?_;refine zai (by first|omega|assumption|decide|(simp only [zds];omega)|(simp <;> omega)) ?_;exact ⟨i + 1,by omega,by first|omega|(simp <;> omega),qP ⟨rfl,rfl,rfl,rfl,(qS (by omega))⟩ (qX (by rw [hsn];(first|rw [hr1]|rw [hr2,List.append_nil]|rw [hr3]);try exact rfl)) rfl⟩
    ·try simp only [decide_eq_false_iff_not,Int.not_le] at h38
     try simp only [Int.toNat_natCast,qH,qG,qE] at h38
     have hr3 : reb1 next (insA a) a (b.getD i ((0 : Int),(0 : Int),([] : List Fld))) = [b.getD i ((0 : Int),(0 : Int),([] : List Fld))]:=reb_stay h34 h38;refine qL ?_;refine qB ?_;refine zai (by exact qU (show ((b.take i).flatMap (reb1 next (insA a) a)).length + 1 ≤ 1000000000 by omega) (by decide)) ?_;refine qB ?_;refine zai (by first|omega|assumption|decide|(simp only [zds];omega)|(simp <;> omega)) ?_;exact ⟨i + 1,by omega,by first|omega|(simp <;> omega),qP ⟨rfl,rfl,rfl,rfl,(qS (by omega))⟩ (qX (by rw [hsn];(first|rw [hr1]|rw [hr2,List.append_nil]|rw [hr3]);try exact rfl)) rfl⟩
  ·try simp only [decide_eq_false_iff_not,Int.not_lt] at h13
   try simp only [zds] at h13
   refine qV ?_;refine qC ?_;refine qB ?_;refine qM ?_;rw [List.take_of_length_le (by omega)];exact rfl
theorem erB_cases {p : Int × Int} (h : p.2 ≠ 0) : (∃ n,n ≠ 0 ∧ erB p = errN n ∧ p = (-9,n)) ∨ ∃ i n,n ≠ 0 ∧ erB p = errF i n ∧ p = (i,n):=by
  unfold erB;rw [if_neg h]
  by_cases h9 : p.1 = -9
  · rw [if_pos h9];exact .inl ⟨p.2,h,rfl,Prod.ext h9 rfl⟩
  · rw [if_neg h9];exact .inr ⟨p.1,p.2,h,rfl,rfl⟩
theorem xN {L : Lst} {s : List Edt} (h : (doR L s).2 = 0) : (chkB s).2 = 0 ∧ ∀ j,j < s.length → oneN (yG L s j) (s.getD j ((0 : Int),(0 : Int),([] : List Fld))) = 0:=by
  by_cases hc : (chkB s).2 = 0
  · refine ⟨hc,?_⟩;rcases doR_cases L s hc with ⟨_,h1⟩|⟨i,_,h2,h3,_⟩
    · exact h1
    · rw [h2] at h;exact absurd h h3
  · unfold doR at h;rw [if_pos hc] at h;exact absurd h hc
theorem doR_takes {L : Lst} {s : List Edt} (h : (doR L s).2 = 0) : takes L s ∧ kindsOk s ∧ (1 ≤ s.length ∧ s.length ≤ 40) ∧ doR L s = (-9,0):=by
  obtain ⟨h1,h2⟩:=xN h;refine ⟨takes_of s L h2,kinds_good h1,(chkB_zero h1).1,?_⟩;rcases doR_cases L s h1 with ⟨h3,_⟩|⟨i,_,h3,h4,_⟩
  · exact h3
  · rw [h3] at h;exact absurd h h4
theorem do_no {κ κ' k c : Nat} (L : Lst) (s : List Edt) (hL : LOk c L) (hc : c + s.length ≤ 200000) (hf : ∀ e ∈ s,qW e.2.2) (h : (doR L s).2 ≠ 0) : qT Tryz.prog 13 [.one (.adk k (rLst k) L),.one (.slk κ (rEdk κ') s)] (.tup [(false,[.lit (.pointer none)]),(false,[.lit (.slice none 0 0)]),(false,[erB (doR L s)])]):=by
  rcases chkB_cases s with ⟨h0,_⟩|h1|⟨i,n,hn,h2⟩
  · have h0' : (chkB s).2 = 0:=by rw [h0]
    rcases doR_cases L s h0' with ⟨h3,_⟩|⟨q,hq,h3,hb,ht⟩
    · rw [h3] at h;exact absurd rfl h
    · rw [h3,erB_f hb];exact doBad_c L s hL hc hf h0' q hq hb ht
  · have e : doR L s = (-9,1):=by unfold doR;rw [if_pos (by rw [h1];decide),h1]
    rw [e,erB_n (by decide)];exact doN_c L s hf (by omega) 1 (by decide) h1
  · have e : doR L s = ((i : Int),n):=by unfold doR;rw [if_pos (by rw [h2];exact hn),h2]
    rw [e,erB_f hn];exact doF_c L s hf (by omega) i n hn h2
theorem takes_le : ∀ (s : List Edt) {c : Nat} {L : Lst},LOk c L → (∀ e ∈ s,qW e.2.2) → takes L s → ∀ e ∈ s,e.2.1 ≤ c + s.length
  | [],_,_,_,_,_,e,he=>by cases he
  | x :: r,c,L,h,hf,ht,e,he=>by
    rcases List.mem_cons.1 he with rfl|he
    · have h0:=ht.1;have hnx:=h.next;have hat : ¬ atE L.1 e.2.1 < 0 → e.2.1 ≤ (c : Int):=fun hn=>by
        have:=(getF_pos h (getF_some hn)).2.1;omega
      rw [List.length_cons]
      suffices hs : e.2.1 ≤ (c : Int) by omega
      unfold oneN at h0;split at h0
      · split at h0
        · cases h0
        · rename_i hn;exact hat hn
      · split at h0
        · split at h0
          · cases h0
          · rename_i hn;exact hat hn
        · split at h0
          · cases h0
          · rename_i hn
            by_cases hz : e.2.1 = 0
            · omega
            · exact hat fun hlt=>hn ⟨hlt,hz⟩
    · have:=takes_le r (doL_ok h (hf x List.mem_cons_self)) (fun e he=>hf e (List.mem_cons_of_mem _ he)) ht.2 e he;rw [List.length_cons];omega
def mrgN (L : Lst) (a b : List Edt) : Int × Int :=
  if (doR L a).2 ≠ 0 then doR L a else if (doR L b).2 ≠ 0 then doR L b else if 0 ≤ clashI L.2.1 a b then (clashI L.2.1 a b,13) else if 40 < (a ++ rebB L.2.1 a b).length then (-9,1) else (-9,0)
abbrev nilE : Bool × List C:=(false,[.lit (.slice none 0 0)])
theorem mrgA_c {k c : Nat} (L : Lst) (a b : List Edt) (hL : LOk c L) (hc : c + a.length ≤ 200000) (hf : ∀ e ∈ a,qW e.2.2) (h : (doR L a).2 ≠ 0) : qT Tryz.prog 28 [.one (.adk k (rLst k) L),.one (.sl rEdt a),.one (.sl rEdt b)] (.tup [nilE,(false,[erB (doR L a)])]):=by
  have hd:=do_no (κ:=0) (κ':=0) (k:=k) L a hL hc hf h;rcases erB_cases h with ⟨n,hn,e,_⟩|⟨q,n,hn,e,_⟩
  · rw [e] at hd ⊢;refine qQ (rs:=[6,7]) Tryz.func28 rfl rfl rfl teOk rfl ?_;refine qC ?_;refine qB ?_;refine qC ?_;refine qC ?_;refine qB ?_;refine qJ rfl (fun h16=>?_) (fun h16=>?_)
    ·try simp only [zbq] at h16
     try simp only [zds] at h16
     simp at h16
    ·skip
     refine qL ?_;refine qC ?_;refine qC ?_;refine qB ?_;intro l3_3
     try simp only [zds] at l3_3
     refine qN ?_;refine qR (fun (i : Nat)=>i = 0) (fun (i : Nat)=>[(0,.one (.adk k (rLst k) L)),(1,.one (.sl rEdt a)),(2,.one (.sl rEdt b)),(20,.one (.vec 0)),(21,ii .i64 2),(22,ii .i64 0)]) (fun (i : Nat)=>[(0,.vec 22 (.sl rEdt) [a,b])]) 1 (fun (i : Nat)=>0) 0 (rfl) (qP ⟨rfl,rfl,rfl,rfl,rfl,rfl⟩ rfl rfl) ?_;intro i hI0;refine qC ?_;refine qB ?_;refine qC ?_;refine qJ rfl (fun h23=>?_) (fun h23=>?_)
     ·try simp only [decide_eq_true_eq] at h23
      try simp only [zds] at h23
      refine qL ?_;refine qC ?_;refine qN ?_;refine qC ?_;refine qB ?_;refine zai (by first|omega|assumption|decide|(simp only [zds];omega)|(simp <;> omega)) ?_;refine zai (by first|omega|simp|decide) ?_;refine qC ?_;refine qB ?_;refine Or.inl ?_;refine zai (rfl) ?_;refine zei _ (zai (hd) ?_);refine qC ?_;refine qB ?_;refine qJ rfl (fun h34=>?_) (fun h34=>?_)
      ·skip
       refine qC ?_;refine qB ?_;refine qM ?_;rfl
      ·try simp only [zbq] at h34
       try simp only [zds] at h34
       simp at h34
     ·try simp only [decide_eq_false_iff_not,Int.not_lt] at h23
      try simp only [zds] at h23
      simp at h23
  · rw [e] at hd ⊢;refine qQ (rs:=[6,7]) Tryz.func28 rfl rfl rfl teOk rfl ?_;refine qC ?_;refine qB ?_;refine qC ?_;refine qC ?_;refine qB ?_;refine qJ rfl (fun h16=>?_) (fun h16=>?_)
    ·try simp only [zbq] at h16
     try simp only [zds] at h16
     simp at h16
    ·skip
     refine qL ?_;refine qC ?_;refine qC ?_;refine qB ?_;intro l3_3
     try simp only [zds] at l3_3
     refine qN ?_;refine qR (fun (i : Nat)=>i = 0) (fun (i : Nat)=>[(0,.one (.adk k (rLst k) L)),(1,.one (.sl rEdt a)),(2,.one (.sl rEdt b)),(20,.one (.vec 0)),(21,ii .i64 2),(22,ii .i64 0)]) (fun (i : Nat)=>[(0,.vec 22 (.sl rEdt) [a,b])]) 1 (fun (i : Nat)=>0) 0 (rfl) (qP ⟨rfl,rfl,rfl,rfl,rfl,rfl⟩ rfl rfl) ?_;intro i hI0;refine qC ?_;refine qB ?_;refine qC ?_;refine qJ rfl (fun h23=>?_) (fun h23=>?_)
     ·try simp only [decide_eq_true_eq] at h23
      try simp only [zds] at h23
      refine qL ?_;refine qC ?_;refine qN ?_;refine qC ?_;refine qB ?_;refine zai (by first|omega|assumption|decide|(simp only [zds];omega)|(simp <;> omega)) ?_;refine zai (by first|omega|simp|decide) ?_;refine qC ?_;refine qB ?_;refine Or.inl ?_;refine zai (rfl) ?_;refine zei _ (zai (hd) ?_);refine qC ?_;refine qB ?_;refine qJ rfl (fun h34=>?_) (fun h34=>?_)
      ·skip
       refine qC ?_;refine qB ?_;refine qM ?_;rfl
      ·try simp only [zbq] at h34
       try simp only [zds] at h34
       simp at h34
     ·try simp only [decide_eq_false_iff_not,Int.not_lt] at h23
      try simp only [zds] at h23
      simp at h23
theorem mrgB_c {k c : Nat} (L : Lst) (a b : List Edt) (hL : LOk c L) (hc : c + a.length ≤ 200000) (hc2 : c + b.length ≤ 200000) (hf : ∀ e ∈ a,qW e.2.2) (hf2 : ∀ e ∈ b,qW e.2.2) (h0 : (doR L a).2 = 0) (h : (doR L b).2 ≠ 0) : qT Tryz.prog 28 [.one (.adk k (rLst k) L),.one (.sl rEdt a),.one (.sl rEdt b)] (.tup [nilE,(false,[erB (doR L b)])]):=by
  obtain ⟨h1,h2⟩:=xN h0;have hok:=doOk_o (κ:=0) (κ':=0) (k:=k) L a hL hc hf h1 h2;have hd:=do_no (κ:=0) (κ':=0) (k:=k) L b hL hc2 hf2 h;rcases erB_cases h with ⟨n,hn,e,_⟩|⟨q,n,hn,e,_⟩
  · rw [e] at hd ⊢;refine qQ (rs:=[6,7]) Tryz.func28 rfl rfl rfl teOk rfl ?_;refine qC ?_;refine qB ?_;refine qC ?_;refine qC ?_;refine qB ?_;refine qJ rfl (fun h16=>?_) (fun h16=>?_)
    ·try simp only [zbq] at h16
     try simp only [zds] at h16
     simp at h16
    ·skip
     refine qL ?_;refine qC ?_;refine qC ?_;refine qB ?_;intro l3_3
     try simp only [zds] at l3_3
     refine qN ?_;refine qR (fun (i : Nat)=>i ≤ 1) (fun (i : Nat)=>[(0,.one (.adk k (rLst k) L)),(1,.one (.sl rEdt a)),(2,.one (.sl rEdt b)),(20,.one (.vec 0)),(21,ii .i64 2),(22,ii .i64 i)]) (fun (i : Nat)=>[(0,.vec 22 (.sl rEdt) [a,b])]) 1 (fun (i : Nat)=>1 - i) 0 (Nat.zero_le _) (qP ⟨rfl,rfl,rfl,rfl,rfl,rfl⟩ rfl rfl) ?_;intro i hI0;refine qC ?_;refine qB ?_;refine qC ?_;refine qJ rfl (fun h23=>?_) (fun h23=>?_)
     ·try simp only [decide_eq_true_eq] at h23
      try simp only [zds] at h23
      refine qL ?_;refine qC ?_;refine qN ?_;refine qC ?_;obtain rfl|rfl : i = 0 ∨ i = 1:=by omega
      ·refine qB ?_;refine zai (by first|omega|assumption|decide|(simp only [zds];omega)|(simp <;> omega)) ?_;refine zai (by first|omega|simp|decide) ?_;refine qC ?_;refine qB ?_;refine Or.inr (Or.inl (zei [] (zei [] (zei _ (zei _ (zei _ (zei _ (zei _ (zai (hok) (zai rfl (zai True.intro (zai rfl ?_))))))))))));refine qC ?_;refine qB ?_;refine qJ rfl (fun h34=>?_) (fun h34=>?_)
       ·try simp only [Bool.not_eq_true'] at h34
        try simp only [zds] at h34
        simp at h34
       ·try simp only [Bool.not_eq_false'] at h34
        try simp only [zds] at h34
        refine qL ?_;refine qB ?_;refine zai (by first|omega|assumption|decide|(simp only [zds];omega)|(simp <;> omega)) ?_;exact ⟨1,by omega,by first|omega|(simp <;> omega),qP ⟨rfl,rfl,rfl,rfl,rfl,(qS (by omega))⟩ rfl rfl⟩
      ·refine qB ?_;refine zai (by first|omega|assumption|decide|(simp only [zds];omega)|(simp <;> omega)) ?_;refine zai (by first|omega|simp|decide) ?_;refine qC ?_;refine qB ?_;refine Or.inl ?_;refine zai (rfl) ?_;refine zei _ (zai (hd) ?_);refine qC ?_;refine qB ?_;refine qJ rfl (fun h34=>?_) (fun h34=>?_)
       ·skip
        refine qC ?_;refine qB ?_;refine qM ?_;rfl
       ·try simp only [zbq] at h34
        try simp only [zds] at h34
        simp at h34
     ·try simp only [decide_eq_false_iff_not,Int.not_lt] at h23
      try simp only [zds] at h23
      omega
  · rw [e] at hd ⊢;refine qQ (rs:=[6,7]) Tryz.func28 rfl rfl rfl teOk rfl ?_;refine qC ?_;refine qB ?_;refine qC ?_;refine qC ?_;refine qB ?_;refine qJ rfl (fun h16=>?_) (fun h16=>?_)
    ·try simp only [zbq] at h16
     try simp only [zds] at h16
     simp at h16
    ·skip
     refine qL ?_;refine qC ?_;refine qC ?_;refine qB ?_;intro l3_3
     try simp only [zds] at l3_3
     refine qN ?_;refine qR (fun (i : Nat)=>i ≤ 1) (fun (i : Nat)=>[(0,.one (.adk k (rLst k) L)),(1,.one (.sl rEdt a)),(2,.one (.sl rEdt b)),(20,.one (.vec 0)),(21,ii .i64 2),(22,ii .i64 i)]) (fun (i : Nat)=>[(0,.vec 22 (.sl rEdt) [a,b])]) 1 (fun (i : Nat)=>1 - i) 0 (Nat.zero_le _) (qP ⟨rfl,rfl,rfl,rfl,rfl,rfl⟩ rfl rfl) ?_;intro i hI0;refine qC ?_;refine qB ?_;refine qC ?_;refine qJ rfl (fun h23=>?_) (fun h23=>?_)
     ·try simp only [decide_eq_true_eq] at h23
      try simp only [zds] at h23
      refine qL ?_;refine qC ?_;refine qN ?_;refine qC ?_;obtain rfl|rfl : i = 0 ∨ i = 1:=by omega
      ·refine qB ?_;refine zai (by first|omega|assumption|decide|(simp only [zds];omega)|(simp <;> omega)) ?_;refine zai (by first|omega|simp|decide) ?_;refine qC ?_;refine qB ?_;refine Or.inr (Or.inl (zei [] (zei [] (zei _ (zei _ (zei _ (zei _ (zei _ (zai (hok) (zai rfl (zai True.intro (zai rfl ?_))))))))))));refine qC ?_;refine qB ?_;refine qJ rfl (fun h34=>?_) (fun h34=>?_)
       ·try simp only [Bool.not_eq_true'] at h34
        try simp only [zds] at h34
        simp at h34
       ·try simp only [Bool.not_eq_false'] at h34
        try simp only [zds] at h34
        refine qL ?_;refine qB ?_;refine zai (by first|omega|assumption|decide|(simp only [zds];omega)|(simp <;> omega)) ?_;exact ⟨1,by omega,by first|omega|(simp <;> omega),qP ⟨rfl,rfl,rfl,rfl,rfl,(qS (by omega))⟩ rfl rfl⟩
      ·refine qB ?_;refine zai (by first|omega|assumption|decide|(simp only [zds];omega)|(simp <;> omega)) ?_;refine zai (by first|omega|simp|decide) ?_;refine qC ?_;refine qB ?_;refine Or.inl ?_;refine zai (rfl) ?_;refine zei _ (zai (hd) ?_);refine qC ?_;refine qB ?_;refine qJ rfl (fun h34=>?_) (fun h34=>?_)
       ·skip
        refine qC ?_;refine qB ?_;refine qM ?_;rfl
       ·try simp only [zbq] at h34
        try simp only [zds] at h34
        simp at h34
     ·try simp only [decide_eq_false_iff_not,Int.not_lt] at h23
      try simp only [zds] at h23
      omega
theorem mrgC_c {k c : Nat} (L : Lst) (a b : List Edt) (hL : LOk c L) (hc : c + a.length ≤ 200000) (hc2 : c + b.length ≤ 200000) (hf : ∀ e ∈ a,qW e.2.2) (hf2 : ∀ e ∈ b,qW e.2.2) (h0 : (doR L a).2 = 0) (h3 : (doR L b).2 = 0) (h : 0 ≤ clashI L.2.1 a b) : qT Tryz.prog 28 [.one (.adk k (rLst k) L),.one (.sl rEdt a),.one (.sl rEdt b)] (.tup [nilE,(false,[errF (clashI L.2.1 a b) 13])]):=by
  obtain ⟨h1,h2⟩:=xN h0;obtain ⟨h4,h5⟩:=xN h3;have hok:=doOk_o (κ:=0) (κ':=0) (k:=k) L a hL hc hf h1 h2;have hok2:=doOk_o (κ:=0) (κ':=0) (k:=k) L b hL hc2 hf2 h4 h5;refine qQ (rs:=[6,7]) Tryz.func28 rfl rfl rfl teOk rfl ?_;refine qC ?_;refine qB ?_;refine qC ?_;refine qC ?_;refine qB ?_;refine qJ rfl (fun h16=>?_) (fun h16=>?_)
  ·try simp only [zbq] at h16
   try simp only [zds] at h16
   simp at h16
  ·skip
   refine qL ?_;refine qC ?_;refine qC ?_;refine qB ?_;intro l3_3
   try simp only [zds] at l3_3
   refine qN ?_;refine qR (fun (i : Nat)=>i ≤ 2) (fun (i : Nat)=>[(0,.one (.adk k (rLst k) L)),(1,.one (.sl rEdt a)),(2,.one (.sl rEdt b)),(20,.one (.vec 0)),(21,ii .i64 2),(22,ii .i64 i)]) (fun (i : Nat)=>[(0,.vec 22 (.sl rEdt) [a,b])]) 1 (fun (i : Nat)=>2 - i) 0 (Nat.zero_le _) (qP ⟨rfl,rfl,rfl,rfl,rfl,rfl⟩ rfl rfl) ?_;intro i hI0;refine qC ?_;refine qB ?_;refine qC ?_;refine qJ rfl (fun h23=>?_) (fun h23=>?_)
   ·try simp only [decide_eq_true_eq] at h23
    try simp only [zds] at h23
    refine qL ?_;refine qC ?_;refine qN ?_;refine qC ?_;obtain rfl|rfl : i = 0 ∨ i = 1:=by omega
    ·refine qB ?_;refine zai (by first|omega|assumption|decide|(simp only [zds];omega)|(simp <;> omega)) ?_;refine zai (by first|omega|simp|decide) ?_;refine qC ?_;refine qB ?_;refine Or.inr (Or.inl (zei [] (zei [] (zei _ (zei _ (zei _ (zei _ (zei _ (zai (hok) (zai rfl (zai True.intro (zai rfl ?_))))))))))));refine qC ?_;refine qB ?_;refine qJ rfl (fun h34=>?_) (fun h34=>?_)
     ·try simp only [Bool.not_eq_true'] at h34
      try simp only [zds] at h34
      simp at h34
     ·try simp only [Bool.not_eq_false'] at h34
      try simp only [zds] at h34
      refine qL ?_;refine qB ?_;refine zai (by first|omega|assumption|decide|(simp only [zds];omega)|(simp <;> omega)) ?_;exact ⟨1,by omega,by first|omega|(simp <;> omega),qP ⟨rfl,rfl,rfl,rfl,rfl,(qS (by omega))⟩ rfl rfl⟩
    ·refine qB ?_;refine zai (by first|omega|assumption|decide|(simp only [zds];omega)|(simp <;> omega)) ?_;refine zai (by first|omega|simp|decide) ?_;refine qC ?_;refine qB ?_;refine Or.inr (Or.inl (zei [] (zei [] (zei _ (zei _ (zei _ (zei _ (zei _ (zai (hok2) (zai rfl (zai True.intro (zai rfl ?_))))))))))));refine qC ?_;refine qB ?_;refine qJ rfl (fun h34=>?_) (fun h34=>?_)
     ·try simp only [Bool.not_eq_true'] at h34
      try simp only [zds] at h34
      simp at h34
     ·try simp only [Bool.not_eq_false'] at h34
      try simp only [zds] at h34
      refine qL ?_;refine qB ?_;refine zai (by first|omega|assumption|decide|(simp only [zds];omega)|(simp <;> omega)) ?_;exact ⟨2,by omega,by first|omega|(simp <;> omega),qP ⟨rfl,rfl,rfl,rfl,rfl,(qS (by omega))⟩ rfl rfl⟩
   ·try simp only [decide_eq_false_iff_not,Int.not_lt] at h23
    try simp only [zds] at h23
    refine qV ?_;refine qC ?_;refine qC ?_;refine qB ?_;refine Or.inl ?_;refine zai (rfl) ?_;refine zei _ (zai (next_c L.1 L.2.1 L.2.2) ?_);refine Or.inl ?_;refine zai (rfl) ?_;refine zei _ (zai (clash_c L.2.1 a b) ?_);refine qC ?_;refine qB ?_;refine qJ rfl (fun h43=>?_) (fun h43=>?_)
    ·try simp only [decide_eq_true_eq] at h43
     try simp only [zds] at h43
     refine qC ?_;refine qB ?_;refine qM ?_;rfl
    ·try simp only [decide_eq_false_iff_not,Int.not_le] at h43
     try simp only [zds] at h43
     exfalso
     omega
theorem mrgR_c {k c : Nat} (L : Lst) (a b : List Edt) (hL : LOk c L) (hc : c + a.length ≤ 200000) (hc2 : c + b.length ≤ 200000) (hf : ∀ e ∈ a,qW e.2.2) (hf2 : ∀ e ∈ b,qW e.2.2) (h0 : (doR L a).2 = 0) (h3 : (doR L b).2 = 0) (h : ¬ 0 ≤ clashI L.2.1 a b) (h40 : 40 < (a ++ rebB L.2.1 a b).length) : qT Tryz.prog 28 [.one (.adk k (rLst k) L),.one (.sl rEdt a),.one (.sl rEdt b)] (.tup [nilE,(false,[errN 1])]):=by
  obtain ⟨h1,h2⟩:=xN h0;obtain ⟨h4,h5⟩:=xN h3;have hok:=doOk_o (κ:=0) (κ':=0) (k:=k) L a hL hc hf h1 h2;have hok2:=doOk_o (κ:=0) (κ':=0) (k:=k) L b hL hc2 hf2 h4 h5;have hnx:=hL.next;have hle:=takes_le b hL hf2 (doR_takes h3).1;have hfl:=flat_len L.2.1 (insA a) a b;have hrb:=rebase_c (κ:=0) L.2.1 a b (by omega) (by omega) (fun e he=>Nat.le_trans (hf2 e he).1 (by decide)) (fun e he=>by have:=hle e he;omega) (by omega);have hcp:=copyE_o a (fun e he=>Nat.le_trans (hf e he).1 (by decide)) (by omega);have h40' : 40 < (a.length : Int) + (rebB L.2.1 a b).length:=by rw [List.length_append] at h40;omega
  have hrl : (rebB L.2.1 a b).length ≤ b.length:=hfl;refine qQ (rs:=[6,7]) Tryz.func28 rfl rfl rfl teOk rfl ?_;refine qC ?_;refine qB ?_;refine qC ?_;refine qC ?_;refine qB ?_;refine qJ rfl (fun h16=>?_) (fun h16=>?_)
  ·try simp only [zbq] at h16
   try simp only [zds] at h16
   simp at h16
  ·skip
   refine qL ?_;refine qC ?_;refine qC ?_;refine qB ?_;intro l3_3
   try simp only [zds] at l3_3
   refine qN ?_;refine qR (fun (i : Nat)=>i ≤ 2) (fun (i : Nat)=>[(0,.one (.adk k (rLst k) L)),(1,.one (.sl rEdt a)),(2,.one (.sl rEdt b)),(20,.one (.vec 0)),(21,ii .i64 2),(22,ii .i64 i)]) (fun (i : Nat)=>[(0,.vec 22 (.sl rEdt) [a,b])]) 1 (fun (i : Nat)=>2 - i) 0 (Nat.zero_le _) (qP ⟨rfl,rfl,rfl,rfl,rfl,rfl⟩ rfl rfl) ?_;intro i hI0;refine qC ?_;refine qB ?_;refine qC ?_;refine qJ rfl (fun h23=>?_) (fun h23=>?_)
   ·try simp only [decide_eq_true_eq] at h23
    try simp only [zds] at h23
    refine qL ?_;refine qC ?_;refine qN ?_;refine qC ?_;obtain rfl|rfl : i = 0 ∨ i = 1:=by omega
    ·refine qB ?_;refine zai (by first|omega|assumption|decide|(simp only [zds];omega)|(simp <;> omega)) ?_;refine zai (by first|omega|simp|decide) ?_;refine qC ?_;refine qB ?_;refine Or.inr (Or.inl (zei [] (zei [] (zei _ (zei _ (zei _ (zei _ (zei _ (zai (hok) (zai rfl (zai True.intro (zai rfl ?_))))))))))));refine qC ?_;refine qB ?_;refine qJ rfl (fun h34=>?_) (fun h34=>?_)
     ·try simp only [Bool.not_eq_true'] at h34
      try simp only [zds] at h34
      simp at h34
     ·try simp only [Bool.not_eq_false'] at h34
      try simp only [zds] at h34
      refine qL ?_;refine qB ?_;refine zai (by first|omega|assumption|decide|(simp only [zds];omega)|(simp <;> omega)) ?_;exact ⟨1,by omega,by first|omega|(simp <;> omega),qP ⟨rfl,rfl,rfl,rfl,rfl,(qS (by omega))⟩ rfl rfl⟩
    ·refine qB ?_;refine zai (by first|omega|assumption|decide|(simp only [zds];omega)|(simp <;> omega)) ?_;refine zai (by first|omega|simp|decide) ?_;refine qC ?_;refine qB ?_;refine Or.inr (Or.inl (zei [] (zei [] (zei _ (zei _ (zei _ (zei _ (zei _ (zai (hok2) (zai rfl (zai True.intro (zai rfl ?_))))))))))));refine qC ?_;refine qB ?_;refine qJ rfl (fun h34=>?_) (fun h34=>?_)
     ·try simp only [Bool.not_eq_true'] at h34
      try simp only [zds] at h34
      simp at h34
     ·try simp only [Bool.not_eq_false'] at h34
      try simp only [zds] at h34
      refine qL ?_;refine qB ?_;refine zai (by first|omega|assumption|decide|(simp only [zds];omega)|(simp <;> omega)) ?_;exact ⟨2,by omega,by first|omega|(simp <;> omega),qP ⟨rfl,rfl,rfl,rfl,rfl,(qS (by omega))⟩ rfl rfl⟩
   ·try simp only [decide_eq_false_iff_not,Int.not_lt] at h23
    try simp only [zds] at h23
    refine qV ?_;refine qC ?_;refine qC ?_;refine qB ?_;refine Or.inl ?_;refine zai (rfl) ?_;refine zei _ (zai (next_c L.1 L.2.1 L.2.2) ?_);refine Or.inl ?_;refine zai (rfl) ?_;refine zei _ (zai (clash_c L.2.1 a b) ?_);refine qC ?_;refine qB ?_;refine qJ rfl (fun h43=>?_) (fun h43=>?_)
    ·try simp only [decide_eq_true_eq] at h43
     try simp only [zds] at h43
     exact absurd h43 h
    ·try simp only [decide_eq_false_iff_not,Int.not_le] at h43
     try simp only [zds] at h43
     refine qL ?_;refine qC ?_;refine qB ?_;refine Or.inr (Or.inl (zei [] (zei [] (zei _ (zei _ (zei _ (zei _ (zei _ (zai (hcp) (zai rfl (zai True.intro (zai rfl ?_))))))))))));refine Or.inl ?_;refine zai (rfl) ?_;refine zei _ (zai (next_c L.1 L.2.1 L.2.2) ?_);refine Or.inl ?_;refine zai (rfl) ?_;refine zei _ (zai (hrb) ?_);refine zai (by exact qU (show a.length + (rebB L.2.1 a b).length ≤ 1000000000 by omega) (by decide)) ?_;refine qC ?_;refine qC ?_;refine qB ?_;intro l14_1
     try simp only [zds] at l14_1
     refine qJ rfl (fun h59=>?_) (fun h59=>?_)
     ·try simp only [decide_eq_true_eq] at h59
      try simp only [zds] at h59
      refine qC ?_;refine qB ?_;refine qM ?_;rfl
     ·try simp only [decide_eq_false_iff_not,Int.not_lt] at h59
      try simp only [zds] at h59
      exfalso
      simp [Rd.move_rfl] at h59;omega
theorem mrgO_c {k c : Nat} (L : Lst) (a b : List Edt) (hL : LOk c L) (hc : c + a.length ≤ 200000) (hc2 : c + b.length ≤ 200000) (hf : ∀ e ∈ a,qW e.2.2) (hf2 : ∀ e ∈ b,qW e.2.2) (h0 : (doR L a).2 = 0) (h3 : (doR L b).2 = 0) (h : ¬ 0 ≤ clashI L.2.1 a b) (h40 : ¬ 40 < (a ++ rebB L.2.1 a b).length) : qT Tryz.prog 28 [.one (.adk k (rLst k) L),.one (.sl rEdt a),.one (.sl rEdt b)] (.tup [(false,[.sl rEdt (a ++ rebB L.2.1 a b)]),(false,[.lit .nilIface])]):=by
  obtain ⟨h1,h2⟩:=xN h0;obtain ⟨h4,h5⟩:=xN h3;have hok:=doOk_o (κ:=0) (κ':=0) (k:=k) L a hL hc hf h1 h2;have hok2:=doOk_o (κ:=0) (κ':=0) (k:=k) L b hL hc2 hf2 h4 h5;have hnx:=hL.next;have hle:=takes_le b hL hf2 (doR_takes h3).1;have hfl:=flat_len L.2.1 (insA a) a b;have hrb:=rebase_c (κ:=0) L.2.1 a b (by omega) (by omega) (fun e he=>Nat.le_trans (hf2 e he).1 (by decide)) (fun e he=>by have:=hle e he;omega) (by omega);have hcp:=copyE_o a (fun e he=>Nat.le_trans (hf e he).1 (by decide)) (by omega);have h40' : ¬ 40 < (a.length : Int) + (rebB L.2.1 a b).length:=by rw [List.length_append] at h40;omega
  have hrl : (rebB L.2.1 a b).length ≤ b.length:=hfl;refine qQ (rs:=[6,7]) Tryz.func28 rfl rfl rfl teOk rfl ?_;refine qC ?_;refine qB ?_;refine qC ?_;refine qC ?_;refine qB ?_;refine qJ rfl (fun h16=>?_) (fun h16=>?_)
  ·try simp only [zbq] at h16
   try simp only [zds] at h16
   simp at h16
  ·skip
   refine qL ?_;refine qC ?_;refine qC ?_;refine qB ?_;intro l3_3
   try simp only [zds] at l3_3
   refine qN ?_;refine qR (fun (i : Nat)=>i ≤ 2) (fun (i : Nat)=>[(0,.one (.adk k (rLst k) L)),(1,.one (.sl rEdt a)),(2,.one (.sl rEdt b)),(20,.one (.vec 0)),(21,ii .i64 2),(22,ii .i64 i)]) (fun (i : Nat)=>[(0,.vec 22 (.sl rEdt) [a,b])]) 1 (fun (i : Nat)=>2 - i) 0 (Nat.zero_le _) (qP ⟨rfl,rfl,rfl,rfl,rfl,rfl⟩ rfl rfl) ?_;intro i hI0;refine qC ?_;refine qB ?_;refine qC ?_;refine qJ rfl (fun h23=>?_) (fun h23=>?_)
   ·try simp only [decide_eq_true_eq] at h23
    try simp only [zds] at h23
    refine qL ?_;refine qC ?_;refine qN ?_;refine qC ?_;obtain rfl|rfl : i = 0 ∨ i = 1:=by omega
    ·refine qB ?_;refine zai (by first|omega|assumption|decide|(simp only [zds];omega)|(simp <;> omega)) ?_;refine zai (by first|omega|simp|decide) ?_;refine qC ?_;refine qB ?_;refine Or.inr (Or.inl (zei [] (zei [] (zei _ (zei _ (zei _ (zei _ (zei _ (zai (hok) (zai rfl (zai True.intro (zai rfl ?_))))))))))));refine qC ?_;refine qB ?_;refine qJ rfl (fun h34=>?_) (fun h34=>?_)
     ·try simp only [Bool.not_eq_true'] at h34
      try simp only [zds] at h34
      simp at h34
     ·try simp only [Bool.not_eq_false'] at h34
      try simp only [zds] at h34
      refine qL ?_;refine qB ?_;refine zai (by first|omega|assumption|decide|(simp only [zds];omega)|(simp <;> omega)) ?_;exact ⟨1,by omega,by first|omega|(simp <;> omega),qP ⟨rfl,rfl,rfl,rfl,rfl,(qS (by omega))⟩ rfl rfl⟩
    ·refine qB ?_;refine zai (by first|omega|assumption|decide|(simp only [zds];omega)|(simp <;> omega)) ?_;refine zai (by first|omega|simp|decide) ?_;refine qC ?_;refine qB ?_;refine Or.inr (Or.inl (zei [] (zei [] (zei _ (zei _ (zei _ (zei _ (zei _ (zai (hok2) (zai rfl (zai True.intro (zai rfl ?_))))))))))));refine qC ?_;refine qB ?_;refine qJ rfl (fun h34=>?_) (fun h34=>?_)
     ·try simp only [Bool.not_eq_true'] at h34
      try simp only [zds] at h34
      simp at h34
     ·try simp only [Bool.not_eq_false'] at h34
      try simp only [zds] at h34
      refine qL ?_;refine qB ?_;refine zai (by first|omega|assumption|decide|(simp only [zds];omega)|(simp <;> omega)) ?_;exact ⟨2,by omega,by first|omega|(simp <;> omega),qP ⟨rfl,rfl,rfl,rfl,rfl,(qS (by omega))⟩ rfl rfl⟩
   ·try simp only [decide_eq_false_iff_not,Int.not_lt] at h23
    try simp only [zds] at h23
    refine qV ?_;refine qC ?_;refine qC ?_;refine qB ?_;refine Or.inl ?_;refine zai (rfl) ?_;refine zei _ (zai (next_c L.1 L.2.1 L.2.2) ?_);refine Or.inl ?_;refine zai (rfl) ?_;refine zei _ (zai (clash_c L.2.1 a b) ?_);refine qC ?_;refine qB ?_;refine qJ rfl (fun h43=>?_) (fun h43=>?_)
    ·try simp only [decide_eq_true_eq] at h43
     try simp only [zds] at h43
     exact absurd h43 h
    ·try simp only [decide_eq_false_iff_not,Int.not_le] at h43
     try simp only [zds] at h43
     refine qL ?_;refine qC ?_;refine qB ?_;refine Or.inr (Or.inl (zei [] (zei [] (zei _ (zei _ (zei _ (zei _ (zei _ (zai (hcp) (zai rfl (zai True.intro (zai rfl ?_))))))))))));refine Or.inl ?_;refine zai (rfl) ?_;refine zei _ (zai (next_c L.1 L.2.1 L.2.2) ?_);refine Or.inl ?_;refine zai (rfl) ?_;refine zei _ (zai (hrb) ?_);refine zai (by exact qU (show a.length + (rebB L.2.1 a b).length ≤ 1000000000 by omega) (by decide)) ?_;refine qC ?_;refine qC ?_;refine qB ?_;intro l14_1
     try simp only [zds] at l14_1
     refine qJ rfl (fun h59=>?_) (fun h59=>?_)
     ·try simp only [decide_eq_true_eq] at h59
      try simp only [zds] at h59
      exfalso
      simp [Rd.move_rfl] at h59;omega
     ·try simp only [decide_eq_false_iff_not,Int.not_lt] at h59
      try simp only [zds] at h59
      refine qL ?_;refine qC ?_;refine qB ?_;refine qM ?_;rfl
def alMa : List Edt:=[(2,1,[])]
def alMb : List Edt:=[(1,1,[(⟨#[65]⟩,ByteArray.empty)])]
theorem alMa_ok : ∀ e ∈ alMa,qW e.2.2:=fun e he=>by rw [List.mem_singleton.1 he];exact ⟨by decide,by decide⟩
theorem alMb_ok : ∀ e ∈ alMb,qW e.2.2:=fun e he=>by rw [List.mem_singleton.1 he];exact ⟨by decide,by decide⟩
theorem alM_clash {k : Nat} : qT Tryz.prog 28 [.one (.adk k (rLst k) (al0,2,1)),.one (.sl rEdt alMa),.one (.sl rEdt alMb)] (.tup [nilE,(false,[errF 0 13])]):=by
  have hL : LOk 9000 (al0,2,1):=of_lok (s:=⟨#[65,58,32,49,10]⟩) (by decide) a1_parse7;have h:=mrgC_c (k:=k) (al0,2,1) alMa alMb hL (by decide) (by decide) alMa_ok alMb_ok (by decide +kernel) (by decide +kernel) (by decide +kernel);rw [show clashI 2 alMa alMb = 0 by decide +kernel] at h;exact h
theorem alive23_c : qT Tryz.prog 26 [] (ib true):=by
  have hof:=of_ok ⟨#[65,58,32,49,10]⟩ (by decide) a1_parse7;rw [show ofT [(3,⟨#[65,58,32,49,10]⟩,[(⟨#[65]⟩,⟨#[49]⟩)])] = (al0,2,1) from rfl] at hof;have hm:=alM_clash (k:=1);refine qQ (rs:=[0]) Tryz.func26 rfl rfl rfl teOk rfl ?_;refine qC ?_;refine qB ?_;refine qC ?_;refine qB ?_;refine Or.inr (Or.inl (zei [] (zei [] (zei _ (zei _ (zei _ (zei _ (zei _ (zai (hof) (zai rfl (zai True.intro (zai rfl ?_))))))))))));refine qC ?_;refine qC ?_;refine qB ?_;refine zai (fun h=>trivial) ?_;refine zai (fun h=>⟨⟨h,trivial⟩,trivial⟩) ?_;refine zai (by first|(intro h;rw [h];rfl)|(intro h;cases h)) ?_;refine qJ rfl (fun h12=>?_) (fun h12=>?_)
  ·try simp only [Bool.not_eq_true',Bool.or_eq_true] at h12
   try simp only [zds] at h12
   simp at h12
  ·try simp only [Bool.not_eq_false',Bool.or_eq_false_iff] at h12
   try simp only [zds] at h12
   refine qL ?_;refine qC ?_;refine qB ?_;refine Or.inl ?_;refine zai (rfl) ?_;refine zei _ (zai (hm) ?_);refine qC ?_;refine qB ?_;refine Or.inl ?_;refine zai (rfl) ?_;refine zei _ (zai (is_fault 0 13 (by decide)) ?_);refine zai (fun h=>trivial) ?_;refine Or.inl ?_;refine zai (rfl) ?_;refine zei _ (zai (fun h=>⟨⟨⟨h,trivial⟩,trivial⟩,at_fault 0 13⟩) ?_);refine zai (fun h=>⟨⟨h,trivial⟩,trivial⟩) ?_;refine zai (by exact fun h=>h) ?_;refine qM ?_;rfl
theorem refDo_no {c : Nat} (L : Lst) (s : List Edt) (hL : LOk c L) (hc : c + s.length ≤ 200000) (hf : ∀ e ∈ s,qW e.2.2) (h : (doR L s).2 ≠ 0) : qT Tryz.prog 14 [.agg (toL rRL (L.1,L.2.1)),.one (.sl rEdt s)] (.tup [(true,toL rRL (L.1,L.2.1)),(false,[.lit (.slice none 0 0)]),(false,[.lit (.int .i64 (doR L s).1)]),(false,[.lit (.int .i64 (doR L s).2)])]):=by
  by_cases h0 : (chkB s).2 = 0
  · rcases doR_cases L s h0 with ⟨h3,_⟩|⟨q,hq,h3,hb,ht⟩
    · rw [h3] at h;exact absurd rfl h
    · rw [h3];exact refDoBad_c L s hL hc hf h0 q hq hb ht
  · have e : doR L s = chkB s:=by unfold doR;rw [if_pos h0]
    rw [e];exact refDoC_c L s hf (by omega) h0
theorem refMrgA_c {c : Nat} (L : Lst) (a b : List Edt) (hL : LOk c L) (hc : c + a.length ≤ 200000) (hf : ∀ e ∈ a,qW e.2.2) (h : (doR L a).2 ≠ 0) : qT Tryz.prog 36 [.agg (toL rRL (L.1,L.2.1)),.one (.sl rEdt a),.one (.sl rEdt b)] (.tup [nilE,(false,[.lit (.int .i64 (doR L a).1)]),(false,[.lit (.int .i64 (doR L a).2)])]):=by
  have hd:=refDo_no L a hL hc hf h;refine qQ (rs:=[6,7,8]) Tryz.func36 rfl rfl rfl teOk rfl ?_;refine qC ?_;refine qB ?_;refine qC ?_;refine qC ?_;refine qB ?_;refine Or.inl ?_;refine zai (rfl) ?_;refine zei _ (zai (hd) ?_);refine qC ?_;refine qB ?_;refine qJ rfl (fun h28=>?_) (fun h28=>?_)
  ·try simp only [decide_eq_false_iff_not,Bool.not_eq_true'] at h28
   try simp only [zds] at h28
   refine qC ?_;refine qB ?_;refine qM ?_;rfl
  ·try simp only [decide_eq_true_eq,Bool.not_eq_false'] at h28
   try simp only [zds] at h28
   exact absurd h28 h
theorem refMrgB_c {c : Nat} (L : Lst) (a b : List Edt) (hL : LOk c L) (hc : c + a.length ≤ 200000) (hc2 : c + b.length ≤ 200000) (hf : ∀ e ∈ a,qW e.2.2) (hf2 : ∀ e ∈ b,qW e.2.2) (h0 : (doR L a).2 = 0) (h : (doR L b).2 ≠ 0) : qT Tryz.prog 36 [.agg (toL rRL (L.1,L.2.1)),.one (.sl rEdt a),.one (.sl rEdt b)] (.tup [nilE,(false,[.lit (.int .i64 (doR L b).1)]),(false,[.lit (.int .i64 (doR L b).2)])]):=by
  obtain ⟨h1,h2⟩:=xN h0;have hok:=refDoOk_c L a hL hc hf h1 h2;have hd:=refDo_no L b hL hc2 hf2 h;refine qQ (rs:=[6,7,8]) Tryz.func36 rfl rfl rfl teOk rfl ?_;refine qC ?_;refine qB ?_;refine qC ?_;refine qC ?_;refine qB ?_;refine Or.inl ?_;refine zai (rfl) ?_;refine zei _ (zai (hok) ?_);refine qC ?_;refine qB ?_;refine qJ rfl (fun h28=>?_) (fun h28=>?_)
  ·try simp only [decide_eq_false_iff_not,Bool.not_eq_true'] at h28
   try simp only [zds] at h28
   simp at h28
  ·try simp only [decide_eq_true_eq,Bool.not_eq_false'] at h28
   try simp only [zds] at h28
   refine qL ?_;refine qC ?_;refine qC ?_;refine qB ?_;refine Or.inl ?_;refine zai (rfl) ?_;refine zei _ (zai (hd) ?_);refine qC ?_;refine qB ?_;refine qJ rfl (fun h40=>?_) (fun h40=>?_)
   ·try simp only [decide_eq_false_iff_not,Bool.not_eq_true'] at h40
    try simp only [zds] at h40
    refine qC ?_;refine qB ?_;refine qM ?_;rfl
   ·try simp only [decide_eq_true_eq,Bool.not_eq_false'] at h40
    try simp only [zds] at h40
    exact absurd h40 h
theorem refMrgC_c {c : Nat} (L : Lst) (a b : List Edt) (hL : LOk c L) (hc : c + a.length ≤ 200000) (hc2 : c + b.length ≤ 200000) (hf : ∀ e ∈ a,qW e.2.2) (hf2 : ∀ e ∈ b,qW e.2.2) (h0 : (doR L a).2 = 0) (h3 : (doR L b).2 = 0) (h : 0 ≤ clashI L.2.1 a b) : qT Tryz.prog 36 [.agg (toL rRL (L.1,L.2.1)),.one (.sl rEdt a),.one (.sl rEdt b)] (.tup [nilE,(false,[.lit (.int .i64 (clashI L.2.1 a b))]),(false,[.lit (.int .i64 (13))])]):=by
  obtain ⟨h1,h2⟩:=xN h0;obtain ⟨h4,h5⟩:=xN h3;have hok:=refDoOk_c L a hL hc hf h1 h2;have hok2:=refDoOk_c L b hL hc2 hf2 h4 h5;have hnx:=hL.next;have hle:=takes_le b hL hf2 (doR_takes h3).1;have hrb:=refRebase_c L.2.1 a b (by omega) (by omega) (fun e he=>by have:=hle e he;omega) (by omega);have hrl : (rebB L.2.1 a b).length ≤ b.length:=flat_len L.2.1 (insA a) a b;refine qQ (rs:=[6,7,8]) Tryz.func36 rfl rfl rfl teOk rfl ?_;refine qC ?_;refine qB ?_;refine qC ?_;refine qC ?_;refine qB ?_;refine Or.inl ?_;refine zai (rfl) ?_;refine zei _ (zai (hok) ?_);refine qC ?_;refine qB ?_;refine qJ rfl (fun h28=>?_) (fun h28=>?_)
  ·try simp only [decide_eq_false_iff_not,Bool.not_eq_true'] at h28
   try simp only [zds] at h28
   simp at h28
  ·try simp only [decide_eq_true_eq,Bool.not_eq_false'] at h28
   try simp only [zds] at h28
   refine qL ?_;refine qC ?_;refine qC ?_;refine qB ?_;refine Or.inl ?_;refine zai (rfl) ?_;refine zei _ (zai (hok2) ?_);refine qC ?_;refine qB ?_;refine qJ rfl (fun h40=>?_) (fun h40=>?_)
   ·try simp only [decide_eq_false_iff_not,Bool.not_eq_true'] at h40
    try simp only [zds] at h40
    simp at h40
   ·try simp only [decide_eq_true_eq,Bool.not_eq_false'] at h40
    try simp only [zds] at h40
    refine qL ?_;refine qC ?_;refine qC ?_;refine qB ?_;refine Or.inl ?_;refine zai (rfl) ?_;refine zei _ (zai (refClash_c L.2.1 a b) ?_);refine qC ?_;refine qB ?_;refine qJ rfl (fun h49=>?_) (fun h49=>?_)
    ·try simp only [decide_eq_true_eq] at h49
     try simp only [zds] at h49
     refine qC ?_;refine qB ?_;refine qM ?_;rfl
    ·try simp only [decide_eq_false_iff_not,Int.not_le] at h49
     try simp only [zds] at h49
     exfalso
     omega
theorem refMrgR_c {c : Nat} (L : Lst) (a b : List Edt) (hL : LOk c L) (hc : c + a.length ≤ 200000) (hc2 : c + b.length ≤ 200000) (hf : ∀ e ∈ a,qW e.2.2) (hf2 : ∀ e ∈ b,qW e.2.2) (h0 : (doR L a).2 = 0) (h3 : (doR L b).2 = 0) (h : ¬ 0 ≤ clashI L.2.1 a b) (hlen : 40 < (a ++ rebB L.2.1 a b).length) : qT Tryz.prog 36 [.agg (toL rRL (L.1,L.2.1)),.one (.sl rEdt a),.one (.sl rEdt b)] (.tup [nilE,(false,[.lit (.int .i64 (-9))]),(false,[.lit (.int .i64 (1))])]):=by
  obtain ⟨h1,h2⟩:=xN h0;obtain ⟨h4,h5⟩:=xN h3;have hok:=refDoOk_c L a hL hc hf h1 h2;have hok2:=refDoOk_c L b hL hc2 hf2 h4 h5;have hnx:=hL.next;have hle:=takes_le b hL hf2 (doR_takes h3).1;have hrb:=refRebase_c L.2.1 a b (by omega) (by omega) (fun e he=>by have:=hle e he;omega) (by omega);have hrl : (rebB L.2.1 a b).length ≤ b.length:=flat_len L.2.1 (insA a) a b;refine qQ (rs:=[6,7,8]) Tryz.func36 rfl rfl rfl teOk rfl ?_;refine qC ?_;refine qB ?_;refine qC ?_;refine qC ?_;refine qB ?_;refine Or.inl ?_;refine zai (rfl) ?_;refine zei _ (zai (hok) ?_);refine qC ?_;refine qB ?_;refine qJ rfl (fun h28=>?_) (fun h28=>?_)
  ·try simp only [decide_eq_false_iff_not,Bool.not_eq_true'] at h28
   try simp only [zds] at h28
   simp at h28
  ·try simp only [decide_eq_true_eq,Bool.not_eq_false'] at h28
   try simp only [zds] at h28
   refine qL ?_;refine qC ?_;refine qC ?_;refine qB ?_;refine Or.inl ?_;refine zai (rfl) ?_;refine zei _ (zai (hok2) ?_);refine qC ?_;refine qB ?_;refine qJ rfl (fun h40=>?_) (fun h40=>?_)
   ·try simp only [decide_eq_false_iff_not,Bool.not_eq_true'] at h40
    try simp only [zds] at h40
    simp at h40
   ·try simp only [decide_eq_true_eq,Bool.not_eq_false'] at h40
    try simp only [zds] at h40
    refine qL ?_;refine qC ?_;refine qC ?_;refine qB ?_;refine Or.inl ?_;refine zai (rfl) ?_;refine zei _ (zai (refClash_c L.2.1 a b) ?_);refine qC ?_;refine qB ?_;refine qJ rfl (fun h49=>?_) (fun h49=>?_)
    ·try simp only [decide_eq_true_eq] at h49
     try simp only [zds] at h49
     exact absurd h49 h
    ·try simp only [decide_eq_false_iff_not,Int.not_le] at h49
     try simp only [zds] at h49
     refine qL ?_;refine qC ?_;refine yV rfl ?_;refine qI 1 rfl rfl rfl (by kernel_rfl) ?_;refine qI 3 rfl rfl rfl (by kernel_rfl) ?_;refine qI 5 rfl rfl rfl (by kernel_rfl) ?_;refine qI 6 rfl rfl rfl (by kernel_rfl) ?_;refine qK [0,4] (by kernel_rfl) rfl ?_;refine zai ?_ ?_
     ·refine qK [2,4] (by kernel_rfl) rfl ?_;refine zai ?_ ?_
      ·refine zai (by exact qU (show 0 + a.length ≤ 1000000000 by omega) (by decide)) ?_;refine qK [4] (by kernel_rfl) rfl ?_;refine qK [7] (by kernel_rfl) rfl ?_;refine Or.inl ?_;refine zai (rfl) ?_;refine zei _ (zai (hrb) ?_);refine qK [8] (by kernel_rfl) rfl ?_;refine zai (by exact qU (show a.length + (rebB L.2.1 a b).length ≤ 1000000000 by omega) (by decide)) ?_;refine qI 9 rfl rfl rfl (by kernel_rfl) ?_;refine qO (by kernel_rfl) ?_;refine qC ?_;refine qC ?_;refine qB ?_;intro l11_1
       try simp only [zds] at l11_1
       refine qJ rfl (fun h62=>?_) (fun h62=>?_)
       ·try simp only [decide_eq_true_eq] at h62
        try simp only [zds] at h62
        refine qC ?_;refine qB ?_;refine qM ?_;rfl
       ·try simp only [decide_eq_false_iff_not,Int.not_lt] at h62
        try simp only [zds] at h62
        exfalso
        rw [List.length_append] at hlen;simp [Rd.move_rfl] at h62;omega
      ·refine qK [2] (by kernel_rfl) rfl ?_;refine zai (by exact qU (show 0 + a.length ≤ 1000000000 by omega) (by decide)) ?_;refine qK [7] (by kernel_rfl) rfl ?_;refine Or.inl ?_;refine zai (rfl) ?_;refine zei _ (zai (hrb) ?_);refine qK [8] (by kernel_rfl) rfl ?_;refine zai (by exact qU (show a.length + (rebB L.2.1 a b).length ≤ 1000000000 by omega) (by decide)) ?_;refine qI 9 rfl rfl rfl (by kernel_rfl) ?_;refine qO (by kernel_rfl) ?_;refine qC ?_;refine qC ?_;refine qB ?_;intro l11_1
       try simp only [zds] at l11_1
       refine qJ rfl (fun h62=>?_) (fun h62=>?_)
       ·try simp only [decide_eq_true_eq] at h62
        try simp only [zds] at h62
        refine qC ?_;refine qB ?_;refine qM ?_;rfl
       ·try simp only [decide_eq_false_iff_not,Int.not_lt] at h62
        try simp only [zds] at h62
        exfalso
        rw [List.length_append] at hlen;simp [Rd.move_rfl] at h62;omega
     ·refine qK [0] (by kernel_rfl) rfl ?_;refine qK [2] (by kernel_rfl) rfl ?_;refine zai (by exact qU (show 0 + a.length ≤ 1000000000 by omega) (by decide)) ?_;refine qK [7] (by kernel_rfl) rfl ?_;refine Or.inl ?_;refine zai (rfl) ?_;refine zei _ (zai (hrb) ?_);refine qK [8] (by kernel_rfl) rfl ?_;refine zai (by exact qU (show a.length + (rebB L.2.1 a b).length ≤ 1000000000 by omega) (by decide)) ?_;refine qI 9 rfl rfl rfl (by kernel_rfl) ?_;refine qO (by kernel_rfl) ?_;refine qC ?_;refine qC ?_;refine qB ?_;intro l11_1
      try simp only [zds] at l11_1
      refine qJ rfl (fun h62=>?_) (fun h62=>?_)
      ·try simp only [decide_eq_true_eq] at h62
       try simp only [zds] at h62
       refine qC ?_;refine qB ?_;refine qM ?_;rfl
      ·try simp only [decide_eq_false_iff_not,Int.not_lt] at h62
       try simp only [zds] at h62
       exfalso
       rw [List.length_append] at hlen;simp [Rd.move_rfl] at h62;omega
theorem mrg_no {k c : Nat} (L : Lst) (a b : List Edt) (hL : LOk c L) (hc : c + a.length ≤ 200000) (hc2 : c + b.length ≤ 200000) (hf : ∀ e ∈ a,qW e.2.2) (hf2 : ∀ e ∈ b,qW e.2.2) (h : (mrgN L a b).2 ≠ 0) : qT Tryz.prog 28 [.one (.adk k (rLst k) L),.one (.sl rEdt a),.one (.sl rEdt b)] (.tup [nilE,(false,[erB (mrgN L a b)])]) ∧
    qT Tryz.prog 36 [.agg (toL rRL (L.1,L.2.1)),.one (.sl rEdt a),.one (.sl rEdt b)] (.tup [nilE,(false,[.lit (.int .i64 (mrgN L a b).1)]),(false,[.lit (.int .i64 (mrgN L a b).2)])]):=by
  unfold mrgN at h ⊢;split at h
  · rename_i h1;rw [if_pos h1];exact ⟨mrgA_c L a b hL hc hf h1,refMrgA_c L a b hL hc hf h1⟩
  · rename_i h1;have h1:=Classical.not_not.1 h1;rw [if_neg (fun h=>h h1)];split at h
    · rename_i h2;rw [if_pos h2];exact ⟨mrgB_c L a b hL hc hc2 hf hf2 h1 h2,refMrgB_c L a b hL hc hc2 hf hf2 h1 h2⟩
    · rename_i h2;have h2:=Classical.not_not.1 h2;rw [if_neg (fun h=>h h2)];split at h
      · rename_i h3;rw [if_pos h3];have e : erB (clashI L.2.1 a b,13) = errF (clashI L.2.1 a b) 13:=by unfold erB;rw [if_neg (show ¬ (13 : Int) = 0 by decide),if_neg (by show ¬ clashI L.2.1 a b = -9;omega)]
        rw [e];exact ⟨mrgC_c L a b hL hc hc2 hf hf2 h1 h2 h3,refMrgC_c L a b hL hc hc2 hf hf2 h1 h2 h3⟩
      · rename_i h3;rw [if_neg h3];split at h
        · rename_i h4;rw [if_pos h4];exact ⟨mrgR_c L a b hL hc hc2 hf hf2 h1 h2 h3 h4,refMrgR_c L a b hL hc hc2 hf hf2 h1 h2 h3 h4⟩
        · exact absurd rfl h
theorem mrg_ok {L : Lst} {a b : List Edt} (h : (mrgN L a b).2 = 0) : (doR L a).2 = 0 ∧ (doR L b).2 = 0 ∧ ¬ 0 ≤ clashI L.2.1 a b ∧ ¬ 40 < (a ++ rebB L.2.1 a b).length:=by
  unfold mrgN at h;split at h
  · rename_i h1;exact absurd h h1
  · rename_i h1;split at h
    · rename_i h2;exact absurd h h2
    · rename_i h2;split at h
      · cases h
      · rename_i h3;split at h
        · cases h
        · rename_i h4;exact ⟨Classical.not_not.1 h1,Classical.not_not.1 h2,h3,h4⟩
def getG (L : Lst) (id : Int) : List Fld × Bool:=(if atE L.1 id < 0 then [] else getL L.1 id,decide (0 ≤ atE L.1 id))
theorem getG_eq {A B : Lst} {id j : Int} (h : getF A id = getF B j) : getG A id = getG B j:=by
  unfold getF at h;unfold getG
  by_cases h1 : atE A.1 id < 0
  · rw [if_pos h1] at h
    by_cases h2 : atE B.1 j < 0
    · rw [if_pos h1,if_pos h2,decide_eq_false (by omega),decide_eq_false (by omega)]
    · rw [if_neg h2] at h;cases h
  · rw [if_neg h1] at h
    by_cases h2 : atE B.1 j < 0
    · rw [if_pos h2] at h;cases h
    · rw [if_neg h2] at h;rw [if_neg h1,if_neg h2,decide_eq_true (by omega),decide_eq_true (by omega),Option.some.inj h]
theorem getG_c {k : Nat} (L : Lst) (id : Int) (hf : ∀ e ∈ L.1,e.1.2.2.length ≤ 1000000) : qT Tryz.prog 68 [.one (.adk k (rLst k) L),ii .i64 id] (.tup [(false,[.sl rFld (getG L id).1]),(false,[.lit (.bool (getG L id).2)])]):=get_c L.1 L.2.1 L.2.2 id hf
theorem alike_t {k k' : Nat} (A B : Lst) (id j : Int) (hA : ∀ e ∈ A.1,e.1.2.2.length ≤ 1000000) (hB : ∀ e ∈ B.1,e.1.2.2.length ≤ 1000000) (h : getF A id = getF B j) : qT Tryz.prog 31 [.one (.adk k (rLst k) A),ii .i64 id,.one (.adk k' (rLst k') B),ii .i64 j] (ib true):=by
  have h1:=getG_c (k:=k) A id hA;have h2:=getG_c (k:=k') B j hB;rw [getG_eq h] at h1;obtain ⟨g,hg⟩ : ∃ g,getG B j = g:=⟨_,rfl⟩;rw [hg] at h1 h2;refine qQ (rs:=[8]) Tryz.func31 rfl rfl rfl teOk rfl ?_;refine qC ?_;refine qB ?_;refine qC ?_;refine qB ?_;refine Or.inl ?_;refine zai (rfl) ?_;refine zei _ (zai (h1) ?_);refine qC ?_;refine qB ?_;refine Or.inl ?_;refine zai (rfl) ?_;refine zei _ (zai (h2) ?_);refine qC ?_;refine qB ?_;refine zai (fun h=>trivial) ?_;refine zai (fun h=>trivial) ?_;refine Or.inl ?_;refine zai (rfl) ?_;refine zei _ (zai (fun h=>⟨⟨⟨h,trivial⟩,⟨h,trivial⟩,trivial⟩,fieldsk_c (κ:=0) g.1 g.1⟩) ?_);refine zai (by exact fun h=>h) ?_;refine qM ?_;exact ib_eq (by simp)
theorem reb1_same {next k : Int} {a : List Edt} {x e : Edt} (h : e ∈ reb1 next k a x) : e.1 = x.1 ∧ e.2.2 = x.2.2:=by
  unfold reb1 at h;split at h
  · rw [List.mem_singleton.1 h];exact ⟨rfl,rfl⟩
  · split at h
    · cases h
    · rw [List.mem_singleton.1 h];exact ⟨rfl,rfl⟩
theorem reb_good {next : Int} {a b : List Edt} (hb : ∀ e ∈ b,goodN e = 0 ∧ qW e.2.2) : ∀ e ∈ rebB next a b,goodN e = 0 ∧ qW e.2.2:=by
  intro e he;obtain ⟨x,hx,he⟩:=List.mem_flatMap.1 he;obtain ⟨h1,h2⟩:=reb1_same he;obtain ⟨g1,g2⟩:=hb x hx;refine ⟨?_,by rw [h2];exact g2⟩;unfold goodN at g1 ⊢;rw [h1,h2];exact g1
theorem both_good {L : Lst} {a b : List Edt} (h0 : (doR L a).2 = 0) (h3 : (doR L b).2 = 0) (hfa : ∀ e ∈ a,qW e.2.2) (hfb : ∀ e ∈ b,qW e.2.2) (h6 : ¬ 40 < (a ++ rebB L.2.1 a b).length) : (chkB (a ++ rebB L.2.1 a b)).2 = 0 ∧ ∀ e ∈ a ++ rebB L.2.1 a b,qW e.2.2:=by
  obtain ⟨h1,_⟩:=xN h0;obtain ⟨h4,_⟩:=xN h3;obtain ⟨l1,g1⟩:=chkB_zero h1;obtain ⟨_,g4⟩:=chkB_zero h4;have hg:=reb_good (next:=L.2.1) (a:=a) (b:=b) fun e he=>⟨g4 e he,hfb e he⟩
  refine ⟨?_,fun e he=>(List.mem_append.1 he).elim (hfa e) fun he=>(hg e he).2⟩;rw [chkB_no (by rw [List.length_append] at h6 ⊢;omega) fun e he=>(List.mem_append.1 he).elim (g1 e) fun he=>(hg e he).1]
theorem clash_clear {next : Int} {a b : List Edt} (h : ¬ 0 ≤ clashI next a b) : clear next a b:=by
  have h1:=ixOf_ge (clashX next a) b;rw [decide_eq_false (show ¬ 0 ≤ ixOf (clashX next a) b from h)] at h1;intro x hx hlt;have h2:=List.any_eq_false.1 h1.symm x hx;unfold clashX at h2;rw [decide_eq_true hlt,Bool.true_and] at h2
  simpa using h2
theorem doR_full {L : Lst} {s : List Edt} (h1 : (chkB s).2 = 0) (h : fullAt L s) : ∃ q : Nat,doR L s = ((q : Int),11):=by
  obtain ⟨q,hq,h11,hlt,_⟩:=h;rcases doR_cases L s h1 with ⟨_,h4⟩|⟨i,hi,h3,h4,h5⟩
  · rw [h4 q hq] at h11;cases h11
  · have e : i = q:=by
      rcases Nat.lt_trichotomy i q with h|h|h
      · exact absurd (hlt i h) h4
      · exact h
      · rw [h5 q h] at h11;cases h11
    subst e;exact ⟨i,by rw [h3,h11]⟩
theorem taken_facts {c : Nat} {L : Lst} (h : LOk c L) {a b : List Edt} (hfa : ∀ e ∈ a,qW e.2.2) (hfb : ∀ e ∈ b,qW e.2.2) (h0 : (doR L a).2 = 0) (h3 : (doR L b).2 = 0) (h5 : ¬ 0 ≤ clashI L.2.1 a b) (ht : takes L (a ++ rebB L.2.1 a b)) :
    (∀ id,id < L.2.1 → getF (runL L (a ++ rebB L.2.1 a b)) id = getF (if tchA a id = true then runL L a else if tchA b id = true then runL L b else L) id) ∧
    (∀ id,id ∈ idsT L a a.length → getF (runL L (a ++ rebB L.2.1 a b)) id = getF (runL L a) id) ∧
    (∀ id,id ∈ idsT L b b.length → getF (runL L (a ++ rebB L.2.1 a b)) (id + ((idsT L a a.length).length : Int)) = getF (runL L b) id) ∧
    (runL L (a ++ rebB L.2.1 a b)).2.1 = L.2.1 + ((idsT L a a.length).length : Int) + ((idsT L b b.length).length : Int) ∧ (∀ id,id ∈ idsT L b b.length → 0 ≤ id ∧ id ≤ 400000 + c):=by
  obtain ⟨t1,k1,l1,_⟩:=doR_takes h0;obtain ⟨t2,k2,l2,_⟩:=doR_takes h3;have hRa:=ran a h hfa k1 t1;have hRb:=ran b h hfb k2 t2;rcases both_run h hfa hfb k1 k2 t1 t2 (clash_clear h5) with ⟨_,sk,S,_⟩|g
  · rw [runL_app,ids_cnt h hfa k1 t1,ids_cnt h hfb k2 t2];refine ⟨fun id hid=>taken_old S hRb hid,fun id hid=>?_,fun id hid=>?_,?_,fun id hid=>?_⟩
    · obtain ⟨g1,g2⟩:=ids_mem h hfa k1 t1 hid;exact S.mid id g1 (by rw [hRa.next];exact g2)
    · exact S.new id (ids_mem h hfb k2 t2 hid).1
    · have:=S.next;have:=hRb.next;omega
    · obtain ⟨g1,g2⟩:=ids_mem h hfb k2 t2 hid;have:=insA_le b;have:=h.next;omega
  · obtain ⟨q,hq,h11,_⟩:=full_app t1 g;rw [takes_to _ L ht q hq] at h11;cases h11
theorem MTaken_big (s : ByteArray) (a b : List Edt) (h : 2500 < s.size ∨ heavyB a = true ∨ heavyB b = true) : qT Tryz.prog 4 [is s,.one (.sl rEdt a),.one (.sl rEdt b)] (ib true):=by
  have hva:=heavy_c a;have hvb:=heavy_c b;refine qQ (rs:=[6]) Tryz.func4 rfl rfl rfl teOk rfl ?_;refine qC ?_;refine qB ?_;refine qC ?_;refine qC ?_;refine qB ?_;refine Or.inl ?_;refine zai (rfl) ?_;refine zei _ (zai (alive23_c) ?_);refine qJ rfl (fun h24=>?_) (fun h24=>?_)
  ·try simp only [Bool.not_eq_true'] at h24
   try simp only [zds] at h24
   simp at h24
  ·try simp only [Bool.not_eq_false'] at h24
   try simp only [zds] at h24
   refine qL ?_;refine qC ?_;refine qC ?_;refine qB ?_;refine zai (fun h=>trivial) ?_;refine Or.inl ?_;refine zai (rfl) ?_;refine zei _ (zai (fun h=>⟨⟨⟨h,trivial⟩,trivial⟩,hva⟩) ?_);refine zai (by first|(intro h;rw [h];rfl)|(intro h;cases h)) ?_;refine zai (fun h=>trivial) ?_;refine Or.inl ?_;refine zai (rfl) ?_;refine zei _ (zai (fun h=>⟨⟨⟨h,trivial⟩,trivial⟩,hvb⟩) ?_);refine zai (by first|(intro h;rw [h];rfl)|(intro h;cases h)) ?_;refine qJ rfl (fun h35=>?_) (fun h35=>?_)
   ·try simp only [decide_eq_true_eq,Bool.or_eq_true] at h35
    try simp only [zds] at h35
    refine qC ?_;refine qB ?_;refine qM ?_;rfl
   ·try simp only [decide_eq_false_iff_not,Bool.or_eq_false_iff,Int.not_lt] at h35
    try simp only [zds] at h35
    obtain ⟨⟨g1,g2⟩,g3⟩:=h35;exact absurd h (fun h=>by rcases h with h|h|h;omega;rw [h] at g2;cases g2;rw [h] at g3;cases g3)
theorem MTaken_err (s : ByteArray) (a b : List Edt) (hs : ¬ 2500 < s.size) (ha : heavyB a = false) (hb : heavyB b = false) {at_ n : Int} (hp : xF s = .inl (at_,n)) : qT Tryz.prog 4 [is s,.one (.sl rEdt a),.one (.sl rEdt b)] (ib true):=by
  have hva:=heavy_c a;have hvb:=heavy_c b;rw [ha] at hva;rw [hb] at hvb;have hl:=of_err s (by omega) hp;refine qQ (rs:=[6]) Tryz.func4 rfl rfl rfl teOk rfl ?_;refine qC ?_;refine qB ?_;refine qC ?_;refine qC ?_;refine qB ?_;refine Or.inl ?_;refine zai (rfl) ?_;refine zei _ (zai (alive23_c) ?_);refine qJ rfl (fun h24=>?_) (fun h24=>?_)
  ·try simp only [Bool.not_eq_true'] at h24
   try simp only [zds] at h24
   simp at h24
  ·try simp only [Bool.not_eq_false'] at h24
   try simp only [zds] at h24
   refine qL ?_;refine qC ?_;refine qC ?_;refine qB ?_;refine zai (fun h=>trivial) ?_;refine Or.inl ?_;refine zai (rfl) ?_;refine zei _ (zai (fun h=>⟨⟨⟨h,trivial⟩,trivial⟩,hva⟩) ?_);refine zai (by first|(intro h;rw [h];rfl)|(intro h;cases h)) ?_;refine zai (fun h=>trivial) ?_;refine Or.inl ?_;refine zai (rfl) ?_;refine zei _ (zai (fun h=>⟨⟨⟨h,trivial⟩,trivial⟩,hvb⟩) ?_);refine zai (by first|(intro h;rw [h];rfl)|(intro h;cases h)) ?_;refine qJ rfl (fun h35=>?_) (fun h35=>?_)
   ·try simp only [decide_eq_true_eq,Bool.or_eq_true] at h35
    try simp only [zds] at h35
    exfalso
    simp at h35;omega
   ·try simp only [decide_eq_false_iff_not,Bool.or_eq_false_iff,Int.not_lt] at h35
    try simp only [zds] at h35
    refine qL ?_;refine qC ?_;refine qB ?_;refine Or.inl ?_;refine zai (rfl) ?_;refine zei _ (zai (hl) ?_);refine qC ?_;refine qC ?_;refine qB ?_;refine qJ rfl (fun h42=>?_) (fun h42=>?_)
    ·skip
     refine qC ?_;refine qB ?_;refine qM ?_;rfl
    ·try simp only [zbq] at h42
     try simp only [zds] at h42
     simp at h42
theorem MTaken_N (s : ByteArray) (a b : List Edt) (hs : ¬ 2500 < s.size) (ha : heavyB a = false) (hb : heavyB b = false) {l : List Itm} (hp : xF s = .inr l) (n : Int) (hn : n ≠ 0) (h : mrgN (ofT l) a b = (-9,n)) : qT Tryz.prog 4 [is s,.one (.sl rEdt a),.one (.sl rEdt b)] (ib true):=by
  have hva:=heavy_c a;have hvb:=heavy_c b;rw [ha] at hva;rw [hb] at hvb;obtain ⟨hsa,hma⟩:=heavy_ok ha;obtain ⟨hsb,hmb⟩:=heavy_ok hb;have hfa : ∀ e ∈ a,qW e.2.2:=fun e he=>much_ok (hma e he)
  have hfb : ∀ e ∈ b,qW e.2.2:=fun e he=>much_ok (hmb e he)
  have hl:=of_ok s (by omega) hp;have hlk:=of_lok (by omega) hp;have hgd:=ofT_gd hp;obtain ⟨L,hL⟩ : ∃ L,ofT l = L:=⟨_,rfl⟩;rw [hL] at hlk hgd hl h;obtain ⟨hm1,hm2⟩:=mrg_no (k:=1) L a b hlk (by omega) (by omega) hfa hfb (by rw [h];exact hn);rw [h] at hm1 hm2;rw [erB_n hn] at hm1;refine qQ (rs:=[6]) Tryz.func4 rfl rfl rfl teOk rfl ?_;refine qC ?_;refine qB ?_;refine qC ?_;refine qC ?_;refine qB ?_;refine Or.inl ?_;refine zai (rfl) ?_;refine zei _ (zai (alive23_c) ?_);refine qJ rfl (fun h24=>?_) (fun h24=>?_)
  ·try simp only [Bool.not_eq_true'] at h24
   try simp only [zds] at h24
   simp at h24
  ·try simp only [Bool.not_eq_false'] at h24
   try simp only [zds] at h24
   refine qL ?_;refine qC ?_;refine qC ?_;refine qB ?_;refine zai (fun h=>trivial) ?_;refine Or.inl ?_;refine zai (rfl) ?_;refine zei _ (zai (fun h=>⟨⟨⟨h,trivial⟩,trivial⟩,hva⟩) ?_);refine zai (by first|(intro h;rw [h];rfl)|(intro h;cases h)) ?_;refine zai (fun h=>trivial) ?_;refine Or.inl ?_;refine zai (rfl) ?_;refine zei _ (zai (fun h=>⟨⟨⟨h,trivial⟩,trivial⟩,hvb⟩) ?_);refine zai (by first|(intro h;rw [h];rfl)|(intro h;cases h)) ?_;refine qJ rfl (fun h35=>?_) (fun h35=>?_)
   ·try simp only [decide_eq_true_eq,Bool.or_eq_true] at h35
    try simp only [zds] at h35
    exfalso
    simp at h35;omega
   ·try simp only [decide_eq_false_iff_not,Bool.or_eq_false_iff,Int.not_lt] at h35
    try simp only [zds] at h35
    refine qL ?_;refine qC ?_;refine qB ?_;refine Or.inr (Or.inl (zei [] (zei [] (zei _ (zei _ (zei _ (zei _ (zei _ (zai (hl) (zai rfl (zai True.intro (zai rfl ?_))))))))))));refine qC ?_;refine qC ?_;refine qB ?_;refine qJ rfl (fun h42=>?_) (fun h42=>?_)
    ·try simp only [Bool.not_eq_true'] at h42
     try simp only [zds] at h42
     simp at h42
    ·try simp only [Bool.not_eq_false'] at h42
     try simp only [zds] at h42
     refine qL ?_;refine qC ?_;refine qB ?_;refine Or.inr (Or.inr (Or.inl ?_));refine zai rfl ?_;refine zei _ (zai (hm1) ?_);refine qC ?_;refine qC ?_;refine qB ?_;refine qJ rfl (fun h51=>?_) (fun h51=>?_)
     ·skip
      refine qC ?_;refine qB ?_;refine qM ?_;rfl
     ·try simp only [zbq] at h51
      try simp only [zds] at h51
      simp at h51
theorem MTaken_F (s : ByteArray) (a b : List Edt) (hs : ¬ 2500 < s.size) (ha : heavyB a = false) (hb : heavyB b = false) {l : List Itm} (hp : xF s = .inr l) (i n : Int) (hn : n ≠ 0) (h : mrgN (ofT l) a b = (i,n)) (he : erB (i,n) = errF i n) : qT Tryz.prog 4 [is s,.one (.sl rEdt a),.one (.sl rEdt b)] (ib true):=by
  have hva:=heavy_c a;have hvb:=heavy_c b;rw [ha] at hva;rw [hb] at hvb;obtain ⟨hsa,hma⟩:=heavy_ok ha;obtain ⟨hsb,hmb⟩:=heavy_ok hb;have hfa : ∀ e ∈ a,qW e.2.2:=fun e he=>much_ok (hma e he)
  have hfb : ∀ e ∈ b,qW e.2.2:=fun e he=>much_ok (hmb e he)
  have hl:=of_ok s (by omega) hp;have hlk:=of_lok (by omega) hp;have hgd:=ofT_gd hp;obtain ⟨L,hL⟩ : ∃ L,ofT l = L:=⟨_,rfl⟩;rw [hL] at hlk hgd hl h;obtain ⟨hm1,hm2⟩:=mrg_no (k:=1) L a b hlk (by omega) (by omega) hfa hfb (by rw [h];exact hn);rw [h] at hm1 hm2;rw [he] at hm1;refine qQ (rs:=[6]) Tryz.func4 rfl rfl rfl teOk rfl ?_;refine qC ?_;refine qB ?_;refine qC ?_;refine qC ?_;refine qB ?_;refine Or.inl ?_;refine zai (rfl) ?_;refine zei _ (zai (alive23_c) ?_);refine qJ rfl (fun h24=>?_) (fun h24=>?_)
  ·try simp only [Bool.not_eq_true'] at h24
   try simp only [zds] at h24
   simp at h24
  ·try simp only [Bool.not_eq_false'] at h24
   try simp only [zds] at h24
   refine qL ?_;refine qC ?_;refine qC ?_;refine qB ?_;refine zai (fun h=>trivial) ?_;refine Or.inl ?_;refine zai (rfl) ?_;refine zei _ (zai (fun h=>⟨⟨⟨h,trivial⟩,trivial⟩,hva⟩) ?_);refine zai (by first|(intro h;rw [h];rfl)|(intro h;cases h)) ?_;refine zai (fun h=>trivial) ?_;refine Or.inl ?_;refine zai (rfl) ?_;refine zei _ (zai (fun h=>⟨⟨⟨h,trivial⟩,trivial⟩,hvb⟩) ?_);refine zai (by first|(intro h;rw [h];rfl)|(intro h;cases h)) ?_;refine qJ rfl (fun h35=>?_) (fun h35=>?_)
   ·try simp only [decide_eq_true_eq,Bool.or_eq_true] at h35
    try simp only [zds] at h35
    exfalso
    simp at h35;omega
   ·try simp only [decide_eq_false_iff_not,Bool.or_eq_false_iff,Int.not_lt] at h35
    try simp only [zds] at h35
    refine qL ?_;refine qC ?_;refine qB ?_;refine Or.inr (Or.inl (zei [] (zei [] (zei _ (zei _ (zei _ (zei _ (zei _ (zai (hl) (zai rfl (zai True.intro (zai rfl ?_))))))))))));refine qC ?_;refine qC ?_;refine qB ?_;refine qJ rfl (fun h42=>?_) (fun h42=>?_)
    ·try simp only [Bool.not_eq_true'] at h42
     try simp only [zds] at h42
     simp at h42
    ·try simp only [Bool.not_eq_false'] at h42
     try simp only [zds] at h42
     refine qL ?_;refine qC ?_;refine qB ?_;refine Or.inr (Or.inr (Or.inl ?_));refine zai rfl ?_;refine zei _ (zai (hm1) ?_);refine qC ?_;refine qC ?_;refine qB ?_;refine qJ rfl (fun h51=>?_) (fun h51=>?_)
     ·skip
      refine qC ?_;refine qB ?_;refine qM ?_;rfl
     ·try simp only [zbq] at h51
      try simp only [zds] at h51
      simp at h51
theorem MTaken_full (s : ByteArray) (a b : List Edt) (hs : ¬ 2500 < s.size) (ha : heavyB a = false) (hb : heavyB b = false) {l : List Itm} (hp : xF s = .inr l) (h : (mrgN (ofT l) a b).2 = 0) (hx : fullAt (ofT l) (a ++ rebB (ofT l).2.1 a b)) : qT Tryz.prog 4 [is s,.one (.sl rEdt a),.one (.sl rEdt b)] (ib true):=by
  have hva:=heavy_c a;have hvb:=heavy_c b;rw [ha] at hva;rw [hb] at hvb;obtain ⟨hsa,hma⟩:=heavy_ok ha;obtain ⟨hsb,hmb⟩:=heavy_ok hb;have hfa : ∀ e ∈ a,qW e.2.2:=fun e he=>much_ok (hma e he)
  have hfb : ∀ e ∈ b,qW e.2.2:=fun e he=>much_ok (hmb e he)
  have hl:=of_ok s (by omega) hp;have hlk:=of_lok (by omega) hp;have hgd:=ofT_gd hp;obtain ⟨L,hL⟩ : ∃ L,ofT l = L:=⟨_,rfl⟩;rw [hL] at hlk hgd hl h hx;obtain ⟨h0,h3,h5,h6⟩:=mrg_ok h;have hm1:=mrgO_c (k:=1) L a b hlk (by omega) (by omega) hfa hfb h0 h3 h5 h6;obtain ⟨hxc,hxf⟩:=both_good h0 h3 hfa hfb h6;obtain ⟨hx40,_⟩:=chkB_zero hxc;obtain ⟨q,hq⟩:=doR_full hxc hx;have hd:=do_no (κ:=0) (κ':=0) (k:=1) L (a ++ rebB L.2.1 a b) hlk (by omega) hxf (by rw [hq];exact (by decide : (11 : Int) ≠ 0));rw [hq,erB_f (by decide)] at hd;refine qQ (rs:=[6]) Tryz.func4 rfl rfl rfl teOk rfl ?_;refine qC ?_;refine qB ?_;refine qC ?_;refine qC ?_;refine qB ?_;refine Or.inl ?_;refine zai (rfl) ?_;refine zei _ (zai (alive23_c) ?_);refine qJ rfl (fun h24=>?_) (fun h24=>?_)
  ·try simp only [Bool.not_eq_true'] at h24
   try simp only [zds] at h24
   simp at h24
  ·try simp only [Bool.not_eq_false'] at h24
   try simp only [zds] at h24
   refine qL ?_;refine qC ?_;refine qC ?_;refine qB ?_;refine zai (fun h=>trivial) ?_;refine Or.inl ?_;refine zai (rfl) ?_;refine zei _ (zai (fun h=>⟨⟨⟨h,trivial⟩,trivial⟩,hva⟩) ?_);refine zai (by first|(intro h;rw [h];rfl)|(intro h;cases h)) ?_;refine zai (fun h=>trivial) ?_;refine Or.inl ?_;refine zai (rfl) ?_;refine zei _ (zai (fun h=>⟨⟨⟨h,trivial⟩,trivial⟩,hvb⟩) ?_);refine zai (by first|(intro h;rw [h];rfl)|(intro h;cases h)) ?_;refine qJ rfl (fun h35=>?_) (fun h35=>?_)
   ·try simp only [decide_eq_true_eq,Bool.or_eq_true] at h35
    try simp only [zds] at h35
    exfalso
    simp at h35;omega
   ·try simp only [decide_eq_false_iff_not,Bool.or_eq_false_iff,Int.not_lt] at h35
    try simp only [zds] at h35
    refine qL ?_;refine qC ?_;refine qB ?_;refine Or.inr (Or.inl (zei [] (zei [] (zei _ (zei _ (zei _ (zei _ (zei _ (zai (hl) (zai rfl (zai True.intro (zai rfl ?_))))))))))));refine qC ?_;refine qC ?_;refine qB ?_;refine qJ rfl (fun h42=>?_) (fun h42=>?_)
    ·try simp only [Bool.not_eq_true'] at h42
     try simp only [zds] at h42
     simp at h42
    ·try simp only [Bool.not_eq_false'] at h42
     try simp only [zds] at h42
     refine qL ?_;refine qC ?_;refine qB ?_;refine Or.inr (Or.inr (Or.inl ?_));refine zai rfl ?_;refine zei _ (zai (hm1) ?_);refine qC ?_;refine qC ?_;refine qB ?_;refine qJ rfl (fun h51=>?_) (fun h51=>?_)
     ·try simp only [Bool.not_eq_true'] at h51
      try simp only [zds] at h51
      simp at h51
     ·try simp only [Bool.not_eq_false'] at h51
      try simp only [zds] at h51
      refine qL ?_;refine qC ?_;refine qB ?_;refine Or.inr (Or.inr (Or.inl ?_));refine zai rfl ?_;refine zei _ (zai (hd) ?_);refine qC ?_;refine qC ?_;refine qB ?_;refine qJ rfl (fun h60=>?_) (fun h60=>?_)
      ·skip
       refine qC ?_;refine qB ?_;refine Or.inl ?_;refine zai (rfl) ?_;refine zei _ (zai (is_fault q 11 (by decide)) ?_);refine qM ?_;rfl
      ·try simp only [zbq] at h60
       try simp only [zds] at h60
       simp at h60
theorem MTaken_ok (s : ByteArray) (a b : List Edt) (hs : ¬ 2500 < s.size) (ha : heavyB a = false) (hb : heavyB b = false) {l : List Itm} (hp : xF s = .inr l) (h : (mrgN (ofT l) a b).2 = 0) (hx : takes (ofT l) (a ++ rebB (ofT l).2.1 a b)) : qT Tryz.prog 4 [is s,.one (.sl rEdt a),.one (.sl rEdt b)] (ib true):=by
  have hva:=heavy_c a;have hvb:=heavy_c b;rw [ha] at hva;rw [hb] at hvb;obtain ⟨hsa,hma⟩:=heavy_ok ha;obtain ⟨hsb,hmb⟩:=heavy_ok hb;have hfa : ∀ e ∈ a,qW e.2.2:=fun e he=>much_ok (hma e he)
  have hfb : ∀ e ∈ b,qW e.2.2:=fun e he=>much_ok (hmb e he)
  have hl:=of_ok s (by omega) hp;have hlk:=of_lok (by omega) hp;have hgd:=ofT_gd hp;obtain ⟨L,hL⟩ : ∃ L,ofT l = L:=⟨_,rfl⟩;rw [hL] at hlk hgd hl h hx;obtain ⟨h0,h3,h5,h6⟩:=mrg_ok h;have hm1:=mrgO_c (k:=1) L a b hlk (by omega) (by omega) hfa hfb h0 h3 h5 h6;obtain ⟨hxc,hxf⟩:=both_good h0 h3 hfa hfb h6;obtain ⟨hx40,_⟩:=chkB_zero hxc;have hx2:=takes_to _ _ hx;obtain ⟨ha1,ha2⟩:=xN h0;obtain ⟨hb1,hb2⟩:=xN h3;have hdx:=(doOk_o (κ:=0) (κ':=0) (k:=1) L (a ++ rebB L.2.1 a b) hlk (by omega) hxf hxc hx2).x;have hda:=(doOk_o (κ:=0) (κ':=0) (k:=1) L a hlk (by omega) hfa ha1 ha2).x;have hdb:=(doOk_o (κ:=0) (κ':=0) (k:=1) L b hlk (by omega) hfb hb1 hb2).x;obtain ⟨f1,f2,f3,f4,f5⟩:=taken_facts hlk hfa hfb h0 h3 h5 hx;have hYk:=run_ok hlk hxf;have hPk:=run_ok hlk hfa;have hQk:=run_ok hlk hfb;rw [run_plays] at hdx hda hdb;obtain ⟨Y,hY⟩ : ∃ Y,runL L (a ++ rebB L.2.1 a b) = Y:=⟨_,rfl⟩;obtain ⟨P,hP⟩ : ∃ P,runL L a = P:=⟨_,rfl⟩;obtain ⟨Q,hQ⟩ : ∃ Q,runL L b = Q:=⟨_,rfl⟩;rw [hY] at hdx hYk;rw [hP] at hda hPk;rw [hQ] at hdb hQk;simp only [hY,hP,hQ] at f1 f2 f3 f4;have hia:=idsT_len L a a.length;have hib:=idsT_len L b b.length;obtain ⟨ma,hma2⟩ : ∃ m,idsT L a a.length = m:=⟨_,rfl⟩;obtain ⟨mb,hmb2⟩ : ∃ m,idsT L b b.length = m:=⟨_,rfl⟩;rw [hma2] at hda hia;rw [hmb2] at hdb hib;simp only [hma2,hmb2] at f2 f3 f4 f5;have hLn:=hlk.next;have hYn:=hYk.next;refine qQ (rs:=[6]) Tryz.func4 rfl rfl rfl teOk rfl ?_;refine qC ?_;refine qB ?_;refine qC ?_;refine qC ?_;refine qB ?_;refine Or.inl ?_;refine zai (rfl) ?_;refine zei _ (zai (alive23_c) ?_);refine qJ rfl (fun h24=>?_) (fun h24=>?_)
  ·try simp only [Bool.not_eq_true'] at h24
   try simp only [zds] at h24
   simp at h24
  ·try simp only [Bool.not_eq_false'] at h24
   try simp only [zds] at h24
   refine qL ?_;refine qC ?_;refine qC ?_;refine qB ?_;refine zai (fun h=>trivial) ?_;refine Or.inl ?_;refine zai (rfl) ?_;refine zei _ (zai (fun h=>⟨⟨⟨h,trivial⟩,trivial⟩,hva⟩) ?_);refine zai (by first|(intro h;rw [h];rfl)|(intro h;cases h)) ?_;refine zai (fun h=>trivial) ?_;refine Or.inl ?_;refine zai (rfl) ?_;refine zei _ (zai (fun h=>⟨⟨⟨h,trivial⟩,trivial⟩,hvb⟩) ?_);refine zai (by first|(intro h;rw [h];rfl)|(intro h;cases h)) ?_;refine qJ rfl (fun h35=>?_) (fun h35=>?_)
   ·try simp only [decide_eq_true_eq,Bool.or_eq_true] at h35
    try simp only [zds] at h35
    exfalso
    simp at h35;omega
   ·try simp only [decide_eq_false_iff_not,Bool.or_eq_false_iff,Int.not_lt] at h35
    try simp only [zds] at h35
    refine qL ?_;refine qC ?_;refine qB ?_;refine Or.inr (Or.inl (zei [] (zei [] (zei _ (zei _ (zei _ (zei _ (zei _ (zai (hl) (zai rfl (zai True.intro (zai rfl ?_))))))))))));refine qC ?_;refine qC ?_;refine qB ?_;refine qJ rfl (fun h42=>?_) (fun h42=>?_)
    ·try simp only [Bool.not_eq_true'] at h42
     try simp only [zds] at h42
     simp at h42
    ·try simp only [Bool.not_eq_false'] at h42
     try simp only [zds] at h42
     refine qL ?_;refine qC ?_;refine qB ?_;refine Or.inr (Or.inr (Or.inl ?_));refine zai rfl ?_;refine zei _ (zai (hm1) ?_);refine qC ?_;refine qC ?_;refine qB ?_;refine qJ rfl (fun h51=>?_) (fun h51=>?_)
     ·try simp only [Bool.not_eq_true'] at h51
      try simp only [zds] at h51
      simp at h51
     ·try simp only [Bool.not_eq_false'] at h51
      try simp only [zds] at h51
      refine qL ?_;refine qC ?_;refine qB ?_;refine Or.inr (Or.inr (Or.inr (zei [] (zei [] (zei _ (zei _ (zei _ (zei _ (zei _ (zai (hdx) (zai rfl (zai True.intro (zai rfl ?_)))))))))))));refine qC ?_;refine qC ?_;refine qB ?_;refine qJ rfl (fun h60=>?_) (fun h60=>?_)
      ·try simp only [Bool.not_eq_true'] at h60
       try simp only [zds] at h60
       simp at h60
      ·try simp only [Bool.not_eq_false'] at h60
       try simp only [zds] at h60
       refine qL ?_;refine qC ?_;refine qB ?_;refine Or.inr (Or.inr (Or.inr (zei [] (zei [] (zei _ (zei _ (zei _ (zei _ (zei _ (zai (hda) (zai rfl (zai True.intro (zai rfl ?_)))))))))))));refine qC ?_;refine qB ?_;refine Or.inr (Or.inr (Or.inr (zei [] (zei [] (zei _ (zei _ (zei _ (zei _ (zei _ (zai (hdb) (zai rfl (zai True.intro (zai rfl ?_)))))))))))));refine qC ?_;refine qC ?_;refine qB ?_;refine zai (fun h=>trivial) ?_;refine zai (fun h=>⟨⟨h,trivial⟩,trivial⟩) ?_;refine zai (by first|(intro h;rw [h];rfl)|(intro h;cases h)) ?_;refine qJ rfl (fun h82=>?_) (fun h82=>?_)
       ·try simp only [Bool.not_eq_true',Bool.or_eq_true] at h82
        try simp only [zds] at h82
        simp at h82
       ·try simp only [Bool.not_eq_false',Bool.or_eq_false_iff] at h82
        try simp only [zds] at h82
        refine qL ?_;refine qC ?_;refine qC ?_;refine qB ?_;refine qN ?_;refine qR (fun (i : Nat)=>1 ≤ i ∧ (i : Int) ≤ L.2.1) (fun (i : Nat)=>[(1,.one (.sl rEdt a)),(2,.one (.sl rEdt b)),(7,.one (.own 0 0)),(10,.one (.own 3 0)),(12,.one (.own 5 0)),(13,.one (.sl (.int .i64) ma)),(14,.one (.own 7 0)),(15,.one (.sl (.int .i64) mb)),(17,ii .i64 i)]) (fun (i : Nat)=>[(0,.box 116 [.vec 1,.lit (.int .i64 L.2.1),.lit (.int .i64 L.2.2)]),(1,.vec 111 rEnt L.1),(3,.box 116 [.vec 2,.lit (.int .i64 Y.2.1),.lit (.int .i64 Y.2.2)]),(2,.vec 111 rEnt Y.1),(5,.box 116 [.vec 4,.lit (.int .i64 P.2.1),.lit (.int .i64 P.2.2)]),(4,.vec 111 rEnt P.1),(7,.box 116 [.vec 6,.lit (.int .i64 Q.2.1),.lit (.int .i64 Q.2.2)]),(6,.vec 111 rEnt Q.1)]) 8 (fun (i : Nat)=>L.2.1.toNat - i) 1 (⟨Nat.le_refl _,by omega⟩) (qP ⟨rfl,rfl,rfl,rfl,rfl,rfl,rfl,rfl,rfl⟩ ⟨rfl,rfl,rfl,rfl,rfl,rfl,rfl,rfl⟩ rfl) ?_;intro i hI0;refine qC ?_;refine qC ?_;refine qB ?_;refine Or.inr (Or.inr (Or.inl ?_));refine zai rfl ?_;refine zei _ (zai (next_c L.1 L.2.1 L.2.2) ?_);refine qJ rfl (fun h86=>?_) (fun h86=>?_)
        ·try simp only [decide_eq_true_eq] at h86
         try simp only [zds] at h86
         have hf1:=f1 i (by omega);refine qL ?_;refine qC ?_;refine qN ?_;refine qC ?_;refine qB ?_;refine qC ?_;refine qC ?_;refine qB ?_;refine Or.inl ?_;refine zai (rfl) ?_;refine zei _ (zai (touches_c a i) ?_);refine qJ rfl (fun h92=>?_) (fun h92=>?_)
         ·try simp only [zbq] at h92
          try simp only [zds] at h92
          rw [if_pos h92] at hf1;refine qB ?_;refine qC ?_;refine qB ?_;refine Or.inr (Or.inr (Or.inl ?_));refine zai rfl ?_;refine zei _ (zai (alike_t Y P i i hYk.f1 hPk.f1 hf1) ?_);refine qJ rfl (fun h103=>?_) (fun h103=>?_)
          ·try simp only [Bool.not_eq_true'] at h103
           try simp only [zds] at h103
           simp at h103
          ·try simp only [Bool.not_eq_false'] at h103
           try simp only [zds] at h103
           refine qL ?_;refine qB ?_;refine zai (by first|omega|assumption|decide|(simp only [zds];omega)|(simp <;> omega)) ?_;exact ⟨i + 1,by omega,by first|omega|(simp <;> omega),qP ⟨rfl,rfl,rfl,rfl,rfl,rfl,rfl,rfl,(qS (by omega))⟩ ⟨rfl,rfl,rfl,rfl,rfl,rfl,rfl,rfl⟩ rfl⟩
         ·try simp only [zbq] at h92
          try simp only [zds] at h92
          rw [if_neg (by rw [h92];decide)] at hf1;refine qC ?_;refine qB ?_;refine Or.inl ?_;refine zai (rfl) ?_;refine zei _ (zai (touches_c b i) ?_);refine qJ rfl (fun h96=>?_) (fun h96=>?_)
          ·try simp only [zbq] at h96
           try simp only [zds] at h96
           rw [if_pos h96] at hf1;refine qB ?_;refine qC ?_;refine qB ?_;refine Or.inr (Or.inr (Or.inl ?_));refine zai rfl ?_;refine zei _ (zai (alike_t Y Q i i hYk.f1 hQk.f1 hf1) ?_);refine qJ rfl (fun h103=>?_) (fun h103=>?_)
           ·try simp only [Bool.not_eq_true'] at h103
            try simp only [zds] at h103
            simp at h103
           ·try simp only [Bool.not_eq_false'] at h103
            try simp only [zds] at h103
            refine qL ?_;refine qB ?_;refine zai (by first|omega|assumption|decide|(simp only [zds];omega)|(simp <;> omega)) ?_;exact ⟨i + 1,by omega,by first|omega|(simp <;> omega),qP ⟨rfl,rfl,rfl,rfl,rfl,rfl,rfl,rfl,(qS (by omega))⟩ ⟨rfl,rfl,rfl,rfl,rfl,rfl,rfl,rfl⟩ rfl⟩
          ·try simp only [zbq] at h96
           try simp only [zds] at h96
           rw [if_neg (by rw [h96];decide)] at hf1;refine qL ?_;refine qC ?_;refine qB ?_;refine Or.inr (Or.inr (Or.inl ?_));refine zai rfl ?_;refine zei _ (zai (alike_t Y L i i hYk.f1 hlk.f1 hf1) ?_);refine qJ rfl (fun h103=>?_) (fun h103=>?_)
           ·try simp only [Bool.not_eq_true'] at h103
            try simp only [zds] at h103
            simp at h103
           ·try simp only [Bool.not_eq_false'] at h103
            try simp only [zds] at h103
            refine qL ?_;refine qB ?_;refine zai (by first|omega|assumption|decide|(simp only [zds];omega)|(simp <;> omega)) ?_;exact ⟨i + 1,by omega,by first|omega|(simp <;> omega),qP ⟨rfl,rfl,rfl,rfl,rfl,rfl,rfl,rfl,(qS (by omega))⟩ ⟨rfl,rfl,rfl,rfl,rfl,rfl,rfl,rfl⟩ rfl⟩
        ·try simp only [decide_eq_false_iff_not,Int.not_lt] at h86
         try simp only [zds] at h86
         refine qV ?_;refine qC ?_;refine qC ?_;refine qB ?_;intro l28_1
         try simp only [zds] at l28_1
         refine qN ?_;refine qR (fun (j : Nat)=>j ≤ ma.length) (fun (j : Nat)=>[(7,.one (.own 0 0)),(10,.one (.own 3 0)),(12,.one (.own 5 0)),(13,.one (.sl (.int .i64) ma)),(14,.one (.own 7 0)),(15,.one (.sl (.int .i64) mb)),(104,.one (.sl (.int .i64) ma)),(105,ii .i64 ma.length),(106,ii .i64 j)]) (fun (j : Nat)=>[(0,.box 116 [.vec 1,.lit (.int .i64 L.2.1),.lit (.int .i64 L.2.2)]),(1,.vec 111 rEnt L.1),(3,.box 116 [.vec 2,.lit (.int .i64 Y.2.1),.lit (.int .i64 Y.2.2)]),(2,.vec 111 rEnt Y.1),(5,.box 116 [.vec 4,.lit (.int .i64 P.2.1),.lit (.int .i64 P.2.2)]),(4,.vec 111 rEnt P.1),(7,.box 116 [.vec 6,.lit (.int .i64 Q.2.1),.lit (.int .i64 Q.2.2)]),(6,.vec 111 rEnt Q.1)]) 8 (fun (j : Nat)=>ma.length - j) 0 (Nat.zero_le _) (qP ⟨rfl,rfl,rfl,rfl,rfl,rfl,rfl,rfl,rfl⟩ ⟨rfl,rfl,rfl,rfl,rfl,rfl,rfl,rfl⟩ rfl) ?_;intro j hI2;refine qC ?_;refine qB ?_;refine qC ?_;refine qJ rfl (fun h107=>?_) (fun h107=>?_)
         ·try simp only [decide_eq_true_eq] at h107
          try simp only [zds] at h107
          have hjl : j < ma.length:=(by omega);have hf2:=f2 _ (yF hjl 0);refine qL ?_;refine qC ?_;refine qN ?_;refine qC ?_;refine qB ?_;refine zai (by first|omega|assumption|decide|(simp only [zds];omega)|(simp <;> omega)) ?_;refine qC ?_;refine qB ?_;refine Or.inr (Or.inr (Or.inl ?_));refine zai rfl ?_;refine zei _ (zai (alike_t Y P (ma.getD j 0) (ma.getD j 0) hYk.f1 hPk.f1 hf2) ?_);refine qJ rfl (fun h115=>?_) (fun h115=>?_)
          ·try simp only [Bool.not_eq_true'] at h115
           try simp only [zds] at h115
           simp at h115
          ·try simp only [Bool.not_eq_false'] at h115
           try simp only [zds] at h115
           refine qL ?_;refine qB ?_;refine zai (by first|omega|assumption|decide|(simp only [zds];omega)|(simp <;> omega)) ?_;exact ⟨j + 1,by omega,by first|omega|(simp <;> omega),qP ⟨rfl,rfl,rfl,rfl,rfl,rfl,rfl,rfl,(qS (by omega))⟩ ⟨rfl,rfl,rfl,rfl,rfl,rfl,rfl,rfl⟩ rfl⟩
         ·try simp only [decide_eq_false_iff_not,Int.not_lt] at h107
          try simp only [zds] at h107
          refine qV ?_;refine qC ?_;refine qC ?_;refine qB ?_;intro l34_1
          try simp only [zds] at l34_1
          refine qN ?_;refine qR (fun (n : Nat)=>n ≤ mb.length) (fun (n : Nat)=>[(7,.one (.own 0 0)),(10,.one (.own 3 0)),(13,.one (.sl (.int .i64) ma)),(14,.one (.own 7 0)),(15,.one (.sl (.int .i64) mb)),(117,.one (.sl (.int .i64) mb)),(118,ii .i64 mb.length),(119,ii .i64 n)]) (fun (n : Nat)=>[(0,.box 116 [.vec 1,.lit (.int .i64 L.2.1),.lit (.int .i64 L.2.2)]),(1,.vec 111 rEnt L.1),(3,.box 116 [.vec 2,.lit (.int .i64 Y.2.1),.lit (.int .i64 Y.2.2)]),(2,.vec 111 rEnt Y.1),(7,.box 116 [.vec 6,.lit (.int .i64 Q.2.1),.lit (.int .i64 Q.2.2)]),(6,.vec 111 rEnt Q.1)]) 8 (fun (n : Nat)=>mb.length - n) 0 (Nat.zero_le _) (qP ⟨rfl,rfl,rfl,rfl,rfl,rfl,rfl,rfl⟩ ⟨rfl,rfl,rfl,rfl,rfl,rfl⟩ rfl) ?_;intro n hI4;refine qC ?_;refine qB ?_;refine qC ?_;refine qJ rfl (fun h120=>?_) (fun h120=>?_)
          ·try simp only [decide_eq_true_eq] at h120
           try simp only [zds] at h120
           have hnl : n < mb.length:=(by omega);have hf3:=f3 _ (yF hnl 0);have hf5:=f5 _ (yF hnl 0);refine qL ?_;refine qC ?_;refine qN ?_;refine qC ?_;refine qB ?_;refine zai (by first|omega|assumption|decide|(simp only [zds];omega)|(simp <;> omega)) ?_;refine qC ?_;refine qB ?_;intro l37_3
           try simp only [zds] at l37_3
           refine zai (by show -9223372036854775808 ≤ mb.getD n 0 + (ma.length : Int) ∧ mb.getD n 0 + (ma.length : Int) ≤ 9223372036854775807;omega) ?_;refine Or.inr (Or.inr (Or.inl ?_));refine zai rfl ?_;refine zei _ (zai (alike_t Y Q (mb.getD n 0 + (ma.length : Int)) (mb.getD n 0) hYk.f1 hQk.f1 hf3) ?_);refine qJ rfl (fun h131=>?_) (fun h131=>?_)
           ·try simp only [Bool.not_eq_true'] at h131
            try simp only [zds] at h131
            simp at h131
           ·try simp only [Bool.not_eq_false'] at h131
            try simp only [zds] at h131
            refine qL ?_;refine qB ?_;refine zai (by first|omega|assumption|decide|(simp only [zds];omega)|(simp <;> omega)) ?_;exact ⟨n + 1,by omega,by first|omega|(simp <;> omega),qP ⟨rfl,rfl,rfl,rfl,rfl,rfl,rfl,(qS (by omega))⟩ ⟨rfl,rfl,rfl,rfl,rfl,rfl⟩ rfl⟩
          ·try simp only [decide_eq_false_iff_not,Int.not_lt] at h120
           try simp only [zds] at h120
           refine qV ?_;refine qC ?_;refine qB ?_;refine Or.inr (Or.inr (Or.inl ?_));refine zai rfl ?_;refine zei _ (zai (next_c Y.1 Y.2.1 Y.2.2) ?_);refine Or.inr (Or.inr (Or.inl ?_));refine zai rfl ?_;refine zei _ (zai (next_c L.1 L.2.1 L.2.2) ?_);intro l40_5
           try simp only [zds] at l40_5
           refine zai (by omega) ?_;intro l40_8
           try simp only [zds] at l40_8
           refine zai (by omega) ?_;refine qM ?_;exact ib_eq (by simp;omega)
theorem MergeTaken_c (s : ByteArray) (a b : List Edt) : qT Tryz.prog 4 [is s,.one (.sl rEdt a),.one (.sl rEdt b)] (ib true):=by
  by_cases h : 2500 < s.size ∨ heavyB a = true ∨ heavyB b = true
  · exact MTaken_big s a b h
  · have hs : ¬ 2500 < s.size:=fun e=>h (.inl e)
    have ha : heavyB a = false:=by simpa using fun e=>h (.inr (.inl e))
    have hb : heavyB b = false:=by simpa using fun e=>h (.inr (.inr e))
    rcases hp : xF s with ⟨i,n⟩|l
    · exact MTaken_err s a b hs ha hb hp
    · by_cases h0 : (mrgN (ofT l) a b).2 = 0
      · obtain ⟨g0,g3,g5,g6⟩:=mrg_ok h0;obtain ⟨hsa,hma⟩:=heavy_ok ha;obtain ⟨hsb,hmb⟩:=heavy_ok hb;have hfa : ∀ e ∈ a,qW e.2.2:=fun e he=>much_ok (hma e he)
        have hfb : ∀ e ∈ b,qW e.2.2:=fun e he=>much_ok (hmb e he)
        obtain ⟨t1,k1,_,_⟩:=doR_takes g0;obtain ⟨t2,k2,_,_⟩:=doR_takes g3;rcases both_run (of_lok (by omega) hp) hfa hfb k1 k2 t1 t2 (clash_clear g5) with ⟨t3,_⟩|g
        · exact MTaken_ok s a b hs ha hb hp h0 (takes_app t1 t3)
        · exact MTaken_full s a b hs ha hb hp h0 (full_app t1 g)
      · rcases erB_cases h0 with ⟨n,hn,_,e⟩|⟨i,n,hn,he,e⟩
        · exact MTaken_N s a b hs ha hb hp n hn e
        · rw [e] at he;exact MTaken_F s a b hs ha hb hp i n hn e he
end Q
end Ab
end Go.Proofs.YtpfkncffaanjcaaGreatDoor
namespace Go.Proofs.YtpfkncffaanjcaaGreatDoor
open Go.RowKit
namespace Ab
set_option maxRecDepth 100000
theorem o_str : Opens Tryz.prog 9 .str:=opens_str Tryz.underlying9 (by kernel_rfl)
theorem o_int : Opens Tryz.prog 3 (.int .i64):=opens_int Tryz.underlying3 (by kernel_rfl)
theorem o_field : Opens Tryz.prog 82 (.st .str .str):=opens_st Tryz.underlying82 (by kernel_rfl) (.cons rfl o_str (.one rfl o_str))
theorem o_fields : Opens Tryz.prog 44 (.sl (.st .str .str)):=opens_sl (by decide) Tryz.underlying44 (by kernel_rfl) o_field
theorem maxAt {W : World} (h : W.ShapedOpen Tryz.prog) : MaxCell W:=cell_of_shapedOpen_int (g:=1) (t:=3) (zero:=#[.int .i64 0]) h (of_decide_eq_true (by kernel_rfl)) (by kernel_rfl) rfl (by kernel_rfl) (by kernel_rfl) Tryz.underlying3
theorem lt_of_cell0 {W : World} {b : Nat} {v : Value} (h : W.cell? ⟨b,0,none⟩ = some v) : b < W.heap.size:=by
  rcases Nat.lt_or_ge b W.heap.size with h1|h1
  · exact h1
  · exfalso
    simp only [World.cell?,Array.getElem?_eq_none h1] at h;cases h
theorem o_edit : Opens Tryz.prog 46 (.st (.int .i64) (.st (.int .i64) (.sl (.st .str .str)))):=opens_st Tryz.underlying46 (by kernel_rfl) (.cons rfl o_int (.cons rfl o_int (.one rfl o_fields)))
theorem o_edits : Opens Tryz.prog 22 (.sl (.st (.int .i64) (.st (.int .i64) (.sl (.st .str .str))))):=opens_sl (by decide) Tryz.underlying22 (by kernel_rfl) o_edit
theorem open_edits {H : Type} {enc : TypeId × Value → H} {W : World} {base : Nat} {v : Value} {d : DataW H} {p : List MemPlace} (hv : Value.okWide Tryz.prog W .any base 22 v) (h : DataW.Trod enc Tryz.prog W 0 (fun _=>true) true 22 v d p) :
    ∃ xs,(C.sl (.st (.int .i64) (.st (.int .i64) (.sl (.st .str .str)))) xs).rep AllOk yR W v:=open_sl Tryz.underlying22 o_edits hv h
theorem et : Tryz.prog.globalNamed "errors.errorType" = some 0 := by kernel_rfl
theorem rt : (Tryz.prog.cutTypes.find? (·.1 == "internal/reflectlite.rtype")).map (·.2) = some 239 := by kernel_rfl
theorem oneRow : ((List.range Tryz.prog.types.size).filter fun t=>Tryz.prog.rowNamed t [101,114,114,111,114]) = [34]:=by kernel_rfl
theorem errHandle : typeHandle Tryz.prog 34 = .pointer (some ⟨3 + 1,34,none⟩):=by kernel_rfl
abbrev errDatum : String × DataW Unit := ("errors.errorType", .iface "internal/reflectlite.rtype" (.agg [.ptr (.lit (.string [101, 114, 114, 111, 114]))]))
theorem errAt {W : World} {l : List (String × DataW Unit)} (hm : errDatum ∈ l) (h : laidMetH Tryz.prog l W) : W.cell? ⟨0,0,none⟩ = some (.iface 239 (.agg #[.pointer (some ⟨3 + 1,34,none⟩)])):=by
  obtain ⟨name,u,ty,e1,e2,e3,e4,e5⟩:=(laidMetH_iff.1 h).2 _ (List.mem_filter.2 ⟨hm,rfl⟩);have en : name = [101,114,114,111,114]:=(Option.some.inj e1).symm;subst en;obtain rfl:=Option.some.inj (rt.symm.trans e2);have hm : ty ∈ (List.range Tryz.prog.types.size).filter fun t=>Tryz.prog.rowNamed t [101,114,114,111,114]:=List.mem_filter.2 ⟨List.mem_range.2 e3,e4⟩
  rw [oneRow] at hm;obtain rfl:=List.mem_singleton.1 hm;rw [errHandle] at e5
  simpa using World.var?_cell et e5 0
theorem globAtH {W : World} (h : W.ShapedOpen Tryz.prog) {l : List (String × DataW Unit)} (hm : errDatum ∈ l) (hL : laidMetH Tryz.prog l W) : GlobAt AllOk W:=by
  have hc : GlobCell W:=⟨maxAt h,errAt hm hL⟩;refine ⟨fun _ _=>trivial,?_,hc⟩;obtain ⟨⟨m,h1⟩,h2⟩:=hc;have h1:=lt_of_cell0 h1;have h2:=lt_of_cell0 h2;unfold nGlob;omega
theorem laidMet_lay {P : Program} {w0 : World} {laid : List (String × DataW Unit)} (args : Array Value)
    (hf : w0.layFits P laid [] = true) (hi : w0.layIfaces P laid (w0.layVars P laid) = true) : laidMet P laid ((w0.layVars P laid).forCall (fun _ _=>0) ⟨#[],args,[]⟩).memory:=by
  have e1 : (laid.filter fun x=>(laid.map (·.1)).contains x.1) = laid:=List.filter_eq_self.2 fun x hx=>List.contains_iff_mem.2 (List.mem_map.2 ⟨x,hx,rfl⟩)
  have e2 : (laid.filter fun x=>!(laid.map (·.1)).contains x.1) = []:=List.filter_eq_nil_iff.2 fun x hx=>by rw [List.contains_iff_mem.2 (List.mem_map.2 ⟨x,hx,rfl⟩)];simp
  have h : laidMet P laid (w0.layVars P laid):=laidMet_layVars (w0:=w0) (laid.map (·.1)) [] (by rw [e1]) (by rw [e1];exact hf) (by rw [e1];exact hi) (by rw [e2];exact LaidIn.none);exact h.of_heap (by simp [World.memory,World.forCall,Input.heap])
noncomputable def errWorld (os : Os) : World :=
  let w0:=World.holding Tryz.prog os ⟨#[],#[],[]⟩
  { w0 with heap:=w0.heap.modify 0 fun
      | .cells _ t frozen=>.cells #[.iface 239 (.agg #[.pointer (some ⟨3 + 1,34,none⟩)])] t frozen
      | o=>o }
noncomputable def laidWit (os : Os) (l : List (String × DataW Unit)) : World:=(errWorld os).layVars Tryz.prog (l.filter fun x=>x.2.handleName?.isNone)
theorem laidWit_os (os : Os) (l : List (String × DataW Unit)) : (laidWit os l).os = os:=World.layVars_os _ _ _
end Ab
end Go.Proofs.YtpfkncffaanjcaaGreatDoor
