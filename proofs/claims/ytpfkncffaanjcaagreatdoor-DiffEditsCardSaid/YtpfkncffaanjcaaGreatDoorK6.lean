/-
  The texts of this proof, joined: abstract values, the library, the functions of the program and what they compute (part 6). No condition.
-/
import Derived.Shelf.Vars
import Derived.KernelRfl
import Derived.LaidHandle
import Derived.LaidSub
import Derived.LaidMore
import Derived.Lay
import Derived.FnData
import Derived.Test.YtpfkncffaanjcaaGreatDoorK1
import Derived.Test.YtpfkncffaanjcaaGreatDoorK2
import Derived.Test.YtpfkncffaanjcaaGreatDoorK3
import Derived.Test.YtpfkncffaanjcaaGreatDoorK4
import Derived.Test.YtpfkncffaanjcaaGreatDoorK5
namespace Go.Proofs.YtpfkncffaanjcaaGreatDoor
open Go.RowKit
namespace Ab
set_option maxRecDepth 100000
namespace Q
theorem isN1_c : qU Tryz.prog 29 [.one (errN 1),ii .i64 1] (ib true):=by
  refine qW (rs:=[4]) Tryz.func29 rfl rfl rfl teOk rfl ?_;refine qC ?_;refine qB ?_;refine qC ?_;refine qB ?_;refine Or.inl ?_;refine zai (rfl) ?_;refine zei _ (zai (num_errno 1 (by decide)) ?_);refine qL ?_;rfl
theorem dmuchF_c (l : List (List Fld)) : qU Tryz.prog 38 [.one (.full (.sl (.sl rFld)) [l])] (ib ([l].any muchR)):=by
  refine acall_arg (fun ok ρ w vs h=>?_) (dmuch_c [l]);obtain ⟨v,r,rfl,h1,h3⟩:=h;exact ⟨v,_,rfl,h1.1,h3⟩
theorem muchR_ok {rows : List (List Fld)} (h : muchR rows = false) : rows.length ≤ 14 ∧ ∀ f ∈ rows,yJ f:=by
  unfold muchR at h;obtain ⟨h1,h2⟩:=Bool.or_eq_false_iff.1 h;exact ⟨by have:=of_decide_eq_false h1;omega,fun f hf=>much_ok (by simpa using List.any_eq_false.1 h2 f hf)⟩
theorem chk3 (l : List Fld) : ((chkR l).2 = 0 ∧ chkA l = .lit .nilIface) ∨ (∃ n,chkA l = errN n) ∨ ∃ a n,chkA l = errF a n:=by
  by_cases h : (chkR l).2 = 0
  · exact .inl ⟨h,(chk_good h).2.2⟩
  · obtain ⟨e,h1,⟨n,_,h2,_⟩|⟨i,n,_,h2,_⟩⟩:=chk_bad h
    · exact .inr (.inl ⟨n,h1.trans h2⟩)
    · exact .inr (.inr ⟨i,n,h1.trans h2⟩)
theorem take_chk {l : List (List Fld)} {i : Nat} (h : i < l.length) (ha : ∀ f ∈ l.take i,(chkR f).2 = 0) (hi : (chkR (l.getD i [])).2 = 0) : ∀ f ∈ l.take (i + 1),(chkR f).2 = 0:=by
  intro f hf;rw [← yI [] h] at hf;rcases List.mem_append.1 hf with hf|hf
  · exact ha f hf
  · rw [List.mem_singleton.1 hf];exact hi
theorem DE_big (s : ByteArray) (rows : List (List Fld)) (h : 2000 < s.size ∨ muchR rows = true) : qU Tryz.prog 7 [is s,.one (.sl (.sl rFld) rows)] (ib true):=by
  refine qW (rs:=[4]) Tryz.func7 rfl rfl rfl teOk rfl ?_;refine qC ?_;refine qB ?_;refine qC ?_;refine qC ?_;refine qB ?_;refine Or.inl ?_;refine zai (rfl) ?_;refine zei _ (zai (dalive_c) ?_);refine qK rfl (fun h20=>?_) (fun h20=>?_)
  ·try simp only [Bool.not_eq_true'] at h20
   try simp only [zds] at h20
   simp at h20
  ·try simp only [Bool.not_eq_false'] at h20
   try simp only [zds] at h20
   refine qM ?_;refine qC ?_;refine qC ?_;refine qB ?_;refine zai (fun h=>trivial) ?_;refine zai (fun h=>⟨⟨h,trivial⟩,trivial⟩) ?_;refine Or.inl ?_;refine zai (rfl) ?_;refine zei _ (zai (fun h=>⟨⟨⟨h,trivial⟩,trivial⟩,dmuchF_c _⟩) ?_);refine zai (by first|(intro h;rw [h];rfl)|(intro h;cases h)) ?_;refine qK rfl (fun h28=>?_) (fun h28=>?_)
   ·try simp only [decide_eq_true_eq,Bool.or_eq_true] at h28
    try simp only [zds] at h28
    refine qC ?_;refine qB ?_;refine qL ?_;rfl
   ·try simp only [decide_eq_false_iff_not,Bool.or_eq_false_iff,Int.not_lt] at h28
    try simp only [zds] at h28
    exfalso
    obtain ⟨g1,g2⟩:=h28;exact h.elim (fun h=>by omega) (fun h=>by simp [Rd.move_rfl,h] at g2)
theorem DE_err (s : ByteArray) (rows : List (List Fld)) (hs : ¬ 2000 < s.size) (hm : muchR rows = false) {at_ n : Int} (hp : xG s = .inl (at_,n)) : qU Tryz.prog 7 [is s,.one (.sl (.sl rFld) rows)] (ib true):=by
  have hl:=of_err s (by omega) hp;have hr:=refOf_err s (by omega) hp;have hne:=parse_ne hp;refine qW (rs:=[4]) Tryz.func7 rfl rfl rfl teOk rfl ?_;refine qC ?_;refine qB ?_;refine qC ?_;refine qC ?_;refine qB ?_;refine Or.inl ?_;refine zai (rfl) ?_;refine zei _ (zai (dalive_c) ?_);refine qK rfl (fun h20=>?_) (fun h20=>?_)
  ·try simp only [Bool.not_eq_true'] at h20
   try simp only [zds] at h20
   simp at h20
  ·try simp only [Bool.not_eq_false'] at h20
   try simp only [zds] at h20
   refine qM ?_;refine qC ?_;refine qC ?_;refine qB ?_;refine zai (fun h=>trivial) ?_;refine zai (fun h=>⟨⟨h,trivial⟩,trivial⟩) ?_;refine Or.inl ?_;refine zai (rfl) ?_;refine zei _ (zai (fun h=>⟨⟨⟨h,trivial⟩,trivial⟩,dmuchF_c _⟩) ?_);refine zai (by first|(intro h;rw [h];rfl)|(intro h;cases h)) ?_;refine qK rfl (fun h28=>?_) (fun h28=>?_)
   ·try simp only [decide_eq_true_eq,Bool.or_eq_true] at h28
    try simp only [zds] at h28
    exfalso
    exact h28.elim (fun h=>by omega) (fun h=>by simp [Rd.move_rfl,hm] at h)
   ·try simp only [decide_eq_false_iff_not,Bool.or_eq_false_iff,Int.not_lt] at h28
    try simp only [zds] at h28
    refine qM ?_;refine qC ?_;refine qB ?_;refine Or.inl ?_;refine zai (rfl) ?_;refine zei _ (zai (hl) ?_);refine qC ?_;refine qB ?_;refine Or.inl ?_;refine zai (rfl) ?_;refine zei _ (zai (hr) ?_);refine qC ?_;refine qC ?_;refine qB ?_;refine zai (fun h=>trivial) ?_;refine zai (fun h=>⟨⟨h,trivial⟩,trivial⟩) ?_;refine zai (by first|(intro h;rw [h];rfl)|(intro h;cases h)) ?_;refine qK rfl (fun h45=>?_) (fun h45=>?_)
    ·try simp only [decide_eq_false_iff_not,Bool.not_eq_true',Bool.or_eq_true] at h45
     try simp only [zds] at h45
     refine qC ?_;refine qB ?_;refine zai (fun h=>trivial) ?_;refine zai (fun h=>⟨⟨h,trivial⟩,trivial⟩) ?_;refine zai (by exact fun h=>h) ?_;refine qL ?_;exact ib_eq (by simp [hne])
    ·try simp only [decide_eq_true_eq,Bool.not_eq_false',Bool.or_eq_false_iff] at h45
     try simp only [zds] at h45
     simp at h45
theorem DE_many (s : ByteArray) (rows : List (List Fld)) (hs : ¬ 2000 < s.size) (hm : muchR rows = false) {l : List Itm} (hp : xG s = .inr l) (h : 40 < (edsL (ofT l) rows).length) : qU Tryz.prog 7 [is s,.one (.sl (.sl rFld) rows)] (ib true):=by
  have hl:=of_ok s (by omega) hp;have hr:=refOf_ok s (by omega) hp;have hlk:=of_lok (by omega) hp;have hgd:=ofT_gd hp;rw [show (numI 1 l,1 + (cntR l : Int)) = ((ofT l).1,(ofT l).2.1) from rfl] at hr;obtain ⟨L,hL⟩ : ∃ L,ofT l = L:=⟨_,rfl⟩;rw [hL] at hlk hgd hl hr h;obtain ⟨h14,hfy⟩:=muchR_ok hm;have hm4:=hgd.m4;have hxl:=drow_len hlk;have hfx:=drow_flds hlk;have hll:=hlk.len;have hfl : ∀ e ∈ L.1,e.1.2.2.length ≤ 1000000:=fun e he=>Nat.le_trans (hlk.flds e he).1 (by decide)
  have hre:=refEdits_c L rows hlk (by decide) (by omega) (by omega) hfy;have hed:=edits_many (k:=1) L rows hlk (by decide) (by omega) (by omega) hfy h;refine qW (rs:=[4]) Tryz.func7 rfl rfl rfl teOk rfl ?_;refine qC ?_;refine qB ?_;refine qC ?_;refine qC ?_;refine qB ?_;refine Or.inl ?_;refine zai (rfl) ?_;refine zei _ (zai (dalive_c) ?_);refine qK rfl (fun h20=>?_) (fun h20=>?_)
  ·try simp only [Bool.not_eq_true'] at h20
   try simp only [zds] at h20
   simp at h20
  ·try simp only [Bool.not_eq_false'] at h20
   try simp only [zds] at h20
   refine qM ?_;refine qC ?_;refine qC ?_;refine qB ?_;refine zai (fun h=>trivial) ?_;refine zai (fun h=>⟨⟨h,trivial⟩,trivial⟩) ?_;refine Or.inl ?_;refine zai (rfl) ?_;refine zei _ (zai (fun h=>⟨⟨⟨h,trivial⟩,trivial⟩,dmuchF_c _⟩) ?_);refine zai (by first|(intro h;rw [h];rfl)|(intro h;cases h)) ?_;refine qK rfl (fun h28=>?_) (fun h28=>?_)
   ·try simp only [decide_eq_true_eq,Bool.or_eq_true] at h28
    try simp only [zds] at h28
    exfalso
    exact h28.elim (fun h=>by omega) (fun h=>by simp [Rd.move_rfl,hm] at h)
   ·try simp only [decide_eq_false_iff_not,Bool.or_eq_false_iff,Int.not_lt] at h28
    try simp only [zds] at h28
    refine qM ?_;refine qC ?_;refine qB ?_;refine Or.inr (Or.inl (zei [] (zei [] (zei _ (zei _ (zei _ (zei _ (zei _ (zai (hl) (zai rfl (zai True.intro (zai rfl ?_))))))))))));refine qC ?_;refine qB ?_;refine Or.inl ?_;refine zai (rfl) ?_;refine zei _ (zai (hr) ?_);refine qC ?_;refine qC ?_;refine qB ?_;refine zai (fun h=>trivial) ?_;refine zai (fun h=>⟨⟨h,trivial⟩,trivial⟩) ?_;refine zai (by first|(intro h;rw [h];rfl)|(intro h;cases h)) ?_;refine qK rfl (fun h45=>?_) (fun h45=>?_)
    ·try simp only [decide_eq_false_iff_not,Bool.not_eq_true',Bool.or_eq_true] at h45
     try simp only [zds] at h45
     simp at h45
    ·try simp only [decide_eq_true_eq,Bool.not_eq_false',Bool.or_eq_false_iff] at h45
     try simp only [zds] at h45
     refine qM ?_;refine qC ?_;refine qB ?_;refine qC ?_;refine qC ?_;refine qB ?_;intro l10_1
     try simp only [zds] at l10_1
     refine qO ?_;refine qV (fun (i : Nat)=>i ≤ rows.length) (fun (i : Nat)=>[(1,.one (.sl (.sl rFld) rows)),(5,.one (.own 0 0)),(7,.one (.own 2 0)),(10,.one (.vec 3)),(53,.one (.sl (.sl rFld) rows)),(54,ii .i64 rows.length),(55,ii .i64 i)]) (fun (i : Nat)=>[(0,.box 116 [.vec 1,.lit (.int .i64 L.2.1),.lit (.int .i64 L.2.2)]),(1,.vec 111 rEnt L.1),(2,.box 28 (toL rRL (L.1,L.2.1))),(3,.vec 44 (.sl rFld) (rows.take i))]) 4 (fun (i : Nat)=>rows.length - i) 0 (Nat.zero_le _) (qQ ⟨rfl,rfl,rfl,rfl,rfl,rfl,rfl⟩ ⟨rfl,rfl,rfl,rfl⟩ rfl) ?_;intro i hI0;refine qC ?_;refine qB ?_;refine qC ?_;refine qK rfl (fun h56=>?_) (fun h56=>?_)
     ·try simp only [decide_eq_true_eq] at h56
      try simp only [zds] at h56
      have hil : i < rows.length:=(by omega);have hff:=hfy _ (yT hil []);refine qM ?_;refine qC ?_;refine qO ?_;refine qC ?_;refine qB ?_;refine zai (by first|omega|assumption|decide|(simp only [zds];omega)|(simp <;> omega)) ?_;refine qB ?_;refine Or.inl ?_;refine zai (rfl) ?_;refine zei _ (zai (copies_c _ hff.1) ?_);refine zai (by exact qP (show (rows.take i).length + 1 ≤ 1000000000 by rw [List.length_take];omega) (by decide)) ?_;refine qB ?_;refine zai (by first|omega|assumption|decide|(simp only [zds];omega)|(simp <;> omega)) ?_;exact ⟨i + 1,by omega,by first|omega|(simp <;> omega),qQ ⟨rfl,rfl,rfl,rfl,rfl,rfl,(qR (by omega))⟩ ⟨rfl,rfl,rfl,(qS (by rw [← yI [] hil];exact rfl))⟩ rfl⟩
     ·try simp only [decide_eq_false_iff_not,Int.not_lt] at h56
      try simp only [zds] at h56
      refine qZ ?_;rw [List.take_of_length_le (show rows.length ≤ i by omega)];refine qC ?_;refine yG [3] ?_;refine qB ?_;refine Or.inr (Or.inr (Or.inl ?_));refine zai rfl ?_;refine zei _ (zai (hed) ?_);refine qC ?_;refine qB ?_;refine Or.inl ?_;refine zai (rfl) ?_;refine zei _ (zai (hre) ?_);refine qC ?_;refine qC ?_;refine acode_draw rfl (by kernel_rfl) ?_;refine zai (rfl) ?_;refine zei _ (zai (rsame_c rows rows hfy hfy) ?_);refine zai (fun h=>trivial) ?_;refine zai (rfl) ?_;refine zei _ (zai (fun h=>⟨⟨⟨h,trivial⟩,trivial⟩,rowsL_c L.1 L.2.1 L.2.2 (by omega) hfl⟩) ?_);refine zai (fun h=>trivial) ?_;refine zai (rfl) ?_;refine zei _ (zai (fun h=>⟨⟨⟨h,trivial⟩,trivial⟩,rRows_c L.1 L.2.1 (by omega)⟩) ?_);refine zai (rfl) ?_;refine zei _ (zai (fun h=>⟨⟨⟨h,trivial⟩,⟨h,trivial⟩,trivial⟩,rsame_c (yW L.1) (yW L.1) hfx hfx⟩) ?_);refine zai (fun h=>⟨⟨h,trivial⟩,trivial⟩) ?_;refine zai (by first|(intro h;rw [h];rfl)|(intro h;cases h)) ?_;refine qK rfl (fun h85=>?_) (fun h85=>?_)
      ·try simp only [decide_eq_false_iff_not,Bool.not_eq_true',Bool.or_eq_true] at h85
       try simp only [zds] at h85
       simp at h85
      ·try simp only [decide_eq_true_eq,Bool.not_eq_false',Bool.or_eq_false_iff] at h85
       try simp only [zds] at h85
       refine qM ?_;refine qC ?_;refine qC ?_;refine qB ?_;intro l19_1
       try simp only [zds] at l19_1
       refine qK rfl (fun h88=>?_) (fun h88=>?_)
       ·try simp only [decide_eq_true_eq] at h88
        try simp only [zds] at h88
        refine qC ?_;refine qB ?_;refine Or.inl ?_;refine zai (rfl) ?_;refine zei _ (zai (isN1_c) ?_);refine zai (fun h=>trivial) ?_;refine zai (fun h=>⟨⟨h,trivial⟩,trivial⟩) ?_;refine zai (fun h=>⟨⟨h,trivial⟩,trivial⟩) ?_;refine zai (by exact fun h=>h) ?_;refine qL ?_;exact ib_eq (by simp)
       ·try simp only [decide_eq_false_iff_not,Int.not_lt] at h88
        try simp only [zds] at h88
        exfalso
        omega
theorem DE_none (s : ByteArray) (rows : List (List Fld)) (hs : ¬ 2000 < s.size) (hm : muchR rows = false) {l : List Itm} (hp : xG s = .inr l) (h0 : edsL (ofT l) rows = []) : qU Tryz.prog 7 [is s,.one (.sl (.sl rFld) rows)] (ib true):=by
  have hl:=of_ok s (by omega) hp;have hr:=refOf_ok s (by omega) hp;have hlk:=of_lok (by omega) hp;have hgd:=ofT_gd hp;rw [show (numI 1 l,1 + (cntR l : Int)) = ((ofT l).1,(ofT l).2.1) from rfl] at hr;obtain ⟨L,hL⟩ : ∃ L,ofT l = L:=⟨_,rfl⟩;rw [hL] at hlk hgd hl hr h0;obtain ⟨h14,hfy⟩:=muchR_ok hm;have hm4:=hgd.m4;have hxl:=drow_len hlk;have hfx:=drow_flds hlk;have hll:=hlk.len;have hfl : ∀ e ∈ L.1,e.1.2.2.length ≤ 1000000:=fun e he=>Nat.le_trans (hlk.flds e he).1 (by decide)
  have hre:=refEdits_c L rows hlk (by decide) (by omega) (by omega) hfy;have h : ¬ 40 < (edsL L rows).length:=by rw [h0];decide
  have hdl:=eds_len L rows;have hed:=edits_yes (k:=1) L rows hlk (by decide) (by omega) (by omega) hfy h;have heq:=eds_none.1 h0;refine qW (rs:=[4]) Tryz.func7 rfl rfl rfl teOk rfl ?_;refine qC ?_;refine qB ?_;refine qC ?_;refine qC ?_;refine qB ?_;refine Or.inl ?_;refine zai (rfl) ?_;refine zei _ (zai (dalive_c) ?_);refine qK rfl (fun h20=>?_) (fun h20=>?_)
  ·try simp only [Bool.not_eq_true'] at h20
   try simp only [zds] at h20
   simp at h20
  ·try simp only [Bool.not_eq_false'] at h20
   try simp only [zds] at h20
   refine qM ?_;refine qC ?_;refine qC ?_;refine qB ?_;refine zai (fun h=>trivial) ?_;refine zai (fun h=>⟨⟨h,trivial⟩,trivial⟩) ?_;refine Or.inl ?_;refine zai (rfl) ?_;refine zei _ (zai (fun h=>⟨⟨⟨h,trivial⟩,trivial⟩,dmuchF_c _⟩) ?_);refine zai (by first|(intro h;rw [h];rfl)|(intro h;cases h)) ?_;refine qK rfl (fun h28=>?_) (fun h28=>?_)
   ·try simp only [decide_eq_true_eq,Bool.or_eq_true] at h28
    try simp only [zds] at h28
    exfalso
    exact h28.elim (fun h=>by omega) (fun h=>by simp [Rd.move_rfl,hm] at h)
   ·try simp only [decide_eq_false_iff_not,Bool.or_eq_false_iff,Int.not_lt] at h28
    try simp only [zds] at h28
    refine qM ?_;refine qC ?_;refine qB ?_;refine Or.inr (Or.inl (zei [] (zei [] (zei _ (zei _ (zei _ (zei _ (zei _ (zai (hl) (zai rfl (zai True.intro (zai rfl ?_))))))))))));refine qC ?_;refine qB ?_;refine Or.inl ?_;refine zai (rfl) ?_;refine zei _ (zai (hr) ?_);refine qC ?_;refine qC ?_;refine qB ?_;refine zai (fun h=>trivial) ?_;refine zai (fun h=>⟨⟨h,trivial⟩,trivial⟩) ?_;refine zai (by first|(intro h;rw [h];rfl)|(intro h;cases h)) ?_;refine qK rfl (fun h45=>?_) (fun h45=>?_)
    ·try simp only [decide_eq_false_iff_not,Bool.not_eq_true',Bool.or_eq_true] at h45
     try simp only [zds] at h45
     simp at h45
    ·try simp only [decide_eq_true_eq,Bool.not_eq_false',Bool.or_eq_false_iff] at h45
     try simp only [zds] at h45
     refine qM ?_;refine qC ?_;refine qB ?_;refine qC ?_;refine qC ?_;refine qB ?_;intro l10_1
     try simp only [zds] at l10_1
     refine qO ?_;refine qV (fun (i : Nat)=>i ≤ rows.length) (fun (i : Nat)=>[(1,.one (.sl (.sl rFld) rows)),(5,.one (.own 0 0)),(7,.one (.own 2 0)),(10,.one (.vec 3)),(53,.one (.sl (.sl rFld) rows)),(54,ii .i64 rows.length),(55,ii .i64 i)]) (fun (i : Nat)=>[(0,.box 116 [.vec 1,.lit (.int .i64 L.2.1),.lit (.int .i64 L.2.2)]),(1,.vec 111 rEnt L.1),(2,.box 28 (toL rRL (L.1,L.2.1))),(3,.vec 44 (.sl rFld) (rows.take i))]) 4 (fun (i : Nat)=>rows.length - i) 0 (Nat.zero_le _) (qQ ⟨rfl,rfl,rfl,rfl,rfl,rfl,rfl⟩ ⟨rfl,rfl,rfl,rfl⟩ rfl) ?_;intro i hI0;refine qC ?_;refine qB ?_;refine qC ?_;refine qK rfl (fun h56=>?_) (fun h56=>?_)
     ·try simp only [decide_eq_true_eq] at h56
      try simp only [zds] at h56
      have hil : i < rows.length:=(by omega);have hff:=hfy _ (yT hil []);refine qM ?_;refine qC ?_;refine qO ?_;refine qC ?_;refine qB ?_;refine zai (by first|omega|assumption|decide|(simp only [zds];omega)|(simp <;> omega)) ?_;refine qB ?_;refine Or.inl ?_;refine zai (rfl) ?_;refine zei _ (zai (copies_c _ hff.1) ?_);refine zai (by exact qP (show (rows.take i).length + 1 ≤ 1000000000 by rw [List.length_take];omega) (by decide)) ?_;refine qB ?_;refine zai (by first|omega|assumption|decide|(simp only [zds];omega)|(simp <;> omega)) ?_;exact ⟨i + 1,by omega,by first|omega|(simp <;> omega),qQ ⟨rfl,rfl,rfl,rfl,rfl,rfl,(qR (by omega))⟩ ⟨rfl,rfl,rfl,(qS (by rw [← yI [] hil];exact rfl))⟩ rfl⟩
     ·try simp only [decide_eq_false_iff_not,Int.not_lt] at h56
      try simp only [zds] at h56
      refine qZ ?_;rw [List.take_of_length_le (show rows.length ≤ i by omega)];refine qC ?_;refine yG [3] ?_;refine qB ?_;refine Or.inr (Or.inr (Or.inl ?_));refine zai rfl ?_;refine zei _ (zai (hed) ?_);refine qC ?_;refine qB ?_;refine Or.inl ?_;refine zai (rfl) ?_;refine zei _ (zai (hre) ?_);refine qC ?_;refine qC ?_;refine acode_draw rfl (by kernel_rfl) ?_;refine zai (rfl) ?_;refine zei _ (zai (rsame_c rows rows hfy hfy) ?_);refine zai (fun h=>trivial) ?_;refine zai (rfl) ?_;refine zei _ (zai (fun h=>⟨⟨⟨h,trivial⟩,trivial⟩,rowsL_c L.1 L.2.1 L.2.2 (by omega) hfl⟩) ?_);refine zai (fun h=>trivial) ?_;refine zai (rfl) ?_;refine zei _ (zai (fun h=>⟨⟨⟨h,trivial⟩,trivial⟩,rRows_c L.1 L.2.1 (by omega)⟩) ?_);refine zai (rfl) ?_;refine zei _ (zai (fun h=>⟨⟨⟨h,trivial⟩,⟨h,trivial⟩,trivial⟩,rsame_c (yW L.1) (yW L.1) hfx hfx⟩) ?_);refine zai (fun h=>⟨⟨h,trivial⟩,trivial⟩) ?_;refine zai (by first|(intro h;rw [h];rfl)|(intro h;cases h)) ?_;refine qK rfl (fun h85=>?_) (fun h85=>?_)
      ·try simp only [decide_eq_false_iff_not,Bool.not_eq_true',Bool.or_eq_true] at h85
       try simp only [zds] at h85
       simp at h85
      ·try simp only [decide_eq_true_eq,Bool.not_eq_false',Bool.or_eq_false_iff] at h85
       try simp only [zds] at h85
       refine qM ?_;refine qC ?_;refine qC ?_;refine qB ?_;intro l19_1
       try simp only [zds] at l19_1
       refine qK rfl (fun h88=>?_) (fun h88=>?_)
       ·try simp only [decide_eq_true_eq] at h88
        try simp only [zds] at h88
        exfalso
        omega
       ·try simp only [decide_eq_false_iff_not,Int.not_lt] at h88
        try simp only [zds] at h88
        refine qM ?_;refine qC ?_;refine qC ?_;refine qB ?_;refine zai (fun h=>trivial) ?_;refine zai (fun h=>trivial) ?_;refine Or.inl ?_;refine zai (rfl) ?_;refine zei _ (zai (fun h=>⟨⟨⟨h,trivial⟩,⟨h,trivial⟩,trivial⟩,edits_c _ _⟩) ?_);refine zai (fun h=>⟨⟨h,trivial⟩,trivial⟩) ?_;refine zai (by first|(intro h;rw [h];rfl)|(intro h;cases h)) ?_;refine zai (fun h=>trivial) ?_;refine zai (fun h=>⟨⟨h,trivial⟩,trivial⟩) ?_;refine zai (fun h=>trivial) ?_;refine Or.inr (zai (by (simp [gq])) (zai (by repeat' (first|exact True.intro|apply zai|rfl|decide|simp)) ?_));refine Or.inr (Or.inr (Or.inl ?_));refine zai rfl ?_;refine zei _ (zai (rowsL_c L.1 L.2.1 L.2.2 (by omega) hfl) ?_);refine zai (fun h=>trivial) ?_;refine Or.inl ?_;refine zai (rfl) ?_;refine zei _ (zai (fun h=>⟨⟨⟨h,trivial⟩,trivial⟩,distance_c (yW L.1) rows (by omega) (by omega) hfx hfy⟩) ?_);refine zai (fun h=>⟨⟨h,trivial⟩,⟨h,trivial⟩,trivial⟩) ?_;refine zai (by first|(intro h;rw [h];rfl)|(intro h;cases h)) ?_;refine qK rfl (fun h112=>?_) (fun h112=>?_)
        ·try simp only [decide_eq_false_iff_not,Bool.not_eq_true',Bool.or_eq_true] at h112
         try simp only [zds] at h112
         exfalso
         simp [hdl] at h112
        ·try simp only [decide_eq_true_eq,Bool.not_eq_false',Bool.or_eq_false_iff] at h112
         try simp only [zds] at h112
         refine qM ?_;refine qC ?_;refine qC ?_;refine qB ?_;intro l23_1
         try simp only [zds] at l23_1
         refine qK rfl (fun h115=>?_) (fun h115=>?_)
         ·try simp only [decide_eq_true_eq] at h115
          try simp only [zds] at h115
          refine qC ?_;refine qB ?_;refine Or.inr (Or.inr (Or.inl ?_));refine zai rfl ?_;refine zei _ (zai (rowsL_c L.1 L.2.1 L.2.2 (by omega) hfl) ?_);refine Or.inl ?_;refine zai (rfl) ?_;refine zei _ (zai (dsame_c (yW L.1) rows hfx hfy) ?_);refine qL ?_;exact ib_eq (decide_eq_true heq)
         ·try simp only [decide_eq_false_iff_not] at h115
          try simp only [zds] at h115
          rw [h0] at h115;exact absurd rfl h115
theorem DE_some (s : ByteArray) (rows : List (List Fld)) (hs : ¬ 2000 < s.size) (hm : muchR rows = false) {l : List Itm} (hp : xG s = .inr l) (h0 : edsL (ofT l) rows ≠ []) (h : ¬ 40 < (edsL (ofT l) rows).length) : qU Tryz.prog 7 [is s,.one (.sl (.sl rFld) rows)] (ib true):=by
  have hl:=of_ok s (by omega) hp;have hr:=refOf_ok s (by omega) hp;have hlk:=of_lok (by omega) hp;have hgd:=ofT_gd hp;rw [show (numI 1 l,1 + (cntR l : Int)) = ((ofT l).1,(ofT l).2.1) from rfl] at hr;obtain ⟨L,hL⟩ : ∃ L,ofT l = L:=⟨_,rfl⟩;rw [hL] at hlk hgd hl hr h0 h;obtain ⟨h14,hfy⟩:=muchR_ok hm;have hm4:=hgd.m4;have hxl:=drow_len hlk;have hfx:=drow_flds hlk;have hll:=hlk.len;have hfl : ∀ e ∈ L.1,e.1.2.2.length ≤ 1000000:=fun e he=>Nat.le_trans (hlk.flds e he).1 (by decide)
  have hre:=refEdits_c L rows hlk (by decide) (by omega) (by omega) hfy;have hdl:=eds_len L rows;have hed:=edits_yes (k:=1) L rows hlk (by decide) (by omega) (by omega) hfy h;refine qW (rs:=[4]) Tryz.func7 rfl rfl rfl teOk rfl ?_;refine qC ?_;refine qB ?_;refine qC ?_;refine qC ?_;refine qB ?_;refine Or.inl ?_;refine zai (rfl) ?_;refine zei _ (zai (dalive_c) ?_);refine qK rfl (fun h20=>?_) (fun h20=>?_)
  ·try simp only [Bool.not_eq_true'] at h20
   try simp only [zds] at h20
   simp at h20
  ·try simp only [Bool.not_eq_false'] at h20
   try simp only [zds] at h20
   refine qM ?_;refine qC ?_;refine qC ?_;refine qB ?_;refine zai (fun h=>trivial) ?_;refine zai (fun h=>⟨⟨h,trivial⟩,trivial⟩) ?_;refine Or.inl ?_;refine zai (rfl) ?_;refine zei _ (zai (fun h=>⟨⟨⟨h,trivial⟩,trivial⟩,dmuchF_c _⟩) ?_);refine zai (by first|(intro h;rw [h];rfl)|(intro h;cases h)) ?_;refine qK rfl (fun h28=>?_) (fun h28=>?_)
   ·try simp only [decide_eq_true_eq,Bool.or_eq_true] at h28
    try simp only [zds] at h28
    exfalso
    exact h28.elim (fun h=>by omega) (fun h=>by simp [Rd.move_rfl,hm] at h)
   ·try simp only [decide_eq_false_iff_not,Bool.or_eq_false_iff,Int.not_lt] at h28
    try simp only [zds] at h28
    refine qM ?_;refine qC ?_;refine qB ?_;refine Or.inr (Or.inl (zei [] (zei [] (zei _ (zei _ (zei _ (zei _ (zei _ (zai (hl) (zai rfl (zai True.intro (zai rfl ?_))))))))))));refine qC ?_;refine qB ?_;refine Or.inl ?_;refine zai (rfl) ?_;refine zei _ (zai (hr) ?_);refine qC ?_;refine qC ?_;refine qB ?_;refine zai (fun h=>trivial) ?_;refine zai (fun h=>⟨⟨h,trivial⟩,trivial⟩) ?_;refine zai (by first|(intro h;rw [h];rfl)|(intro h;cases h)) ?_;refine qK rfl (fun h45=>?_) (fun h45=>?_)
    ·try simp only [decide_eq_false_iff_not,Bool.not_eq_true',Bool.or_eq_true] at h45
     try simp only [zds] at h45
     simp at h45
    ·try simp only [decide_eq_true_eq,Bool.not_eq_false',Bool.or_eq_false_iff] at h45
     try simp only [zds] at h45
     refine qM ?_;refine qC ?_;refine qB ?_;refine qC ?_;refine qC ?_;refine qB ?_;intro l10_1
     try simp only [zds] at l10_1
     refine qO ?_;refine qV (fun (i : Nat)=>i ≤ rows.length) (fun (i : Nat)=>[(1,.one (.sl (.sl rFld) rows)),(5,.one (.own 0 0)),(7,.one (.own 2 0)),(10,.one (.vec 3)),(53,.one (.sl (.sl rFld) rows)),(54,ii .i64 rows.length),(55,ii .i64 i)]) (fun (i : Nat)=>[(0,.box 116 [.vec 1,.lit (.int .i64 L.2.1),.lit (.int .i64 L.2.2)]),(1,.vec 111 rEnt L.1),(2,.box 28 (toL rRL (L.1,L.2.1))),(3,.vec 44 (.sl rFld) (rows.take i))]) 4 (fun (i : Nat)=>rows.length - i) 0 (Nat.zero_le _) (qQ ⟨rfl,rfl,rfl,rfl,rfl,rfl,rfl⟩ ⟨rfl,rfl,rfl,rfl⟩ rfl) ?_;intro i hI0;refine qC ?_;refine qB ?_;refine qC ?_;refine qK rfl (fun h56=>?_) (fun h56=>?_)
     ·try simp only [decide_eq_true_eq] at h56
      try simp only [zds] at h56
      have hil : i < rows.length:=(by omega);have hff:=hfy _ (yT hil []);refine qM ?_;refine qC ?_;refine qO ?_;refine qC ?_;refine qB ?_;refine zai (by first|omega|assumption|decide|(simp only [zds];omega)|(simp <;> omega)) ?_;refine qB ?_;refine Or.inl ?_;refine zai (rfl) ?_;refine zei _ (zai (copies_c _ hff.1) ?_);refine zai (by exact qP (show (rows.take i).length + 1 ≤ 1000000000 by rw [List.length_take];omega) (by decide)) ?_;refine qB ?_;refine zai (by first|omega|assumption|decide|(simp only [zds];omega)|(simp <;> omega)) ?_;exact ⟨i + 1,by omega,by first|omega|(simp <;> omega),qQ ⟨rfl,rfl,rfl,rfl,rfl,rfl,(qR (by omega))⟩ ⟨rfl,rfl,rfl,(qS (by rw [← yI [] hil];exact rfl))⟩ rfl⟩
     ·try simp only [decide_eq_false_iff_not,Int.not_lt] at h56
      try simp only [zds] at h56
      refine qZ ?_;rw [List.take_of_length_le (show rows.length ≤ i by omega)];refine qC ?_;refine yG [3] ?_;refine qB ?_;refine Or.inr (Or.inr (Or.inl ?_));refine zai rfl ?_;refine zei _ (zai (hed) ?_);refine qC ?_;refine qB ?_;refine Or.inl ?_;refine zai (rfl) ?_;refine zei _ (zai (hre) ?_);refine qC ?_;refine qC ?_;refine acode_draw rfl (by kernel_rfl) ?_;refine zai (rfl) ?_;refine zei _ (zai (rsame_c rows rows hfy hfy) ?_);refine zai (fun h=>trivial) ?_;refine zai (rfl) ?_;refine zei _ (zai (fun h=>⟨⟨⟨h,trivial⟩,trivial⟩,rowsL_c L.1 L.2.1 L.2.2 (by omega) hfl⟩) ?_);refine zai (fun h=>trivial) ?_;refine zai (rfl) ?_;refine zei _ (zai (fun h=>⟨⟨⟨h,trivial⟩,trivial⟩,rRows_c L.1 L.2.1 (by omega)⟩) ?_);refine zai (rfl) ?_;refine zei _ (zai (fun h=>⟨⟨⟨h,trivial⟩,⟨h,trivial⟩,trivial⟩,rsame_c (yW L.1) (yW L.1) hfx hfx⟩) ?_);refine zai (fun h=>⟨⟨h,trivial⟩,trivial⟩) ?_;refine zai (by first|(intro h;rw [h];rfl)|(intro h;cases h)) ?_;refine qK rfl (fun h85=>?_) (fun h85=>?_)
      ·try simp only [decide_eq_false_iff_not,Bool.not_eq_true',Bool.or_eq_true] at h85
       try simp only [zds] at h85
       simp at h85
      ·try simp only [decide_eq_true_eq,Bool.not_eq_false',Bool.or_eq_false_iff] at h85
       try simp only [zds] at h85
       refine qM ?_;refine qC ?_;refine qC ?_;refine qB ?_;intro l19_1
       try simp only [zds] at l19_1
       refine qK rfl (fun h88=>?_) (fun h88=>?_)
       ·try simp only [decide_eq_true_eq] at h88
        try simp only [zds] at h88
        exfalso
        omega
       ·try simp only [decide_eq_false_iff_not,Int.not_lt] at h88
        try simp only [zds] at h88
        refine qM ?_;refine qC ?_;refine qC ?_;refine qB ?_;refine zai (fun h=>trivial) ?_;refine zai (fun h=>trivial) ?_;refine Or.inl ?_;refine zai (rfl) ?_;refine zei _ (zai (fun h=>⟨⟨⟨h,trivial⟩,⟨h,trivial⟩,trivial⟩,edits_c _ _⟩) ?_);refine zai (fun h=>⟨⟨h,trivial⟩,trivial⟩) ?_;refine zai (by first|(intro h;rw [h];rfl)|(intro h;cases h)) ?_;refine zai (fun h=>trivial) ?_;refine zai (fun h=>⟨⟨h,trivial⟩,trivial⟩) ?_;refine zai (fun h=>trivial) ?_;refine Or.inr (zai (by (simp [gq])) (zai (by repeat' (first|exact True.intro|apply zai|rfl|decide|simp)) ?_));refine Or.inr (Or.inr (Or.inl ?_));refine zai rfl ?_;refine zei _ (zai (rowsL_c L.1 L.2.1 L.2.2 (by omega) hfl) ?_);refine zai (fun h=>trivial) ?_;refine Or.inl ?_;refine zai (rfl) ?_;refine zei _ (zai (fun h=>⟨⟨⟨h,trivial⟩,trivial⟩,distance_c (yW L.1) rows (by omega) (by omega) hfx hfy⟩) ?_);refine zai (fun h=>⟨⟨h,trivial⟩,⟨h,trivial⟩,trivial⟩) ?_;refine zai (by first|(intro h;rw [h];rfl)|(intro h;cases h)) ?_;refine qK rfl (fun h112=>?_) (fun h112=>?_)
        ·try simp only [decide_eq_false_iff_not,Bool.not_eq_true',Bool.or_eq_true] at h112
         try simp only [zds] at h112
         exfalso
         simp [hdl] at h112
        ·try simp only [decide_eq_true_eq,Bool.not_eq_false',Bool.or_eq_false_iff] at h112
         try simp only [zds] at h112
         refine qM ?_;refine qC ?_;refine qC ?_;refine qB ?_;intro l23_1
         try simp only [zds] at l23_1
         refine qK rfl (fun h115=>?_) (fun h115=>?_)
         ·try simp only [decide_eq_true_eq] at h115
          try simp only [zds] at h115
          exact absurd (List.length_eq_zero_iff.1 (by omega)) h0
         ·try simp only [decide_eq_false_iff_not] at h115
          try simp only [zds] at h115
          refine qM ?_;refine qC ?_;refine qC ?_;refine qB ?_;intro l25_1
          try simp only [zds] at l25_1
          refine qO ?_;refine qV (fun (i : Nat)=>i ≤ rows.length ∧ ∀ f ∈ rows.take i,(chkR f).2 = 0) (fun (i : Nat)=>[(1,.one (.sl (.sl rFld) rows)),(5,.one (.own 0 0)),(13,.one (.sl rEdt (edsL L rows))),(120,.one (.sl (.sl rFld) rows)),(121,ii .i64 rows.length),(122,ii .i64 i)]) (fun (i : Nat)=>[(0,.box 116 [.vec 1,.lit (.int .i64 L.2.1),.lit (.int .i64 L.2.2)]),(1,.vec 111 rEnt L.1)]) 2 (fun (i : Nat)=>rows.length - i) 0 (⟨Nat.zero_le _,by simp⟩) (qQ ⟨rfl,rfl,rfl,rfl,rfl,rfl⟩ ⟨rfl,rfl⟩ rfl) ?_;intro i hI2;obtain ⟨hi,hpre⟩:=hI2;refine qC ?_;refine qB ?_;refine qC ?_;refine qK rfl (fun h123=>?_) (fun h123=>?_)
          ·try simp only [decide_eq_true_eq] at h123
           try simp only [zds] at h123
           have hil : i < rows.length:=(by omega);have hff:=hfy _ (yT hil []);refine qM ?_;refine qC ?_;refine qO ?_;refine qC ?_;refine qB ?_;refine zai (by first|omega|assumption|decide|(simp only [zds];omega)|(simp <;> omega)) ?_;refine qC ?_;have hk:=pcheck_c (κ:=0) (rows.getD i []) hff ; rcases chk3 (rows.getD i []) with ⟨hz,hA⟩|⟨n,hA⟩|⟨a,n,hA⟩ <;> rw [hA] at hk
           ·refine qB ?_;refine Or.inl ?_;refine zai (rfl) ?_;refine zei _ (zai (hk) ?_);refine qK rfl (fun h128=>?_) (fun h128=>?_)
            ·try simp only [Bool.not_eq_true'] at h128
             try simp only [zds] at h128
             cases h128
            ·try simp only [Bool.not_eq_false'] at h128
             try simp only [zds] at h128
             refine qM ?_;refine qB ?_;refine zai (by first|omega|assumption|decide|(simp only [zds];omega)|(simp <;> omega)) ?_;exact ⟨i + 1,⟨by omega,take_chk hil hpre hz⟩,by first|omega|(simp <;> omega),qQ ⟨rfl,rfl,rfl,rfl,rfl,(qR (by omega))⟩ ⟨rfl,rfl⟩ rfl⟩
           ·refine qB ?_;refine Or.inl ?_;refine zai (rfl) ?_;refine zei _ (zai (hk) ?_);refine qK rfl (fun h128=>?_) (fun h128=>?_)
            ·skip
             refine qC ?_;refine qB ?_;refine qL ?_;rfl
            ·try simp only [zbq] at h128
             try simp only [zds] at h128
             cases h128
           ·refine qB ?_;refine Or.inl ?_;refine zai (rfl) ?_;refine zei _ (zai (hk) ?_);refine qK rfl (fun h128=>?_) (fun h128=>?_)
            ·skip
             refine qC ?_;refine qB ?_;refine qL ?_;rfl
            ·try simp only [zbq] at h128
             try simp only [zds] at h128
             cases h128
          ·try simp only [decide_eq_false_iff_not,Int.not_lt] at h123
           try simp only [zds] at h123
           refine qZ ?_;refine qC ?_;rw [List.take_of_length_le (show rows.length ≤ i by omega)] at hpre;have hgo : ∀ f ∈ rows,yJ f ∧ (chkR f).2 = 0:=(fun f hf=>⟨hfy f hf,hpre f hf⟩);obtain ⟨ht,hrw⟩:=eds_takes hlk hgo h h14;have hck:=eds_chk hgo h0 h;have hef : ∀ e ∈ edsL L rows,yJ e.2.2:=(fun e he=>(eds_good hgo e he).2);have hdx:=(doOk_o (κ:=0) (κ':=0) (k:=1) L (edsL L rows) hlk (by omega) hef hck (takes_to _ _ ht)).x;have hYk:=run_ok hlk hef;rw [run_plays] at hdx;obtain ⟨Y,hY⟩ : ∃ Y,runL L (edsL L rows) = Y:=⟨_,rfl⟩;rw [hY] at hdx hYk hrw;have hyl:=hYk.len;have hfY : ∀ e ∈ Y.1,e.1.2.2.length ≤ 1000000:=(fun e he=>Nat.le_trans (hYk.flds e he).1 (by decide));refine qB ?_;refine Or.inr (Or.inr (Or.inr (zei [] (zei [] (zei _ (zei _ (zei _ (zei _ (zei _ (zai (hdx) (zai rfl (zai True.intro (zai rfl ?_)))))))))))));refine qC ?_;refine qB ?_;refine zai (fun h=>trivial) ?_;refine Or.inr (zai (by first|rfl|decide|simp) (zai (by repeat' (first|exact True.intro|apply zai|rfl|decide|simp)) ?_));refine Or.inr (Or.inr (Or.inl ?_));refine zai rfl ?_;refine zei _ (zai (rowsL_c Y.1 Y.2.1 Y.2.2 (by omega) hfY) ?_);refine zai (fun h=>trivial) ?_;refine Or.inl ?_;refine zai (rfl) ?_;refine zei _ (zai (fun h=>⟨⟨⟨h,trivial⟩,trivial⟩,rsame_c (yW Y.1) rows (drow_flds hYk) hfy⟩) ?_);refine zai (by exact fun h=>h) ?_;refine qL ?_;exact ib_eq (by rw [hrw];simp)
theorem DiffEdits_c (s : ByteArray) (rows : List (List Fld)) : qU Tryz.prog 7 [is s,.one (.sl (.sl rFld) rows)] (ib true):=by
  by_cases h : 2000 < s.size ∨ muchR rows = true
  · exact DE_big s rows h
  · have hs : ¬ 2000 < s.size:=fun e=>h (.inl e)
    have hm : muchR rows = false:=by simpa using fun e=>h (.inr e)
    rcases hp : xG s with ⟨i,n⟩|l
    · exact DE_err s rows hs hm hp
    · by_cases h4 : 40 < (edsL (ofT l) rows).length
      · exact DE_many s rows hs hm hp h4
      · by_cases h0 : edsL (ofT l) rows = []
        · exact DE_none s rows hs hm hp h0
        · exact DE_some s rows hs hm hp h0 h4
end Q
end Ab
end Go.Proofs.YtpfkncffaanjcaaGreatDoor
namespace Go.Proofs.YtpfkncffaanjcaaGreatDoor
open Go.RowKit
namespace Ab
set_option maxRecDepth 100000
theorem o_str : Opens Tryz.prog 9 .str:=opens_str Tryz.underlying9 (by kernel_rfl)
theorem o_field : Opens Tryz.prog 82 (.st .str .str):=opens_st Tryz.underlying82 (by kernel_rfl) (.cons rfl o_str (.one rfl o_str))
theorem o_fields : Opens Tryz.prog 44 (.sl (.st .str .str)):=opens_sl (by decide) Tryz.underlying44 (by kernel_rfl) o_field
theorem maxAt {W : World} (h : W.ShapedOpen Tryz.prog) : MaxCell W:=cell_of_shapedOpen_int (g:=1) (t:=3) (zero:=#[.int .i64 0]) h (of_decide_eq_true (by kernel_rfl)) (by kernel_rfl) rfl (by kernel_rfl) (by kernel_rfl) Tryz.underlying3
theorem lt_of_cell0 {W : World} {b : Nat} {v : Value} (h : W.cell? ⟨b,0,none⟩ = some v) : b < W.heap.size:=by
  rcases Nat.lt_or_ge b W.heap.size with h1|h1
  · exact h1
  · exfalso
    simp only [World.cell?,Array.getElem?_eq_none h1] at h;cases h
theorem o_rows : Opens Tryz.prog 68 (.sl (.sl (.st .str .str))):=opens_sl (by decide) Tryz.underlying68 (by kernel_rfl) o_fields
theorem open_rows {H : Type} {enc : TypeId × Value → H} {W : World} {base : Nat} {v : Value} {d : DataW H} {p : List MemPlace} (hv : Value.okWide Tryz.prog W .any base 68 v) (h : DataW.Trod enc Tryz.prog W 0 (fun _=>true) true 68 v d p) :
    ∃ xs,(C.sl (.sl (.st .str .str)) xs).rep AllOk yO W v:=open_sl Tryz.underlying68 o_rows hv h
theorem et : Tryz.prog.globalNamed "errors.errorType" = some 0 := by kernel_rfl
theorem rt : (Tryz.prog.cutTypes.find? (·.1 == "internal/reflectlite.rtype")).map (·.2) = some 239 := by kernel_rfl
theorem oneRow : ((List.range Tryz.prog.types.size).filter fun t=>Tryz.prog.rowNamed t [101,114,114,111,114]) = [34]:=by kernel_rfl
theorem errHandle : typeHandle Tryz.prog 34 = .pointer (some ⟨3 + 1,34,none⟩):=by kernel_rfl
abbrev errDatum : String × DataW Unit := ("errors.errorType", .iface "internal/reflectlite.rtype" (.agg [.ptr (.lit (.string [101, 114, 114, 111, 114]))]))
theorem errAt {W : World} {l : List (String × DataW Unit)} (hm : errDatum ∈ l) (h : laidMetH Tryz.prog l W) : W.cell? ⟨0,0,none⟩ = some (.iface 239 (.agg #[.pointer (some ⟨3 + 1,34,none⟩)])):=by
  obtain ⟨name,u,ty,e1,e2,e3,e4,e5⟩:=(laidMetH_iff.1 h).2 _ (List.mem_filter.2 ⟨hm,rfl⟩);have en : name = [101,114,114,111,114]:=(Option.some.inj e1).symm;subst en;obtain rfl:=Option.some.inj (rt.symm.trans e2);have hm : ty ∈ (List.range Tryz.prog.types.size).filter fun t=>Tryz.prog.rowNamed t [101,114,114,111,114]:=List.mem_filter.2 ⟨List.mem_range.2 e3,e4⟩
  rw [oneRow] at hm;obtain rfl:=List.mem_singleton.1 hm;rw [errHandle] at e5
  simpa using World.var?_cell et e5 0
theorem globAtH {W : World} (h : W.ShapedOpen Tryz.prog) {l : List (String × DataW Unit)} (hm : errDatum ∈ l) (hL : laidMetH Tryz.prog l W) : GlobAt AllOk W:=by
  have hc : GlobCell W:=⟨maxAt h,errAt hm hL⟩;refine ⟨fun _ _=>trivial,?_,hc⟩;obtain ⟨⟨m,h1⟩,h2⟩:=hc;have h1:=lt_of_cell0 h1;have h2:=lt_of_cell0 h2;unfold nGlob;omega
theorem laidMet_lay {P : Program} {w0 : World} {laid : List (String × DataW Unit)} (args : Array Value)
    (hf : w0.layFits P laid [] = true) (hi : w0.layIfaces P laid (w0.layVars P laid) = true) : laidMet P laid ((w0.layVars P laid).forCall (fun _ _=>0) ⟨#[],args,[]⟩).memory:=by
  have e1 : (laid.filter fun x=>(laid.map (·.1)).contains x.1) = laid:=List.filter_eq_self.2 fun x hx=>List.contains_iff_mem.2 (List.mem_map.2 ⟨x,hx,rfl⟩)
  have e2 : (laid.filter fun x=>!(laid.map (·.1)).contains x.1) = []:=List.filter_eq_nil_iff.2 fun x hx=>by rw [List.contains_iff_mem.2 (List.mem_map.2 ⟨x,hx,rfl⟩)];simp
  have h : laidMet P laid (w0.layVars P laid):=laidMet_layVars (w0:=w0) (laid.map (·.1)) [] (by rw [e1]) (by rw [e1];exact hf) (by rw [e1];exact hi) (by rw [e2];exact LaidIn.none);exact h.of_heap (by simp [World.memory,World.forCall,Input.heap])
noncomputable def errWorld (os : Os) : World :=
  let w0:=World.holding Tryz.prog os ⟨#[],#[],[]⟩
  { w0 with heap:=w0.heap.modify 0 fun
      | .cells _ t frozen=>.cells #[.iface 239 (.agg #[.pointer (some ⟨3 + 1,34,none⟩)])] t frozen
      | o=>o }
noncomputable def laidWit (os : Os) (l : List (String × DataW Unit)) : World:=(errWorld os).layVars Tryz.prog (l.filter fun x=>x.2.handleName?.isNone)
theorem laidWit_os (os : Os) (l : List (String × DataW Unit)) : (laidWit os l).os = os:=World.layVars_os _ _ _
end Ab
end Go.Proofs.YtpfkncffaanjcaaGreatDoor
