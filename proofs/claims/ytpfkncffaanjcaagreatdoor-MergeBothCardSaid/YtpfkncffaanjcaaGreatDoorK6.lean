/-
  The texts of this proof, joined: abstract values, the library, the functions of the program and what they compute (part 6). No condition.
-/
import Derived.Shelf.Vars
import Derived.KernelRfl
import Derived.LaidHandle
import Derived.LaidSub
import Derived.LaidMore
import Derived.Lay
import Derived.FnData
import Derived.Test.YtpfkncffaanjcaaGreatDoorK1
import Derived.Test.YtpfkncffaanjcaaGreatDoorK2
import Derived.Test.YtpfkncffaanjcaaGreatDoorK3
import Derived.Test.YtpfkncffaanjcaaGreatDoorK4
import Derived.Test.YtpfkncffaanjcaaGreatDoorK5
namespace Go.Proofs.YtpfkncffaanjcaaGreatDoor
open Go.RowKit
namespace Ab
set_option maxRecDepth 100000
namespace Q
theorem MBoth_big (s : ByteArray) (a b : List Edt) (h : 2500 < s.size ∨ heavyB a = true ∨ heavyB b = true) : qU Tryz.prog 6 [is s,.one (.sl rEdt a),.one (.sl rEdt b)] (ib true):=by
  have hva:=heavy_c a;have hvb:=heavy_c b;refine qR (rs:=[6]) Tryz.func6 rfl rfl rfl teOk rfl ?_;refine qC ?_;refine qB ?_;refine qC ?_;refine qC ?_;refine qB ?_;refine Or.inl ?_;refine zai (rfl) ?_;refine zei _ (zai (alive23_c) ?_);refine qJ rfl (fun h19=>?_) (fun h19=>?_)
  ·try simp only [Bool.not_eq_true'] at h19
   try simp only [zds] at h19
   simp at h19
  ·try simp only [Bool.not_eq_false'] at h19
   try simp only [zds] at h19
   refine qL ?_;refine qC ?_;refine qC ?_;refine qB ?_;refine zai (fun h=>trivial) ?_;refine Or.inl ?_;refine zai (rfl) ?_;refine zei _ (zai (fun h=>⟨⟨⟨h,trivial⟩,trivial⟩,hva⟩) ?_);refine zai (by first|(intro h;rw [h];rfl)|(intro h;cases h)) ?_;refine zai (fun h=>trivial) ?_;refine Or.inl ?_;refine zai (rfl) ?_;refine zei _ (zai (fun h=>⟨⟨⟨h,trivial⟩,trivial⟩,hvb⟩) ?_);refine zai (by first|(intro h;rw [h];rfl)|(intro h;cases h)) ?_;refine qJ rfl (fun h30=>?_) (fun h30=>?_)
   ·try simp only [decide_eq_true_eq,Bool.or_eq_true] at h30
    try simp only [zds] at h30
    refine qC ?_;refine qB ?_;refine qM ?_;rfl
   ·try simp only [decide_eq_false_iff_not,Bool.or_eq_false_iff,Int.not_lt] at h30
    try simp only [zds] at h30
    obtain ⟨⟨g1,g2⟩,g3⟩:=h30;exact absurd h (fun h=>by rcases h with h|h|h;omega;rw [h] at g2;cases g2;rw [h] at g3;cases g3)
theorem editsN_c : qU Tryz.prog 20 [.one (.lit (.slice none 0 0)),.one (.lit (.slice none 0 0))] (ib true):=by
  have h:=edits_c (κ:=0) (κ':=0) [] [];rw [decide_eq_true rfl] at h;exact acall_arg (fun ok ρ w vs h=>by obtain ⟨v,t,rfl,hv,u,s,rfl,hu,hs⟩:=h;exact ⟨v,_,rfl,by rw [show v = _ from hv];exact slOk_nil,u,s,rfl,by rw [show u = _ from hu];exact slOk_nil,hs⟩) h
theorem MBoth_err (s : ByteArray) (a b : List Edt) (hs : ¬ 2500 < s.size) (ha : heavyB a = false) (hb : heavyB b = false) {at_ n : Int} (hp : xF s = .inl (at_,n)) (hn : n ≠ 0) : qU Tryz.prog 6 [is s,.one (.sl rEdt a),.one (.sl rEdt b)] (ib true):=by
  have hva:=heavy_c a;have hvb:=heavy_c b;rw [ha] at hva;rw [hb] at hvb;have hl:=of_err s (by omega) hp;have hr:=refOf_err s (by omega) hp;refine qR (rs:=[6]) Tryz.func6 rfl rfl rfl teOk rfl ?_;refine qC ?_;refine qB ?_;refine qC ?_;refine qC ?_;refine qB ?_;refine Or.inl ?_;refine zai (rfl) ?_;refine zei _ (zai (alive23_c) ?_);refine qJ rfl (fun h19=>?_) (fun h19=>?_)
  ·try simp only [Bool.not_eq_true'] at h19
   try simp only [zds] at h19
   simp at h19
  ·try simp only [Bool.not_eq_false'] at h19
   try simp only [zds] at h19
   refine qL ?_;refine qC ?_;refine qC ?_;refine qB ?_;refine zai (fun h=>trivial) ?_;refine Or.inl ?_;refine zai (rfl) ?_;refine zei _ (zai (fun h=>⟨⟨⟨h,trivial⟩,trivial⟩,hva⟩) ?_);refine zai (by first|(intro h;rw [h];rfl)|(intro h;cases h)) ?_;refine zai (fun h=>trivial) ?_;refine Or.inl ?_;refine zai (rfl) ?_;refine zei _ (zai (fun h=>⟨⟨⟨h,trivial⟩,trivial⟩,hvb⟩) ?_);refine zai (by first|(intro h;rw [h];rfl)|(intro h;cases h)) ?_;refine qJ rfl (fun h30=>?_) (fun h30=>?_)
   ·try simp only [decide_eq_true_eq,Bool.or_eq_true] at h30
    try simp only [zds] at h30
    exfalso
    simp at h30;omega
   ·try simp only [decide_eq_false_iff_not,Bool.or_eq_false_iff,Int.not_lt] at h30
    try simp only [zds] at h30
    refine qL ?_;refine qC ?_;refine qB ?_;refine Or.inl ?_;refine zai (rfl) ?_;refine zei _ (zai (hl) ?_);refine qC ?_;refine qB ?_;refine Or.inl ?_;refine zai (rfl) ?_;refine zei _ (zai (hr) ?_);refine qC ?_;refine qC ?_;refine qB ?_;refine zai (fun h=>trivial) ?_;refine zai (fun h=>⟨⟨h,trivial⟩,trivial⟩) ?_;refine zai (by first|(intro h;rw [h];rfl)|(intro h;cases h)) ?_;refine qJ rfl (fun h47=>?_) (fun h47=>?_)
    ·try simp only [decide_eq_false_iff_not,Bool.not_eq_true',Bool.or_eq_true] at h47
     try simp only [zds] at h47
     refine qC ?_;refine qB ?_;refine zai (fun h=>trivial) ?_;refine zai (fun h=>⟨⟨h,trivial⟩,trivial⟩) ?_;refine zai (by exact fun h=>h) ?_;refine qM ?_
     first|rfl|exact ib_eq (by simp [hn])
    ·try simp only [decide_eq_true_eq,Bool.not_eq_false',Bool.or_eq_false_iff] at h47
     try simp only [zds] at h47
     simp at h47
theorem MBoth_N (s : ByteArray) (a b : List Edt) (hs : ¬ 2500 < s.size) (ha : heavyB a = false) (hb : heavyB b = false) {l : List Itm} (hp : xF s = .inr l) (n : Int) (hn : n ≠ 0) (h : mrgN (ofT l) a b = (-9,n)) : qU Tryz.prog 6 [is s,.one (.sl rEdt a),.one (.sl rEdt b)] (ib true):=by
  have hva:=heavy_c a;have hvb:=heavy_c b;rw [ha] at hva;rw [hb] at hvb;obtain ⟨hsa,hma⟩:=heavy_ok ha;obtain ⟨hsb,hmb⟩:=heavy_ok hb;have hfa : ∀ e ∈ a,yD e.2.2:=fun e he=>much_ok (hma e he)
  have hfb : ∀ e ∈ b,yD e.2.2:=fun e he=>much_ok (hmb e he)
  have hl:=of_ok s (by omega) hp;have hlk:=of_lok (by omega) hp;have hgd:=ofT_gd hp;have hr:=refOf_ok s (by omega) hp;rw [show ((numI 1 l,1 + (cntR l : Int)) : RLs) = ((ofT l).1,(ofT l).2.1) from rfl] at hr;obtain ⟨L,hL⟩ : ∃ L,ofT l = L:=⟨_,rfl⟩;rw [hL] at hlk hgd hl hr h;obtain ⟨hm1,hm2⟩:=mrg_no (k:=1) L a b hlk (by omega) (by omega) hfa hfb (by rw [h];exact hn);rw [h] at hm1 hm2;rw [erB_n hn] at hm1;have hLl:=hlk.len;have hLs:=hgd.sz;have htx:=textL_c (k:=1) L.1 L.2.1 L.2.2 (by omega) hlk.f1 (txt_ok (by omega) (by omega));refine qR (rs:=[6]) Tryz.func6 rfl rfl rfl teOk rfl ?_;refine qC ?_;refine qB ?_;refine qC ?_;refine qC ?_;refine qB ?_;refine Or.inl ?_;refine zai (rfl) ?_;refine zei _ (zai (alive23_c) ?_);refine qJ rfl (fun h19=>?_) (fun h19=>?_)
  ·try simp only [Bool.not_eq_true'] at h19
   try simp only [zds] at h19
   simp at h19
  ·try simp only [Bool.not_eq_false'] at h19
   try simp only [zds] at h19
   refine qL ?_;refine qC ?_;refine qC ?_;refine qB ?_;refine zai (fun h=>trivial) ?_;refine Or.inl ?_;refine zai (rfl) ?_;refine zei _ (zai (fun h=>⟨⟨⟨h,trivial⟩,trivial⟩,hva⟩) ?_);refine zai (by first|(intro h;rw [h];rfl)|(intro h;cases h)) ?_;refine zai (fun h=>trivial) ?_;refine Or.inl ?_;refine zai (rfl) ?_;refine zei _ (zai (fun h=>⟨⟨⟨h,trivial⟩,trivial⟩,hvb⟩) ?_);refine zai (by first|(intro h;rw [h];rfl)|(intro h;cases h)) ?_;refine qJ rfl (fun h30=>?_) (fun h30=>?_)
   ·try simp only [decide_eq_true_eq,Bool.or_eq_true] at h30
    try simp only [zds] at h30
    exfalso
    simp at h30;omega
   ·try simp only [decide_eq_false_iff_not,Bool.or_eq_false_iff,Int.not_lt] at h30
    try simp only [zds] at h30
    refine qL ?_;refine qC ?_;refine qB ?_;refine Or.inr (Or.inl (zei [] (zei [] (zei _ (zei _ (zei _ (zei _ (zei _ (zai (hl) (zai rfl (zai True.intro (zai rfl ?_))))))))))));refine qC ?_;refine qB ?_;refine Or.inl ?_;refine zai (rfl) ?_;refine zei _ (zai (hr) ?_);refine qC ?_;refine qC ?_;refine qB ?_;refine zai (fun h=>trivial) ?_;refine zai (fun h=>⟨⟨h,trivial⟩,trivial⟩) ?_;refine zai (by first|(intro h;rw [h];rfl)|(intro h;cases h)) ?_;refine qJ rfl (fun h47=>?_) (fun h47=>?_)
    ·try simp only [decide_eq_false_iff_not,Bool.not_eq_true',Bool.or_eq_true] at h47
     try simp only [zds] at h47
     simp at h47
    ·try simp only [decide_eq_true_eq,Bool.not_eq_false',Bool.or_eq_false_iff] at h47
     try simp only [zds] at h47
     refine qL ?_;refine qC ?_;refine qB ?_;refine Or.inr (Or.inr (Or.inl ?_));refine zai rfl ?_;refine zei _ (zai (htx) ?_);refine qC ?_;refine qB ?_;refine Or.inr (Or.inr (Or.inl ?_));refine zai rfl ?_;refine zei _ (zai (hm1) ?_);refine qC ?_;refine qB ?_;refine Or.inl ?_;refine zai (rfl) ?_;refine zei _ (zai (hm2) ?_);refine qC ?_;refine qB ?_;refine Or.inl ?_;refine zai (rfl) ?_;refine zei _ (zai (mrgNil_c a b) ?_);refine qC ?_;refine qB ?_;refine Or.inl ?_;refine zai (rfl) ?_;refine zei _ (zai (editsN_c) ?_);refine zai (fun h=>trivial) ?_;refine Or.inl ?_;refine zai (rfl) ?_;refine zei _ (zai (fun h=>⟨⟨⟨h,trivial⟩,trivial⟩,num_errno n hn⟩) ?_);refine zai (fun h=>trivial) ?_;refine zai (fun h=>⟨⟨h,trivial⟩,⟨h,trivial⟩,trivial⟩) ?_;refine zai (by exact fun h=>h) ?_;refine zai (fun h=>trivial) ?_;refine Or.inl ?_;refine zai (rfl) ?_;refine zei _ (zai (fun h=>⟨⟨⟨h,trivial⟩,trivial⟩,at_errno n⟩) ?_);refine zai (fun h=>trivial) ?_;refine zai (fun h=>⟨⟨h,trivial⟩,⟨h,trivial⟩,trivial⟩) ?_;refine zai (by exact fun h=>h) ?_;refine zai (fun h=>trivial) ?_;refine Or.inl ?_;refine zai (rfl) ?_;refine zei _ (zai (fun h=>⟨⟨⟨h,trivial⟩,trivial⟩,htx⟩) ?_);refine zai (fun h=>trivial) ?_;refine zai (fun h=>⟨⟨h,trivial⟩,⟨h,trivial⟩,trivial⟩) ?_;refine zai (by exact fun h=>h) ?_;refine zai (fun h=>trivial) ?_;refine Or.inl ?_;refine zai (rfl) ?_;refine zei _ (zai (fun h=>⟨⟨⟨h,trivial⟩,trivial⟩,isN7_c⟩) ?_);refine zai (by exact fun h=>h) ?_;refine qM ?_
     first|rfl|exact ib_eq (by simp)
theorem MBoth_F (s : ByteArray) (a b : List Edt) (hs : ¬ 2500 < s.size) (ha : heavyB a = false) (hb : heavyB b = false) {l : List Itm} (hp : xF s = .inr l) (i n : Int) (hn : n ≠ 0) (h : mrgN (ofT l) a b = (i,n)) (he : erB (i,n) = errF i n) : qU Tryz.prog 6 [is s,.one (.sl rEdt a),.one (.sl rEdt b)] (ib true):=by
  have hva:=heavy_c a;have hvb:=heavy_c b;rw [ha] at hva;rw [hb] at hvb;obtain ⟨hsa,hma⟩:=heavy_ok ha;obtain ⟨hsb,hmb⟩:=heavy_ok hb;have hfa : ∀ e ∈ a,yD e.2.2:=fun e he=>much_ok (hma e he)
  have hfb : ∀ e ∈ b,yD e.2.2:=fun e he=>much_ok (hmb e he)
  have hl:=of_ok s (by omega) hp;have hlk:=of_lok (by omega) hp;have hgd:=ofT_gd hp;have hr:=refOf_ok s (by omega) hp;rw [show ((numI 1 l,1 + (cntR l : Int)) : RLs) = ((ofT l).1,(ofT l).2.1) from rfl] at hr;obtain ⟨L,hL⟩ : ∃ L,ofT l = L:=⟨_,rfl⟩;rw [hL] at hlk hgd hl hr h;obtain ⟨hm1,hm2⟩:=mrg_no (k:=1) L a b hlk (by omega) (by omega) hfa hfb (by rw [h];exact hn);rw [h] at hm1 hm2;rw [he] at hm1;have hLl:=hlk.len;have hLs:=hgd.sz;have htx:=textL_c (k:=1) L.1 L.2.1 L.2.2 (by omega) hlk.f1 (txt_ok (by omega) (by omega));refine qR (rs:=[6]) Tryz.func6 rfl rfl rfl teOk rfl ?_;refine qC ?_;refine qB ?_;refine qC ?_;refine qC ?_;refine qB ?_;refine Or.inl ?_;refine zai (rfl) ?_;refine zei _ (zai (alive23_c) ?_);refine qJ rfl (fun h19=>?_) (fun h19=>?_)
  ·try simp only [Bool.not_eq_true'] at h19
   try simp only [zds] at h19
   simp at h19
  ·try simp only [Bool.not_eq_false'] at h19
   try simp only [zds] at h19
   refine qL ?_;refine qC ?_;refine qC ?_;refine qB ?_;refine zai (fun h=>trivial) ?_;refine Or.inl ?_;refine zai (rfl) ?_;refine zei _ (zai (fun h=>⟨⟨⟨h,trivial⟩,trivial⟩,hva⟩) ?_);refine zai (by first|(intro h;rw [h];rfl)|(intro h;cases h)) ?_;refine zai (fun h=>trivial) ?_;refine Or.inl ?_;refine zai (rfl) ?_;refine zei _ (zai (fun h=>⟨⟨⟨h,trivial⟩,trivial⟩,hvb⟩) ?_);refine zai (by first|(intro h;rw [h];rfl)|(intro h;cases h)) ?_;refine qJ rfl (fun h30=>?_) (fun h30=>?_)
   ·try simp only [decide_eq_true_eq,Bool.or_eq_true] at h30
    try simp only [zds] at h30
    exfalso
    simp at h30;omega
   ·try simp only [decide_eq_false_iff_not,Bool.or_eq_false_iff,Int.not_lt] at h30
    try simp only [zds] at h30
    refine qL ?_;refine qC ?_;refine qB ?_;refine Or.inr (Or.inl (zei [] (zei [] (zei _ (zei _ (zei _ (zei _ (zei _ (zai (hl) (zai rfl (zai True.intro (zai rfl ?_))))))))))));refine qC ?_;refine qB ?_;refine Or.inl ?_;refine zai (rfl) ?_;refine zei _ (zai (hr) ?_);refine qC ?_;refine qC ?_;refine qB ?_;refine zai (fun h=>trivial) ?_;refine zai (fun h=>⟨⟨h,trivial⟩,trivial⟩) ?_;refine zai (by first|(intro h;rw [h];rfl)|(intro h;cases h)) ?_;refine qJ rfl (fun h47=>?_) (fun h47=>?_)
    ·try simp only [decide_eq_false_iff_not,Bool.not_eq_true',Bool.or_eq_true] at h47
     try simp only [zds] at h47
     simp at h47
    ·try simp only [decide_eq_true_eq,Bool.not_eq_false',Bool.or_eq_false_iff] at h47
     try simp only [zds] at h47
     refine qL ?_;refine qC ?_;refine qB ?_;refine Or.inr (Or.inr (Or.inl ?_));refine zai rfl ?_;refine zei _ (zai (htx) ?_);refine qC ?_;refine qB ?_;refine Or.inr (Or.inr (Or.inl ?_));refine zai rfl ?_;refine zei _ (zai (hm1) ?_);refine qC ?_;refine qB ?_;refine Or.inl ?_;refine zai (rfl) ?_;refine zei _ (zai (hm2) ?_);refine qC ?_;refine qB ?_;refine Or.inl ?_;refine zai (rfl) ?_;refine zei _ (zai (mrgNil_c a b) ?_);refine qC ?_;refine qB ?_;refine Or.inl ?_;refine zai (rfl) ?_;refine zei _ (zai (editsN_c) ?_);refine zai (fun h=>trivial) ?_;refine Or.inl ?_;refine zai (rfl) ?_;refine zei _ (zai (fun h=>⟨⟨⟨h,trivial⟩,trivial⟩,num_fault i n hn⟩) ?_);refine zai (fun h=>trivial) ?_;refine zai (fun h=>⟨⟨h,trivial⟩,⟨h,trivial⟩,trivial⟩) ?_;refine zai (by exact fun h=>h) ?_;refine zai (fun h=>trivial) ?_;refine Or.inl ?_;refine zai (rfl) ?_;refine zei _ (zai (fun h=>⟨⟨⟨h,trivial⟩,trivial⟩,at_fault i n⟩) ?_);refine zai (fun h=>trivial) ?_;refine zai (fun h=>⟨⟨h,trivial⟩,⟨h,trivial⟩,trivial⟩) ?_;refine zai (by exact fun h=>h) ?_;refine zai (fun h=>trivial) ?_;refine Or.inl ?_;refine zai (rfl) ?_;refine zei _ (zai (fun h=>⟨⟨⟨h,trivial⟩,trivial⟩,htx⟩) ?_);refine zai (fun h=>trivial) ?_;refine zai (fun h=>⟨⟨h,trivial⟩,⟨h,trivial⟩,trivial⟩) ?_;refine zai (by exact fun h=>h) ?_;refine zai (fun h=>trivial) ?_;refine Or.inl ?_;refine zai (rfl) ?_;refine zei _ (zai (fun h=>⟨⟨⟨h,trivial⟩,trivial⟩,isN7_c⟩) ?_);refine zai (by exact fun h=>h) ?_;refine qM ?_
     first|rfl|exact ib_eq (by simp)
theorem MBoth_ok (s : ByteArray) (a b : List Edt) (hs : ¬ 2500 < s.size) (ha : heavyB a = false) (hb : heavyB b = false) {l : List Itm} (hp : xF s = .inr l) (h : (mrgN (ofT l) a b).2 = 0) : qU Tryz.prog 6 [is s,.one (.sl rEdt a),.one (.sl rEdt b)] (ib true):=by
  have hva:=heavy_c a;have hvb:=heavy_c b;rw [ha] at hva;rw [hb] at hvb;obtain ⟨hsa,hma⟩:=heavy_ok ha;obtain ⟨hsb,hmb⟩:=heavy_ok hb;have hfa : ∀ e ∈ a,yD e.2.2:=fun e he=>much_ok (hma e he)
  have hfb : ∀ e ∈ b,yD e.2.2:=fun e he=>much_ok (hmb e he)
  have hl:=of_ok s (by omega) hp;have hlk:=of_lok (by omega) hp;have hgd:=ofT_gd hp;have hr:=refOf_ok s (by omega) hp;rw [show ((numI 1 l,1 + (cntR l : Int)) : RLs) = ((ofT l).1,(ofT l).2.1) from rfl] at hr;obtain ⟨L,hL⟩ : ∃ L,ofT l = L:=⟨_,rfl⟩;rw [hL] at hlk hgd hl hr h;obtain ⟨h0,h3,h5,h6⟩:=mrg_ok h;have hm1:=mrgO_c (k:=1) L a b hlk (by omega) (by omega) hfa hfb h0 h3 h5 h6;have hm2:=refMrgO_c L a b hlk (by omega) (by omega) hfa hfb h0 h3 h5 h6;have hed:=edits_c (κ:=0) (κ':=0) (a ++ rebB L.2.1 a b) (a ++ rebB L.2.1 a b);have hLl:=hlk.len;have hLs:=hgd.sz;have htx:=textL_c (k:=1) L.1 L.2.1 L.2.2 (by omega) hlk.f1 (txt_ok (by omega) (by omega));refine qR (rs:=[6]) Tryz.func6 rfl rfl rfl teOk rfl ?_;refine qC ?_;refine qB ?_;refine qC ?_;refine qC ?_;refine qB ?_;refine Or.inl ?_;refine zai (rfl) ?_;refine zei _ (zai (alive23_c) ?_);refine qJ rfl (fun h19=>?_) (fun h19=>?_)
  ·try simp only [Bool.not_eq_true'] at h19
   try simp only [zds] at h19
   simp at h19
  ·try simp only [Bool.not_eq_false'] at h19
   try simp only [zds] at h19
   refine qL ?_;refine qC ?_;refine qC ?_;refine qB ?_;refine zai (fun h=>trivial) ?_;refine Or.inl ?_;refine zai (rfl) ?_;refine zei _ (zai (fun h=>⟨⟨⟨h,trivial⟩,trivial⟩,hva⟩) ?_);refine zai (by first|(intro h;rw [h];rfl)|(intro h;cases h)) ?_;refine zai (fun h=>trivial) ?_;refine Or.inl ?_;refine zai (rfl) ?_;refine zei _ (zai (fun h=>⟨⟨⟨h,trivial⟩,trivial⟩,hvb⟩) ?_);refine zai (by first|(intro h;rw [h];rfl)|(intro h;cases h)) ?_;refine qJ rfl (fun h30=>?_) (fun h30=>?_)
   ·try simp only [decide_eq_true_eq,Bool.or_eq_true] at h30
    try simp only [zds] at h30
    exfalso
    simp at h30;omega
   ·try simp only [decide_eq_false_iff_not,Bool.or_eq_false_iff,Int.not_lt] at h30
    try simp only [zds] at h30
    refine qL ?_;refine qC ?_;refine qB ?_;refine Or.inr (Or.inl (zei [] (zei [] (zei _ (zei _ (zei _ (zei _ (zei _ (zai (hl) (zai rfl (zai True.intro (zai rfl ?_))))))))))));refine qC ?_;refine qB ?_;refine Or.inl ?_;refine zai (rfl) ?_;refine zei _ (zai (hr) ?_);refine qC ?_;refine qC ?_;refine qB ?_;refine zai (fun h=>trivial) ?_;refine zai (fun h=>⟨⟨h,trivial⟩,trivial⟩) ?_;refine zai (by first|(intro h;rw [h];rfl)|(intro h;cases h)) ?_;refine qJ rfl (fun h47=>?_) (fun h47=>?_)
    ·try simp only [decide_eq_false_iff_not,Bool.not_eq_true',Bool.or_eq_true] at h47
     try simp only [zds] at h47
     simp at h47
    ·try simp only [decide_eq_true_eq,Bool.not_eq_false',Bool.or_eq_false_iff] at h47
     try simp only [zds] at h47
     refine qL ?_;refine qC ?_;refine qB ?_;refine Or.inr (Or.inr (Or.inl ?_));refine zai rfl ?_;refine zei _ (zai (htx) ?_);refine qC ?_;refine qB ?_;refine Or.inr (Or.inr (Or.inl ?_));refine zai rfl ?_;refine zei _ (zai (hm1) ?_);refine qC ?_;refine qB ?_;refine Or.inl ?_;refine zai (rfl) ?_;refine zei _ (zai (hm2) ?_);refine qC ?_;refine qB ?_;refine Or.inl ?_;refine zai (rfl) ?_;refine zei _ (zai (mrgNil_c a b) ?_);refine qC ?_;refine qB ?_;refine Or.inl ?_;refine zai (rfl) ?_;refine zei _ (zai (hed) ?_);refine zai (fun h=>trivial) ?_;refine Or.inl ?_;refine zai (rfl) ?_;refine zei _ (zai (fun h=>⟨⟨⟨h,trivial⟩,trivial⟩,num_nil⟩) ?_);refine zai (fun h=>trivial) ?_;refine zai (fun h=>⟨⟨h,trivial⟩,⟨h,trivial⟩,trivial⟩) ?_;refine zai (by exact fun h=>h) ?_;refine zai (fun h=>trivial) ?_;refine Or.inl ?_;refine zai (rfl) ?_;refine zei _ (zai (fun h=>⟨⟨⟨h,trivial⟩,trivial⟩,at_nil⟩) ?_);refine zai (fun h=>trivial) ?_;refine zai (fun h=>⟨⟨h,trivial⟩,⟨h,trivial⟩,trivial⟩) ?_;refine zai (by exact fun h=>h) ?_;refine zai (fun h=>trivial) ?_;refine Or.inl ?_;refine zai (rfl) ?_;refine zei _ (zai (fun h=>⟨⟨⟨h,trivial⟩,trivial⟩,htx⟩) ?_);refine zai (fun h=>trivial) ?_;refine zai (fun h=>⟨⟨h,trivial⟩,⟨h,trivial⟩,trivial⟩) ?_;refine zai (by exact fun h=>h) ?_;refine zai (fun h=>trivial) ?_;refine Or.inl ?_;refine zai (rfl) ?_;refine zei _ (zai (fun h=>⟨⟨⟨h,trivial⟩,trivial⟩,isN7_c⟩) ?_);refine zai (by exact fun h=>h) ?_;refine qM ?_
     first|rfl|exact ib_eq (by simp)
theorem MergeBoth_c (s : ByteArray) (a b : List Edt) : qU Tryz.prog 6 [is s,.one (.sl rEdt a),.one (.sl rEdt b)] (ib true):=by
  by_cases h : 2500 < s.size ∨ heavyB a = true ∨ heavyB b = true
  · exact MBoth_big s a b h
  · have hs : ¬ 2500 < s.size:=fun e=>h (.inl e)
    have ha : heavyB a = false:=by simpa using fun e=>h (.inr (.inl e))
    have hb : heavyB b = false:=by simpa using fun e=>h (.inr (.inr e))
    rcases hp : xF s with ⟨i,n⟩|l
    · exact MBoth_err s a b hs ha hb hp (parse_ne hp)
    · by_cases h0 : (mrgN (ofT l) a b).2 = 0
      · exact MBoth_ok s a b hs ha hb hp h0
      · rcases erB_cases h0 with ⟨n,hn,_,e⟩|⟨i,n,hn,he,e⟩
        · exact MBoth_N s a b hs ha hb hp n hn e
        · rw [e] at he;exact MBoth_F s a b hs ha hb hp i n hn e he
end Q
end Ab
end Go.Proofs.YtpfkncffaanjcaaGreatDoor
namespace Go.Proofs.YtpfkncffaanjcaaGreatDoor
open Go.RowKit
namespace Ab
set_option maxRecDepth 100000
theorem o_str : Opens Tryz.prog 9 .str:=opens_str Tryz.underlying9 (by kernel_rfl)
theorem o_int : Opens Tryz.prog 3 (.int .i64):=opens_int Tryz.underlying3 (by kernel_rfl)
theorem o_field : Opens Tryz.prog 82 (.st .str .str):=opens_st Tryz.underlying82 (by kernel_rfl) (.cons rfl o_str (.one rfl o_str))
theorem o_fields : Opens Tryz.prog 44 (.sl (.st .str .str)):=opens_sl (by decide) Tryz.underlying44 (by kernel_rfl) o_field
theorem maxAt {W : World} (h : W.ShapedOpen Tryz.prog) : MaxCell W:=cell_of_shapedOpen_int (g:=1) (t:=3) (zero:=#[.int .i64 0]) h (of_decide_eq_true (by kernel_rfl)) (by kernel_rfl) rfl (by kernel_rfl) (by kernel_rfl) Tryz.underlying3
theorem lt_of_cell0 {W : World} {b : Nat} {v : Value} (h : W.cell? ⟨b,0,none⟩ = some v) : b < W.heap.size:=by
  rcases Nat.lt_or_ge b W.heap.size with h1|h1
  · exact h1
  · exfalso
    simp only [World.cell?,Array.getElem?_eq_none h1] at h;cases h
theorem o_edit : Opens Tryz.prog 46 (.st (.int .i64) (.st (.int .i64) (.sl (.st .str .str)))):=opens_st Tryz.underlying46 (by kernel_rfl) (.cons rfl o_int (.cons rfl o_int (.one rfl o_fields)))
theorem o_edits : Opens Tryz.prog 22 (.sl (.st (.int .i64) (.st (.int .i64) (.sl (.st .str .str))))):=opens_sl (by decide) Tryz.underlying22 (by kernel_rfl) o_edit
theorem open_edits {H : Type} {enc : TypeId × Value → H} {W : World} {base : Nat} {v : Value} {d : DataW H} {p : List MemPlace} (hv : Value.okWide Tryz.prog W .any base 22 v) (h : DataW.Trod enc Tryz.prog W 0 (fun _=>true) true 22 v d p) :
    ∃ xs,(C.sl (.st (.int .i64) (.st (.int .i64) (.sl (.st .str .str)))) xs).rep AllOk yX W v:=open_sl Tryz.underlying22 o_edits hv h
theorem et : Tryz.prog.globalNamed "errors.errorType" = some 0 := by kernel_rfl
theorem rt : (Tryz.prog.cutTypes.find? (·.1 == "internal/reflectlite.rtype")).map (·.2) = some 239 := by kernel_rfl
theorem oneRow : ((List.range Tryz.prog.types.size).filter fun t=>Tryz.prog.rowNamed t [101,114,114,111,114]) = [34]:=by kernel_rfl
theorem errHandle : typeHandle Tryz.prog 34 = .pointer (some ⟨3 + 1,34,none⟩):=by kernel_rfl
abbrev errDatum : String × DataW Unit := ("errors.errorType", .iface "internal/reflectlite.rtype" (.agg [.ptr (.lit (.string [101, 114, 114, 111, 114]))]))
theorem errAt {W : World} {l : List (String × DataW Unit)} (hm : errDatum ∈ l) (h : laidMetH Tryz.prog l W) : W.cell? ⟨0,0,none⟩ = some (.iface 239 (.agg #[.pointer (some ⟨3 + 1,34,none⟩)])):=by
  obtain ⟨name,u,ty,e1,e2,e3,e4,e5⟩:=(laidMetH_iff.1 h).2 _ (List.mem_filter.2 ⟨hm,rfl⟩);have en : name = [101,114,114,111,114]:=(Option.some.inj e1).symm;subst en;obtain rfl:=Option.some.inj (rt.symm.trans e2);have hm : ty ∈ (List.range Tryz.prog.types.size).filter fun t=>Tryz.prog.rowNamed t [101,114,114,111,114]:=List.mem_filter.2 ⟨List.mem_range.2 e3,e4⟩
  rw [oneRow] at hm;obtain rfl:=List.mem_singleton.1 hm;rw [errHandle] at e5
  simpa using World.var?_cell et e5 0
theorem globAtH {W : World} (h : W.ShapedOpen Tryz.prog) {l : List (String × DataW Unit)} (hm : errDatum ∈ l) (hL : laidMetH Tryz.prog l W) : GlobAt AllOk W:=by
  have hc : GlobCell W:=⟨maxAt h,errAt hm hL⟩;refine ⟨fun _ _=>trivial,?_,hc⟩;obtain ⟨⟨m,h1⟩,h2⟩:=hc;have h1:=lt_of_cell0 h1;have h2:=lt_of_cell0 h2;unfold nGlob;omega
theorem laidMet_lay {P : Program} {w0 : World} {laid : List (String × DataW Unit)} (args : Array Value)
    (hf : w0.layFits P laid [] = true) (hi : w0.layIfaces P laid (w0.layVars P laid) = true) : laidMet P laid ((w0.layVars P laid).forCall (fun _ _=>0) ⟨#[],args,[]⟩).memory:=by
  have e1 : (laid.filter fun x=>(laid.map (·.1)).contains x.1) = laid:=List.filter_eq_self.2 fun x hx=>List.contains_iff_mem.2 (List.mem_map.2 ⟨x,hx,rfl⟩)
  have e2 : (laid.filter fun x=>!(laid.map (·.1)).contains x.1) = []:=List.filter_eq_nil_iff.2 fun x hx=>by rw [List.contains_iff_mem.2 (List.mem_map.2 ⟨x,hx,rfl⟩)];simp
  have h : laidMet P laid (w0.layVars P laid):=laidMet_layVars (w0:=w0) (laid.map (·.1)) [] (by rw [e1]) (by rw [e1];exact hf) (by rw [e1];exact hi) (by rw [e2];exact LaidIn.none);exact h.of_heap (by simp [World.memory,World.forCall,Input.heap])
noncomputable def errWorld (os : Os) : World :=
  let w0:=World.holding Tryz.prog os ⟨#[],#[],[]⟩
  { w0 with heap:=w0.heap.modify 0 fun
      | .cells _ t frozen=>.cells #[.iface 239 (.agg #[.pointer (some ⟨3 + 1,34,none⟩)])] t frozen
      | o=>o }
noncomputable def laidWit (os : Os) (l : List (String × DataW Unit)) : World:=(errWorld os).layVars Tryz.prog (l.filter fun x=>x.2.handleName?.isNone)
theorem laidWit_os (os : Os) (l : List (String × DataW Unit)) : (laidWit os l).os = os:=World.layVars_os _ _ _
end Ab
end Go.Proofs.YtpfkncffaanjcaaGreatDoor
