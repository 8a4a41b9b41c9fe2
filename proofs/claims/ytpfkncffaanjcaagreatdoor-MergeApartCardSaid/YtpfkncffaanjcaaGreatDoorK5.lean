/-
  The texts of this proof, joined: abstract values, the library, the functions of the program and what they compute (part 5). No condition.
-/
import Derived.Shelf.Vars
import Derived.KernelRfl
import Derived.LaidHandle
import Derived.LaidSub
import Derived.LaidMore
import Derived.Lay
import Derived.FnData
import Derived.Test.YtpfkncffaanjcaaGreatDoorK1
import Derived.Test.YtpfkncffaanjcaaGreatDoorK2
import Derived.Test.YtpfkncffaanjcaaGreatDoorK3
import Derived.Test.YtpfkncffaanjcaaGreatDoorK4
namespace Go.Proofs.YtpfkncffaanjcaaGreatDoor
open Go.RowKit
namespace Ab
set_option maxRecDepth 100000
namespace Q
theorem reb1_same {next k : Int} {a : List Edt} {x e : Edt} (h : e ∈ reb1 next k a x) : e.1 = x.1 ∧ e.2.2 = x.2.2:=by
  unfold reb1 at h;split at h
  · rw [List.mem_singleton.1 h];exact ⟨rfl,rfl⟩
  · split at h
    · cases h
    · rw [List.mem_singleton.1 h];exact ⟨rfl,rfl⟩
theorem reb_good {next : Int} {a b : List Edt} (hb : ∀ e ∈ b,goodN e = 0 ∧ qT e.2.2) : ∀ e ∈ rebB next a b,goodN e = 0 ∧ qT e.2.2:=by
  intro e he;obtain ⟨x,hx,he⟩:=List.mem_flatMap.1 he;obtain ⟨h1,h2⟩:=reb1_same he;obtain ⟨g1,g2⟩:=hb x hx;refine ⟨?_,by rw [h2];exact g2⟩;unfold goodN at g1 ⊢;rw [h1,h2];exact g1
theorem both_good {L : Lst} {a b : List Edt} (h0 : (doR L a).2 = 0) (h3 : (doR L b).2 = 0) (hfa : ∀ e ∈ a,qT e.2.2) (hfb : ∀ e ∈ b,qT e.2.2) (h6 : ¬ 40 < (a ++ rebB L.2.1 a b).length) : (chkB (a ++ rebB L.2.1 a b)).2 = 0 ∧ ∀ e ∈ a ++ rebB L.2.1 a b,qT e.2.2:=by
  obtain ⟨h1,_⟩:=doR_zero h0;obtain ⟨h4,_⟩:=doR_zero h3;obtain ⟨l1,g1⟩:=chkB_zero h1;obtain ⟨_,g4⟩:=chkB_zero h4;have hg:=reb_good (next:=L.2.1) (a:=a) (b:=b) fun e he=>⟨g4 e he,hfb e he⟩
  refine ⟨?_,fun e he=>(List.mem_append.1 he).elim (hfa e) fun he=>(hg e he).2⟩;rw [chkB_no (by rw [List.length_append] at h6 ⊢;omega) fun e he=>(List.mem_append.1 he).elim (g1 e) fun he=>(hg e he).1]
theorem clear_clash {next : Int} {a b : List Edt} (h : clear next a b) : ¬ 0 ≤ clashI next a b:=by
  intro h0;have h1:=ixOf_ge (clashX next a) b;rw [decide_eq_true (show 0 ≤ ixOf (clashX next a) b from h0)] at h1;obtain ⟨x,hx,h2⟩:=List.any_eq_true.1 h1.symm;unfold clashX at h2;rw [Bool.and_eq_true] at h2;rw [h x hx (of_decide_eq_true h2.1)] at h2;cases h2.2
theorem MApart_big (s : ByteArray) (a b : List Edt) (h : 2500 < s.size ∨ yZ a = true ∨ yZ b = true) : qR Tryz.prog 5 [is s,.one (.sl rEdt a),.one (.sl rEdt b)] (ib true):=by
  have hva:=xE a;have hvb:=xE b;refine qP (rs:=[6]) Tryz.func5 rfl rfl rfl teOk rfl ?_;refine qC ?_;refine qB ?_;refine qC ?_;refine qC ?_;refine qB ?_;refine Or.inl ?_;refine zai (rfl) ?_;refine zei _ (zai (alive23_c) ?_);refine qI rfl (fun h28=>?_) (fun h28=>?_)
  ·try simp only [Bool.not_eq_true'] at h28
   try simp only [zds] at h28
   simp at h28
  ·try simp only [Bool.not_eq_false'] at h28
   try simp only [zds] at h28
   refine qM ?_;refine qC ?_;refine qC ?_;refine qB ?_;refine zai (fun h=>trivial) ?_;refine Or.inl ?_;refine zai (rfl) ?_;refine zei _ (zai (fun h=>⟨⟨⟨h,trivial⟩,trivial⟩,hva⟩) ?_);refine zai (by first|(intro h;rw [h];rfl)|(intro h;cases h)) ?_;refine zai (fun h=>trivial) ?_;refine Or.inl ?_;refine zai (rfl) ?_;refine zei _ (zai (fun h=>⟨⟨⟨h,trivial⟩,trivial⟩,hvb⟩) ?_);refine zai (by first|(intro h;rw [h];rfl)|(intro h;cases h)) ?_;refine qI rfl (fun h39=>?_) (fun h39=>?_)
   ·try simp only [decide_eq_true_eq,Bool.or_eq_true] at h39
    try simp only [zds] at h39
    refine qC ?_;refine qB ?_;refine qL ?_;rfl
   ·try simp only [decide_eq_false_iff_not,Bool.or_eq_false_iff,Int.not_lt] at h39
    try simp only [zds] at h39
    obtain ⟨⟨g1,g2⟩,g3⟩:=h39;exact absurd h (fun h=>by rcases h with h|h|h;omega;rw [h] at g2;cases g2;rw [h] at g3;cases g3)
theorem MApart_err (s : ByteArray) (a b : List Edt) (hs : ¬ 2500 < s.size) (ha : yZ a = false) (hb : yZ b = false) {at_ n : Int} (hp : yO s = .inl (at_,n)) : qR Tryz.prog 5 [is s,.one (.sl rEdt a),.one (.sl rEdt b)] (ib true):=by
  have hva:=xE a;have hvb:=xE b;rw [ha] at hva;rw [hb] at hvb;have hl:=of_err s (by omega) hp;refine qP (rs:=[6]) Tryz.func5 rfl rfl rfl teOk rfl ?_;refine qC ?_;refine qB ?_;refine qC ?_;refine qC ?_;refine qB ?_;refine Or.inl ?_;refine zai (rfl) ?_;refine zei _ (zai (alive23_c) ?_);refine qI rfl (fun h28=>?_) (fun h28=>?_)
  ·try simp only [Bool.not_eq_true'] at h28
   try simp only [zds] at h28
   simp at h28
  ·try simp only [Bool.not_eq_false'] at h28
   try simp only [zds] at h28
   refine qM ?_;refine qC ?_;refine qC ?_;refine qB ?_;refine zai (fun h=>trivial) ?_;refine Or.inl ?_;refine zai (rfl) ?_;refine zei _ (zai (fun h=>⟨⟨⟨h,trivial⟩,trivial⟩,hva⟩) ?_);refine zai (by first|(intro h;rw [h];rfl)|(intro h;cases h)) ?_;refine zai (fun h=>trivial) ?_;refine Or.inl ?_;refine zai (rfl) ?_;refine zei _ (zai (fun h=>⟨⟨⟨h,trivial⟩,trivial⟩,hvb⟩) ?_);refine zai (by first|(intro h;rw [h];rfl)|(intro h;cases h)) ?_;refine qI rfl (fun h39=>?_) (fun h39=>?_)
   ·try simp only [decide_eq_true_eq,Bool.or_eq_true] at h39
    try simp only [zds] at h39
    exfalso
    simp at h39;omega
   ·try simp only [decide_eq_false_iff_not,Bool.or_eq_false_iff,Int.not_lt] at h39
    try simp only [zds] at h39
    refine qM ?_;refine qC ?_;refine qB ?_;refine Or.inl ?_;refine zai (rfl) ?_;refine zei _ (zai (hl) ?_);refine qC ?_;refine qC ?_;refine qB ?_;refine qI rfl (fun h46=>?_) (fun h46=>?_)
    ·skip
     refine qC ?_;refine qB ?_;refine qL ?_;rfl
    ·try simp only [zbq] at h46
     try simp only [zds] at h46
     simp at h46
theorem MApart_NN (s : ByteArray) (a b : List Edt) (hs : ¬ 2500 < s.size) (ha : yZ a = false) (hb : yZ b = false) {l : List Itm} (hp : yO s = .inr l) (az : (doR (ofT l) a).2 ≠ 0) (an : Int) (ahn : an ≠ 0) (ah : erB (doR (ofT l) a) = errN an) (bz : (doR (ofT l) b).2 ≠ 0) (bn : Int) (bhn : bn ≠ 0) (bh : erB (doR (ofT l) b) = errN bn) : qR Tryz.prog 5 [is s,.one (.sl rEdt a),.one (.sl rEdt b)] (ib true):=by
  have hva:=xE a;have hvb:=xE b;rw [ha] at hva;rw [hb] at hvb;obtain ⟨hsa,hma⟩:=xG ha;obtain ⟨hsb,hmb⟩:=xG hb;have hfa : ∀ e ∈ a,qT e.2.2:=fun e he=>much_ok (hma e he)
  have hfb : ∀ e ∈ b,qT e.2.2:=fun e he=>much_ok (hmb e he)
  have hl:=of_ok s (by omega) hp;have hlk:=of_lok (by omega) hp;have hgd:=ofT_gd hp;obtain ⟨L,hL⟩ : ∃ L,ofT l = L:=⟨_,rfl⟩;rw [hL] at hlk hgd hl ah az bh bz;have hda:=do_no (κ:=0) (κ':=0) (k:=1) L a hlk (by omega) hfa az;rw [ah] at hda;have hdb:=do_no (κ:=0) (κ':=0) (k:=1) L b hlk (by omega) hfb bz;rw [bh] at hdb;have hmy:=hlk.many;have hml:=ids_len L.1;have hll:=hlk.len;have hlf:=List.length_filter_le live L.1;refine qP (rs:=[6]) Tryz.func5 rfl rfl rfl teOk rfl ?_;refine qC ?_;refine qB ?_;refine qC ?_;refine qC ?_;refine qB ?_;refine Or.inl ?_;refine zai (rfl) ?_;refine zei _ (zai (alive23_c) ?_);refine qI rfl (fun h28=>?_) (fun h28=>?_)
  ·try simp only [Bool.not_eq_true'] at h28
   try simp only [zds] at h28
   simp at h28
  ·try simp only [Bool.not_eq_false'] at h28
   try simp only [zds] at h28
   refine qM ?_;refine qC ?_;refine qC ?_;refine qB ?_;refine zai (fun h=>trivial) ?_;refine Or.inl ?_;refine zai (rfl) ?_;refine zei _ (zai (fun h=>⟨⟨⟨h,trivial⟩,trivial⟩,hva⟩) ?_);refine zai (by first|(intro h;rw [h];rfl)|(intro h;cases h)) ?_;refine zai (fun h=>trivial) ?_;refine Or.inl ?_;refine zai (rfl) ?_;refine zei _ (zai (fun h=>⟨⟨⟨h,trivial⟩,trivial⟩,hvb⟩) ?_);refine zai (by first|(intro h;rw [h];rfl)|(intro h;cases h)) ?_;refine qI rfl (fun h39=>?_) (fun h39=>?_)
   ·try simp only [decide_eq_true_eq,Bool.or_eq_true] at h39
    try simp only [zds] at h39
    exfalso
    simp at h39;omega
   ·try simp only [decide_eq_false_iff_not,Bool.or_eq_false_iff,Int.not_lt] at h39
    try simp only [zds] at h39
    refine qM ?_;refine qC ?_;refine qB ?_;refine Or.inr (Or.inl (zei [] (zei [] (zei _ (zei _ (zei _ (zei _ (zei _ (zai (hl) (zai rfl (zai True.intro (zai rfl ?_))))))))))));refine qC ?_;refine qC ?_;refine qB ?_;refine qI rfl (fun h46=>?_) (fun h46=>?_)
    ·try simp only [Bool.not_eq_true'] at h46
     try simp only [zds] at h46
     simp at h46
    ·try simp only [Bool.not_eq_false'] at h46
     try simp only [zds] at h46
     refine qM ?_;refine qC ?_;refine qB ?_;refine Or.inr (Or.inr (Or.inl ?_));refine zai rfl ?_;refine zei _ (zai (hda) ?_);refine qC ?_;refine qB ?_;refine Or.inr (Or.inr (Or.inl ?_));refine zai rfl ?_;refine zei _ (zai (hdb) ?_);refine qC ?_;refine qC ?_;refine qB ?_;refine zai (fun h=>trivial) ?_;refine zai (fun h=>⟨⟨h,trivial⟩,trivial⟩) ?_;refine zai (by first|(intro h;rw [h];rfl)|(intro h;cases h)) ?_;refine zai (fun h=>trivial) ?_;refine zai (fun h=>⟨⟨h,trivial⟩,trivial⟩) ?_;refine zai (fun h=>trivial) ?_;refine zai (fun h=>⟨⟨h,trivial⟩,trivial⟩) ?_;refine zai (fun h=>⟨⟨⟨h,trivial⟩,⟨h,trivial⟩,trivial⟩,by omega⟩) ?_;refine zai (fun h=>⟨⟨h,trivial⟩,trivial⟩) ?_;refine zai (by first|(intro h;rw [h];rfl)|(intro h;cases h)) ?_;refine zai (fun h=>trivial) ?_;refine Or.inl ?_;refine zai (rfl) ?_;refine zei _ (zai (fun h=>⟨⟨⟨h,trivial⟩,trivial⟩,len_c L.1 L.2.1 L.2.2⟩) ?_);refine zai (fun h=>trivial) ?_;refine zai (fun h=>⟨⟨h,trivial⟩,trivial⟩) ?_;refine zai (fun h=>⟨⟨⟨h,trivial⟩,⟨h,trivial⟩,trivial⟩,by omega⟩) ?_;refine zai (fun h=>trivial) ?_;refine zai (fun h=>⟨⟨h,trivial⟩,trivial⟩) ?_;refine zai (fun h=>⟨⟨⟨h,trivial⟩,⟨h,trivial⟩,trivial⟩,by omega⟩) ?_;refine zai (fun h=>⟨⟨h,trivial⟩,trivial⟩) ?_;refine zai (by first|(intro h;rw [h];rfl)|(intro h;cases h)) ?_;refine qI rfl (fun h85=>?_) (fun h85=>?_)
     ·try simp only [decide_eq_true_eq,Bool.or_eq_true] at h85
      try simp only [zds] at h85
      refine qC ?_;refine qB ?_;refine qL ?_;rfl
     ·try simp only [decide_eq_false_iff_not,Bool.or_eq_false_iff,Int.not_lt] at h85
      try simp only [zds] at h85
      simp at h85
theorem MApart_NF (s : ByteArray) (a b : List Edt) (hs : ¬ 2500 < s.size) (ha : yZ a = false) (hb : yZ b = false) {l : List Itm} (hp : yO s = .inr l) (az : (doR (ofT l) a).2 ≠ 0) (an : Int) (ahn : an ≠ 0) (ah : erB (doR (ofT l) a) = errN an) (bz : (doR (ofT l) b).2 ≠ 0) (bi bn : Int) (bhn : bn ≠ 0) (bh : erB (doR (ofT l) b) = errF bi bn) : qR Tryz.prog 5 [is s,.one (.sl rEdt a),.one (.sl rEdt b)] (ib true):=by
  have hva:=xE a;have hvb:=xE b;rw [ha] at hva;rw [hb] at hvb;obtain ⟨hsa,hma⟩:=xG ha;obtain ⟨hsb,hmb⟩:=xG hb;have hfa : ∀ e ∈ a,qT e.2.2:=fun e he=>much_ok (hma e he)
  have hfb : ∀ e ∈ b,qT e.2.2:=fun e he=>much_ok (hmb e he)
  have hl:=of_ok s (by omega) hp;have hlk:=of_lok (by omega) hp;have hgd:=ofT_gd hp;obtain ⟨L,hL⟩ : ∃ L,ofT l = L:=⟨_,rfl⟩;rw [hL] at hlk hgd hl ah az bh bz;have hda:=do_no (κ:=0) (κ':=0) (k:=1) L a hlk (by omega) hfa az;rw [ah] at hda;have hdb:=do_no (κ:=0) (κ':=0) (k:=1) L b hlk (by omega) hfb bz;rw [bh] at hdb;have hmy:=hlk.many;have hml:=ids_len L.1;have hll:=hlk.len;have hlf:=List.length_filter_le live L.1;refine qP (rs:=[6]) Tryz.func5 rfl rfl rfl teOk rfl ?_;refine qC ?_;refine qB ?_;refine qC ?_;refine qC ?_;refine qB ?_;refine Or.inl ?_;refine zai (rfl) ?_;refine zei _ (zai (alive23_c) ?_);refine qI rfl (fun h28=>?_) (fun h28=>?_)
  ·try simp only [Bool.not_eq_true'] at h28
   try simp only [zds] at h28
   simp at h28
  ·try simp only [Bool.not_eq_false'] at h28
   try simp only [zds] at h28
   refine qM ?_;refine qC ?_;refine qC ?_;refine qB ?_;refine zai (fun h=>trivial) ?_;refine Or.inl ?_;refine zai (rfl) ?_;refine zei _ (zai (fun h=>⟨⟨⟨h,trivial⟩,trivial⟩,hva⟩) ?_);refine zai (by first|(intro h;rw [h];rfl)|(intro h;cases h)) ?_;refine zai (fun h=>trivial) ?_;refine Or.inl ?_;refine zai (rfl) ?_;refine zei _ (zai (fun h=>⟨⟨⟨h,trivial⟩,trivial⟩,hvb⟩) ?_);refine zai (by first|(intro h;rw [h];rfl)|(intro h;cases h)) ?_;refine qI rfl (fun h39=>?_) (fun h39=>?_)
   ·try simp only [decide_eq_true_eq,Bool.or_eq_true] at h39
    try simp only [zds] at h39
    exfalso
    simp at h39;omega
   ·try simp only [decide_eq_false_iff_not,Bool.or_eq_false_iff,Int.not_lt] at h39
    try simp only [zds] at h39
    refine qM ?_;refine qC ?_;refine qB ?_;refine Or.inr (Or.inl (zei [] (zei [] (zei _ (zei _ (zei _ (zei _ (zei _ (zai (hl) (zai rfl (zai True.intro (zai rfl ?_))))))))))));refine qC ?_;refine qC ?_;refine qB ?_;refine qI rfl (fun h46=>?_) (fun h46=>?_)
    ·try simp only [Bool.not_eq_true'] at h46
     try simp only [zds] at h46
     simp at h46
    ·try simp only [Bool.not_eq_false'] at h46
     try simp only [zds] at h46
     refine qM ?_;refine qC ?_;refine qB ?_;refine Or.inr (Or.inr (Or.inl ?_));refine zai rfl ?_;refine zei _ (zai (hda) ?_);refine qC ?_;refine qB ?_;refine Or.inr (Or.inr (Or.inl ?_));refine zai rfl ?_;refine zei _ (zai (hdb) ?_);refine qC ?_;refine qC ?_;refine qB ?_;refine zai (fun h=>trivial) ?_;refine zai (fun h=>⟨⟨h,trivial⟩,trivial⟩) ?_;refine zai (by first|(intro h;rw [h];rfl)|(intro h;cases h)) ?_;refine zai (fun h=>trivial) ?_;refine zai (fun h=>⟨⟨h,trivial⟩,trivial⟩) ?_;refine zai (fun h=>trivial) ?_;refine zai (fun h=>⟨⟨h,trivial⟩,trivial⟩) ?_;refine zai (fun h=>⟨⟨⟨h,trivial⟩,⟨h,trivial⟩,trivial⟩,by omega⟩) ?_;refine zai (fun h=>⟨⟨h,trivial⟩,trivial⟩) ?_;refine zai (by first|(intro h;rw [h];rfl)|(intro h;cases h)) ?_;refine zai (fun h=>trivial) ?_;refine Or.inl ?_;refine zai (rfl) ?_;refine zei _ (zai (fun h=>⟨⟨⟨h,trivial⟩,trivial⟩,len_c L.1 L.2.1 L.2.2⟩) ?_);refine zai (fun h=>trivial) ?_;refine zai (fun h=>⟨⟨h,trivial⟩,trivial⟩) ?_;refine zai (fun h=>⟨⟨⟨h,trivial⟩,⟨h,trivial⟩,trivial⟩,by omega⟩) ?_;refine zai (fun h=>trivial) ?_;refine zai (fun h=>⟨⟨h,trivial⟩,trivial⟩) ?_;refine zai (fun h=>⟨⟨⟨h,trivial⟩,⟨h,trivial⟩,trivial⟩,by omega⟩) ?_;refine zai (fun h=>⟨⟨h,trivial⟩,trivial⟩) ?_;refine zai (by first|(intro h;rw [h];rfl)|(intro h;cases h)) ?_;refine qI rfl (fun h85=>?_) (fun h85=>?_)
     ·try simp only [decide_eq_true_eq,Bool.or_eq_true] at h85
      try simp only [zds] at h85
      refine qC ?_;refine qB ?_;refine qL ?_;rfl
     ·try simp only [decide_eq_false_iff_not,Bool.or_eq_false_iff,Int.not_lt] at h85
      try simp only [zds] at h85
      simp at h85
theorem MApart_Nok (s : ByteArray) (a b : List Edt) (hs : ¬ 2500 < s.size) (ha : yZ a = false) (hb : yZ b = false) {l : List Itm} (hp : yO s = .inr l) (az : (doR (ofT l) a).2 ≠ 0) (an : Int) (ahn : an ≠ 0) (ah : erB (doR (ofT l) a) = errN an) (bz : (doR (ofT l) b).2 = 0) : qR Tryz.prog 5 [is s,.one (.sl rEdt a),.one (.sl rEdt b)] (ib true):=by
  have hva:=xE a;have hvb:=xE b;rw [ha] at hva;rw [hb] at hvb;obtain ⟨hsa,hma⟩:=xG ha;obtain ⟨hsb,hmb⟩:=xG hb;have hfa : ∀ e ∈ a,qT e.2.2:=fun e he=>much_ok (hma e he)
  have hfb : ∀ e ∈ b,qT e.2.2:=fun e he=>much_ok (hmb e he)
  have hl:=of_ok s (by omega) hp;have hlk:=of_lok (by omega) hp;have hgd:=ofT_gd hp;obtain ⟨L,hL⟩ : ∃ L,ofT l = L:=⟨_,rfl⟩;rw [hL] at hlk hgd hl ah az bz;have hda:=do_no (κ:=0) (κ':=0) (k:=1) L a hlk (by omega) hfa az;rw [ah] at hda;obtain ⟨b1,b2⟩:=doR_zero bz;have hdb:=(doOk_o (κ:=0) (κ':=0) (k:=1) L b hlk (by omega) hfb b1 b2).x;have hmy:=hlk.many;have hml:=ids_len L.1;have hll:=hlk.len;have hlf:=List.length_filter_le live L.1;refine qP (rs:=[6]) Tryz.func5 rfl rfl rfl teOk rfl ?_;refine qC ?_;refine qB ?_;refine qC ?_;refine qC ?_;refine qB ?_;refine Or.inl ?_;refine zai (rfl) ?_;refine zei _ (zai (alive23_c) ?_);refine qI rfl (fun h28=>?_) (fun h28=>?_)
  ·try simp only [Bool.not_eq_true'] at h28
   try simp only [zds] at h28
   simp at h28
  ·try simp only [Bool.not_eq_false'] at h28
   try simp only [zds] at h28
   refine qM ?_;refine qC ?_;refine qC ?_;refine qB ?_;refine zai (fun h=>trivial) ?_;refine Or.inl ?_;refine zai (rfl) ?_;refine zei _ (zai (fun h=>⟨⟨⟨h,trivial⟩,trivial⟩,hva⟩) ?_);refine zai (by first|(intro h;rw [h];rfl)|(intro h;cases h)) ?_;refine zai (fun h=>trivial) ?_;refine Or.inl ?_;refine zai (rfl) ?_;refine zei _ (zai (fun h=>⟨⟨⟨h,trivial⟩,trivial⟩,hvb⟩) ?_);refine zai (by first|(intro h;rw [h];rfl)|(intro h;cases h)) ?_;refine qI rfl (fun h39=>?_) (fun h39=>?_)
   ·try simp only [decide_eq_true_eq,Bool.or_eq_true] at h39
    try simp only [zds] at h39
    exfalso
    simp at h39;omega
   ·try simp only [decide_eq_false_iff_not,Bool.or_eq_false_iff,Int.not_lt] at h39
    try simp only [zds] at h39
    refine qM ?_;refine qC ?_;refine qB ?_;refine Or.inr (Or.inl (zei [] (zei [] (zei _ (zei _ (zei _ (zei _ (zei _ (zai (hl) (zai rfl (zai True.intro (zai rfl ?_))))))))))));refine qC ?_;refine qC ?_;refine qB ?_;refine qI rfl (fun h46=>?_) (fun h46=>?_)
    ·try simp only [Bool.not_eq_true'] at h46
     try simp only [zds] at h46
     simp at h46
    ·try simp only [Bool.not_eq_false'] at h46
     try simp only [zds] at h46
     refine qM ?_;refine qC ?_;refine qB ?_;refine Or.inr (Or.inr (Or.inl ?_));refine zai rfl ?_;refine zei _ (zai (hda) ?_);refine qC ?_;refine qB ?_;refine Or.inr (Or.inr (Or.inr (zei [] (zei [] (zei _ (zei _ (zei _ (zei _ (zei _ (zai (hdb) (zai rfl (zai True.intro (zai rfl ?_)))))))))))));refine qC ?_;refine qC ?_;refine qB ?_;refine zai (fun h=>trivial) ?_;refine zai (fun h=>⟨⟨h,trivial⟩,trivial⟩) ?_;refine zai (by first|(intro h;rw [h];rfl)|(intro h;cases h)) ?_;refine zai (fun h=>trivial) ?_;refine zai (fun h=>⟨⟨h,trivial⟩,trivial⟩) ?_;refine zai (fun h=>trivial) ?_;refine zai (fun h=>⟨⟨h,trivial⟩,trivial⟩) ?_;refine zai (fun h=>⟨⟨⟨h,trivial⟩,⟨h,trivial⟩,trivial⟩,by omega⟩) ?_;refine zai (fun h=>⟨⟨h,trivial⟩,trivial⟩) ?_;refine zai (by first|(intro h;rw [h];rfl)|(intro h;cases h)) ?_;refine zai (fun h=>trivial) ?_;refine Or.inl ?_;refine zai (rfl) ?_;refine zei _ (zai (fun h=>⟨⟨⟨h,trivial⟩,trivial⟩,len_c L.1 L.2.1 L.2.2⟩) ?_);refine zai (fun h=>trivial) ?_;refine zai (fun h=>⟨⟨h,trivial⟩,trivial⟩) ?_;refine zai (fun h=>⟨⟨⟨h,trivial⟩,⟨h,trivial⟩,trivial⟩,by omega⟩) ?_;refine zai (fun h=>trivial) ?_;refine zai (fun h=>⟨⟨h,trivial⟩,trivial⟩) ?_;refine zai (fun h=>⟨⟨⟨h,trivial⟩,⟨h,trivial⟩,trivial⟩,by omega⟩) ?_;refine zai (fun h=>⟨⟨h,trivial⟩,trivial⟩) ?_;refine zai (by first|(intro h;rw [h];rfl)|(intro h;cases h)) ?_;refine qI rfl (fun h85=>?_) (fun h85=>?_)
     ·try simp only [decide_eq_true_eq,Bool.not_eq_true',Bool.or_eq_true] at h85
      try simp only [zds] at h85
      refine qC ?_;refine qB ?_;refine qL ?_;rfl
     ·try simp only [decide_eq_false_iff_not,Bool.not_eq_false',Bool.or_eq_false_iff,Int.not_lt] at h85
      try simp only [zds] at h85
      simp at h85
theorem MApart_FN (s : ByteArray) (a b : List Edt) (hs : ¬ 2500 < s.size) (ha : yZ a = false) (hb : yZ b = false) {l : List Itm} (hp : yO s = .inr l) (az : (doR (ofT l) a).2 ≠ 0) (ai an : Int) (ahn : an ≠ 0) (ah : erB (doR (ofT l) a) = errF ai an) (bz : (doR (ofT l) b).2 ≠ 0) (bn : Int) (bhn : bn ≠ 0) (bh : erB (doR (ofT l) b) = errN bn) : qR Tryz.prog 5 [is s,.one (.sl rEdt a),.one (.sl rEdt b)] (ib true):=by
  have hva:=xE a;have hvb:=xE b;rw [ha] at hva;rw [hb] at hvb;obtain ⟨hsa,hma⟩:=xG ha;obtain ⟨hsb,hmb⟩:=xG hb;have hfa : ∀ e ∈ a,qT e.2.2:=fun e he=>much_ok (hma e he)
  have hfb : ∀ e ∈ b,qT e.2.2:=fun e he=>much_ok (hmb e he)
  have hl:=of_ok s (by omega) hp;have hlk:=of_lok (by omega) hp;have hgd:=ofT_gd hp;obtain ⟨L,hL⟩ : ∃ L,ofT l = L:=⟨_,rfl⟩;rw [hL] at hlk hgd hl ah az bh bz;have hda:=do_no (κ:=0) (κ':=0) (k:=1) L a hlk (by omega) hfa az;rw [ah] at hda;have hdb:=do_no (κ:=0) (κ':=0) (k:=1) L b hlk (by omega) hfb bz;rw [bh] at hdb;have hmy:=hlk.many;have hml:=ids_len L.1;have hll:=hlk.len;have hlf:=List.length_filter_le live L.1;refine qP (rs:=[6]) Tryz.func5 rfl rfl rfl teOk rfl ?_;refine qC ?_;refine qB ?_;refine qC ?_;refine qC ?_;refine qB ?_;refine Or.inl ?_;refine zai (rfl) ?_;refine zei _ (zai (alive23_c) ?_);refine qI rfl (fun h28=>?_) (fun h28=>?_)
  ·try simp only [Bool.not_eq_true'] at h28
   try simp only [zds] at h28
   simp at h28
  ·try simp only [Bool.not_eq_false'] at h28
   try simp only [zds] at h28
   refine qM ?_;refine qC ?_;refine qC ?_;refine qB ?_;refine zai (fun h=>trivial) ?_;refine Or.inl ?_;refine zai (rfl) ?_;refine zei _ (zai (fun h=>⟨⟨⟨h,trivial⟩,trivial⟩,hva⟩) ?_);refine zai (by first|(intro h;rw [h];rfl)|(intro h;cases h)) ?_;refine zai (fun h=>trivial) ?_;refine Or.inl ?_;refine zai (rfl) ?_;refine zei _ (zai (fun h=>⟨⟨⟨h,trivial⟩,trivial⟩,hvb⟩) ?_);refine zai (by first|(intro h;rw [h];rfl)|(intro h;cases h)) ?_;refine qI rfl (fun h39=>?_) (fun h39=>?_)
   ·try simp only [decide_eq_true_eq,Bool.or_eq_true] at h39
    try simp only [zds] at h39
    exfalso
    simp at h39;omega
   ·try simp only [decide_eq_false_iff_not,Bool.or_eq_false_iff,Int.not_lt] at h39
    try simp only [zds] at h39
    refine qM ?_;refine qC ?_;refine qB ?_;refine Or.inr (Or.inl (zei [] (zei [] (zei _ (zei _ (zei _ (zei _ (zei _ (zai (hl) (zai rfl (zai True.intro (zai rfl ?_))))))))))));refine qC ?_;refine qC ?_;refine qB ?_;refine qI rfl (fun h46=>?_) (fun h46=>?_)
    ·try simp only [Bool.not_eq_true'] at h46
     try simp only [zds] at h46
     simp at h46
    ·try simp only [Bool.not_eq_false'] at h46
     try simp only [zds] at h46
     refine qM ?_;refine qC ?_;refine qB ?_;refine Or.inr (Or.inr (Or.inl ?_));refine zai rfl ?_;refine zei _ (zai (hda) ?_);refine qC ?_;refine qB ?_;refine Or.inr (Or.inr (Or.inl ?_));refine zai rfl ?_;refine zei _ (zai (hdb) ?_);refine qC ?_;refine qC ?_;refine qB ?_;refine zai (fun h=>trivial) ?_;refine zai (fun h=>⟨⟨h,trivial⟩,trivial⟩) ?_;refine zai (by first|(intro h;rw [h];rfl)|(intro h;cases h)) ?_;refine zai (fun h=>trivial) ?_;refine zai (fun h=>⟨⟨h,trivial⟩,trivial⟩) ?_;refine zai (fun h=>trivial) ?_;refine zai (fun h=>⟨⟨h,trivial⟩,trivial⟩) ?_;refine zai (fun h=>⟨⟨⟨h,trivial⟩,⟨h,trivial⟩,trivial⟩,by omega⟩) ?_;refine zai (fun h=>⟨⟨h,trivial⟩,trivial⟩) ?_;refine zai (by first|(intro h;rw [h];rfl)|(intro h;cases h)) ?_;refine zai (fun h=>trivial) ?_;refine Or.inl ?_;refine zai (rfl) ?_;refine zei _ (zai (fun h=>⟨⟨⟨h,trivial⟩,trivial⟩,len_c L.1 L.2.1 L.2.2⟩) ?_);refine zai (fun h=>trivial) ?_;refine zai (fun h=>⟨⟨h,trivial⟩,trivial⟩) ?_;refine zai (fun h=>⟨⟨⟨h,trivial⟩,⟨h,trivial⟩,trivial⟩,by omega⟩) ?_;refine zai (fun h=>trivial) ?_;refine zai (fun h=>⟨⟨h,trivial⟩,trivial⟩) ?_;refine zai (fun h=>⟨⟨⟨h,trivial⟩,⟨h,trivial⟩,trivial⟩,by omega⟩) ?_;refine zai (fun h=>⟨⟨h,trivial⟩,trivial⟩) ?_;refine zai (by first|(intro h;rw [h];rfl)|(intro h;cases h)) ?_;refine qI rfl (fun h85=>?_) (fun h85=>?_)
     ·try simp only [decide_eq_true_eq,Bool.or_eq_true] at h85
      try simp only [zds] at h85
      refine qC ?_;refine qB ?_;refine qL ?_;rfl
     ·try simp only [decide_eq_false_iff_not,Bool.or_eq_false_iff,Int.not_lt] at h85
      try simp only [zds] at h85
      simp at h85
theorem MApart_FF (s : ByteArray) (a b : List Edt) (hs : ¬ 2500 < s.size) (ha : yZ a = false) (hb : yZ b = false) {l : List Itm} (hp : yO s = .inr l) (az : (doR (ofT l) a).2 ≠ 0) (ai an : Int) (ahn : an ≠ 0) (ah : erB (doR (ofT l) a) = errF ai an) (bz : (doR (ofT l) b).2 ≠ 0) (bi bn : Int) (bhn : bn ≠ 0) (bh : erB (doR (ofT l) b) = errF bi bn) : qR Tryz.prog 5 [is s,.one (.sl rEdt a),.one (.sl rEdt b)] (ib true):=by
  have hva:=xE a;have hvb:=xE b;rw [ha] at hva;rw [hb] at hvb;obtain ⟨hsa,hma⟩:=xG ha;obtain ⟨hsb,hmb⟩:=xG hb;have hfa : ∀ e ∈ a,qT e.2.2:=fun e he=>much_ok (hma e he)
  have hfb : ∀ e ∈ b,qT e.2.2:=fun e he=>much_ok (hmb e he)
  have hl:=of_ok s (by omega) hp;have hlk:=of_lok (by omega) hp;have hgd:=ofT_gd hp;obtain ⟨L,hL⟩ : ∃ L,ofT l = L:=⟨_,rfl⟩;rw [hL] at hlk hgd hl ah az bh bz;have hda:=do_no (κ:=0) (κ':=0) (k:=1) L a hlk (by omega) hfa az;rw [ah] at hda;have hdb:=do_no (κ:=0) (κ':=0) (k:=1) L b hlk (by omega) hfb bz;rw [bh] at hdb;have hmy:=hlk.many;have hml:=ids_len L.1;have hll:=hlk.len;have hlf:=List.length_filter_le live L.1;refine qP (rs:=[6]) Tryz.func5 rfl rfl rfl teOk rfl ?_;refine qC ?_;refine qB ?_;refine qC ?_;refine qC ?_;refine qB ?_;refine Or.inl ?_;refine zai (rfl) ?_;refine zei _ (zai (alive23_c) ?_);refine qI rfl (fun h28=>?_) (fun h28=>?_)
  ·try simp only [Bool.not_eq_true'] at h28
   try simp only [zds] at h28
   simp at h28
  ·try simp only [Bool.not_eq_false'] at h28
   try simp only [zds] at h28
   refine qM ?_;refine qC ?_;refine qC ?_;refine qB ?_;refine zai (fun h=>trivial) ?_;refine Or.inl ?_;refine zai (rfl) ?_;refine zei _ (zai (fun h=>⟨⟨⟨h,trivial⟩,trivial⟩,hva⟩) ?_);refine zai (by first|(intro h;rw [h];rfl)|(intro h;cases h)) ?_;refine zai (fun h=>trivial) ?_;refine Or.inl ?_;refine zai (rfl) ?_;refine zei _ (zai (fun h=>⟨⟨⟨h,trivial⟩,trivial⟩,hvb⟩) ?_);refine zai (by first|(intro h;rw [h];rfl)|(intro h;cases h)) ?_;refine qI rfl (fun h39=>?_) (fun h39=>?_)
   ·try simp only [decide_eq_true_eq,Bool.or_eq_true] at h39
    try simp only [zds] at h39
    exfalso
    simp at h39;omega
   ·try simp only [decide_eq_false_iff_not,Bool.or_eq_false_iff,Int.not_lt] at h39
    try simp only [zds] at h39
    refine qM ?_;refine qC ?_;refine qB ?_;refine Or.inr (Or.inl (zei [] (zei [] (zei _ (zei _ (zei _ (zei _ (zei _ (zai (hl) (zai rfl (zai True.intro (zai rfl ?_))))))))))));refine qC ?_;refine qC ?_;refine qB ?_;refine qI rfl (fun h46=>?_) (fun h46=>?_)
    ·try simp only [Bool.not_eq_true'] at h46
     try simp only [zds] at h46
     simp at h46
    ·try simp only [Bool.not_eq_false'] at h46
     try simp only [zds] at h46
     refine qM ?_;refine qC ?_;refine qB ?_;refine Or.inr (Or.inr (Or.inl ?_));refine zai rfl ?_;refine zei _ (zai (hda) ?_);refine qC ?_;refine qB ?_;refine Or.inr (Or.inr (Or.inl ?_));refine zai rfl ?_;refine zei _ (zai (hdb) ?_);refine qC ?_;refine qC ?_;refine qB ?_;refine zai (fun h=>trivial) ?_;refine zai (fun h=>⟨⟨h,trivial⟩,trivial⟩) ?_;refine zai (by first|(intro h;rw [h];rfl)|(intro h;cases h)) ?_;refine zai (fun h=>trivial) ?_;refine zai (fun h=>⟨⟨h,trivial⟩,trivial⟩) ?_;refine zai (fun h=>trivial) ?_;refine zai (fun h=>⟨⟨h,trivial⟩,trivial⟩) ?_;refine zai (fun h=>⟨⟨⟨h,trivial⟩,⟨h,trivial⟩,trivial⟩,by omega⟩) ?_;refine zai (fun h=>⟨⟨h,trivial⟩,trivial⟩) ?_;refine zai (by first|(intro h;rw [h];rfl)|(intro h;cases h)) ?_;refine zai (fun h=>trivial) ?_;refine Or.inl ?_;refine zai (rfl) ?_;refine zei _ (zai (fun h=>⟨⟨⟨h,trivial⟩,trivial⟩,len_c L.1 L.2.1 L.2.2⟩) ?_);refine zai (fun h=>trivial) ?_;refine zai (fun h=>⟨⟨h,trivial⟩,trivial⟩) ?_;refine zai (fun h=>⟨⟨⟨h,trivial⟩,⟨h,trivial⟩,trivial⟩,by omega⟩) ?_;refine zai (fun h=>trivial) ?_;refine zai (fun h=>⟨⟨h,trivial⟩,trivial⟩) ?_;refine zai (fun h=>⟨⟨⟨h,trivial⟩,⟨h,trivial⟩,trivial⟩,by omega⟩) ?_;refine zai (fun h=>⟨⟨h,trivial⟩,trivial⟩) ?_;refine zai (by first|(intro h;rw [h];rfl)|(intro h;cases h)) ?_;refine qI rfl (fun h85=>?_) (fun h85=>?_)
     ·try simp only [decide_eq_true_eq,Bool.or_eq_true] at h85
      try simp only [zds] at h85
      refine qC ?_;refine qB ?_;refine qL ?_;rfl
     ·try simp only [decide_eq_false_iff_not,Bool.or_eq_false_iff,Int.not_lt] at h85
      try simp only [zds] at h85
      simp at h85
theorem MApart_Fok (s : ByteArray) (a b : List Edt) (hs : ¬ 2500 < s.size) (ha : yZ a = false) (hb : yZ b = false) {l : List Itm} (hp : yO s = .inr l) (az : (doR (ofT l) a).2 ≠ 0) (ai an : Int) (ahn : an ≠ 0) (ah : erB (doR (ofT l) a) = errF ai an) (bz : (doR (ofT l) b).2 = 0) : qR Tryz.prog 5 [is s,.one (.sl rEdt a),.one (.sl rEdt b)] (ib true):=by
  have hva:=xE a;have hvb:=xE b;rw [ha] at hva;rw [hb] at hvb;obtain ⟨hsa,hma⟩:=xG ha;obtain ⟨hsb,hmb⟩:=xG hb;have hfa : ∀ e ∈ a,qT e.2.2:=fun e he=>much_ok (hma e he)
  have hfb : ∀ e ∈ b,qT e.2.2:=fun e he=>much_ok (hmb e he)
  have hl:=of_ok s (by omega) hp;have hlk:=of_lok (by omega) hp;have hgd:=ofT_gd hp;obtain ⟨L,hL⟩ : ∃ L,ofT l = L:=⟨_,rfl⟩;rw [hL] at hlk hgd hl ah az bz;have hda:=do_no (κ:=0) (κ':=0) (k:=1) L a hlk (by omega) hfa az;rw [ah] at hda;obtain ⟨b1,b2⟩:=doR_zero bz;have hdb:=(doOk_o (κ:=0) (κ':=0) (k:=1) L b hlk (by omega) hfb b1 b2).x;have hmy:=hlk.many;have hml:=ids_len L.1;have hll:=hlk.len;have hlf:=List.length_filter_le live L.1;refine qP (rs:=[6]) Tryz.func5 rfl rfl rfl teOk rfl ?_;refine qC ?_;refine qB ?_;refine qC ?_;refine qC ?_;refine qB ?_;refine Or.inl ?_;refine zai (rfl) ?_;refine zei _ (zai (alive23_c) ?_);refine qI rfl (fun h28=>?_) (fun h28=>?_)
  ·try simp only [Bool.not_eq_true'] at h28
   try simp only [zds] at h28
   simp at h28
  ·try simp only [Bool.not_eq_false'] at h28
   try simp only [zds] at h28
   refine qM ?_;refine qC ?_;refine qC ?_;refine qB ?_;refine zai (fun h=>trivial) ?_;refine Or.inl ?_;refine zai (rfl) ?_;refine zei _ (zai (fun h=>⟨⟨⟨h,trivial⟩,trivial⟩,hva⟩) ?_);refine zai (by first|(intro h;rw [h];rfl)|(intro h;cases h)) ?_;refine zai (fun h=>trivial) ?_;refine Or.inl ?_;refine zai (rfl) ?_;refine zei _ (zai (fun h=>⟨⟨⟨h,trivial⟩,trivial⟩,hvb⟩) ?_);refine zai (by first|(intro h;rw [h];rfl)|(intro h;cases h)) ?_;refine qI rfl (fun h39=>?_) (fun h39=>?_)
   ·try simp only [decide_eq_true_eq,Bool.or_eq_true] at h39
    try simp only [zds] at h39
    exfalso
    simp at h39;omega
   ·try simp only [decide_eq_false_iff_not,Bool.or_eq_false_iff,Int.not_lt] at h39
    try simp only [zds] at h39
    refine qM ?_;refine qC ?_;refine qB ?_;refine Or.inr (Or.inl (zei [] (zei [] (zei _ (zei _ (zei _ (zei _ (zei _ (zai (hl) (zai rfl (zai True.intro (zai rfl ?_))))))))))));refine qC ?_;refine qC ?_;refine qB ?_;refine qI rfl (fun h46=>?_) (fun h46=>?_)
    ·try simp only [Bool.not_eq_true'] at h46
     try simp only [zds] at h46
     simp at h46
    ·try simp only [Bool.not_eq_false'] at h46
     try simp only [zds] at h46
     refine qM ?_;refine qC ?_;refine qB ?_;refine Or.inr (Or.inr (Or.inl ?_));refine zai rfl ?_;refine zei _ (zai (hda) ?_);refine qC ?_;refine qB ?_;refine Or.inr (Or.inr (Or.inr (zei [] (zei [] (zei _ (zei _ (zei _ (zei _ (zei _ (zai (hdb) (zai rfl (zai True.intro (zai rfl ?_)))))))))))));refine qC ?_;refine qC ?_;refine qB ?_;refine zai (fun h=>trivial) ?_;refine zai (fun h=>⟨⟨h,trivial⟩,trivial⟩) ?_;refine zai (by first|(intro h;rw [h];rfl)|(intro h;cases h)) ?_;refine zai (fun h=>trivial) ?_;refine zai (fun h=>⟨⟨h,trivial⟩,trivial⟩) ?_;refine zai (fun h=>trivial) ?_;refine zai (fun h=>⟨⟨h,trivial⟩,trivial⟩) ?_;refine zai (fun h=>⟨⟨⟨h,trivial⟩,⟨h,trivial⟩,trivial⟩,by omega⟩) ?_;refine zai (fun h=>⟨⟨h,trivial⟩,trivial⟩) ?_;refine zai (by first|(intro h;rw [h];rfl)|(intro h;cases h)) ?_;refine zai (fun h=>trivial) ?_;refine Or.inl ?_;refine zai (rfl) ?_;refine zei _ (zai (fun h=>⟨⟨⟨h,trivial⟩,trivial⟩,len_c L.1 L.2.1 L.2.2⟩) ?_);refine zai (fun h=>trivial) ?_;refine zai (fun h=>⟨⟨h,trivial⟩,trivial⟩) ?_;refine zai (fun h=>⟨⟨⟨h,trivial⟩,⟨h,trivial⟩,trivial⟩,by omega⟩) ?_;refine zai (fun h=>trivial) ?_;refine zai (fun h=>⟨⟨h,trivial⟩,trivial⟩) ?_;refine zai (fun h=>⟨⟨⟨h,trivial⟩,⟨h,trivial⟩,trivial⟩,by omega⟩) ?_;refine zai (fun h=>⟨⟨h,trivial⟩,trivial⟩) ?_;refine zai (by first|(intro h;rw [h];rfl)|(intro h;cases h)) ?_;refine qI rfl (fun h85=>?_) (fun h85=>?_)
     ·try simp only [decide_eq_true_eq,Bool.not_eq_true',Bool.or_eq_true] at h85
      try simp only [zds] at h85
      refine qC ?_;refine qB ?_;refine qL ?_;rfl
     ·try simp only [decide_eq_false_iff_not,Bool.not_eq_false',Bool.or_eq_false_iff,Int.not_lt] at h85
      try simp only [zds] at h85
      simp at h85
theorem MApart_okN (s : ByteArray) (a b : List Edt) (hs : ¬ 2500 < s.size) (ha : yZ a = false) (hb : yZ b = false) {l : List Itm} (hp : yO s = .inr l) (az : (doR (ofT l) a).2 = 0) (bz : (doR (ofT l) b).2 ≠ 0) (bn : Int) (bhn : bn ≠ 0) (bh : erB (doR (ofT l) b) = errN bn) : qR Tryz.prog 5 [is s,.one (.sl rEdt a),.one (.sl rEdt b)] (ib true):=by
  have hva:=xE a;have hvb:=xE b;rw [ha] at hva;rw [hb] at hvb;obtain ⟨hsa,hma⟩:=xG ha;obtain ⟨hsb,hmb⟩:=xG hb;have hfa : ∀ e ∈ a,qT e.2.2:=fun e he=>much_ok (hma e he)
  have hfb : ∀ e ∈ b,qT e.2.2:=fun e he=>much_ok (hmb e he)
  have hl:=of_ok s (by omega) hp;have hlk:=of_lok (by omega) hp;have hgd:=ofT_gd hp;obtain ⟨L,hL⟩ : ∃ L,ofT l = L:=⟨_,rfl⟩;rw [hL] at hlk hgd hl az bh bz;obtain ⟨a1,a2⟩:=doR_zero az;have hda:=(doOk_o (κ:=0) (κ':=0) (k:=1) L a hlk (by omega) hfa a1 a2).x;have hdb:=do_no (κ:=0) (κ':=0) (k:=1) L b hlk (by omega) hfb bz;rw [bh] at hdb;have hmy:=hlk.many;have hml:=ids_len L.1;have hll:=hlk.len;have hlf:=List.length_filter_le live L.1;refine qP (rs:=[6]) Tryz.func5 rfl rfl rfl teOk rfl ?_;refine qC ?_;refine qB ?_;refine qC ?_;refine qC ?_;refine qB ?_;refine Or.inl ?_;refine zai (rfl) ?_;refine zei _ (zai (alive23_c) ?_);refine qI rfl (fun h28=>?_) (fun h28=>?_)
  ·try simp only [Bool.not_eq_true'] at h28
   try simp only [zds] at h28
   simp at h28
  ·try simp only [Bool.not_eq_false'] at h28
   try simp only [zds] at h28
   refine qM ?_;refine qC ?_;refine qC ?_;refine qB ?_;refine zai (fun h=>trivial) ?_;refine Or.inl ?_;refine zai (rfl) ?_;refine zei _ (zai (fun h=>⟨⟨⟨h,trivial⟩,trivial⟩,hva⟩) ?_);refine zai (by first|(intro h;rw [h];rfl)|(intro h;cases h)) ?_;refine zai (fun h=>trivial) ?_;refine Or.inl ?_;refine zai (rfl) ?_;refine zei _ (zai (fun h=>⟨⟨⟨h,trivial⟩,trivial⟩,hvb⟩) ?_);refine zai (by first|(intro h;rw [h];rfl)|(intro h;cases h)) ?_;refine qI rfl (fun h39=>?_) (fun h39=>?_)
   ·try simp only [decide_eq_true_eq,Bool.or_eq_true] at h39
    try simp only [zds] at h39
    exfalso
    simp at h39;omega
   ·try simp only [decide_eq_false_iff_not,Bool.or_eq_false_iff,Int.not_lt] at h39
    try simp only [zds] at h39
    refine qM ?_;refine qC ?_;refine qB ?_;refine Or.inr (Or.inl (zei [] (zei [] (zei _ (zei _ (zei _ (zei _ (zei _ (zai (hl) (zai rfl (zai True.intro (zai rfl ?_))))))))))));refine qC ?_;refine qC ?_;refine qB ?_;refine qI rfl (fun h46=>?_) (fun h46=>?_)
    ·try simp only [Bool.not_eq_true'] at h46
     try simp only [zds] at h46
     simp at h46
    ·try simp only [Bool.not_eq_false'] at h46
     try simp only [zds] at h46
     refine qM ?_;refine qC ?_;refine qB ?_;refine Or.inr (Or.inr (Or.inr (zei [] (zei [] (zei _ (zei _ (zei _ (zei _ (zei _ (zai (hda) (zai rfl (zai True.intro (zai rfl ?_)))))))))))));refine qC ?_;refine qB ?_;refine Or.inr (Or.inr (Or.inl ?_));refine zai rfl ?_;refine zei _ (zai (hdb) ?_);refine qC ?_;refine qC ?_;refine qB ?_;refine zai (fun h=>trivial) ?_;refine zai (fun h=>⟨⟨h,trivial⟩,trivial⟩) ?_;refine zai (by first|(intro h;rw [h];rfl)|(intro h;cases h)) ?_;refine zai (fun h=>trivial) ?_;refine zai (fun h=>⟨⟨h,trivial⟩,trivial⟩) ?_;refine zai (fun h=>trivial) ?_;refine zai (fun h=>⟨⟨h,trivial⟩,trivial⟩) ?_;refine zai (fun h=>⟨⟨⟨h,trivial⟩,⟨h,trivial⟩,trivial⟩,by omega⟩) ?_;refine zai (fun h=>⟨⟨h,trivial⟩,trivial⟩) ?_;refine zai (by first|(intro h;rw [h];rfl)|(intro h;cases h)) ?_;refine zai (fun h=>trivial) ?_;refine Or.inl ?_;refine zai (rfl) ?_;refine zei _ (zai (fun h=>⟨⟨⟨h,trivial⟩,trivial⟩,len_c L.1 L.2.1 L.2.2⟩) ?_);refine zai (fun h=>trivial) ?_;refine zai (fun h=>⟨⟨h,trivial⟩,trivial⟩) ?_;refine zai (fun h=>⟨⟨⟨h,trivial⟩,⟨h,trivial⟩,trivial⟩,by omega⟩) ?_;refine zai (fun h=>trivial) ?_;refine zai (fun h=>⟨⟨h,trivial⟩,trivial⟩) ?_;refine zai (fun h=>⟨⟨⟨h,trivial⟩,⟨h,trivial⟩,trivial⟩,by omega⟩) ?_;refine zai (fun h=>⟨⟨h,trivial⟩,trivial⟩) ?_;refine zai (by first|(intro h;rw [h];rfl)|(intro h;cases h)) ?_;refine qI rfl (fun h85=>?_) (fun h85=>?_)
     ·try simp only [decide_eq_true_eq,Bool.not_eq_true',Bool.or_eq_true] at h85
      try simp only [zds] at h85
      refine qC ?_;refine qB ?_;refine qL ?_;rfl
     ·try simp only [decide_eq_false_iff_not,Bool.not_eq_false',Bool.or_eq_false_iff,Int.not_lt] at h85
      try simp only [zds] at h85
      simp at h85
theorem MApart_okF (s : ByteArray) (a b : List Edt) (hs : ¬ 2500 < s.size) (ha : yZ a = false) (hb : yZ b = false) {l : List Itm} (hp : yO s = .inr l) (az : (doR (ofT l) a).2 = 0) (bz : (doR (ofT l) b).2 ≠ 0) (bi bn : Int) (bhn : bn ≠ 0) (bh : erB (doR (ofT l) b) = errF bi bn) : qR Tryz.prog 5 [is s,.one (.sl rEdt a),.one (.sl rEdt b)] (ib true):=by
  have hva:=xE a;have hvb:=xE b;rw [ha] at hva;rw [hb] at hvb;obtain ⟨hsa,hma⟩:=xG ha;obtain ⟨hsb,hmb⟩:=xG hb;have hfa : ∀ e ∈ a,qT e.2.2:=fun e he=>much_ok (hma e he)
  have hfb : ∀ e ∈ b,qT e.2.2:=fun e he=>much_ok (hmb e he)
  have hl:=of_ok s (by omega) hp;have hlk:=of_lok (by omega) hp;have hgd:=ofT_gd hp;obtain ⟨L,hL⟩ : ∃ L,ofT l = L:=⟨_,rfl⟩;rw [hL] at hlk hgd hl az bh bz;obtain ⟨a1,a2⟩:=doR_zero az;have hda:=(doOk_o (κ:=0) (κ':=0) (k:=1) L a hlk (by omega) hfa a1 a2).x;have hdb:=do_no (κ:=0) (κ':=0) (k:=1) L b hlk (by omega) hfb bz;rw [bh] at hdb;have hmy:=hlk.many;have hml:=ids_len L.1;have hll:=hlk.len;have hlf:=List.length_filter_le live L.1;refine qP (rs:=[6]) Tryz.func5 rfl rfl rfl teOk rfl ?_;refine qC ?_;refine qB ?_;refine qC ?_;refine qC ?_;refine qB ?_;refine Or.inl ?_;refine zai (rfl) ?_;refine zei _ (zai (alive23_c) ?_);refine qI rfl (fun h28=>?_) (fun h28=>?_)
  ·try simp only [Bool.not_eq_true'] at h28
   try simp only [zds] at h28
   simp at h28
  ·try simp only [Bool.not_eq_false'] at h28
   try simp only [zds] at h28
   refine qM ?_;refine qC ?_;refine qC ?_;refine qB ?_;refine zai (fun h=>trivial) ?_;refine Or.inl ?_;refine zai (rfl) ?_;refine zei _ (zai (fun h=>⟨⟨⟨h,trivial⟩,trivial⟩,hva⟩) ?_);refine zai (by first|(intro h;rw [h];rfl)|(intro h;cases h)) ?_;refine zai (fun h=>trivial) ?_;refine Or.inl ?_;refine zai (rfl) ?_;refine zei _ (zai (fun h=>⟨⟨⟨h,trivial⟩,trivial⟩,hvb⟩) ?_);refine zai (by first|(intro h;rw [h];rfl)|(intro h;cases h)) ?_;refine qI rfl (fun h39=>?_) (fun h39=>?_)
   ·try simp only [decide_eq_true_eq,Bool.or_eq_true] at h39
    try simp only [zds] at h39
    exfalso
    simp at h39;omega
   ·try simp only [decide_eq_false_iff_not,Bool.or_eq_false_iff,Int.not_lt] at h39
    try simp only [zds] at h39
    refine qM ?_;refine qC ?_;refine qB ?_;refine Or.inr (Or.inl (zei [] (zei [] (zei _ (zei _ (zei _ (zei _ (zei _ (zai (hl) (zai rfl (zai True.intro (zai rfl ?_))))))))))));refine qC ?_;refine qC ?_;refine qB ?_;refine qI rfl (fun h46=>?_) (fun h46=>?_)
    ·try simp only [Bool.not_eq_true'] at h46
     try simp only [zds] at h46
     simp at h46
    ·try simp only [Bool.not_eq_false'] at h46
     try simp only [zds] at h46
     refine qM ?_;refine qC ?_;refine qB ?_;refine Or.inr (Or.inr (Or.inr (zei [] (zei [] (zei _ (zei _ (zei _ (zei _ (zei _ (zai (hda) (zai rfl (zai True.intro (zai rfl ?_)))))))))))));refine qC ?_;refine qB ?_;refine Or.inr (Or.inr (Or.inl ?_));refine zai rfl ?_;refine zei _ (zai (hdb) ?_);refine qC ?_;refine qC ?_;refine qB ?_;refine zai (fun h=>trivial) ?_;refine zai (fun h=>⟨⟨h,trivial⟩,trivial⟩) ?_;refine zai (by first|(intro h;rw [h];rfl)|(intro h;cases h)) ?_;refine zai (fun h=>trivial) ?_;refine zai (fun h=>⟨⟨h,trivial⟩,trivial⟩) ?_;refine zai (fun h=>trivial) ?_;refine zai (fun h=>⟨⟨h,trivial⟩,trivial⟩) ?_;refine zai (fun h=>⟨⟨⟨h,trivial⟩,⟨h,trivial⟩,trivial⟩,by omega⟩) ?_;refine zai (fun h=>⟨⟨h,trivial⟩,trivial⟩) ?_;refine zai (by first|(intro h;rw [h];rfl)|(intro h;cases h)) ?_;refine zai (fun h=>trivial) ?_;refine Or.inl ?_;refine zai (rfl) ?_;refine zei _ (zai (fun h=>⟨⟨⟨h,trivial⟩,trivial⟩,len_c L.1 L.2.1 L.2.2⟩) ?_);refine zai (fun h=>trivial) ?_;refine zai (fun h=>⟨⟨h,trivial⟩,trivial⟩) ?_;refine zai (fun h=>⟨⟨⟨h,trivial⟩,⟨h,trivial⟩,trivial⟩,by omega⟩) ?_;refine zai (fun h=>trivial) ?_;refine zai (fun h=>⟨⟨h,trivial⟩,trivial⟩) ?_;refine zai (fun h=>⟨⟨⟨h,trivial⟩,⟨h,trivial⟩,trivial⟩,by omega⟩) ?_;refine zai (fun h=>⟨⟨h,trivial⟩,trivial⟩) ?_;refine zai (by first|(intro h;rw [h];rfl)|(intro h;cases h)) ?_;refine qI rfl (fun h85=>?_) (fun h85=>?_)
     ·try simp only [decide_eq_true_eq,Bool.not_eq_true',Bool.or_eq_true] at h85
      try simp only [zds] at h85
      refine qC ?_;refine qB ?_;refine qL ?_;rfl
     ·try simp only [decide_eq_false_iff_not,Bool.not_eq_false',Bool.or_eq_false_iff,Int.not_lt] at h85
      try simp only [zds] at h85
      simp at h85
theorem apart_one {n i k : Int} {t d : Bool} (h : n ≤ i ∨ (k = 3 ∨ t = false) ∧ d = false) (hlt : i < n) : (k ≠ 3 → t = false) ∧ d = false:=by
  rcases h with h|⟨h1,h2⟩
  · omega
  · exact ⟨fun hk=>h1.resolve_left hk,h2⟩
theorem apart_two {n i : Int} {d : Bool} (h : n ≤ i ∨ d = false) (hlt : i < n) : d = false:=by
  rcases h with h|h
  · omega
  · exact h
theorem apart_facts {c : Nat} {L : Lst} (h : LOk c L) {a b : List Edt} (hfa : ∀ e ∈ a,qT e.2.2) (hfb : ∀ e ∈ b,qT e.2.2) (h0 : (doR L a).2 = 0) (h3 : (doR L b).2 = 0) (hap : apartB L.2.1 a b) (h40 : (a.length : Int) + (b.length : Int) ≤ 40) :
    (mrgN L a b).2 = 0 ∧ (mrgN L b a).2 = 0 ∧ (a ++ rebB L.2.1 a b).length = a.length + b.length ∧ (b ++ rebB L.2.1 b a).length = a.length + b.length:=by
  have e1 : (rebB L.2.1 a b).length = b.length:=(reb_len L.2.1 (insA a : Int) a b).2 (apart_whole1 hap);have e2 : (rebB L.2.1 b a).length = a.length:=(reb_len L.2.1 (insA b : Int) b a).2 (apart_whole2 hap);have l1 : (a ++ rebB L.2.1 a b).length = a.length + b.length:=by rw [List.length_append,e1]
  have l2 : (b ++ rebB L.2.1 b a).length = a.length + b.length:=by rw [List.length_append,e2];omega
  refine ⟨?_,?_,l1,l2⟩
  · unfold mrgN;rw [if_neg (fun h=>h h0),if_neg (fun h=>h h3),if_neg (clear_clash (apart_clear1 hap)),if_neg (by omega)]
  · unfold mrgN;rw [if_neg (fun h=>h h3),if_neg (fun h=>h h0),if_neg (clear_clash (apart_clear2 hap)),if_neg (by omega)]
theorem take_all {Pr : Edt → Prop} {b : List Edt} {i : Nat} (hi : i < b.length) (h : ∀ x ∈ b.take i,Pr x) (h1 : Pr (b.getD i ((0 : Int),(0 : Int),([] : List Fld)))) : ∀ x ∈ b.take (i + 1),Pr x:=by
  rw [← xA ((0 : Int),(0 : Int),([] : List Fld)) hi];intro x hx;rcases List.mem_append.1 hx with hx|hx
  · exact h x hx
  · rw [List.mem_singleton.1 hx];exact h1
theorem MApart_main (s : ByteArray) (a b : List Edt) (hs : ¬ 2500 < s.size) (ha : yZ a = false) (hb : yZ b = false) {l : List Itm} (hp : yO s = .inr l) (h0' : (doR (ofT l) a).2 = 0) (h3' : (doR (ofT l) b).2 = 0) : qR Tryz.prog 5 [is s,.one (.sl rEdt a),.one (.sl rEdt b)] (ib true):=by
  have hva:=xE a;have hvb:=xE b;rw [ha] at hva;rw [hb] at hvb;obtain ⟨hsa,hma⟩:=xG ha;obtain ⟨hsb,hmb⟩:=xG hb;have hfa : ∀ e ∈ a,qT e.2.2:=fun e he=>much_ok (hma e he)
  have hfb : ∀ e ∈ b,qT e.2.2:=fun e he=>much_ok (hmb e he)
  have hl:=of_ok s (by omega) hp;have hlk:=of_lok (by omega) hp;have hgd:=ofT_gd hp;obtain ⟨L,hL⟩ : ∃ L,ofT l = L:=⟨_,rfl⟩;rw [hL] at hlk hgd hl h0' h3';obtain ⟨ha1,ha2⟩:=doR_zero h0';obtain ⟨hb1,hb2⟩:=doR_zero h3';have hda:=(doOk_o (κ:=0) (κ':=0) (k:=1) L a hlk (by omega) hfa ha1 ha2).x;have hdb:=(doOk_o (κ:=0) (κ':=0) (k:=1) L b hlk (by omega) hfb hb1 hb2).x;obtain ⟨ta,ka,la,_⟩:=doR_takes h0';obtain ⟨tb,kb,lb,_⟩:=doR_takes h3';have hmy:=hlk.many;have hml:=ids_len L.1;have hll:=hlk.len;have hlf:=List.length_filter_le live L.1;have hLn:=hlk.next;have hia:=insA_le a;have hib:=insA_le b;refine qP (rs:=[6]) Tryz.func5 rfl rfl rfl teOk rfl ?_;refine qC ?_;refine qB ?_;refine qC ?_;refine qC ?_;refine qB ?_;refine Or.inl ?_;refine zai (rfl) ?_;refine zei _ (zai (alive23_c) ?_);refine qI rfl (fun h28=>?_) (fun h28=>?_)
  ·try simp only [Bool.not_eq_true'] at h28
   try simp only [zds] at h28
   simp at h28
  ·try simp only [Bool.not_eq_false'] at h28
   try simp only [zds] at h28
   refine qM ?_;refine qC ?_;refine qC ?_;refine qB ?_;refine zai (fun h=>trivial) ?_;refine Or.inl ?_;refine zai (rfl) ?_;refine zei _ (zai (fun h=>⟨⟨⟨h,trivial⟩,trivial⟩,hva⟩) ?_);refine zai (by first|(intro h;rw [h];rfl)|(intro h;cases h)) ?_;refine zai (fun h=>trivial) ?_;refine Or.inl ?_;refine zai (rfl) ?_;refine zei _ (zai (fun h=>⟨⟨⟨h,trivial⟩,trivial⟩,hvb⟩) ?_);refine zai (by first|(intro h;rw [h];rfl)|(intro h;cases h)) ?_;refine qI rfl (fun h39=>?_) (fun h39=>?_)
   ·try simp only [decide_eq_true_eq,Bool.or_eq_true] at h39
    try simp only [zds] at h39
    exfalso
    simp at h39;omega
   ·try simp only [decide_eq_false_iff_not,Bool.or_eq_false_iff,Int.not_lt] at h39
    try simp only [zds] at h39
    refine qM ?_;refine qC ?_;refine qB ?_;refine Or.inr (Or.inl (zei [] (zei [] (zei _ (zei _ (zei _ (zei _ (zei _ (zai (hl) (zai rfl (zai True.intro (zai rfl ?_))))))))))));refine qC ?_;refine qC ?_;refine qB ?_;refine qI rfl (fun h46=>?_) (fun h46=>?_)
    ·try simp only [Bool.not_eq_true'] at h46
     try simp only [zds] at h46
     simp at h46
    ·try simp only [Bool.not_eq_false'] at h46
     try simp only [zds] at h46
     refine qM ?_;refine qC ?_;refine qB ?_;refine Or.inr (Or.inr (Or.inr (zei [] (zei [] (zei _ (zei _ (zei _ (zei _ (zei _ (zai (hda) (zai rfl (zai True.intro (zai rfl ?_)))))))))))));refine qC ?_;refine qB ?_;refine Or.inr (Or.inr (Or.inr (zei [] (zei [] (zei _ (zei _ (zei _ (zei _ (zei _ (zai (hdb) (zai rfl (zai True.intro (zai rfl ?_)))))))))))));refine qC ?_;refine qC ?_;refine qB ?_;refine zai (fun h=>trivial) ?_;refine zai (fun h=>⟨⟨h,trivial⟩,trivial⟩) ?_;refine zai (by first|(intro h;rw [h];rfl)|(intro h;cases h)) ?_;refine zai (fun h=>trivial) ?_;refine zai (fun h=>⟨⟨h,trivial⟩,trivial⟩) ?_;refine zai (fun h=>trivial) ?_;refine zai (fun h=>⟨⟨h,trivial⟩,trivial⟩) ?_;refine zai (fun h=>⟨⟨⟨h,trivial⟩,⟨h,trivial⟩,trivial⟩,by omega⟩) ?_;refine zai (fun h=>⟨⟨h,trivial⟩,trivial⟩) ?_;refine zai (by first|(intro h;rw [h];rfl)|(intro h;cases h)) ?_;refine zai (fun h=>trivial) ?_;refine Or.inl ?_;refine zai (rfl) ?_;refine zei _ (zai (fun h=>⟨⟨⟨h,trivial⟩,trivial⟩,len_c L.1 L.2.1 L.2.2⟩) ?_);refine zai (fun h=>trivial) ?_;refine zai (fun h=>⟨⟨h,trivial⟩,trivial⟩) ?_;refine zai (fun h=>⟨⟨⟨h,trivial⟩,⟨h,trivial⟩,trivial⟩,by omega⟩) ?_;refine zai (fun h=>trivial) ?_;refine zai (fun h=>⟨⟨h,trivial⟩,trivial⟩) ?_;refine zai (fun h=>⟨⟨⟨h,trivial⟩,⟨h,trivial⟩,trivial⟩,by omega⟩) ?_;refine zai (fun h=>⟨⟨h,trivial⟩,trivial⟩) ?_;refine zai (by first|(intro h;rw [h];rfl)|(intro h;cases h)) ?_;refine qI rfl (fun h85=>?_) (fun h85=>?_)
     ·try simp only [decide_eq_true_eq,Bool.not_eq_true',Bool.or_eq_true] at h85
      try simp only [zds] at h85
      refine qC ?_;refine qB ?_;refine qL ?_;rfl
     ·try simp only [decide_eq_false_iff_not,Bool.not_eq_false',Bool.or_eq_false_iff,Int.not_lt] at h85
      try simp only [zds] at h85
      have hsz : (a.length : Int) + (b.length : Int) ≤ 40 ∧ L.2.2 + (a.length : Int) + (b.length : Int) ≤ 400:=(by simp at h85;omega);refine qM ?_;refine qC ?_;refine qC ?_;refine qB ?_;intro l12_1
      try simp only [zds] at l12_1
      refine qN ?_;refine qX (fun (i : Nat)=>i ≤ b.length ∧ ∀ x ∈ b.take i,x.2.1 < L.2.1 → (x.1 ≠ 3 → tchA a x.2.1 = false) ∧ delA a x.2.1 = false) (fun (i : Nat)=>[(1,.one (.sl rEdt a)),(2,.one (.sl rEdt b)),(7,.one (.own 0 0)),(86,.one (.sl rEdt b)),(87,ii .i64 b.length),(88,ii .i64 i)]) (fun (i : Nat)=>[(0,.box 116 [.vec 1,.lit (.int .i64 L.2.1),.lit (.int .i64 L.2.2)]),(1,.vec 111 rEnt L.1)]) 2 (fun (i : Nat)=>b.length - i) 0 (⟨Nat.zero_le _,by simp⟩) (qV ⟨rfl,rfl,rfl,rfl,rfl,rfl⟩ ⟨rfl,rfl⟩ rfl) ?_;intro i hI0;obtain ⟨hi,hpre⟩:=hI0;refine qC ?_;refine qB ?_;refine qC ?_;refine qI rfl (fun h89=>?_) (fun h89=>?_)
      ·try simp only [decide_eq_true_eq] at h89
       try simp only [zds] at h89
       have hil : i < b.length:=(by omega);refine qM ?_;refine qC ?_;refine qN ?_;refine qC ?_;refine qB ?_;refine zai (by first|omega|assumption|decide|(simp only [zds];omega)|(simp <;> omega)) ?_;refine qC ?_;refine acode_draw rfl (by kernel_rfl) ?_;refine zai (rfl) ?_;refine zei _ (zai (next_c L.1 L.2.1 L.2.2) ?_);refine zai (fun h=>trivial) ?_;refine zai (fun h=>⟨⟨h,trivial⟩,trivial⟩) ?_;refine zai (fun h=>⟨⟨h,trivial⟩,trivial⟩) ?_;refine zai (fun h=>⟨⟨h,trivial⟩,trivial⟩) ?_;refine zai (fun h=>trivial) ?_;refine zai (fun h=>trivial) ?_;refine zai (fun h=>⟨⟨h,trivial⟩,trivial⟩) ?_;refine zai (rfl) ?_;refine zei _ (zai (fun h=>⟨⟨⟨h,trivial⟩,⟨h,trivial⟩,trivial⟩,touches_c a (b.getD i ((0 : Int),(0 : Int),([] : List Fld))).2.1⟩) ?_);refine zai (fun h=>⟨⟨⟨h,trivial⟩,trivial⟩,by first|exact fun h2=>h2|(intro h2;rw [h,h2];rfl)|(intro h2;cases h2)|(intro h2;simp_all [gq])⟩) ?_;refine zai (fun h=>⟨⟨h,trivial⟩,trivial⟩) ?_;refine zai (fun h=>trivial) ?_;refine zai (fun h=>trivial) ?_;refine zai (fun h=>⟨⟨h,trivial⟩,trivial⟩) ?_;refine zai (rfl) ?_;refine zei _ (zai (fun h=>⟨⟨⟨h,trivial⟩,⟨h,trivial⟩,trivial⟩,deletes_c a (b.getD i ((0 : Int),(0 : Int),([] : List Fld))).2.1⟩) ?_);refine zai (fun h=>⟨⟨⟨h,trivial⟩,trivial⟩,by first|exact fun h2=>h2|(intro h2;rw [h,h2];rfl)|(intro h2;cases h2)|(intro h2;simp_all [gq])⟩) ?_;refine zai (by exact fun h=>h) ?_;refine qI rfl (fun h113=>?_) (fun h113=>?_)
       ·try simp only [decide_eq_true_eq,decide_eq_false_iff_not,Bool.and_eq_true,Bool.not_eq_true',Bool.or_eq_true] at h113
        try simp only [Int.toNat_natCast,qH,qG,qE] at h113
        refine qC ?_;refine qB ?_;refine qL ?_;rfl
       ·try simp only [decide_eq_true_eq,decide_eq_false_iff_not,Bool.not_eq_false',Bool.or_eq_false_iff,Bool.and_eq_false_iff,Int.not_lt] at h113
        try simp only [Int.toNat_natCast,qH,qG,qE] at h113
        refine qM ?_;refine qB ?_;refine zai (by first|omega|assumption|decide|(simp only [zds];omega)|(simp <;> omega)) ?_;exact ⟨i + 1,⟨by omega,take_all hil hpre (apart_one h113)⟩,by first|omega|(simp <;> omega),qV ⟨rfl,rfl,rfl,rfl,rfl,(yW (by omega))⟩ ⟨rfl,rfl⟩ rfl⟩
      ·try simp only [decide_eq_false_iff_not,Int.not_lt] at h89
       try simp only [zds] at h89
       refine yA ?_;refine qC ?_;refine qC ?_;refine qB ?_;intro l18_1
       try simp only [zds] at l18_1
       refine qN ?_;refine qX (fun (j : Nat)=>j ≤ a.length ∧ ∀ x ∈ a.take j,x.2.1 < L.2.1 → delA b x.2.1 = false) (fun (j : Nat)=>[(1,.one (.sl rEdt a)),(2,.one (.sl rEdt b)),(7,.one (.own 0 0)),(115,.one (.sl rEdt a)),(116,ii .i64 a.length),(117,ii .i64 j)]) (fun (j : Nat)=>[(0,.box 116 [.vec 1,.lit (.int .i64 L.2.1),.lit (.int .i64 L.2.2)]),(1,.vec 111 rEnt L.1)]) 2 (fun (j : Nat)=>a.length - j) 0 (⟨Nat.zero_le _,by simp⟩) (qV ⟨rfl,rfl,rfl,rfl,rfl,rfl⟩ ⟨rfl,rfl⟩ rfl) ?_;intro j hI2;obtain ⟨hj,hpre2⟩:=hI2;refine qC ?_;refine qB ?_;refine qC ?_;refine qI rfl (fun h118=>?_) (fun h118=>?_)
       ·try simp only [decide_eq_true_eq] at h118
        try simp only [zds] at h118
        have hjl : j < a.length:=(by omega);refine qM ?_;refine qC ?_;refine qN ?_;refine qC ?_;refine qB ?_;refine zai (by first|omega|assumption|decide|(simp only [zds];omega)|(simp <;> omega)) ?_;refine qC ?_;refine acode_draw rfl (by kernel_rfl) ?_;refine zai (rfl) ?_;refine zei _ (zai (next_c L.1 L.2.1 L.2.2) ?_);refine zai (fun h=>trivial) ?_;refine zai (fun h=>trivial) ?_;refine zai (fun h=>⟨⟨h,trivial⟩,trivial⟩) ?_;refine zai (rfl) ?_;refine zei _ (zai (fun h=>⟨⟨⟨h,trivial⟩,⟨h,trivial⟩,trivial⟩,deletes_c b (a.getD j ((0 : Int),(0 : Int),([] : List Fld))).2.1⟩) ?_);refine zai (by exact fun h=>h) ?_;refine qI rfl (fun h131=>?_) (fun h131=>?_)
        ·try simp only [decide_eq_true_eq,Bool.and_eq_true] at h131
         try simp only [Int.toNat_natCast,qH,qG,qE] at h131
         refine qC ?_;refine qB ?_;refine qL ?_;rfl
        ·try simp only [decide_eq_false_iff_not,Bool.and_eq_false_iff,Int.not_lt] at h131
         try simp only [Int.toNat_natCast,qH,qG,qE] at h131
         refine qM ?_;refine qB ?_;refine zai (by first|omega|assumption|decide|(simp only [zds];omega)|(simp <;> omega)) ?_;exact ⟨j + 1,⟨by omega,take_all hjl hpre2 (apart_two h131)⟩,by first|omega|(simp <;> omega),qV ⟨rfl,rfl,rfl,rfl,rfl,(yW (by omega))⟩ ⟨rfl,rfl⟩ rfl⟩
       ·try simp only [decide_eq_false_iff_not,Int.not_lt] at h118
        try simp only [zds] at h118
        refine yA ?_;refine qC ?_;rw [List.take_of_length_le (by omega)] at hpre hpre2;have hap : apartB L.2.1 a b:=⟨hpre,hpre2⟩;obtain ⟨m1,m2,x1,x2⟩:=apart_facts hlk hfa hfb h0' h3' hap hsz.1;obtain ⟨_,_,h5,h6⟩:=mrg_ok m1;obtain ⟨_,_,h8,h9⟩:=mrg_ok m2;have hm1:=mrgO_c (k:=1) L a b hlk (by omega) (by omega) hfa hfb h0' h3' h5 h6;have hm2:=mrgO_c (k:=1) L b a hlk (by omega) (by omega) hfb hfa h3' h0' h8 h9;obtain ⟨hxc,hxf⟩:=both_good h0' h3' hfa hfb h6;obtain ⟨hyc,hyf⟩:=both_good h3' h0' hfb hfa h9;obtain ⟨t1,t2,e0,e1,e2,e3⟩:=apart_same hlk hfa hfb ka kb ta tb hap hsz.2;refine qB ?_;refine Or.inr (Or.inr (Or.inl ?_));refine zai rfl ?_;refine zei _ (zai (hm1) ?_);refine qC ?_;refine qB ?_;refine Or.inr (Or.inr (Or.inl ?_));refine zai rfl ?_;refine zei _ (zai (hm2) ?_);refine qC ?_;refine qC ?_;refine qB ?_;refine zai (fun h=>trivial) ?_;refine zai (fun h=>⟨⟨h,trivial⟩,trivial⟩) ?_;refine zai (by first|(intro h;rw [h];rfl)|(intro h;cases h)) ?_;refine zai (fun h=>trivial) ?_;refine zai (fun h=>⟨⟨h,trivial⟩,trivial⟩) ?_;refine zai (fun h=>trivial) ?_;refine zai (fun h=>⟨⟨h,trivial⟩,trivial⟩) ?_;refine zai (fun h=>trivial) ?_;refine zai (fun h=>⟨⟨h,trivial⟩,trivial⟩) ?_;refine zai (fun h=>⟨⟨⟨h,trivial⟩,⟨h,trivial⟩,trivial⟩,by omega⟩) ?_;refine zai (fun h=>⟨⟨h,trivial⟩,⟨h,trivial⟩,trivial⟩) ?_;refine zai (by first|(intro h;rw [h];rfl)|(intro h;cases h)) ?_;refine zai (fun h=>trivial) ?_;refine zai (fun h=>⟨⟨h,trivial⟩,trivial⟩) ?_;refine zai (fun h=>trivial) ?_;refine zai (fun h=>⟨⟨h,trivial⟩,trivial⟩) ?_;refine zai (fun h=>⟨⟨h,trivial⟩,⟨h,trivial⟩,trivial⟩) ?_;refine zai (by first|(intro h;rw [h];rfl)|(intro h;cases h)) ?_;refine qI rfl (fun h169=>?_) (fun h169=>?_)
        ·try simp only [decide_eq_false_iff_not,Bool.not_eq_true',Bool.or_eq_true] at h169
         try simp only [zds] at h169
         exfalso
         rw [List.length_append] at x1 x2;simp at h169;omega
        ·try simp only [decide_eq_true_eq,Bool.not_eq_false',Bool.or_eq_false_iff] at h169
         try simp only [zds] at h169
         refine qM ?_;refine qC ?_;have hdx:=(doOk_o (κ:=0) (κ':=0) (k:=1) L (a ++ rebB L.2.1 a b) hlk (by omega) hxf hxc (takes_to _ _ t1)).x;have hdy:=(doOk_o (κ:=0) (κ':=0) (k:=1) L (b ++ rebB L.2.1 b a) hlk (by omega) hyf hyc (takes_to _ _ t2)).x;have hYk:=run_ok hlk hxf;have hZk:=run_ok hlk hyf;rw [run_plays] at hdx hdy;obtain ⟨Y,hY⟩ : ∃ Y,runL L (a ++ rebB L.2.1 a b) = Y:=⟨_,rfl⟩;obtain ⟨Z,hZ⟩ : ∃ Z,runL L (b ++ rebB L.2.1 b a) = Z:=⟨_,rfl⟩;rw [hY] at hdx hYk;rw [hZ] at hdy hZk;simp only [hY,hZ] at e0 e1 e2 e3;refine qB ?_;refine Or.inr (Or.inr (Or.inr (zei [] (zei [] (zei _ (zei _ (zei _ (zei _ (zei _ (zai (hdx) (zai rfl (zai True.intro (zai rfl ?_)))))))))))));refine qC ?_;refine qB ?_;refine Or.inr (Or.inr (Or.inr (zei [] (zei [] (zei _ (zei _ (zei _ (zei _ (zei _ (zai (hdy) (zai rfl (zai True.intro (zai rfl ?_)))))))))))));refine qC ?_;refine qC ?_;refine qB ?_;refine zai (fun h=>trivial) ?_;refine zai (fun h=>⟨⟨h,trivial⟩,trivial⟩) ?_;refine zai (by first|(intro h;rw [h];rfl)|(intro h;cases h)) ?_;refine zai (fun h=>trivial) ?_;refine Or.inl ?_;refine zai (rfl) ?_;refine zei _ (zai (fun h=>⟨⟨⟨h,trivial⟩,trivial⟩,len_c Y.1 Y.2.1 Y.2.2⟩) ?_);refine zai (fun h=>trivial) ?_;refine Or.inl ?_;refine zai (rfl) ?_;refine zei _ (zai (fun h=>⟨⟨⟨h,trivial⟩,trivial⟩,len_c Z.1 Z.2.1 Z.2.2⟩) ?_);refine zai (fun h=>⟨⟨h,trivial⟩,⟨h,trivial⟩,trivial⟩) ?_;refine zai (by first|(intro h;rw [h];rfl)|(intro h;cases h)) ?_;refine qI rfl (fun h196=>?_) (fun h196=>?_)
         ·try simp only [decide_eq_false_iff_not,Bool.not_eq_true',Bool.or_eq_true] at h196
          try simp only [zds] at h196
          exfalso
          simp at h196;exact h196 e0
         ·try simp only [decide_eq_true_eq,Bool.not_eq_false',Bool.or_eq_false_iff] at h196
          try simp only [zds] at h196
          refine qM ?_;refine qC ?_;refine qC ?_;refine qB ?_;refine qN ?_;refine qX (fun (n : Nat)=>1 ≤ n ∧ (n : Int) ≤ L.2.1) (fun (n : Nat)=>[(1,.one (.sl rEdt a)),(2,.one (.sl rEdt b)),(7,.one (.own 0 0)),(18,.one (.own 3 0)),(20,.one (.own 5 0)),(22,ii .i64 n)]) (fun (n : Nat)=>[(0,.box 116 [.vec 1,.lit (.int .i64 L.2.1),.lit (.int .i64 L.2.2)]),(1,.vec 111 rEnt L.1),(3,.box 116 [.vec 2,.lit (.int .i64 Y.2.1),.lit (.int .i64 Y.2.2)]),(2,.vec 111 rEnt Y.1),(5,.box 116 [.vec 4,.lit (.int .i64 Z.2.1),.lit (.int .i64 Z.2.2)]),(4,.vec 111 rEnt Z.1)]) 6 (fun (n : Nat)=>L.2.1.toNat - n) 1 (⟨Nat.le_refl _,by omega⟩) (qV ⟨rfl,rfl,rfl,rfl,rfl,rfl⟩ ⟨rfl,rfl,rfl,rfl,rfl,rfl⟩ rfl) ?_;intro n hI4;refine qC ?_;refine qC ?_;refine qB ?_;refine Or.inr (Or.inr (Or.inl ?_));refine zai rfl ?_;refine zei _ (zai (next_c L.1 L.2.1 L.2.2) ?_);refine qI rfl (fun h200=>?_) (fun h200=>?_)
          ·try simp only [decide_eq_true_eq] at h200
           try simp only [zds] at h200
           have hf1:=e1 n (by omega);refine qM ?_;refine qC ?_;refine qN ?_;refine qC ?_;refine qB ?_;refine Or.inr (Or.inr (Or.inl ?_));refine zai rfl ?_;refine zei _ (zai (alike_t Y Z n n hYk.f1 hZk.f1 hf1) ?_);refine qI rfl (fun h208=>?_) (fun h208=>?_)
           ·try simp only [Bool.not_eq_true'] at h208
            try simp only [zds] at h208
            simp at h208
           ·try simp only [Bool.not_eq_false'] at h208
            try simp only [zds] at h208
            refine qM ?_;refine qB ?_;refine zai (by first|omega|assumption|decide|(simp only [zds];omega)|(simp <;> omega)) ?_;exact ⟨n + 1,by omega,by first|omega|(simp <;> omega),qV ⟨rfl,rfl,rfl,rfl,rfl,(yW (by omega))⟩ ⟨rfl,rfl,rfl,rfl,rfl,rfl⟩ rfl⟩
          ·try simp only [decide_eq_false_iff_not,Int.not_lt] at h200
           try simp only [zds] at h200
           refine yA ?_;refine qC ?_;refine qB ?_;refine Or.inl ?_;refine zai (rfl) ?_;refine zei _ (zai (inserts_c a (by omega)) ?_);refine Or.inl ?_;refine zai (rfl) ?_;refine zei _ (zai (inserts_c b (by omega)) ?_);refine qC ?_;refine qC ?_;refine qB ?_;refine qN ?_;refine qX (fun (u : Nat)=>u ≤ insA a) (fun (u : Nat)=>[(7,.one (.own 0 0)),(18,.one (.own 3 0)),(20,.one (.own 5 0)),(23,ii .i64 (insA a)),(24,ii .i64 (insA b)),(213,ii .i64 (insA a)),(214,ii .i64 u)]) (fun (u : Nat)=>[(0,.box 116 [.vec 1,.lit (.int .i64 L.2.1),.lit (.int .i64 L.2.2)]),(1,.vec 111 rEnt L.1),(3,.box 116 [.vec 2,.lit (.int .i64 Y.2.1),.lit (.int .i64 Y.2.2)]),(2,.vec 111 rEnt Y.1),(5,.box 116 [.vec 4,.lit (.int .i64 Z.2.1),.lit (.int .i64 Z.2.2)]),(4,.vec 111 rEnt Z.1)]) 6 (fun (u : Nat)=>insA a - u) 0 (Nat.zero_le _) (qV ⟨rfl,rfl,rfl,rfl,rfl,rfl,rfl⟩ ⟨rfl,rfl,rfl,rfl,rfl,rfl⟩ rfl) ?_;intro u hI6;refine qC ?_;refine qB ?_;refine qC ?_;refine qI rfl (fun h215=>?_) (fun h215=>?_)
           ·try simp only [decide_eq_true_eq] at h215
            try simp only [zds] at h215
            have hul : u < insA a:=(by omega);have hf2:=e2 u hul;refine qM ?_;refine qC ?_;refine qN ?_;refine qC ?_;refine qB ?_;refine qC ?_;refine qB ?_;refine Or.inr (Or.inr (Or.inl ?_));refine zai rfl ?_;refine zei _ (zai (next_c L.1 L.2.1 L.2.2) ?_);refine zai (by omega) ?_;refine Or.inr (Or.inr (Or.inl ?_));refine zai rfl ?_;refine zei _ (zai (next_c L.1 L.2.1 L.2.2) ?_);refine zai (by omega) ?_;refine zai (by omega) ?_;refine Or.inr (Or.inr (Or.inl ?_));refine zai rfl ?_;refine zei _ (zai (alike_t Y Z (L.2.1 + (u : Int)) (L.2.1 + (insA b : Int) + (u : Int)) hYk.f1 hZk.f1 hf2) ?_);refine qI rfl (fun h230=>?_) (fun h230=>?_)
            ·try simp only [Bool.not_eq_true'] at h230
             try simp only [zds] at h230
             simp at h230
            ·try simp only [Bool.not_eq_false'] at h230
             try simp only [zds] at h230
             refine qM ?_;refine qB ?_;refine zai (by first|omega|assumption|decide|(simp only [zds];omega)|(simp <;> omega)) ?_;exact ⟨u + 1,by omega,by first|omega|(simp <;> omega),qV ⟨rfl,rfl,rfl,rfl,rfl,rfl,(yW (by omega))⟩ ⟨rfl,rfl,rfl,rfl,rfl,rfl⟩ rfl⟩
           ·try simp only [decide_eq_false_iff_not,Int.not_lt] at h215
            try simp only [zds] at h215
            refine yA ?_;refine qC ?_;refine qC ?_;refine qB ?_;refine qN ?_;refine qX (fun (v : Nat)=>v ≤ insA b) (fun (v : Nat)=>[(7,.one (.own 0 0)),(18,.one (.own 3 0)),(20,.one (.own 5 0)),(23,ii .i64 (insA a)),(232,ii .i64 (insA b)),(233,ii .i64 v)]) (fun (v : Nat)=>[(0,.box 116 [.vec 1,.lit (.int .i64 L.2.1),.lit (.int .i64 L.2.2)]),(1,.vec 111 rEnt L.1),(3,.box 116 [.vec 2,.lit (.int .i64 Y.2.1),.lit (.int .i64 Y.2.2)]),(2,.vec 111 rEnt Y.1),(5,.box 116 [.vec 4,.lit (.int .i64 Z.2.1),.lit (.int .i64 Z.2.2)]),(4,.vec 111 rEnt Z.1)]) 6 (fun (v : Nat)=>insA b - v) 0 (Nat.zero_le _) (qV ⟨rfl,rfl,rfl,rfl,rfl,rfl⟩ ⟨rfl,rfl,rfl,rfl,rfl,rfl⟩ rfl) ?_;intro v hI8;refine qC ?_;refine qB ?_;refine qC ?_;refine qI rfl (fun h234=>?_) (fun h234=>?_)
            ·try simp only [decide_eq_true_eq] at h234
             try simp only [zds] at h234
             have hvl : v < insA b:=(by omega);have hf3:=e3 v hvl;refine qM ?_;refine qC ?_;refine qN ?_;refine qC ?_;refine qB ?_;refine qC ?_;refine qB ?_;refine Or.inr (Or.inr (Or.inl ?_));refine zai rfl ?_;refine zei _ (zai (next_c L.1 L.2.1 L.2.2) ?_);refine zai (by omega) ?_;refine zai (by omega) ?_;refine Or.inr (Or.inr (Or.inl ?_));refine zai rfl ?_;refine zei _ (zai (next_c L.1 L.2.1 L.2.2) ?_);refine zai (by omega) ?_;refine Or.inr (Or.inr (Or.inl ?_));refine zai rfl ?_;refine zei _ (zai (alike_t Y Z (L.2.1 + (insA a : Int) + (v : Int)) (L.2.1 + (v : Int)) hYk.f1 hZk.f1 hf3) ?_);refine qI rfl (fun h249=>?_) (fun h249=>?_)
             ·try simp only [Bool.not_eq_true'] at h249
              try simp only [zds] at h249
              simp at h249
             ·try simp only [Bool.not_eq_false'] at h249
              try simp only [zds] at h249
              refine qM ?_;refine qB ?_;refine zai (by first|omega|assumption|decide|(simp only [zds];omega)|(simp <;> omega)) ?_;exact ⟨v + 1,by omega,by first|omega|(simp <;> omega),qV ⟨rfl,rfl,rfl,rfl,rfl,(yW (by omega))⟩ ⟨rfl,rfl,rfl,rfl,rfl,rfl⟩ rfl⟩
            ·try simp only [decide_eq_false_iff_not,Int.not_lt] at h234
             try simp only [zds] at h234
             refine yA ?_;refine qC ?_;refine qB ?_;refine qL ?_;rfl
theorem MergeApart_c (s : ByteArray) (a b : List Edt) : qR Tryz.prog 5 [is s,.one (.sl rEdt a),.one (.sl rEdt b)] (ib true):=by
  by_cases h : 2500 < s.size ∨ yZ a = true ∨ yZ b = true
  · exact MApart_big s a b h
  · have hs : ¬ 2500 < s.size:=fun e=>h (.inl e)
    have ha : yZ a = false:=by simpa using fun e=>h (.inr (.inl e))
    have hb : yZ b = false:=by simpa using fun e=>h (.inr (.inr e))
    rcases hp : yO s with ⟨i,n⟩|l
    · exact MApart_err s a b hs ha hb hp
    · by_cases az : (doR (ofT l) a).2 = 0
      · by_cases bz : (doR (ofT l) b).2 = 0
        · exact MApart_main s a b hs ha hb hp az bz
        · rcases erB_cases bz with ⟨bn,bhn,bh,_⟩|⟨bi,bn,bhn,bh,_⟩
          · exact MApart_okN s a b hs ha hb hp az bz bn bhn bh
          · exact MApart_okF s a b hs ha hb hp az bz bi bn bhn bh
      · by_cases bz : (doR (ofT l) b).2 = 0
        · rcases erB_cases az with ⟨an,ahn,ah,_⟩|⟨ai,an,ahn,ah,_⟩
          · exact MApart_Nok s a b hs ha hb hp az an ahn ah bz
          · exact MApart_Fok s a b hs ha hb hp az ai an ahn ah bz
        · rcases erB_cases az with ⟨an,ahn,ah,_⟩|⟨ai,an,ahn,ah,_⟩
          · rcases erB_cases bz with ⟨bn,bhn,bh,_⟩|⟨bi,bn,bhn,bh,_⟩
            · exact MApart_NN s a b hs ha hb hp az an ahn ah bz bn bhn bh
            · exact MApart_NF s a b hs ha hb hp az an ahn ah bz bi bn bhn bh
          · rcases erB_cases bz with ⟨bn,bhn,bh,_⟩|⟨bi,bn,bhn,bh,_⟩
            · exact MApart_FN s a b hs ha hb hp az ai an ahn ah bz bn bhn bh
            · exact MApart_FF s a b hs ha hb hp az ai an ahn ah bz bi bn bhn bh
end Q
end Ab
end Go.Proofs.YtpfkncffaanjcaaGreatDoor
namespace Go.Proofs.YtpfkncffaanjcaaGreatDoor
open Go.RowKit
namespace Ab
set_option maxRecDepth 100000
theorem o_str : Opens Tryz.prog 9 .str:=opens_str Tryz.underlying9 (by kernel_rfl)
theorem o_int : Opens Tryz.prog 3 (.int .i64):=opens_int Tryz.underlying3 (by kernel_rfl)
theorem o_field : Opens Tryz.prog 82 (.st .str .str):=opens_st Tryz.underlying82 (by kernel_rfl) (.cons rfl o_str (.one rfl o_str))
theorem o_fields : Opens Tryz.prog 44 (.sl (.st .str .str)):=opens_sl (by decide) Tryz.underlying44 (by kernel_rfl) o_field
theorem maxAt {W : World} (h : W.ShapedOpen Tryz.prog) : MaxCell W:=cell_of_shapedOpen_int (g:=1) (t:=3) (zero:=#[.int .i64 0]) h (of_decide_eq_true (by kernel_rfl)) (by kernel_rfl) rfl (by kernel_rfl) (by kernel_rfl) Tryz.underlying3
theorem lt_of_cell0 {W : World} {b : Nat} {v : Value} (h : W.cell? ⟨b,0,none⟩ = some v) : b < W.heap.size:=by
  rcases Nat.lt_or_ge b W.heap.size with h1|h1
  · exact h1
  · exfalso
    simp only [World.cell?,Array.getElem?_eq_none h1] at h;cases h
theorem o_edit : Opens Tryz.prog 46 (.st (.int .i64) (.st (.int .i64) (.sl (.st .str .str)))):=opens_st Tryz.underlying46 (by kernel_rfl) (.cons rfl o_int (.cons rfl o_int (.one rfl o_fields)))
theorem o_edits : Opens Tryz.prog 22 (.sl (.st (.int .i64) (.st (.int .i64) (.sl (.st .str .str))))):=opens_sl (by decide) Tryz.underlying22 (by kernel_rfl) o_edit
theorem open_edits {H : Type} {enc : TypeId × Value → H} {W : World} {base : Nat} {v : Value} {d : DataW H} {p : List MemPlace} (hv : Value.okWide Tryz.prog W .any base 22 v) (h : DataW.Trod enc Tryz.prog W 0 (fun _=>true) true 22 v d p) :
    ∃ xs,(C.sl (.st (.int .i64) (.st (.int .i64) (.sl (.st .str .str)))) xs).rep AllOk yK W v:=open_sl Tryz.underlying22 o_edits hv h
theorem et : Tryz.prog.globalNamed "errors.errorType" = some 0 := by kernel_rfl
theorem rt : (Tryz.prog.cutTypes.find? (·.1 == "internal/reflectlite.rtype")).map (·.2) = some 239 := by kernel_rfl
theorem oneRow : ((List.range Tryz.prog.types.size).filter fun t=>Tryz.prog.rowNamed t [101,114,114,111,114]) = [34]:=by kernel_rfl
theorem errHandle : typeHandle Tryz.prog 34 = .pointer (some ⟨3 + 1,34,none⟩):=by kernel_rfl
abbrev errDatum : String × DataW Unit := ("errors.errorType", .iface "internal/reflectlite.rtype" (.agg [.ptr (.lit (.string [101, 114, 114, 111, 114]))]))
theorem errAt {W : World} {l : List (String × DataW Unit)} (hm : errDatum ∈ l) (h : laidMetH Tryz.prog l W) : W.cell? ⟨0,0,none⟩ = some (.iface 239 (.agg #[.pointer (some ⟨3 + 1,34,none⟩)])):=by
  obtain ⟨name,u,ty,e1,e2,e3,e4,e5⟩:=(laidMetH_iff.1 h).2 _ (List.mem_filter.2 ⟨hm,rfl⟩);have en : name = [101,114,114,111,114]:=(Option.some.inj e1).symm;subst en;obtain rfl:=Option.some.inj (rt.symm.trans e2);have hm : ty ∈ (List.range Tryz.prog.types.size).filter fun t=>Tryz.prog.rowNamed t [101,114,114,111,114]:=List.mem_filter.2 ⟨List.mem_range.2 e3,e4⟩
  rw [oneRow] at hm;obtain rfl:=List.mem_singleton.1 hm;rw [errHandle] at e5
  simpa using World.var?_cell et e5 0
theorem globAtH {W : World} (h : W.ShapedOpen Tryz.prog) {l : List (String × DataW Unit)} (hm : errDatum ∈ l) (hL : laidMetH Tryz.prog l W) : GlobAt AllOk W:=by
  have hc : GlobCell W:=⟨maxAt h,errAt hm hL⟩;refine ⟨fun _ _=>trivial,?_,hc⟩;obtain ⟨⟨m,h1⟩,h2⟩:=hc;have h1:=lt_of_cell0 h1;have h2:=lt_of_cell0 h2;unfold nGlob;omega
theorem laidMet_lay {P : Program} {w0 : World} {laid : List (String × DataW Unit)} (args : Array Value)
    (hf : w0.layFits P laid [] = true) (hi : w0.layIfaces P laid (w0.layVars P laid) = true) : laidMet P laid ((w0.layVars P laid).forCall (fun _ _=>0) ⟨#[],args,[]⟩).memory:=by
  have e1 : (laid.filter fun x=>(laid.map (·.1)).contains x.1) = laid:=List.filter_eq_self.2 fun x hx=>List.contains_iff_mem.2 (List.mem_map.2 ⟨x,hx,rfl⟩)
  have e2 : (laid.filter fun x=>!(laid.map (·.1)).contains x.1) = []:=List.filter_eq_nil_iff.2 fun x hx=>by rw [List.contains_iff_mem.2 (List.mem_map.2 ⟨x,hx,rfl⟩)];simp
  have h : laidMet P laid (w0.layVars P laid):=laidMet_layVars (w0:=w0) (laid.map (·.1)) [] (by rw [e1]) (by rw [e1];exact hf) (by rw [e1];exact hi) (by rw [e2];exact LaidIn.none);exact h.of_heap (by simp [World.memory,World.forCall,Input.heap])
noncomputable def errWorld (os : Os) : World :=
  let w0:=World.holding Tryz.prog os ⟨#[],#[],[]⟩
  { w0 with heap:=w0.heap.modify 0 fun
      | .cells _ t frozen=>.cells #[.iface 239 (.agg #[.pointer (some ⟨3 + 1,34,none⟩)])] t frozen
      | o=>o }
noncomputable def laidWit (os : Os) (l : List (String × DataW Unit)) : World:=(errWorld os).layVars Tryz.prog (l.filter fun x=>x.2.handleName?.isNone)
theorem laidWit_os (os : Os) (l : List (String × DataW Unit)) : (laidWit os l).os = os:=World.layVars_os _ _ _
end Ab
end Go.Proofs.YtpfkncffaanjcaaGreatDoor
