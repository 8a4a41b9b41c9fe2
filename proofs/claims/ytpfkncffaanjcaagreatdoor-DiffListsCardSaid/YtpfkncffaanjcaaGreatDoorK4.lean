/-
  The texts of this proof, joined: abstract values, the library, the functions of the program and what they compute (part 4). No condition.
-/
import Derived.Lib.UnsafeStr
import Derived.Shelf.RegionOpenPlain
import Derived.Shelf.Spec.SlicesInsert
import Derived.Lib.AppendZerosOnto
import Derived.Laws.NewBlocks
import Derived.Test.YtpfkncffaanjcaaGreatDoorProg
import Derived.WalkKit
import Derived.LaidEql
import Derived.Stop.Asserts
import Derived.RowKitTokens
import Derived.Test.YtpfkncffaanjcaaGreatDoorK1
import Derived.Test.YtpfkncffaanjcaaGreatDoorK2
import Derived.Test.YtpfkncffaanjcaaGreatDoorK3
namespace Go.Proofs.YtpfkncffaanjcaaGreatDoor
open Go.RowKit
namespace Ab
set_option maxRecDepth 100000
namespace Q
theorem begin_c (p : PSt) (l : Lne) (_hb : PB p 1000000) : qR Tryz.prog 134 [.one (.own 0 0),.agg (toL rLne l)] (psO p) 5 (.tup []) (psO (xG p l)) 5:=by
  refine qP (rs:=[]) Tryz.func134 rfl rfl rfl teOk (by decide) rfl ?_;refine qC ?_;refine qB ?_;refine qC ?_;refine qB ?_;intro l1_4
  try simp only [zds] at l1_4
  refine zai (fun h=>trivial) ?_;refine zai (fun h=>⟨⟨h,trivial⟩,trivial⟩) ?_;refine zai (fun h=>⟨⟨h,trivial⟩,trivial⟩) ?_;refine zai (fun h=>⟨⟨h,trivial⟩,trivial⟩) ?_;refine zai (fun h=>⟨⟨h,trivial⟩,trivial⟩) ?_;refine zai (fun h=>⟨⟨h,trivial⟩,trivial⟩) ?_;refine zai (fun h=>⟨⟨h,trivial⟩,trivial⟩) ?_;refine zai (fun h=>trivial) ?_;refine zai (fun h=>⟨⟨h,trivial⟩,trivial⟩) ?_;refine zai (fun h=>⟨⟨h,trivial⟩,trivial⟩) ?_;refine zai (fun h=>⟨⟨h,trivial⟩,trivial⟩) ?_;refine zai (fun h=>⟨⟨h,trivial⟩,trivial⟩) ?_;refine zai (fun h=>⟨⟨⟨h,trivial⟩,trivial⟩,by first|exact fun h2=>h2|(intro h2;rw [h,h2];rfl)|(intro h2;cases h2)|(intro h2;simp_all [gq])⟩) ?_;refine zai (by first|(intro h;rw [h];rfl)|(intro h;cases h)) ?_;refine acode_mend 1 6 ?_;refine qB ?_;exact ⟨rfl,rfl,rfl,⟨rfl,rfl,rfl,rfl,rfl⟩,rfl⟩
theorem ahead_none {p : PSt} (l : Lne) (h : p.lns = []) : qR Tryz.prog 132 [.one (.own 0 0),.agg (toL rLne l),ii .i64 3] (psO p) 5 (.one (errF l.1 2)) [] 5:=by
  refine qP (rs:=[6]) Tryz.func132 rfl rfl rfl teOk (by decide) rfl ?_;refine qC ?_;refine qB ?_;refine qC ?_;refine qC ?_;refine qB ?_;refine qN ?_;refine qC ?_;refine qB ?_;refine qK rfl (fun h8=>?_) (fun h8=>?_)
  ·try simp only [decide_eq_true_eq] at h8
   try simp only [zds] at h8
   refine qC ?_;refine qC ?_;refine qB ?_;intro l3_5
   try simp only [zds] at l3_5
   refine qK rfl (fun h16=>?_) (fun h16=>?_)
   ·try simp only [decide_eq_true_eq] at h16
    try simp only [zds] at h16
    refine qC ?_;refine qB ?_;refine Or.inl ?_;refine zai (rfl) ?_;refine zei _ (zai (fault_c l.1 2) ?_);refine qL ?_;exact ⟨rfl,trivial,rfl⟩
   ·try simp only [decide_eq_false_iff_not] at h16
    try simp only [zds] at h16
    exact absurd (by rw [h];rfl) h16
  ·try simp only [decide_eq_false_iff_not] at h8
   try simp only [zds] at h8
   exact absurd trivial h8
theorem ahead_more {p : PSt} {l : Lne} (h : p.lns ≠ []) (he : l.2.2.2 = true) (hb : PB p 1000000) : qR Tryz.prog 132 [.one (.own 0 0),.agg (toL rLne l),ii .i64 3] (psO p) 5 (.one (.lit .nilIface)) (psO { p with lns:=p.lns ++ [l.2.2.1] }) 5:=by
  have hl:=hb.lns;refine qP (rs:=[6]) Tryz.func132 rfl rfl rfl teOk (by decide) rfl ?_;refine qC ?_;refine qB ?_;refine qC ?_;refine qC ?_;refine qB ?_;refine qN ?_;refine qC ?_;refine qB ?_;refine qK rfl (fun h8=>?_) (fun h8=>?_)
  ·try simp only [decide_eq_true_eq] at h8
   try simp only [zds] at h8
   refine qC ?_;refine qC ?_;refine qB ?_;intro l3_5
   try simp only [zds] at l3_5
   refine qK rfl (fun h16=>?_) (fun h16=>?_)
   ·try simp only [decide_eq_true_eq] at h16
    try simp only [zds] at h16
    exact absurd (List.eq_nil_of_length_eq_zero (by omega)) h
   ·try simp only [decide_eq_false_iff_not] at h16
    try simp only [zds] at h16
    refine qM ?_;refine qC ?_;refine xB rfl ?_;refine qJ 0 rfl rfl rfl (by kernel_rfl) ?_;refine qJ 1 rfl rfl rfl (by kernel_rfl) ?_;refine qJ 2 rfl rfl rfl (by kernel_rfl) ?_;refine qJ 3 rfl rfl rfl (by kernel_rfl) ?_;refine qJ 4 rfl rfl rfl (by kernel_rfl) ?_;refine qJ 6 rfl rfl rfl (by kernel_rfl) ?_;refine qI [5,7] (by kernel_rfl) rfl ?_;refine zai ?_ ?_
    ·refine qI [7] (by kernel_rfl) rfl ?_;refine qI [8] (by kernel_rfl) rfl ?_;refine qI [9] (by kernel_rfl) rfl ?_;refine zai (by first|exact qQ (by first|omega|(simp only [List.length_cons,List.length_nil];omega)|(simp;omega)) (by decide)|omega|assumption|decide|(simp only [zds];omega)|(simp <;> omega)) ?_;refine qJ 10 rfl rfl rfl (by kernel_rfl) ?_;refine qJ 11 rfl rfl rfl (by kernel_rfl) ?_;refine qJ 12 rfl rfl rfl (by kernel_rfl) ?_;refine qI [13] (by kernel_rfl) rfl ?_;refine qO (by kernel_rfl) ?_;refine qC ?_;refine qC ?_;refine qB ?_;refine qK rfl (fun h35=>?_) (fun h35=>?_)
     ·try simp only [zbq] at h35
      try simp only [zds] at h35
      refine qC ?_;refine qB ?_;refine qL ?_;exact ⟨rfl,⟨rfl,rfl,rfl,rfl,rfl⟩,rfl⟩
     ·try simp only [zbq] at h35
      try simp only [zds] at h35
      exact absurd h35 (by rw [he];decide)
    ·refine qI [5,8] (by kernel_rfl) rfl ?_;refine zai ?_ ?_
     ·refine qI [8] (by kernel_rfl) rfl ?_;refine qI [9] (by kernel_rfl) rfl ?_;refine zai (by first|exact qQ (by first|omega|(simp only [List.length_cons,List.length_nil];omega)|(simp;omega)) (by decide)|omega|assumption|decide|(simp only [zds];omega)|(simp <;> omega)) ?_;refine qJ 10 rfl rfl rfl (by kernel_rfl) ?_;refine qJ 11 rfl rfl rfl (by kernel_rfl) ?_;refine qJ 12 rfl rfl rfl (by kernel_rfl) ?_;refine qI [13] (by kernel_rfl) rfl ?_;refine qO (by kernel_rfl) ?_;refine qC ?_;refine qC ?_;refine qB ?_;refine qK rfl (fun h35=>?_) (fun h35=>?_)
      ·try simp only [zbq] at h35
       try simp only [zds] at h35
       refine qC ?_;refine qB ?_;refine qL ?_;exact ⟨rfl,⟨rfl,rfl,rfl,rfl,rfl⟩,rfl⟩
      ·try simp only [zbq] at h35
       try simp only [zds] at h35
       exact absurd h35 (by rw [he];decide)
     ·refine qI [5] (by kernel_rfl) rfl ?_;refine qI [9] (by kernel_rfl) rfl ?_;refine zai (by first|exact qQ (by first|omega|(simp only [List.length_cons,List.length_nil];omega)|(simp;omega)) (by decide)|omega|assumption|decide|(simp only [zds];omega)|(simp <;> omega)) ?_;refine qJ 10 rfl rfl rfl (by kernel_rfl) ?_;refine qJ 11 rfl rfl rfl (by kernel_rfl) ?_;refine qJ 12 rfl rfl rfl (by kernel_rfl) ?_;refine qI [13] (by kernel_rfl) rfl ?_;refine qO (by kernel_rfl) ?_;refine qC ?_;refine qC ?_;refine qB ?_;refine qK rfl (fun h35=>?_) (fun h35=>?_)
      ·try simp only [zbq] at h35
       try simp only [zds] at h35
       refine qC ?_;refine qB ?_;refine qL ?_;exact ⟨rfl,⟨rfl,rfl,rfl,rfl,rfl⟩,rfl⟩
      ·try simp only [zbq] at h35
       try simp only [zds] at h35
       exact absurd h35 (by rw [he];decide)
  ·try simp only [decide_eq_false_iff_not] at h8
   try simp only [zds] at h8
   exact absurd trivial h8
theorem ahead_last {p q : PSt} {l : Lne} (h : p.lns ≠ []) (he : l.2.2.2 = false) (hb : PB p 900000) (hs : l.2.2.1.size ≤ 90000) (hf : yH { p with lns:=p.lns ++ [l.2.2.1] } = .inr q) : qR Tryz.prog 132 [.one (.own 0 0),.agg (toL rLne l),ii .i64 3] (psO p) 5 (.one (.lit .nilIface)) (psO q) 5:=by
  have hl:=hb.lns;refine qP (rs:=[6]) Tryz.func132 rfl rfl rfl teOk (by decide) rfl ?_;refine qC ?_;refine qB ?_;refine qC ?_;refine qC ?_;refine qB ?_;refine qN ?_;refine qC ?_;refine qB ?_;refine qK rfl (fun h8=>?_) (fun h8=>?_)
  ·try simp only [decide_eq_true_eq] at h8
   try simp only [zds] at h8
   refine qC ?_;refine qC ?_;refine qB ?_;intro l3_5
   try simp only [zds] at l3_5
   refine qK rfl (fun h16=>?_) (fun h16=>?_)
   ·try simp only [decide_eq_true_eq] at h16
    try simp only [zds] at h16
    exact absurd (List.eq_nil_of_length_eq_zero (by omega)) h
   ·try simp only [decide_eq_false_iff_not] at h16
    try simp only [zds] at h16
    refine qM ?_;refine qC ?_;refine xB rfl ?_;refine qJ 0 rfl rfl rfl (by kernel_rfl) ?_;refine qJ 1 rfl rfl rfl (by kernel_rfl) ?_;refine qJ 2 rfl rfl rfl (by kernel_rfl) ?_;refine qJ 3 rfl rfl rfl (by kernel_rfl) ?_;refine qJ 4 rfl rfl rfl (by kernel_rfl) ?_;refine qJ 6 rfl rfl rfl (by kernel_rfl) ?_;refine qI [5,7] (by kernel_rfl) rfl ?_;refine zai ?_ ?_
    ·refine qI [7] (by kernel_rfl) rfl ?_;refine qI [8] (by kernel_rfl) rfl ?_;refine qI [9] (by kernel_rfl) rfl ?_;refine zai (by first|exact qQ (by first|omega|(simp only [List.length_cons,List.length_nil];omega)|(simp;omega)) (by decide)|omega|assumption|decide|(simp only [zds];omega)|(simp <;> omega)) ?_;refine qJ 10 rfl rfl rfl (by kernel_rfl) ?_;refine qJ 11 rfl rfl rfl (by kernel_rfl) ?_;refine qJ 12 rfl rfl rfl (by kernel_rfl) ?_;refine qI [13] (by kernel_rfl) rfl ?_;refine qO (by kernel_rfl) ?_;refine qC ?_;refine qC ?_;refine qB ?_;refine qK rfl (fun h35=>?_) (fun h35=>?_)
     ·try simp only [zbq] at h35
      try simp only [zds] at h35
      exact absurd h35 (by rw [he];decide)
     ·try simp only [zbq] at h35
      try simp only [zds] at h35
      refine qM ?_;refine qC ?_;refine qB ?_;refine Or.inr (Or.inl (zei [] (zei [0,1,2,3,4] (zei _ (zei _ (zei _ (zei _ (zei _ (zai (flush_ok hf ((more_B _ hb).mono (by omega))) (zai rfl (zai (zai (zai rfl rfl) (zai (zai rfl rfl) (zai (zai rfl rfl) (zai (zai rfl rfl) (zai (zai rfl rfl) True.intro))))) (zai rfl ?_))))))))))));refine qL ?_;exact ⟨rfl,⟨rfl,rfl,rfl,rfl,rfl⟩,rfl⟩
    ·refine qI [5,8] (by kernel_rfl) rfl ?_;refine zai ?_ ?_
     ·refine qI [8] (by kernel_rfl) rfl ?_;refine qI [9] (by kernel_rfl) rfl ?_;refine zai (by first|exact qQ (by first|omega|(simp only [List.length_cons,List.length_nil];omega)|(simp;omega)) (by decide)|omega|assumption|decide|(simp only [zds];omega)|(simp <;> omega)) ?_;refine qJ 10 rfl rfl rfl (by kernel_rfl) ?_;refine qJ 11 rfl rfl rfl (by kernel_rfl) ?_;refine qJ 12 rfl rfl rfl (by kernel_rfl) ?_;refine qI [13] (by kernel_rfl) rfl ?_;refine qO (by kernel_rfl) ?_;refine qC ?_;refine qC ?_;refine qB ?_;refine qK rfl (fun h35=>?_) (fun h35=>?_)
      ·try simp only [zbq] at h35
       try simp only [zds] at h35
       exact absurd h35 (by rw [he];decide)
      ·try simp only [zbq] at h35
       try simp only [zds] at h35
       refine qM ?_;refine qC ?_;refine qB ?_;refine Or.inr (Or.inl (zei [] (zei [0,1,2,3,4] (zei _ (zei _ (zei _ (zei _ (zei _ (zai (flush_ok hf ((more_B _ hb).mono (by omega))) (zai rfl (zai (zai (zai rfl rfl) (zai (zai rfl rfl) (zai (zai rfl rfl) (zai (zai rfl rfl) (zai (zai rfl rfl) True.intro))))) (zai rfl ?_))))))))))));refine qL ?_;exact ⟨rfl,⟨rfl,rfl,rfl,rfl,rfl⟩,rfl⟩
     ·refine qI [5] (by kernel_rfl) rfl ?_;refine qI [9] (by kernel_rfl) rfl ?_;refine zai (by first|exact qQ (by first|omega|(simp only [List.length_cons,List.length_nil];omega)|(simp;omega)) (by decide)|omega|assumption|decide|(simp only [zds];omega)|(simp <;> omega)) ?_;refine qJ 10 rfl rfl rfl (by kernel_rfl) ?_;refine qJ 11 rfl rfl rfl (by kernel_rfl) ?_;refine qJ 12 rfl rfl rfl (by kernel_rfl) ?_;refine qI [13] (by kernel_rfl) rfl ?_;refine qO (by kernel_rfl) ?_;refine qC ?_;refine qC ?_;refine qB ?_;refine qK rfl (fun h35=>?_) (fun h35=>?_)
      ·try simp only [zbq] at h35
       try simp only [zds] at h35
       exact absurd h35 (by rw [he];decide)
      ·try simp only [zbq] at h35
       try simp only [zds] at h35
       refine qM ?_;refine qC ?_;refine qB ?_;refine Or.inr (Or.inl (zei [] (zei [0,1,2,3,4] (zei _ (zei _ (zei _ (zei _ (zei _ (zai (flush_ok hf ((more_B _ hb).mono (by omega))) (zai rfl (zai (zai (zai rfl rfl) (zai (zai rfl rfl) (zai (zai rfl rfl) (zai (zai rfl rfl) (zai (zai rfl rfl) True.intro))))) (zai rfl ?_))))))))))));refine qL ?_;exact ⟨rfl,⟨rfl,rfl,rfl,rfl,rfl⟩,rfl⟩
  ·try simp only [decide_eq_false_iff_not] at h8
   try simp only [zds] at h8
   exact absurd trivial h8
theorem ahead_fail {p : PSt} {l : Lne} {at_ n : Int} (h : p.lns ≠ []) (he : l.2.2.2 = false) (hb : PB p 900000) (hs : l.2.2.1.size ≤ 90000) (hf : yH { p with lns:=p.lns ++ [l.2.2.1] } = .inl (at_,n)) : qR Tryz.prog 132 [.one (.own 0 0),.agg (toL rLne l),ii .i64 3] (psO p) 5 (.one (errF at_ n)) [] 5:=by
  have hl:=hb.lns;refine qP (rs:=[6]) Tryz.func132 rfl rfl rfl teOk (by decide) rfl ?_;refine qC ?_;refine qB ?_;refine qC ?_;refine qC ?_;refine qB ?_;refine qN ?_;refine qC ?_;refine qB ?_;refine qK rfl (fun h8=>?_) (fun h8=>?_)
  ·try simp only [decide_eq_true_eq] at h8
   try simp only [zds] at h8
   refine qC ?_;refine qC ?_;refine qB ?_;intro l3_5
   try simp only [zds] at l3_5
   refine qK rfl (fun h16=>?_) (fun h16=>?_)
   ·try simp only [decide_eq_true_eq] at h16
    try simp only [zds] at h16
    exact absurd (List.eq_nil_of_length_eq_zero (by omega)) h
   ·try simp only [decide_eq_false_iff_not] at h16
    try simp only [zds] at h16
    refine qM ?_;refine qC ?_;refine xB rfl ?_;refine qJ 0 rfl rfl rfl (by kernel_rfl) ?_;refine qJ 1 rfl rfl rfl (by kernel_rfl) ?_;refine qJ 2 rfl rfl rfl (by kernel_rfl) ?_;refine qJ 3 rfl rfl rfl (by kernel_rfl) ?_;refine qJ 4 rfl rfl rfl (by kernel_rfl) ?_;refine qJ 6 rfl rfl rfl (by kernel_rfl) ?_;refine qI [5,7] (by kernel_rfl) rfl ?_;refine zai ?_ ?_
    ·refine qI [7] (by kernel_rfl) rfl ?_;refine qI [8] (by kernel_rfl) rfl ?_;refine qI [9] (by kernel_rfl) rfl ?_;refine zai (by first|exact qQ (by first|omega|(simp only [List.length_cons,List.length_nil];omega)|(simp;omega)) (by decide)|omega|assumption|decide|(simp only [zds];omega)|(simp <;> omega)) ?_;refine qJ 10 rfl rfl rfl (by kernel_rfl) ?_;refine qJ 11 rfl rfl rfl (by kernel_rfl) ?_;refine qJ 12 rfl rfl rfl (by kernel_rfl) ?_;refine qI [13] (by kernel_rfl) rfl ?_;refine qO (by kernel_rfl) ?_;refine qC ?_;refine qC ?_;refine qB ?_;refine qK rfl (fun h35=>?_) (fun h35=>?_)
     ·try simp only [zbq] at h35
      try simp only [zds] at h35
      exact absurd h35 (by rw [he];decide)
     ·try simp only [zbq] at h35
      try simp only [zds] at h35
      refine qM ?_;refine qC ?_;refine qB ?_;refine Or.inr (Or.inl (zei [] (zei [0,1,2,3,4] (zei _ (zei _ (zei _ (zei _ (zei _ (zai (flush_err hf ((more_B _ hb).mono (by omega))) (zai rfl (zai (zai (zai rfl rfl) (zai (zai rfl rfl) (zai (zai rfl rfl) (zai (zai rfl rfl) (zai (zai rfl rfl) True.intro))))) (zai rfl ?_))))))))))));refine qL ?_;exact ⟨rfl,trivial,rfl⟩
    ·refine qI [5,8] (by kernel_rfl) rfl ?_;refine zai ?_ ?_
     ·refine qI [8] (by kernel_rfl) rfl ?_;refine qI [9] (by kernel_rfl) rfl ?_;refine zai (by first|exact qQ (by first|omega|(simp only [List.length_cons,List.length_nil];omega)|(simp;omega)) (by decide)|omega|assumption|decide|(simp only [zds];omega)|(simp <;> omega)) ?_;refine qJ 10 rfl rfl rfl (by kernel_rfl) ?_;refine qJ 11 rfl rfl rfl (by kernel_rfl) ?_;refine qJ 12 rfl rfl rfl (by kernel_rfl) ?_;refine qI [13] (by kernel_rfl) rfl ?_;refine qO (by kernel_rfl) ?_;refine qC ?_;refine qC ?_;refine qB ?_;refine qK rfl (fun h35=>?_) (fun h35=>?_)
      ·try simp only [zbq] at h35
       try simp only [zds] at h35
       exact absurd h35 (by rw [he];decide)
      ·try simp only [zbq] at h35
       try simp only [zds] at h35
       refine qM ?_;refine qC ?_;refine qB ?_;refine Or.inr (Or.inl (zei [] (zei [0,1,2,3,4] (zei _ (zei _ (zei _ (zei _ (zei _ (zai (flush_err hf ((more_B _ hb).mono (by omega))) (zai rfl (zai (zai (zai rfl rfl) (zai (zai rfl rfl) (zai (zai rfl rfl) (zai (zai rfl rfl) (zai (zai rfl rfl) True.intro))))) (zai rfl ?_))))))))))));refine qL ?_;exact ⟨rfl,trivial,rfl⟩
     ·refine qI [5] (by kernel_rfl) rfl ?_;refine qI [9] (by kernel_rfl) rfl ?_;refine zai (by first|exact qQ (by first|omega|(simp only [List.length_cons,List.length_nil];omega)|(simp;omega)) (by decide)|omega|assumption|decide|(simp only [zds];omega)|(simp <;> omega)) ?_;refine qJ 10 rfl rfl rfl (by kernel_rfl) ?_;refine qJ 11 rfl rfl rfl (by kernel_rfl) ?_;refine qJ 12 rfl rfl rfl (by kernel_rfl) ?_;refine qI [13] (by kernel_rfl) rfl ?_;refine qO (by kernel_rfl) ?_;refine qC ?_;refine qC ?_;refine qB ?_;refine qK rfl (fun h35=>?_) (fun h35=>?_)
      ·try simp only [zbq] at h35
       try simp only [zds] at h35
       exact absurd h35 (by rw [he];decide)
      ·try simp only [zbq] at h35
       try simp only [zds] at h35
       refine qM ?_;refine qC ?_;refine qB ?_;refine Or.inr (Or.inl (zei [] (zei [0,1,2,3,4] (zei _ (zei _ (zei _ (zei _ (zei _ (zai (flush_err hf ((more_B _ hb).mono (by omega))) (zai rfl (zai (zai (zai rfl rfl) (zai (zai rfl rfl) (zai (zai rfl rfl) (zai (zai rfl rfl) (zai (zai rfl rfl) True.intro))))) (zai rfl ?_))))))))))));refine qL ?_;exact ⟨rfl,trivial,rfl⟩
  ·try simp only [decide_eq_false_iff_not] at h8
   try simp only [zds] at h8
   exact absurd trivial h8
theorem ahead_end {p q : PSt} {l : Lne} (hb : PB p 900000) (hf : endS p = .inr q) : qR Tryz.prog 132 [.one (.own 0 0),.agg (toL rLne l),ii .i64 1] (psO p) 5 (.one (.lit .nilIface)) (psO q) 5:=by
  refine qP (rs:=[6]) Tryz.func132 rfl rfl rfl teOk (by decide) rfl ?_;refine qC ?_;refine qB ?_;refine qC ?_;refine qC ?_;refine qB ?_;refine qN ?_;refine qC ?_;refine qB ?_;refine qK rfl (fun h8=>?_) (fun h8=>?_)
  ·try simp only [decide_eq_true_eq] at h8
   try simp only [zds] at h8
   exact absurd h8 (by decide)
  ·try simp only [decide_eq_false_iff_not] at h8
   try simp only [zds] at h8
   refine qC ?_;refine qB ?_;refine qK rfl (fun h38=>?_) (fun h38=>?_)
   ·try simp only [decide_eq_true_eq] at h38
    try simp only [zds] at h38
    refine qC ?_;refine qB ?_;refine Or.inr (Or.inl (zei [] (zei [0,1,2,3,4] (zei _ (zei _ (zei _ (zei _ (zei _ (zai (end_ok hf (hb.mono (by decide))) (zai rfl (zai (zai (zai rfl rfl) (zai (zai rfl rfl) (zai (zai rfl rfl) (zai (zai rfl rfl) (zai (zai rfl rfl) True.intro))))) (zai rfl ?_))))))))))));refine qL ?_;exact ⟨rfl,⟨rfl,rfl,rfl,rfl,rfl⟩,rfl⟩
   ·try simp only [decide_eq_false_iff_not] at h38
    try simp only [zds] at h38
    exact absurd trivial h38
theorem ahead_endf {p : PSt} {l : Lne} {at_ n : Int} (hb : PB p 900000) (hf : endS p = .inl (at_,n)) : qR Tryz.prog 132 [.one (.own 0 0),.agg (toL rLne l),ii .i64 1] (psO p) 5 (.one (errF at_ n)) [] 5:=by
  refine qP (rs:=[6]) Tryz.func132 rfl rfl rfl teOk (by decide) rfl ?_;refine qC ?_;refine qB ?_;refine qC ?_;refine qC ?_;refine qB ?_;refine qN ?_;refine qC ?_;refine qB ?_;refine qK rfl (fun h8=>?_) (fun h8=>?_)
  ·try simp only [decide_eq_true_eq] at h8
   try simp only [zds] at h8
   exact absurd h8 (by decide)
  ·try simp only [decide_eq_false_iff_not] at h8
   try simp only [zds] at h8
   refine qC ?_;refine qB ?_;refine qK rfl (fun h38=>?_) (fun h38=>?_)
   ·try simp only [decide_eq_true_eq] at h38
    try simp only [zds] at h38
    refine qC ?_;refine qB ?_;refine Or.inr (Or.inl (zei [] (zei [0,1,2,3,4] (zei _ (zei _ (zei _ (zei _ (zei _ (zai (end_err hf (hb.mono (by decide))) (zai rfl (zai (zai (zai rfl rfl) (zai (zai rfl rfl) (zai (zai rfl rfl) (zai (zai rfl rfl) (zai (zai rfl rfl) True.intro))))) (zai rfl ?_))))))))))));refine qL ?_;exact ⟨rfl,trivial,rfl⟩
   ·try simp only [decide_eq_false_iff_not] at h38
    try simp only [zds] at h38
    exact absurd trivial h38
theorem ahead_flush {p q : PSt} {l : Lne} {k : Int} (h3 : k ≠ 3) (h1 : k ≠ 1) (hb : PB p 900000) (hf : yH p = .inr q) : qR Tryz.prog 132 [.one (.own 0 0),.agg (toL rLne l),ii .i64 k] (psO p) 5 (.one (.lit .nilIface)) (psO q) 5:=by
  refine qP (rs:=[6]) Tryz.func132 rfl rfl rfl teOk (by decide) rfl ?_;refine qC ?_;refine qB ?_;refine qC ?_;refine qC ?_;refine qB ?_;refine qN ?_;refine qC ?_;refine qB ?_;refine qK rfl (fun h8=>?_) (fun h8=>?_)
  ·try simp only [decide_eq_true_eq] at h8
   try simp only [zds] at h8
   exact absurd h8 h3
  ·try simp only [decide_eq_false_iff_not] at h8
   try simp only [zds] at h8
   refine qC ?_;refine qB ?_;refine qK rfl (fun h38=>?_) (fun h38=>?_)
   ·try simp only [decide_eq_true_eq] at h38
    try simp only [zds] at h38
    exact absurd h38 h1
   ·try simp only [decide_eq_false_iff_not] at h38
    try simp only [zds] at h38
    refine qM ?_;refine qC ?_;refine qB ?_;refine Or.inr (Or.inl (zei [] (zei [0,1,2,3,4] (zei _ (zei _ (zei _ (zei _ (zei _ (zai (flush_ok hf (hb.mono (by decide))) (zai rfl (zai (zai (zai rfl rfl) (zai (zai rfl rfl) (zai (zai rfl rfl) (zai (zai rfl rfl) (zai (zai rfl rfl) True.intro))))) (zai rfl ?_))))))))))));refine qL ?_;exact ⟨rfl,⟨rfl,rfl,rfl,rfl,rfl⟩,rfl⟩
theorem ahead_flushf {p : PSt} {l : Lne} {k at_ n : Int} (h3 : k ≠ 3) (h1 : k ≠ 1) (hb : PB p 900000) (hf : yH p = .inl (at_,n)) : qR Tryz.prog 132 [.one (.own 0 0),.agg (toL rLne l),ii .i64 k] (psO p) 5 (.one (errF at_ n)) [] 5:=by
  refine qP (rs:=[6]) Tryz.func132 rfl rfl rfl teOk (by decide) rfl ?_;refine qC ?_;refine qB ?_;refine qC ?_;refine qC ?_;refine qB ?_;refine qN ?_;refine qC ?_;refine qB ?_;refine qK rfl (fun h8=>?_) (fun h8=>?_)
  ·try simp only [decide_eq_true_eq] at h8
   try simp only [zds] at h8
   exact absurd h8 h3
  ·try simp only [decide_eq_false_iff_not] at h8
   try simp only [zds] at h8
   refine qC ?_;refine qB ?_;refine qK rfl (fun h38=>?_) (fun h38=>?_)
   ·try simp only [decide_eq_true_eq] at h38
    try simp only [zds] at h38
    exact absurd h38 h1
   ·try simp only [decide_eq_false_iff_not] at h38
    try simp only [zds] at h38
    refine qM ?_;refine qC ?_;refine qB ?_;refine Or.inr (Or.inl (zei [] (zei [0,1,2,3,4] (zei _ (zei _ (zei _ (zei _ (zei _ (zai (flush_err hf (hb.mono (by decide))) (zai rfl (zai (zai (zai rfl rfl) (zai (zai rfl rfl) (zai (zai rfl rfl) (zai (zai rfl rfl) (zai (zai rfl rfl) True.intro))))) (zai rfl ?_))))))))))));refine qL ?_;exact ⟨rfl,trivial,rfl⟩
theorem ahead_ok {p q : PSt} {l : Lne} {k : Int} (h : yI p l k = .inr q) (hb : PB p 900000) (hs : l.2.2.1.size ≤ 90000) : qR Tryz.prog 132 [.one (.own 0 0),.agg (toL rLne l),ii .i64 k] (psO p) 5 (.one (.lit .nilIface)) (psO q) 5:=by
  unfold yI at h;split at h
  · rename_i e;subst e;split at h
    · cases h
    · rename_i h0;split at h
      · rename_i he;cases h;exact ahead_more h0 he (hb.mono (by decide))
      · rename_i he;exact ahead_last h0 (by simpa using he) hb hs h
  · rename_i h3;split at h
    · rename_i e;subst e;exact ahead_end hb h
    · rename_i h1;exact ahead_flush h3 h1 hb h
theorem ahead_err {p : PSt} {l : Lne} {k at_ n : Int} (h : yI p l k = .inl (at_,n)) (hb : PB p 900000) (hs : l.2.2.1.size ≤ 90000) : qR Tryz.prog 132 [.one (.own 0 0),.agg (toL rLne l),ii .i64 k] (psO p) 5 (.one (errF at_ n)) [] 5:=by
  unfold yI at h;split at h
  · rename_i e;subst e;split at h
    · rename_i h0;cases h;exact ahead_none l h0
    · rename_i h0;split at h
      · cases h
      · rename_i he;exact ahead_fail h0 (by simpa using he) hb hs h
  · rename_i h3;split at h
    · rename_i e;subst e;exact ahead_endf hb h
    · rename_i h1;exact ahead_flushf h3 h1 hb h
theorem take_err1 {p : PSt} {l : Lne} {at_ n : Int} (h : yI p l (yC (ls l.2.2.1)) = .inl (at_,n)) (hb : PB p 900000) (hs : l.2.2.1.size ≤ 90000) : qR Tryz.prog 97 [.one (.own 0 0),.agg (toL rLne l)] (psO p) 5 (.one (errF at_ n)) [] 5:=by
  refine qP (rs:=[4]) Tryz.func97 rfl rfl rfl teOk (by decide) rfl ?_;refine qC ?_;refine qB ?_;refine qC ?_;refine qB ?_;refine Or.inl ?_;refine zai (rfl) ?_;refine zei _ (zai (kind_c l.2.2.1 (Nat.le_trans hs (by decide))) ?_);refine qC ?_;refine qC ?_;refine qB ?_;refine Or.inr (Or.inl (zei [] (zei [0,1,2,3,4] (zei _ (zei _ (zei _ (zei _ (zei _ (zai (ahead_err h hb hs) (zai rfl (zai (zai (zai rfl rfl) (zai (zai rfl rfl) (zai (zai rfl rfl) (zai (zai rfl rfl) (zai (zai rfl rfl) True.intro))))) (zai rfl ?_))))))))))));refine qC ?_;refine qB ?_;refine qK rfl (fun h15=>?_) (fun h15=>?_)
  ·skip
   refine qC ?_;refine qB ?_;refine qL ?_;exact ⟨rfl,trivial,rfl⟩
  ·try simp only [zbq] at h15
   try simp only [zds] at h15
   cases h15
theorem take_odd {p q : PSt} {l : Lne} (h : yI p l (yC (ls l.2.2.1)) = .inr q) (hk : yC (ls l.2.2.1) = 5 ∨ l.2.2.2 = false) (hb : PB p 900000) (hs : l.2.2.1.size ≤ 90000) : qR Tryz.prog 97 [.one (.own 0 0),.agg (toL rLne l)] (psO p) 5 (.one (errF l.1 2)) [] 5:=by
  refine qP (rs:=[4]) Tryz.func97 rfl rfl rfl teOk (by decide) rfl ?_;refine qC ?_;refine qB ?_;refine qC ?_;refine qB ?_;refine Or.inl ?_;refine zai (rfl) ?_;refine zei _ (zai (kind_c l.2.2.1 (Nat.le_trans hs (by decide))) ?_);refine qC ?_;refine qC ?_;refine qB ?_;refine Or.inr (Or.inl (zei [] (zei [0,1,2,3,4] (zei _ (zei _ (zei _ (zei _ (zei _ (zai (ahead_ok h hb hs) (zai rfl (zai (zai (zai rfl rfl) (zai (zai rfl rfl) (zai (zai rfl rfl) (zai (zai rfl rfl) (zai (zai rfl rfl) True.intro))))) (zai rfl ?_))))))))))));refine qC ?_;refine qB ?_;refine qK rfl (fun h15=>?_) (fun h15=>?_)
  ·try simp only [Bool.not_eq_true'] at h15
   try simp only [zds] at h15
   cases h15
  ·try simp only [Bool.not_eq_false'] at h15
   try simp only [zds] at h15
   refine qM ?_;refine qC ?_;refine qN ?_;refine qC ?_;refine qB ?_;refine zai (fun h=>trivial) ?_;refine zai (fun h=>⟨⟨h,trivial⟩,trivial⟩) ?_;refine zai (fun h=>⟨⟨h,trivial⟩,trivial⟩) ?_;refine zai (by first|(intro h;rw [h];rfl)|(intro h;cases h)) ?_;refine qK rfl (fun h17=>?_) (fun h17=>?_)
   ·try simp only [decide_eq_true_eq,Bool.not_eq_true',Bool.or_eq_true] at h17
    try simp only [zds] at h17
    refine qC ?_;refine qB ?_;refine Or.inl ?_;refine zai (rfl) ?_;refine zei _ (zai (fault_c l.1 2) ?_);refine qL ?_;exact ⟨rfl,trivial,rfl⟩
   ·try simp only [decide_eq_false_iff_not,Bool.not_eq_false',Bool.or_eq_false_iff] at h17
    try simp only [zds] at h17
    exact absurd h17 (by rcases hk with hk|hk <;> simp [hk])
theorem take_blank {p q : PSt} {l : Lne} (h : yI p l (yC (ls l.2.2.1)) = .inr q) (hk : yC (ls l.2.2.1) = 1) (he : l.2.2.2 = true) (hb : PB p 900000) (hq : PB q 2000000) (hs : l.2.2.1.size ≤ 90000) : qR Tryz.prog 97 [.one (.own 0 0),.agg (toL rLne l)] (psO p) 5 (.one (.lit .nilIface)) (psO { q with its:=q.its ++ [(1,l.2.2.1 ++ ⟨#[10]⟩,[])] }) 5:=by
  have hi:=hq.its;refine qP (rs:=[4]) Tryz.func97 rfl rfl rfl teOk (by decide) rfl ?_;refine qC ?_;refine qB ?_;refine qC ?_;refine qB ?_;refine Or.inl ?_;refine zai (rfl) ?_;refine zei _ (zai (kind_c l.2.2.1 (Nat.le_trans hs (by decide))) ?_);refine qC ?_;refine qC ?_;refine qB ?_;refine Or.inr (Or.inl (zei [] (zei [0,1,2,3,4] (zei _ (zei _ (zei _ (zei _ (zei _ (zai (ahead_ok h hb hs) (zai rfl (zai (zai (zai rfl rfl) (zai (zai rfl rfl) (zai (zai rfl rfl) (zai (zai rfl rfl) (zai (zai rfl rfl) True.intro))))) (zai rfl ?_))))))))))));refine qC ?_;refine qB ?_;refine qK rfl (fun h15=>?_) (fun h15=>?_)
  ·try simp only [Bool.not_eq_true'] at h15
   try simp only [zds] at h15
   cases h15
  ·try simp only [Bool.not_eq_false'] at h15
   try simp only [zds] at h15
   refine qM ?_;refine qC ?_;refine qN ?_;refine qC ?_;refine qB ?_;refine zai (fun h=>trivial) ?_;refine zai (fun h=>⟨⟨h,trivial⟩,trivial⟩) ?_;refine zai (fun h=>⟨⟨h,trivial⟩,trivial⟩) ?_;refine zai (by first|(intro h;rw [h];rfl)|(intro h;cases h)) ?_;refine qK rfl (fun h17=>?_) (fun h17=>?_)
   ·try simp only [decide_eq_true_eq,Bool.not_eq_true',Bool.or_eq_true] at h17
    try simp only [zds] at h17
    exact absurd h17 (by simp [hk,he])
   ·try simp only [decide_eq_false_iff_not,Bool.not_eq_false',Bool.or_eq_false_iff] at h17
    try simp only [zds] at h17
    refine qC ?_;refine qB ?_;refine qK rfl (fun h29=>?_) (fun h29=>?_)
    ·try simp only [decide_eq_true_eq] at h29
     try simp only [zds] at h29
     refine qC ?_;refine xB rfl ?_;refine qJ 0 rfl rfl rfl (by kernel_rfl) ?_;refine qJ 1 rfl rfl rfl (by kernel_rfl) ?_;refine qJ 2 rfl rfl rfl (by kernel_rfl) ?_;refine qJ 3 rfl rfl rfl (by kernel_rfl) ?_;refine qJ 5 rfl rfl rfl (by kernel_rfl) ?_;refine qI [4,6] (by kernel_rfl) rfl ?_;refine zai ?_ ?_
     ·refine qI [6] (by kernel_rfl) rfl ?_;refine qJ 7 rfl rfl rfl (by kernel_rfl) ?_;refine zai (by (have hk0 : ByteArray.size { data:=#[10] } = 1:=rfl;first|(unfold maxLen;omega)|(simp only [ByteArray.size_append];omega)|(unfold maxLen;(try simp only [ByteArray.size_append]);omega))) ?_;refine qI [8] (by kernel_rfl) rfl ?_;refine qI [9] (by kernel_rfl) rfl ?_;refine qI [10] (by kernel_rfl) rfl ?_;refine zai (by first|exact qQ (by first|omega|(simp only [List.length_cons,List.length_nil];omega)|(simp;omega)) (by decide)|omega|assumption|decide|(simp only [zds];omega)|(simp <;> omega)) ?_;refine qJ 11 rfl rfl rfl (by kernel_rfl) ?_;refine qJ 12 rfl rfl rfl (by kernel_rfl) ?_;refine qI [13] (by kernel_rfl) rfl ?_;refine qO (by kernel_rfl) ?_;refine qC ?_;refine qB ?_;refine qL ?_;exact ⟨rfl,⟨rfl,rfl,rfl,rfl,rfl⟩,rfl⟩
     ·refine qJ 7 rfl rfl rfl (by kernel_rfl) ?_;refine zai (by (have hk0 : ByteArray.size { data:=#[10] } = 1:=rfl;first|(unfold maxLen;omega)|(simp only [ByteArray.size_append];omega)|(unfold maxLen;(try simp only [ByteArray.size_append]);omega))) ?_;refine qI [4,8] (by kernel_rfl) rfl ?_;refine zai ?_ ?_
      ·refine qI [8] (by kernel_rfl) rfl ?_;refine qI [9] (by kernel_rfl) rfl ?_;refine qI [10] (by kernel_rfl) rfl ?_;refine zai (by first|exact qQ (by first|omega|(simp only [List.length_cons,List.length_nil];omega)|(simp;omega)) (by decide)|omega|assumption|decide|(simp only [zds];omega)|(simp <;> omega)) ?_;refine qJ 11 rfl rfl rfl (by kernel_rfl) ?_;refine qJ 12 rfl rfl rfl (by kernel_rfl) ?_;refine qI [13] (by kernel_rfl) rfl ?_;refine qO (by kernel_rfl) ?_;refine qC ?_;refine qB ?_;refine qL ?_;exact ⟨rfl,⟨rfl,rfl,rfl,rfl,rfl⟩,rfl⟩
      ·refine qI [4,9] (by kernel_rfl) rfl ?_;refine zai ?_ ?_
       ·refine qI [9] (by kernel_rfl) rfl ?_;refine qI [10] (by kernel_rfl) rfl ?_;refine zai (by first|exact qQ (by first|omega|(simp only [List.length_cons,List.length_nil];omega)|(simp;omega)) (by decide)|omega|assumption|decide|(simp only [zds];omega)|(simp <;> omega)) ?_;refine qJ 11 rfl rfl rfl (by kernel_rfl) ?_;refine qJ 12 rfl rfl rfl (by kernel_rfl) ?_;refine qI [13] (by kernel_rfl) rfl ?_;refine qO (by kernel_rfl) ?_;refine qC ?_;refine qB ?_;refine qL ?_;exact ⟨rfl,⟨rfl,rfl,rfl,rfl,rfl⟩,rfl⟩
       ·refine qI [4] (by kernel_rfl) rfl ?_;refine qI [10] (by kernel_rfl) rfl ?_;refine zai (by first|exact qQ (by first|omega|(simp only [List.length_cons,List.length_nil];omega)|(simp;omega)) (by decide)|omega|assumption|decide|(simp only [zds];omega)|(simp <;> omega)) ?_;refine qJ 11 rfl rfl rfl (by kernel_rfl) ?_;refine qJ 12 rfl rfl rfl (by kernel_rfl) ?_;refine qI [13] (by kernel_rfl) rfl ?_;refine qO (by kernel_rfl) ?_;refine qC ?_;refine qB ?_;refine qL ?_;exact ⟨rfl,⟨rfl,rfl,rfl,rfl,rfl⟩,rfl⟩
    ·try simp only [decide_eq_false_iff_not] at h29
     try simp only [zds] at h29
     exact absurd hk h29
theorem take_pair {p q : PSt} {l : Lne} (h : yI p l (yC (ls l.2.2.1)) = .inr q) (hk : yC (ls l.2.2.1) = 4) (he : l.2.2.2 = true) (hb : PB p 900000) (hq : PB q 1000000) (hs : l.2.2.1.size ≤ 90000) : qR Tryz.prog 97 [.one (.own 0 0),.agg (toL rLne l)] (psO p) 5 (.one (.lit .nilIface)) (psO { xG q l with blk:=q.blk ++ [l.2.2.1] }) 5:=by
  have hi : (xG q l).blk.length ≤ 1000000:=hq.blk;refine qP (rs:=[4]) Tryz.func97 rfl rfl rfl teOk (by decide) rfl ?_;refine qC ?_;refine qB ?_;refine qC ?_;refine qB ?_;refine Or.inl ?_;refine zai (rfl) ?_;refine zei _ (zai (kind_c l.2.2.1 (Nat.le_trans hs (by decide))) ?_);refine qC ?_;refine qC ?_;refine qB ?_;refine Or.inr (Or.inl (zei [] (zei [0,1,2,3,4] (zei _ (zei _ (zei _ (zei _ (zei _ (zai (ahead_ok h hb hs) (zai rfl (zai (zai (zai rfl rfl) (zai (zai rfl rfl) (zai (zai rfl rfl) (zai (zai rfl rfl) (zai (zai rfl rfl) True.intro))))) (zai rfl ?_))))))))))));refine qC ?_;refine qB ?_;refine qK rfl (fun h15=>?_) (fun h15=>?_)
  ·try simp only [Bool.not_eq_true'] at h15
   try simp only [zds] at h15
   cases h15
  ·try simp only [Bool.not_eq_false'] at h15
   try simp only [zds] at h15
   refine qM ?_;refine qC ?_;refine qN ?_;refine qC ?_;refine qB ?_;refine zai (fun h=>trivial) ?_;refine zai (fun h=>⟨⟨h,trivial⟩,trivial⟩) ?_;refine zai (fun h=>⟨⟨h,trivial⟩,trivial⟩) ?_;refine zai (by first|(intro h;rw [h];rfl)|(intro h;cases h)) ?_;refine qK rfl (fun h17=>?_) (fun h17=>?_)
   ·try simp only [decide_eq_true_eq,Bool.not_eq_true',Bool.or_eq_true] at h17
    try simp only [zds] at h17
    exact absurd h17 (by simp [hk,he])
   ·try simp only [decide_eq_false_iff_not,Bool.not_eq_false',Bool.or_eq_false_iff] at h17
    try simp only [zds] at h17
    refine qC ?_;refine qB ?_;refine qK rfl (fun h29=>?_) (fun h29=>?_)
    ·try simp only [decide_eq_true_eq] at h29
     try simp only [zds] at h29
     exact absurd h29 (by rw [hk];decide)
    ·try simp only [decide_eq_false_iff_not] at h29
     try simp only [zds] at h29
     refine qC ?_;refine qB ?_;refine qK rfl (fun h45=>?_) (fun h45=>?_)
     ·try simp only [decide_eq_true_eq] at h45
      try simp only [zds] at h45
      refine qB ?_;refine Or.inr (Or.inl (zei [] (zei [0,1,2,3,4] (zei _ (zei _ (zei _ (zei _ (zei _ (zai (begin_c q l hq) (zai rfl (zai (zai (zai rfl rfl) (zai (zai rfl rfl) (zai (zai rfl rfl) (zai (zai rfl rfl) (zai (zai rfl rfl) True.intro))))) (zai rfl ?_))))))))))));refine qC ?_;refine xB rfl ?_;refine qJ 0 rfl rfl rfl (by kernel_rfl) ?_;refine qJ 1 rfl rfl rfl (by kernel_rfl) ?_;refine qJ 2 rfl rfl rfl (by kernel_rfl) ?_;refine qJ 3 rfl rfl rfl (by kernel_rfl) ?_;refine qJ 5 rfl rfl rfl (by kernel_rfl) ?_;refine qI [4,6] (by kernel_rfl) rfl ?_;refine zai ?_ ?_
      ·refine qI [6] (by kernel_rfl) rfl ?_;refine qI [7] (by kernel_rfl) rfl ?_;refine qI [8] (by kernel_rfl) rfl ?_;refine zai (by first|exact qQ (by first|omega|(simp only [List.length_cons,List.length_nil];omega)|(simp;omega)) (by decide)|omega|assumption|decide|(simp only [zds];omega)|(simp <;> omega)) ?_;refine qJ 9 rfl rfl rfl (by kernel_rfl) ?_;refine qJ 10 rfl rfl rfl (by kernel_rfl) ?_;refine qI [11] (by kernel_rfl) rfl ?_;refine qO (by kernel_rfl) ?_;refine qC ?_;refine qB ?_;refine qL ?_;exact ⟨rfl,⟨rfl,rfl,rfl,rfl,rfl⟩,rfl⟩
      ·refine qI [4,7] (by kernel_rfl) rfl ?_;refine zai ?_ ?_
       ·refine qI [7] (by kernel_rfl) rfl ?_;refine qI [8] (by kernel_rfl) rfl ?_;refine zai (by first|exact qQ (by first|omega|(simp only [List.length_cons,List.length_nil];omega)|(simp;omega)) (by decide)|omega|assumption|decide|(simp only [zds];omega)|(simp <;> omega)) ?_;refine qJ 9 rfl rfl rfl (by kernel_rfl) ?_;refine qJ 10 rfl rfl rfl (by kernel_rfl) ?_;refine qI [11] (by kernel_rfl) rfl ?_;refine qO (by kernel_rfl) ?_;refine qC ?_;refine qB ?_;refine qL ?_;exact ⟨rfl,⟨rfl,rfl,rfl,rfl,rfl⟩,rfl⟩
       ·refine qI [4] (by kernel_rfl) rfl ?_;refine qI [8] (by kernel_rfl) rfl ?_;refine zai (by first|exact qQ (by first|omega|(simp only [List.length_cons,List.length_nil];omega)|(simp;omega)) (by decide)|omega|assumption|decide|(simp only [zds];omega)|(simp <;> omega)) ?_;refine qJ 9 rfl rfl rfl (by kernel_rfl) ?_;refine qJ 10 rfl rfl rfl (by kernel_rfl) ?_;refine qI [11] (by kernel_rfl) rfl ?_;refine qO (by kernel_rfl) ?_;refine qC ?_;refine qB ?_;refine qL ?_;exact ⟨rfl,⟨rfl,rfl,rfl,rfl,rfl⟩,rfl⟩
     ·try simp only [decide_eq_false_iff_not] at h45
      try simp only [zds] at h45
      exact absurd hk h45
theorem take_more {p q : PSt} {l : Lne} (h : yI p l (yC (ls l.2.2.1)) = .inr q) (h5 : yC (ls l.2.2.1) ≠ 5) (h1 : yC (ls l.2.2.1) ≠ 1) (h4 : yC (ls l.2.2.1) ≠ 4) (he : l.2.2.2 = true) (hb : PB p 900000) (hq : PB q 1000000) (hs : l.2.2.1.size ≤ 90000) : qR Tryz.prog 97 [.one (.own 0 0),.agg (toL rLne l)] (psO p) 5 (.one (.lit .nilIface)) (psO { q with blk:=q.blk ++ [l.2.2.1] }) 5:=by
  have hi:=hq.blk;refine qP (rs:=[4]) Tryz.func97 rfl rfl rfl teOk (by decide) rfl ?_;refine qC ?_;refine qB ?_;refine qC ?_;refine qB ?_;refine Or.inl ?_;refine zai (rfl) ?_;refine zei _ (zai (kind_c l.2.2.1 (Nat.le_trans hs (by decide))) ?_);refine qC ?_;refine qC ?_;refine qB ?_;refine Or.inr (Or.inl (zei [] (zei [0,1,2,3,4] (zei _ (zei _ (zei _ (zei _ (zei _ (zai (ahead_ok h hb hs) (zai rfl (zai (zai (zai rfl rfl) (zai (zai rfl rfl) (zai (zai rfl rfl) (zai (zai rfl rfl) (zai (zai rfl rfl) True.intro))))) (zai rfl ?_))))))))))));refine qC ?_;refine qB ?_;refine qK rfl (fun h15=>?_) (fun h15=>?_)
  ·try simp only [Bool.not_eq_true'] at h15
   try simp only [zds] at h15
   cases h15
  ·try simp only [Bool.not_eq_false'] at h15
   try simp only [zds] at h15
   refine qM ?_;refine qC ?_;refine qN ?_;refine qC ?_;refine qB ?_;refine zai (fun h=>trivial) ?_;refine zai (fun h=>⟨⟨h,trivial⟩,trivial⟩) ?_;refine zai (fun h=>⟨⟨h,trivial⟩,trivial⟩) ?_;refine zai (by first|(intro h;rw [h];rfl)|(intro h;cases h)) ?_;refine qK rfl (fun h17=>?_) (fun h17=>?_)
   ·try simp only [decide_eq_true_eq,Bool.not_eq_true',Bool.or_eq_true] at h17
    try simp only [zds] at h17
    exact absurd h17 (by simp [h5,he])
   ·try simp only [decide_eq_false_iff_not,Bool.not_eq_false',Bool.or_eq_false_iff] at h17
    try simp only [zds] at h17
    refine qC ?_;refine qB ?_;refine qK rfl (fun h29=>?_) (fun h29=>?_)
    ·try simp only [decide_eq_true_eq] at h29
     try simp only [zds] at h29
     exact absurd h29 h1
    ·try simp only [decide_eq_false_iff_not] at h29
     try simp only [zds] at h29
     refine qC ?_;refine qB ?_;refine qK rfl (fun h45=>?_) (fun h45=>?_)
     ·try simp only [decide_eq_true_eq] at h45
      try simp only [zds] at h45
      exact absurd h45 h4
     ·try simp only [decide_eq_false_iff_not] at h45
      try simp only [zds] at h45
      refine qM ?_;refine qC ?_;refine xB rfl ?_;refine qJ 0 rfl rfl rfl (by kernel_rfl) ?_;refine qJ 1 rfl rfl rfl (by kernel_rfl) ?_;refine qJ 2 rfl rfl rfl (by kernel_rfl) ?_;refine qJ 3 rfl rfl rfl (by kernel_rfl) ?_;refine qJ 5 rfl rfl rfl (by kernel_rfl) ?_;refine qI [4,6] (by kernel_rfl) rfl ?_;refine zai ?_ ?_
      ·refine qI [6] (by kernel_rfl) rfl ?_;refine qI [7] (by kernel_rfl) rfl ?_;refine qI [8] (by kernel_rfl) rfl ?_;refine zai (by first|exact qQ (by first|omega|(simp only [List.length_cons,List.length_nil];omega)|(simp;omega)) (by decide)|omega|assumption|decide|(simp only [zds];omega)|(simp <;> omega)) ?_;refine qJ 9 rfl rfl rfl (by kernel_rfl) ?_;refine qJ 10 rfl rfl rfl (by kernel_rfl) ?_;refine qI [11] (by kernel_rfl) rfl ?_;refine qO (by kernel_rfl) ?_;refine qC ?_;refine qB ?_;refine qL ?_;exact ⟨rfl,⟨rfl,rfl,rfl,rfl,rfl⟩,rfl⟩
      ·refine qI [4,7] (by kernel_rfl) rfl ?_;refine zai ?_ ?_
       ·refine qI [7] (by kernel_rfl) rfl ?_;refine qI [8] (by kernel_rfl) rfl ?_;refine zai (by first|exact qQ (by first|omega|(simp only [List.length_cons,List.length_nil];omega)|(simp;omega)) (by decide)|omega|assumption|decide|(simp only [zds];omega)|(simp <;> omega)) ?_;refine qJ 9 rfl rfl rfl (by kernel_rfl) ?_;refine qJ 10 rfl rfl rfl (by kernel_rfl) ?_;refine qI [11] (by kernel_rfl) rfl ?_;refine qO (by kernel_rfl) ?_;refine qC ?_;refine qB ?_;refine qL ?_;exact ⟨rfl,⟨rfl,rfl,rfl,rfl,rfl⟩,rfl⟩
       ·refine qI [4] (by kernel_rfl) rfl ?_;refine qI [8] (by kernel_rfl) rfl ?_;refine zai (by first|exact qQ (by first|omega|(simp only [List.length_cons,List.length_nil];omega)|(simp;omega)) (by decide)|omega|assumption|decide|(simp only [zds];omega)|(simp <;> omega)) ?_;refine qJ 9 rfl rfl rfl (by kernel_rfl) ?_;refine qJ 10 rfl rfl rfl (by kernel_rfl) ?_;refine qI [11] (by kernel_rfl) rfl ?_;refine qO (by kernel_rfl) ?_;refine qC ?_;refine qB ?_;refine qL ?_;exact ⟨rfl,⟨rfl,rfl,rfl,rfl,rfl⟩,rfl⟩
theorem take_ok {p q : PSt} {l : Lne} (h : yL p l = .inr q) (hb : PB p 800000) (hs : l.2.2.1.size ≤ 90000) : qR Tryz.prog 97 [.one (.own 0 0),.agg (toL rLne l)] (psO p) 5 (.one (.lit .nilIface)) (psO q) 5:=by
  unfold yL at h;split at h
  · cases h
  · rename_i r e;have hb' : PB p 900000:=hb.mono (by decide);have hr : PB r 1000000:=(aheadS_B hb e).mono (by omega);unfold lineS at h;split at h
    · cases h
    · rename_i h0;have h5 : yC (ls l.2.2.1) ≠ 5:=fun e=>h0 (.inl e)
      have he : l.2.2.2 = true:=by
        cases e : l.2.2.2
        · exact absurd (.inr e) h0
        · rfl
      split at h
      · rename_i h1;cases h;exact take_blank e h1 he hb' (hr.mono (by decide)) hs
      · rename_i h1;split at h
        · rename_i h4;cases h;exact take_pair e h4 he hb' hr hs
        · rename_i h4;cases h;exact take_more e h5 h1 h4 he hb' hr hs
theorem take_err {p : PSt} {l : Lne} {at_ n : Int} (h : yL p l = .inl (at_,n)) (hb : PB p 800000) (hs : l.2.2.1.size ≤ 90000) : qR Tryz.prog 97 [.one (.own 0 0),.agg (toL rLne l)] (psO p) 5 (.one (errF at_ n)) [] 5:=by
  unfold yL at h;split at h
  · rename_i e;cases h;exact take_err1 e (hb.mono (by decide)) hs
  · rename_i r e;unfold lineS at h;split at h
    · rename_i h0;cases h;exact take_odd e h0 (hb.mono (by decide)) hs
    · split at h
      · cases h
      · split at h
        · cases h
        · cases h
def linesR : Nat → Int → Int → List UInt8 → List Lne
  | 0,_,_,_=>[]
  | f + 1,tot,no,s=>match s with
    | []=>[]
    | s=>(no,tot - s.length,bytes (Lib.cut s [10]).1,(Lib.cut s [10]).2.2) :: linesR f tot (no + 1) (Lib.cut s [10]).2.1
def yR (s : ByteArray) : List Lne:=linesR s.size s.size 0 (ls s)
def itLs (s : ByteArray) : List (List A):=(yR s).map fun l=>[A.agg (toL rLne l)]
theorem cut_less {r : List UInt8} {c : UInt8} (h : r ≠ []) : (Lib.cut r [c]).2.1.length < r.length:=by
  by_cases hm : c ∈ r
  · obtain ⟨a,b,rfl,hn⟩:=List.eq_append_cons_of_mem hm;rw [cut_at hn,List.length_append,List.length_cons];show b.length < _;omega
  · rw [cut_none hm];exact List.length_pos_iff.2 h
theorem le_refl {nx0 : Nat} {tm : Tm} {ob : Obs} {nx : Nat} : Le nx0 tm ob nx tm ob nx:=⟨fun _ _ ρ _ _ hs=>⟨ρ,hs⟩⟩
theorem split_iter (s : ByteArray) (hs : s.size ≤ 1000000) : AIter Tryz.prog 129 [.one (.addr .str s)] (itLs s):=by
  refine aiter_of Tryz.func129 rfl rfl rfl teOk rfl ?_;intro l ι Pr J U n0 hU hab hy;refine yW ?_;refine xJ hab hU rfl ?_;refine qB ?_;refine ⟨_,_,_,le_refl,?_⟩;refine yW ?_;refine xJ hab hU rfl ?_;refine qB ?_;refine ⟨_,_,_,le_refl,?_⟩;refine acodeY_block ?_;refine acodeY_loop (κ:=Nat × Nat × List UInt8 × ByteArray × Bool) (fun i=>i.2.2.1.length ≤ i.1 ∧ i.2.1 + i.1 ≤ s.size ∧ i.2.1 ≤ (yR s).length ∧ (yR s).drop i.2.1 = linesR i.1 s.size i.2.1 i.2.2.1) (fun i=>i.2.1) (fun i=>[(0,.one (.lit (.func (.yield l) #[] #[]))),(1,.one (.addr .str s)),(3,.one (.own 0 0)),(4,is (bytes i.2.2.1))]) (fun i=>[(0,.box 166 [.lit (.int .i64 i.2.1),.lit (.int .i64 (s.size - i.2.2.1.length)),.lit (.string i.2.2.2.1),.lit (.bool i.2.2.2.2)])]) 1 (fun i=>i.1) (s.size,0,ls s,ByteArray.empty,false) ⟨by rw [show (ls s).length = s.size from (yF s).symm];exact Nat.le_refl _,by simp,Nat.zero_le _,rfl⟩ hab hU (qV ⟨rfl,rfl,rfl,by rw [bytes_ls];rfl⟩ ?_ rfl) rfl ?_
  ·show leO _ [(0,Ob.box 166 [_,C.lit (.int .i64 ((s.size : Int) - ((ls s).length : Nat))),_,_])];rw [show (ls s).length = s.size from (yF s).symm,Int.sub_self];exact rfl
  intro i hi;obtain ⟨f,k,r,t0,e0⟩:=i;obtain ⟨h1,h2,h3,h4⟩:=hi;simp only at h1 h2 h3 h4;have hrs : r.length ≤ s.size:=Nat.le_trans h1 (by omega);refine yW ?_;refine yW ?_;refine xJ hab hU rfl ?_;refine qB ?_;refine ⟨_,_,_,le_refl,?_⟩;refine acodeY_cond rfl (fun hc=>?_) (fun hc=>?_)
  ·simp only at hc;have hne : r ≠ []:=fun e=>by
    have e' : bytes r = ⟨#[]⟩:=by rw [e];rfl
    rw [e'] at hc;simp at hc
   obtain ⟨f',hf⟩ : ∃ f',f = f' + 1:=⟨f - 1,by have:=List.length_pos_iff.2 hne;omega⟩;subst hf;have hd : (yR s).drop k = ((k : Int),(s.size : Int) - r.length,bytes (Lib.cut r [10]).1,(Lib.cut r [10]).2.2) :: linesR f' s.size (k + 1 : Nat) (Lib.cut r [10]).2.1:=by
    rw [h4];cases r with
    | nil=>exact absurd rfl hne
    | cons a r=>rfl
   have hk : k < (yR s).length:=by
    rcases Nat.lt_or_ge k (yR s).length with h|h
    ·exact h
    ·rw [List.drop_eq_nil_of_le h] at hd;cases hd
   have hget : (yR s)[k] = ((k : Int),(s.size : Int) - r.length,bytes (Lib.cut r [10]).1,(Lib.cut r [10]).2.2):=by
    rw [List.drop_eq_getElem_cons hk] at hd;exact (List.cons.inj hd).1
   have hdrop : (yR s).drop (k + 1) = linesR f' s.size (k + 1 : Nat) (Lib.cut r [10]).2.1:=by
    rw [List.drop_eq_getElem_cons hk] at hd;exact (List.cons.inj hd).2
   have hkx : k < (itLs s).length:=by unfold itLs;rw [List.length_map];exact hk
   have hx : (itLs s)[k] = [A.agg (toL rLne ((k : Int),(s.size : Int) - r.length,bytes (Lib.cut r [10]).1,(Lib.cut r [10]).2.2))]:=by
    simp only [itLs,List.getElem_map,hget]
   have hcl : (Lib.cut r [10]).2.1.length < r.length:=cut_less hne;have hcc : qU Tryz.prog 130 [is (bytes r),is ⟨#[10]⟩] (.tup [(false,[.lit (.string (bytes (Lib.cut r [10]).1))]),(false,[.lit (.string (bytes (Lib.cut r [10]).2.1))]),(false,[.lit (.bool (Lib.cut r [10]).2.2)])]):=by
    have:=cut_c (bytes r) ⟨#[10]⟩ (by rw [yV];omega);rw [qY] at this;exact this
   generalize Lib.cut r [10] = c at *
   refine acodeY_skip ?_;refine acodeY_block ?_;refine yW ?_;refine xJ hab hU rfl ?_;refine qB ?_;refine Or.inl ?_;refine zai (rfl) ?_;refine zei _ (zai hcc ?_);refine ⟨_,_,_,le_refl,?_⟩;refine yW ?_;refine yW ?_;refine acodeY_yield (pre:=[_,_]) (post:=[_]) _ rfl rfl rfl hab hU hy hkx ?_;refine ⟨_,_,_,le_refl,rfl,?_,by rw [hx];rfl,?_⟩
   ·rw [hx];rfl
   ·intro st;refine ⟨_,_,_,le_refl,?_⟩;refine acodeY_cond rfl (fun ht=>?_) (fun ht=>?_)
    ·refine acodeY_ret ?_;rw [Bool.not_not] at ht;subst ht;exact ⟨.inl rfl,fun e=>by cases e⟩
    ·rw [Bool.not_not] at ht;subst ht;refine acodeY_skip ?_;refine yW ?_;refine xJ hab hU rfl ?_;refine qB ?_;refine zai (by simp only;omega) ?_;refine ⟨_,_,_,le_refl,?_⟩;refine xJ hab hU rfl ?_;refine qB ?_;refine zai (by rw [yV];omega) ?_;refine ⟨_,_,_,?_,⟨(f',k + 1,c.2.1,bytes c.1,c.2.2),⟨by simp only;omega,by simp only;omega,hk,hdrop⟩,Nat.lt_succ_self _,rfl,rfl,rfl,rfl,rfl⟩⟩;refine qV ⟨rfl,rfl,rfl,rfl⟩ ?_ rfl;show leO _ [(0,Ob.box 166 [C.lit (.int .i64 ((k + 1 : Nat) : Int)),C.lit (.int .i64 ((s.size : Int) - (c.2.1.length : Nat))),C.lit (.string (bytes c.1)),C.lit (.bool c.2.2)])];rw [← yV c.2.1];exact rfl
  ·have hr : r = []:=by
    simp only at hc;have : bytes r = ⟨#[]⟩:=by simpa using hc
    have:=congrArg (fun b=>b.data.toList) this
    simpa [qY] using this
   refine acodeY_exit ?_;rw [hr] at h4;have h5 : (yR s).drop k = []:=by rw [h4];cases f <;> rfl
   have h6:=List.drop_eq_nil_iff.1 h5;exact ⟨.inr rfl,fun _=>by simp only [itLs,List.length_map];omega⟩
theorem split_c (s : ByteArray) : qU Tryz.prog 96 [is s] (.one (.clo 129 (.addr .str s))):=by
  refine qT (rs:=[2]) Tryz.func96 rfl rfl rfl teOk rfl ?_;refine qC ?_;refine qB ?_;refine qC ?_;refine qB ?_;refine acode_frz [0] ?_;refine qL ?_;rfl
def runS (p : PSt) : List Lne → (Int × Int) ⊕ PSt
  | []=>.inr p
  | l :: r=>match yL p l with
    | .inl e=>.inl e
    | .inr q=>runS q r
def yJ (s : ByteArray) : (Int × Int) ⊕ List Itm:=match runS pst0 (yR s) with
  | .inl e=>.inl e
  | .inr p=>match endS p with
    | .inl e=>.inl e
    | .inr q=>.inr q.its
def resP : (Int × Int) ⊕ List Itm → A
  | .inl e=>.tup [(false,[.sl rItm []]),(false,[errF e.1 e.2])]
  | .inr l=>.tup [(false,[.sl rItm l]),(false,[.lit .nilIface])]
theorem linesR_len : ∀ (f : Nat) (tot no : Int) (s : List UInt8),(linesR f tot no s).length ≤ s.length ∧ ((linesR f tot no s).map (·.2.2.1.size)).sum ≤ s.length
  | 0,_,_,_=>by simp [linesR]
  | f + 1,tot,no,[]=>by simp [linesR]
  | f + 1,tot,no,a :: r=>by
    obtain ⟨h1,h2⟩:=linesR_len f tot (no + 1) (Lib.cut (a :: r) [10]).2.1;have h3 : (Lib.cut (a :: r) [10]).2.1.length < (a :: r).length:=cut_less (by simp);have h4 : (Lib.cut (a :: r) [10]).1.length + (Lib.cut (a :: r) [10]).2.1.length ≤ (a :: r).length:=by
      by_cases hm : (10 : UInt8) ∈ a :: r
      · obtain ⟨x,b,e,hn⟩:=List.eq_append_cons_of_mem hm;rw [e,cut_at hn,List.length_append,List.length_cons];show x.length + b.length ≤ _;omega
      · rw [cut_none hm];exact Nat.le_refl _
    unfold linesR;simp only [List.length_cons,List.map_cons,List.sum_cons,yV] at h3 h4 ⊢;exact ⟨by omega,by omega⟩
theorem linesT_len (s : ByteArray) : (yR s).length ≤ s.size ∧ ((yR s).map (·.2.2.1.size)).sum ≤ s.size:=by
  have:=linesR_len s.size s.size 0 (ls s);rw [show (ls s).length = s.size from (yF s).symm] at this;exact this
def prP (L : List Lne) : Bool → Nat → PSt ⊕ (Int × Int) → Prop
  | false,k,.inl p=>runS pst0 L = runS p (L.drop k) ∧ ∃ B,PB p B ∧ B + 3 * (L.drop k).length + 2 * ((L.drop k).map (·.2.2.1.size)).sum ≤ 600000
  | true,_,.inr e=>runS pst0 L = .inl e
  | _,_,_=>False
def obP : PSt ⊕ (Int × Int) → Obs
  | .inl p=>[(0,.box 98 [.lit (.slice none 0 0)]),(1,.box 34 [.lit .nilIface]),(2,.box 161 [.vec 4,.lit (.int .i64 p.frm),.lit (.bool p.full),.vec 5,.vec 6,.vec 7,.lit (.int .i64 p.recs)]),(3,.box 156 [.own 2 0]),(4,.vec 9 .str p.lns),(5,.vec 109 rItm p.its),(6,.vec 9 .str p.blk),(7,.vec 82 rFld p.flds)]
  | .inr e=>[(0,.box 98 [.lit (.slice none 0 0)]),(1,.box 34 [errF e.1 e.2])]
theorem prP_next {L : List Lne} {k : Nat} {p q : PSt} {l : Lne} (hk : k < L.length) (hl : L[k] = l) (h : prP L false k (.inl p)) (ht : yL p l = .inr q) : prP L false (k + 1) (.inl q):=by
  obtain ⟨h1,B,h2,h3⟩:=h;rw [List.drop_eq_getElem_cons hk,hl] at h1 h3;simp only [runS,ht] at h1;simp only [List.length_cons,List.map_cons,List.sum_cons] at h3;exact ⟨h1,_,takeS_B h2 ht,by omega⟩
theorem prP_stop {L : List Lne} {k : Nat} {p : PSt} {e : Int × Int} {l : Lne} (hk : k < L.length) (hl : L[k] = l) (h : prP L false k (.inl p)) (ht : yL p l = .inl e) : prP L true (k + 1) (.inr e):=by
  obtain ⟨h1,B,h2,h3⟩:=h;rw [List.drop_eq_getElem_cons hk,hl] at h1;simp only [runS,ht] at h1;exact h1
theorem prP_B {L : List Lne} {k : Nat} {p : PSt} {l : Lne} (hk : k < L.length) (hl : L[k] = l) (h : prP L false k (.inl p)) : PB p 800000 ∧ l.2.2.1.size ≤ 300000:=by
  obtain ⟨h1,B,h2,h3⟩:=h;rw [List.drop_eq_getElem_cons hk,hl] at h3;simp only [List.length_cons,List.map_cons,List.sum_cons] at h3;exact ⟨h2.mono (by omega),by omega⟩
theorem prP_end {L : List Lne} {p : PSt} (h : prP L false L.length (.inl p)) : runS pst0 L = .inr p ∧ PB p 1000000:=by
  obtain ⟨h1,B,h2,h3⟩:=h;rw [List.drop_length] at h1;exact ⟨h1,h2.mono (by omega)⟩
theorem linesT_sz {s : ByteArray} {k : Nat} (hk : k < (yR s).length) : ((yR s)[k]).2.2.1.size ≤ s.size:=by
  have h:=(linesT_len s).2;have h1 : (yR s) = (yR s).take k ++ (yR s)[k] :: (yR s).drop (k + 1):=by rw [← List.drop_eq_getElem_cons hk,List.take_append_drop]
  rw [h1,List.map_append,List.sum_append,List.map_cons,List.sum_cons] at h;omega
theorem parse_a (s : ByteArray) (hs : s.size ≤ 60000) : qU Tryz.prog 63 [is s] (resP (yJ s)):=by
  have hlen:=linesT_len s;refine acall_ofc (rs:=[.cell 2 98,.cell 3 34]) Tryz.func63 rfl rfl rfl teOk rfl ?_;refine qC ?_;refine qB ?_;refine qC ?_;refine qC ?_;refine qB ?_;refine qK rfl (fun h10=>?_) (fun h10=>?_)
  ·try simp only [decide_eq_true_eq] at h10
   try simp only [zds] at h10
   omega
  ·try simp only [decide_eq_false_iff_not,Int.not_lt] at h10
   try simp only [zds] at h10
   refine qM ?_;refine qC ?_;refine qB ?_;refine qC ?_;refine qC ?_;refine yD 2 0 9 .str rfl rfl rfl ?_;refine yD 2 3 109 rItm rfl rfl rfl ?_;refine yD 2 4 9 .str rfl rfl rfl ?_;refine yD 2 5 82 rFld rfl rfl rfl ?_;refine qB ?_;refine Or.inl ?_;refine zai (rfl) ?_;refine zei _ (zai (split_c s) ?_);refine qN ?_;refine acode_range (caps:=[.one (.addr .str s)]) (xs:=itLs s) [(2,.one (.own 0 0)),(3,.one (.own 1 0)),(4,.one (.own 3 0)),(15,.one (.clo 129 (.addr .str s)))] 8 (prP (yR s)) obP (fun _=>.ret) (.inl pst0) rfl rfl (split_iter s (by omega)) (qV ⟨rfl,rfl,rfl,rfl⟩ ⟨rfl,rfl,rfl,rfl,rfl,rfl,rfl,rfl⟩ rfl) ⟨rfl,0,⟨Nat.le_refl _,Nat.le_refl _,Nat.le_refl _,Nat.le_refl _,Nat.le_refl _,Nat.le_refl _,Int.le_refl _,Int.le_refl _⟩,by rw [List.drop_zero];omega⟩ (fun k hk=>by simp [itLs]) rfl rfl rfl (fun k i h=>by cases i with|inl p=>rfl|inr e=>exact h.elim) rfl ?_ ?_ ?_
   ·intro k i hk hp;have hk2 : k < (yR s).length:=(by have:=hk;unfold itLs at this;rwa [List.length_map] at this);rw [show (itLs s)[k] = [A.agg (toL rLne ((yR s)[k]))] from by simp [itLs]];obtain ⟨l,hl⟩ : ∃ l,(yR s)[k] = l:=⟨_,rfl⟩;rw [hl];cases i with|inr e=>exact hp.elim|inl p=>?_
    obtain ⟨hB,hz⟩:=prP_B hk2 hl hp;have hz2 : l.2.2.1.size ≤ 90000:=(by have h1:=linesT_sz hk2;rw [hl] at h1;omega);refine qB ?_;refine qN ?_;refine qC ?_;rcases ht : yL p l with ⟨at_,n⟩|q
    ·refine qB ?_;refine Or.inr (Or.inl (zei [] (zei [2,4,5,6,7] (zei _ (zei _ (zei _ (zei _ (zei _ (zai (take_err ht hB hz2) (zai rfl (zai (zai (zai rfl rfl) (zai (zai rfl rfl) (zai (zai rfl rfl) (zai (zai rfl rfl) (zai (zai rfl rfl) True.intro))))) (zai rfl ?_))))))))))));refine qC ?_;refine qB ?_;refine qK rfl (fun h21=>?_) (fun h21=>?_)
     ·skip
      refine qC ?_;refine qB ?_;refine qL ?_;exact ⟨.inr (at_,n),prP_stop hk2 hl hp ht,rfl,qV trivial ⟨rfl,rfl⟩ rfl⟩
     ·try simp only [zbq] at h21
      try simp only [zds] at h21
      cases h21
    ·refine qB ?_;refine Or.inr (Or.inl (zei [] (zei [2,4,5,6,7] (zei _ (zei _ (zei _ (zei _ (zei _ (zai (take_ok ht hB hz2) (zai rfl (zai (zai (zai rfl rfl) (zai (zai rfl rfl) (zai (zai rfl rfl) (zai (zai rfl rfl) (zai (zai rfl rfl) True.intro))))) (zai rfl ?_))))))))))));refine qC ?_;refine qB ?_;refine qK rfl (fun h21=>?_) (fun h21=>?_)
     ·try simp only [Bool.not_eq_true'] at h21
      try simp only [zds] at h21
      cases h21
     ·try simp only [Bool.not_eq_false'] at h21
      try simp only [zds] at h21
      refine qM ?_;exact ⟨.inl q,prP_next hk2 hl hp ht,qV trivial ⟨rfl,rfl,rfl,rfl,rfl,rfl,rfl,rfl⟩ rfl⟩
   ·intro i hp;cases i with|inr e=>exact hp.elim|inl p=>?_
    rw [show (itLs s).length = (yR s).length from by simp [itLs]] at hp;obtain ⟨hr,hB⟩:=prP_end hp;refine qC ?_;refine qC ?_;rcases he : endS p with ⟨at_,n⟩|q
    ·refine qB ?_;refine Or.inr (Or.inl (zei [] (zei [2,4,5,6,7] (zei _ (zei _ (zei _ (zei _ (zei _ (zai (end_err he hB) (zai rfl (zai (zai (zai rfl rfl) (zai (zai rfl rfl) (zai (zai rfl rfl) (zai (zai rfl rfl) (zai (zai rfl rfl) True.intro))))) (zai rfl ?_))))))))))));refine qC ?_;refine qB ?_;refine qK rfl (fun h26=>?_) (fun h26=>?_)
     ·skip
      refine qC ?_;refine qB ?_;refine yD 0 0 109 rItm rfl rfl rfl ?_;refine qL ?_;rw [show yJ s = .inl (at_,n) from by unfold yJ;rw [hr];simp only [he]];exact rfl
     ·try simp only [zbq] at h26
      try simp only [zds] at h26
      cases h26
    ·refine qB ?_;refine Or.inr (Or.inl (zei [] (zei [2,4,5,6,7] (zei _ (zei _ (zei _ (zei _ (zei _ (zai (end_ok he hB) (zai rfl (zai (zai (zai rfl rfl) (zai (zai rfl rfl) (zai (zai rfl rfl) (zai (zai rfl rfl) (zai (zai rfl rfl) True.intro))))) (zai rfl ?_))))))))))));refine qC ?_;refine qB ?_;refine qK rfl (fun h26=>?_) (fun h26=>?_)
     ·try simp only [Bool.not_eq_true'] at h26
      try simp only [zds] at h26
      cases h26
     ·try simp only [Bool.not_eq_false'] at h26
      try simp only [zds] at h26
      refine qM ?_;refine qC ?_;refine qB ?_;refine qL ?_;rw [show yJ s = .inr q.its from by unfold yJ;rw [hr];simp only [he]];exact rfl
   ·intro k i hp;cases i with|inl p=>exact hp.elim|inr e=>?_
    have hp : runS pst0 (yR s) = .inl e:=hp;refine yD 0 0 109 rItm rfl rfl rfl ?_;refine qL ?_;rw [show yJ s = .inl e from by unfold yJ;rw [hp]];exact rfl
def oneL (k : Nat) : List UInt8:=(List.replicate k [65,58,10]).flatten
def manyL (k : Nat) : List UInt8:=(List.replicate k [65,58,10,10]).flatten
def PClean (p : PSt) (r : Int) : Prop:=p.lns = [] ∧ p.blk = [] ∧ p.flds = [] ∧ p.recs = r
theorem linesR_cons (f : Nat) (tot no : Int) (a : UInt8) (r : List UInt8) : linesR (f + 1) tot no (a :: r) = (no,tot - ((a :: r).length : Nat),bytes (Lib.cut (a :: r) [10]).1,(Lib.cut (a :: r) [10]).2.2) :: linesR f tot (no + 1) (Lib.cut (a :: r) [10]).2.1:=rfl
def linesB : Nat → List UInt8 → List (ByteArray × Bool)
  | 0,_=>[]
  | f + 1,s=>match s with
    | []=>[]
    | s=>(bytes (Lib.cut s [10]).1,(Lib.cut s [10]).2.2) :: linesB f (Lib.cut s [10]).2.1
theorem linesB_cons (f : Nat) (a : UInt8) (r : List UInt8) : linesB (f + 1) (a :: r) = (bytes (Lib.cut (a :: r) [10]).1,(Lib.cut (a :: r) [10]).2.2) :: linesB f (Lib.cut (a :: r) [10]).2.1:=rfl
theorem texts_linesR : ∀ (f : Nat) (tot no : Int) (s : List UInt8),(linesR f tot no s).map (·.2.2) = linesB f s
  | 0,_,_,_=>rfl
  | f + 1,_,_,[]=>rfl
  | f + 1,tot,no,a :: r=>by rw [linesR_cons,linesB_cons,List.map_cons,texts_linesR]
def glue : List (ByteArray × Bool) → List UInt8
  | []=>[]
  | l :: r=>ls l.1 ++ ((if l.2 then [10] else []) ++ glue r)
theorem cut_cases {a : UInt8} {s : List UInt8} {c : UInt8} : (∃ x b,a :: s = x ++ c :: b ∧ c ∉ x ∧ Lib.cut (a :: s) [c] = (x,b,true)) ∨ (c ∉ a :: s ∧ Lib.cut (a :: s) [c] = (a :: s,[],false)):=by
  by_cases hm : c ∈ a :: s
  · obtain ⟨x,b,e,hn⟩:=List.eq_append_cons_of_mem hm;exact .inl ⟨x,b,e,hn,by rw [e];exact cut_at hn⟩
  · exact .inr ⟨hm,cut_none hm⟩
theorem glue_lines : ∀ (f : Nat) (s : List UInt8),s.length ≤ f → glue (linesB f s) = s
  | 0,s,h=>by
    obtain rfl:=List.eq_nil_of_length_eq_zero (Nat.le_zero.1 h);rfl
  | f + 1,[],_=>rfl
  | f + 1,a :: r,h=>by
    have h3:=cut_less (r:=a :: r) (c:=10) (by simp);rw [linesB_cons];simp only [glue];rw [glue_lines f _ (by omega)];rcases cut_cases (a:=a) (s:=r) (c:=10) with ⟨x,b,e,_,hc⟩|⟨_,hc⟩
    · rw [hc,e];simp [qY]
    · rw [hc];simp [qY]
theorem linesB_no : ∀ (f : Nat) (s : List UInt8),∀ l ∈ linesB f s,(10 : UInt8) ∉ ls l.1
  | 0,_,l,hl=>by cases hl
  | f + 1,[],l,hl=>by cases hl
  | f + 1,a :: r,l,hl=>by
    rw [linesB_cons] at hl;rcases List.mem_cons.1 hl with rfl|hl
    · rcases cut_cases (a:=a) (s:=r) (c:=10) with ⟨x,b,e,hn,hc⟩|⟨hn,hc⟩
      · rw [hc];simpa [qY] using hn
      · rw [hc];simpa [qY] using hn
    · exact linesB_no f _ l hl
structure Rel (I : List Itm) (c : Int) (p q : PSt) : Prop where
  lns : p.lns = q.lns
  full : q.full = true → p.full = true
  its : p.its = I ++ q.its
  blk : p.blk = q.blk
  flds : p.flds = q.flds
  recs : p.recs = q.recs + c
  c0 : 0 ≤ c
  r4 : p.recs ≤ 400
  rf : p.flds ≠ [] → p.recs < 400
  rl : p.lns ≠ [] → p.full = false → p.recs < 400
section
variable {I : List Itm} {c : Int} {p q p1 : PSt}
theorem flush_lns (hf : yH p = .inr p1) : p1.lns = []:=by
  unfold yH at hf;split at hf
  · rename_i h;cases hf;exact h
  · split at hf
    · cases hf
    · split at hf
      · cases hf
      · cases hf;rfl
theorem flush_rel (h : Rel I c p q) (hf : yH p = .inr p1) : ∃ q1,yH q = .inr q1 ∧ Rel I c p1 q1:=by
  unfold yH at hf ⊢
  by_cases h0 : p.lns = []
  · rw [if_pos h0] at hf;cases hf;rw [if_pos (by rw [← h.lns];exact h0)];exact ⟨_,rfl,h⟩
  · rw [if_neg h0] at hf;rw [if_neg (by rw [← h.lns];exact h0),← h.lns];split at hf
    · cases hf
    · rename_i h1;rw [if_neg h1];split at hf
      · cases hf
      · rename_i h2;cases hf;have h3 : p.full = false:=by simpa using h2
        have h4 : ¬ q.full = true:=fun e=>h2 (h.full e)
        rw [if_neg h4];exact ⟨_,rfl,rfl,h.full,h.its,h.blk,by simp only [h.flds],h.recs,h.c0,h.r4,fun _=>h.rl h0 h3,fun e=>absurd rfl e⟩
theorem close_rel (h : Rel I c p q) (hl : p.lns = []) : Rel I c (xF p) (xF q):=by
  unfold xF;rw [← h.blk,← h.flds];split
  · exact ⟨h.lns,h.full,h.its,rfl,rfl,h.recs,h.c0,h.r4,fun e=>absurd rfl e,fun e=>absurd hl e⟩
  · by_cases hf : p.flds = []
    · simp only [if_pos hf];exact ⟨h.lns,h.full,by simp only [h.its,List.append_assoc],rfl,rfl,h.recs,h.c0,h.r4,fun e=>absurd rfl e,fun e=>absurd hl e⟩
    · have h1:=h.rf hf;have h2:=h.recs;simp only [if_neg hf];exact ⟨h.lns,h.full,by simp only [h.its,List.append_assoc],rfl,rfl,by simp only;omega,h.c0,by simp only;omega,fun e=>absurd rfl e,fun e=>absurd hl e⟩
theorem end_rel (h : Rel I c p q) (hf : endS p = .inr p1) : ∃ q1,endS q = .inr q1 ∧ Rel I c p1 q1:=by
  unfold endS at hf ⊢;cases e : yH p with
  | inl x=>rw [e] at hf;cases hf
  | inr r =>
    rw [e] at hf;cases hf;obtain ⟨q1,e1,h1⟩:=flush_rel h e;rw [e1];exact ⟨_,rfl,close_rel h1 (flush_lns e)⟩
theorem begin_rel {a b a' b' : Int} {t : ByteArray × Bool} (h : Rel I c p q) : Rel I c (xG p (a,b,t)) (xG q (a',b',t)):=by
  have h1:=h.recs;have h2:=h.c0;have h3:=h.r4;refine ⟨rfl,fun e=>?_,h.its,h.blk,h.flds,h.recs,h.c0,h.r4,h.rf,fun _ e=>?_⟩
  · simp only [xG,← h.flds,Bool.or_eq_true,Bool.and_eq_true,decide_eq_true_eq] at e ⊢;rcases e with e|⟨e1,e2⟩
    · exact .inl e
    · exact .inr ⟨e1,by omega⟩
  · simp only [xG,Bool.or_eq_false_iff,Bool.and_eq_false_iff,decide_eq_false_iff_not] at e ⊢
    by_cases hf : p.flds = []
    · rcases e.2 with e|e
      · rw [hf] at e;simp at e
      · omega
    · exact h.rf hf
theorem more_rel {t : ByteArray} (h : Rel I c p q) (h0 : p.lns ≠ []) : Rel I c { p with lns:=p.lns ++ [t] } { q with lns:=q.lns ++ [t] } :=
  ⟨by simp only [h.lns],h.full,h.its,h.blk,h.flds,h.recs,h.c0,h.r4,h.rf,fun _ e=>h.rl h0 e⟩
theorem ahead_rel {a b a' b' : Int} {t : ByteArray × Bool} {k : Int} (h : Rel I c p q) (hf : yI p (a,b,t) k = .inr p1) : ∃ q1,yI q (a',b',t) k = .inr q1 ∧ Rel I c p1 q1:=by
  unfold yI at hf ⊢;split at hf
  · rename_i hk;rw [if_pos hk]
    by_cases h0 : p.lns = []
    · rw [if_pos h0] at hf;cases hf
    · rw [if_neg h0] at hf;rw [if_neg (by rw [← h.lns];exact h0)];split at hf
      · rename_i he;rw [if_pos he];cases hf;exact ⟨_,rfl,more_rel h h0⟩
      · rename_i he;rw [if_neg he];exact flush_rel (more_rel h h0) hf
  · rename_i hk;rw [if_neg hk];split at hf
    · rename_i h1;rw [if_pos h1];exact end_rel h hf
    · rename_i h1;rw [if_neg h1];exact flush_rel h hf
theorem take_rel {a b a' b' : Int} {t : ByteArray × Bool} (h : Rel I c p q) (hf : yL p (a,b,t) = .inr p1) : ∃ q1,yL q (a',b',t) = .inr q1 ∧ Rel I c p1 q1:=by
  unfold yL at hf ⊢;simp only at hf ⊢;cases e : yI p (a,b,t) (yC (ls t.1)) with
  | inl x=>rw [e] at hf;cases hf
  | inr r =>
    rw [e] at hf;obtain ⟨r',e1,h1⟩:=ahead_rel (a':=a') (b':=b') h e;rw [e1];simp only at hf ⊢;unfold lineS at hf ⊢;split at hf
    · cases hf
    · rename_i g1;rw [if_neg g1];split at hf
      · rename_i g2;rw [if_pos g2];cases hf;exact ⟨_,rfl,h1.lns,h1.full,by simp only [h1.its,List.append_assoc],h1.blk,h1.flds,h1.recs,h1.c0,h1.r4,h1.rf,h1.rl⟩
      · rename_i g2;rw [if_neg g2];split at hf
        · rename_i g3;rw [if_pos g3];cases hf;have h2:=begin_rel (a:=a) (b:=b) (a':=a') (b':=b') (t:=t) h1;exact ⟨_,rfl,h2.lns,h2.full,h2.its,by simp only [h1.blk],h2.flds,h2.recs,h2.c0,h2.r4,h2.rf,h2.rl⟩
        · rename_i g3;rw [if_neg g3];cases hf;exact ⟨_,rfl,h1.lns,h1.full,h1.its,by simp only [h1.blk],h1.flds,h1.recs,h1.c0,h1.r4,h1.rf,h1.rl⟩
end
def szI (l : List Itm) : Nat:=(l.map (·.2.1.size)).sum
def szB (l : List ByteArray) : Nat:=(l.map (fun b=>b.size + 1)).sum
def rawN (p : PSt) : Nat:=szI p.its + szB p.blk
def Idle (p : PSt) : Prop:=p.lns = [] ∧ p.blk = [] ∧ p.flds = []
theorem szI_app (a b : List Itm) : szI (a ++ b) = szI a + szI b:=by simp [szI]
theorem szB_app (a b : List ByteArray) : szB (a ++ b) = szB a + szB b:=by simp [szB]
theorem join_eq (c : UInt8) : ∀ (l : List ByteArray),l ≠ [] → (Lib.join (l.map (·.data.toList)) [c]).length + 1 = szB l
  | [],h=>absurd rfl h
  | [a],_=>by
    rw [List.map_cons,List.map_nil,show Lib.join [a.data.toList] [c] = a.data.toList from by simp [Lib.join]];rw [← yF];simp [szB]
  | a :: b :: r,_=>by
    have:=join_eq c (b :: r) (by simp);rw [List.map_cons] at this;rw [List.map_cons,List.map_cons,join_two];simp only [List.length_append,List.length_cons,List.length_nil,szB,List.map_cons,List.sum_cons,← yF] at this ⊢;omega
theorem rawB_size {l : List ByteArray} (h : l ≠ []) : (rawB l).size = szB l:=by
  have:=join_eq 10 l h;unfold rawB;rw [ByteArray.size_append,yV];exact this
theorem flush_same {p q : PSt} (h : yH p = .inr q) : q.its = p.its ∧ q.blk = p.blk:=by
  unfold yH at h;split at h
  · cases h;exact ⟨rfl,rfl⟩
  · split at h
    · cases h
    · split at h
      · cases h
      · cases h;exact ⟨rfl,rfl⟩
theorem close_took (p : PSt) : (∃ X,(xF p).its = p.its ++ X ∧ ∀ x ∈ X,x.1 ≠ 1) ∧ rawN (xF p) = rawN p ∧ (xF p).blk = [] ∧ (xF p).flds = [] ∧ (xF p).lns = p.lns:=by
  unfold xF;split
  · rename_i h;exact ⟨⟨[],by simp,by simp⟩,by simp [rawN,h],rfl,rfl,rfl⟩
  · rename_i h;refine ⟨⟨_,rfl,fun x hx=>?_⟩,?_,rfl,rfl,rfl⟩
    · rw [List.mem_singleton.1 hx];simp only;split <;> decide
    · simp only [rawN,szI_app];simp only [szI,List.map_cons,List.map_nil,List.sum_cons,List.sum_nil,rawB_size h];simp [szB]
theorem end_took {p q : PSt} (h : endS p = .inr q) : (∃ X,q.its = p.its ++ X ∧ ∀ x ∈ X,x.1 ≠ 1) ∧ rawN q = rawN p ∧ Idle q:=by
  unfold endS at h;cases e : yH p with
  | inl x=>rw [e] at h;cases h
  | inr r =>
    rw [e] at h;cases h;obtain ⟨h1,h2⟩:=flush_same e;obtain ⟨h3,h4,h5,h6,h7⟩:=close_took r;rw [h1] at h3;refine ⟨h3,?_,h7.trans (flush_lns e),h5,h6⟩;rw [h4];unfold rawN;rw [h1,h2]
theorem ahead_took {p q : PSt} {l : Lne} {k : Int} (h : yI p l k = .inr q) : (∃ X,q.its = p.its ++ X ∧ ∀ x ∈ X,x.1 ≠ 1) ∧ rawN q = rawN p ∧ (k = 1 → Idle q):=by
  unfold yI at h;split at h
  · rename_i hk;subst hk;split at h
    · cases h
    · split at h
      · cases h;exact ⟨⟨[],by simp,by simp⟩,rfl,fun e=>by cases e⟩
      · obtain ⟨h1,h2⟩:=flush_same h;exact ⟨⟨[],by simp [h1],by simp⟩,by unfold rawN;rw [h1,h2],fun e=>by cases e⟩
  · split at h
    · obtain ⟨h1,h2,h3⟩:=end_took h;exact ⟨h1,h2,fun _=>h3⟩
    · rename_i hk;obtain ⟨h1,h2⟩:=flush_same h;exact ⟨⟨[],by simp [h1],by simp⟩,by unfold rawN;rw [h1,h2],fun e=>absurd e hk⟩
theorem take_took {p q : PSt} {l : Lne} (h : yL p l = .inr q) : l.2.2.2 = true ∧ rawN q = rawN p + (l.2.2.1.size + 1) ∧ ∃ X Y,q.its = p.its ++ X ++ Y ∧ (∀ x ∈ X,x.1 ≠ 1) ∧ (Y = [] ∨ (∃ b,Y = [b]) ∧ Idle q):=by
  unfold yL at h;cases e : yI p l (yC (ls l.2.2.1)) with
  | inl x=>rw [e] at h;cases h
  | inr r =>
    rw [e] at h;obtain ⟨⟨X,h1,h2⟩,h3,h4⟩:=ahead_took e;simp only at h;unfold lineS at h;split at h
    · cases h
    · rename_i g0;have he : l.2.2.2 = true:=by
        cases e : l.2.2.2
        · exact absurd (.inr e) g0
        · rfl
      refine ⟨he,?_⟩;split at h
      · rename_i g1;cases h;obtain ⟨i1,i2,i3⟩:=h4 g1;refine ⟨?_,X,[(1,l.2.2.1 ++ ⟨#[10]⟩,[])],by simp only [h1],h2,.inr ⟨⟨_,rfl⟩,i1,i2,i3⟩⟩;rw [← h3];simp only [rawN,szI_app];simp only [szI,List.map_cons,List.map_nil,List.sum_cons,List.sum_nil,ByteArray.size_append];rw [show ByteArray.size ⟨#[10]⟩ = 1 from rfl];omega
      · split at h
        · cases h;refine ⟨?_,X,[],by simp [xG,h1],h2,.inl rfl⟩;rw [← h3];simp only [rawN,szB_app,xG];simp only [szB,List.map_cons,List.map_nil,List.sum_cons,List.sum_nil];omega
        · cases h;refine ⟨?_,X,[],by simp [h1],h2,.inl rfl⟩;rw [← h3];simp only [rawN,szB_app];simp only [szB,List.map_cons,List.map_nil,List.sum_cons,List.sum_nil];omega
def szL (L : List Lne) : Nat:=(L.map (fun l=>l.2.2.1.size + 1)).sum
theorem run_app : ∀ (L M : List Lne) (p q : PSt),runS p L = .inr q → runS p (L ++ M) = runS q M
  | [],M,p,q,h=>by cases h;rfl
  | l :: r,M,p,q,h=>by
    simp only [runS,List.cons_append] at h ⊢;cases e : yL p l with
    | inl x=>rw [e] at h;cases h
    | inr p1 =>
      rw [e] at h;exact run_app r M p1 q h
theorem rel_self {p : PSt} (I : List Itm) (h : Idle p) (hI : p.its = I) (h0 : 0 ≤ p.recs) (h4 : p.recs ≤ 400) : Rel I p.recs p pst0 :=
  ⟨h.1,(fun e=>by cases e),by rw [hI];simp [pst0],h.2.1,h.2.2,by simp [pst0],h0,h4,fun e=>absurd h.2.2 e,fun e=>absurd h.1 e⟩
theorem rel_0 : Rel [] 0 pst0 pst0:=⟨rfl,id,rfl,rfl,rfl,rfl,by decide,by decide,fun e=>absurd rfl e,fun e=>absurd rfl e⟩
theorem lines_text (s : ByteArray) : (yR s).map (·.2.2) = linesB s.size (ls s):=texts_linesR _ _ _ _
def mkL (t : ByteArray) : Lne:=(0,0,t,true)
def Ready (p : PSt) (F : List Fld) : Prop:=∃ q,yH p = .inr q ∧ q.lns = [] ∧ q.flds = F ∧ q.its = p.its ∧ q.recs = p.recs ∧ q.blk = p.blk
def foldsL (a b : List Fld) (n : List UInt8) : List ByteArray:=bytes (35 :: n) :: ((a.flatMap fun f=>lineB f.1 f.2) ++ (⟨#[]⟩ :: ((b.flatMap fun f=>lineB f.1 f.2) ++ [bytes (35 :: n)])))
def recsT (l : List Itm) : List (List Fld):=(l.filter fun x=>decide (x.1 = 3)).map (·.2.2)
def fldL (a : List Fld) : List ByteArray:=a.flatMap fun f=>lineB f.1 f.2
def textT : List (List Fld) → List ByteArray
  | []=>[]
  | [a]=>fldL a
  | a :: b :: r=>fldL a ++ (⟨#[]⟩ :: textT (b :: r))
def GoodS (a : List Fld) : Prop:=a ≠ [] ∧ a.length ≤ 40 ∧ ∀ f ∈ a,yO f = 0
def more (l : Lne) : Bool:=decide (yC (ls l.2.2.1) = 3)
def saidL (l : Lne) (r : List Lne) : List ByteArray:=l.2.2.1 :: (r.takeWhile more).map (·.2.2.1)
def wrongL (bh : Bool) (l : Lne) (r : List Lne) (fields recs : Int) : Int :=
  if yC (ls l.2.2.1) = 5 ∨ (yC (ls l.2.2.1) = 3 ∧ bh = false) ∨ l.2.2.2 = false then 2
  else if yC (ls l.2.2.1) ≠ 4 then 0
  else if (yB ((saidL l r).map ls)).2 ≠ 0 then (yB ((saidL l r).map ls)).2
  else if 40 ≤ fields ∨ (fields = 0 ∧ 400 ≤ recs) then 11
  else 0
structure RSt where
  kind : Int
  raw : ByteArray
  flds : List Fld
  out : List Itm
  recs : Int
def fldOf (L : List ByteArray) : Fld:=(bytes (yB (L.map ls)).1.1,bytes (yB (L.map ls)).1.2)
def stepR (t : RSt) (l : Lne) (r : List Lne) : RSt :=
  if yC (ls l.2.2.1) = 1 then ⟨2,ByteArray.empty,[],(if t.raw = ByteArray.empty then t.out else t.out ++ [(t.kind,t.raw,t.flds)]) ++ [(1,l.2.2.1 ++ ⟨#[10]⟩,[])],t.recs⟩
  else if yC (ls l.2.2.1) = 4 then ⟨3,t.raw ++ l.2.2.1 ++ ⟨#[10]⟩,t.flds ++ [fldOf (saidL l r)],t.out,if t.kind = 2 then t.recs + 1 else t.recs⟩
  else { t with raw:=t.raw ++ l.2.2.1 ++ ⟨#[10]⟩ }
def runR (bh : Bool) (t : RSt) : List Lne → (Int × Int) ⊕ List Itm
  | []=>.inr (if t.raw = ByteArray.empty then t.out else t.out ++ [(t.kind,t.raw,t.flds)])
  | l :: r=>if wrongL bh l r t.flds.length t.recs ≠ 0 then .inl (l.1,wrongL bh l r t.flds.length t.recs)
    else runR (decide (yC (ls l.2.2.1) = 4) || decide (yC (ls l.2.2.1) = 3)) (stepR t l r) r
def rst0 : RSt:=⟨2,ByteArray.empty,[],[],0⟩
def outP (p : PSt) (L : List Lne) : (Int × Int) ⊕ List Itm:=match runS p L with
  | .inl e=>.inl e
  | .inr q=>match endS q with
    | .inl e=>.inl e
    | .inr q=>.inr q.its
theorem outP_cons (p : PSt) (l : Lne) (r : List Lne) : outP p (l :: r) = match yL p l with
    | .inl e=>.inl e
    | .inr q=>outP q r:=by
  unfold outP;simp only [runS];cases yL p l <;> rfl
theorem parse_out (s : ByteArray) : yJ s = outP pst0 (yR s):=rfl
def Ends : List Lne → Prop
  | []=>True
  | l :: r=>(l.2.2.2 = false → r = []) ∧ Ends r
theorem ends_linesR : ∀ (f : Nat) (tot no : Int) (s : List UInt8),Ends (linesR f tot no s)
  | 0,_,_,_=>trivial
  | f + 1,_,_,[]=>trivial
  | f + 1,tot,no,a :: r=>by
    rw [linesR_cons];refine ⟨fun h=>?_,ends_linesR f _ _ _⟩;rcases cut_cases (a:=a) (s:=r) (c:=10) with ⟨x,b,e,_,hc⟩|⟨_,hc⟩
    · rw [hc] at h;cases h
    · rw [hc];cases f <;> rfl
theorem not_more {l : Lne} (h : yC (ls l.2.2.1) ≠ 3) (r : List Lne) : (l :: r).takeWhile more = []:=by
  rw [List.takeWhile_cons_of_neg (by unfold more;simp [h])]
theorem is_more {l : Lne} (h : yC (ls l.2.2.1) = 3) (r : List Lne) : (l :: r).takeWhile more = l :: r.takeWhile more:=by
  rw [List.takeWhile_cons_of_pos (by unfold more;simp [h])]
theorem pend_err : ∀ (r : List Lne) (p : PSt) (at_ n : Int),Ends r → p.lns ≠ [] → (∀ q : PSt,q.lns = p.lns ++ (r.takeWhile more).map (·.2.2.1) → q.full = p.full → q.frm = p.frm → yH q = .inl (at_,n)) → outP p r = .inl (at_,n)
  | [],p,at_,n,_,h0,hf=>by
    have:=hf p (by simp) rfl rfl;unfold outP;simp only [runS,endS,this]
  | l :: r,p,at_,n,hE,h0,hf=>by
    rw [outP_cons]
    by_cases hm : yC (ls l.2.2.1) = 3
    · rw [is_more hm] at hf
      by_cases he : l.2.2.2 = true
      · have ht : yL p l = .inr { p with lns:=p.lns ++ [l.2.2.1],blk:=p.blk ++ [l.2.2.1] }:=by
          unfold yL;simp only [hm];simp [yI,lineS,h0,he]
        rw [ht];exact pend_err r _ at_ n hE.2 (by simp) (fun q h1 h2 h3=>hf q (by rw [h1];simp) h2 h3)
      · obtain rfl:=hE.1 (by simpa using he);have hfp:=hf { p with lns:=p.lns ++ [l.2.2.1] } (by simp) rfl rfl;have ht : yL p l = .inl (at_,n):=by
          unfold yL yI;rw [if_pos hm,if_neg h0,if_neg he,hfp]
        rw [ht]
    · rw [not_more hm] at hf;have hfp:=hf p (by simp) rfl rfl;have ht : yL p l = .inl (at_,n):=by
        unfold yL yI;rw [if_neg hm];unfold endS;rw [hfp];simp
      rw [ht]
def rawC (b : List ByteArray) : ByteArray:=bytes (endL (b.map ls))
theorem rawC_snoc (b : List ByteArray) (x : ByteArray) : rawC (b ++ [x]) = rawC b ++ x ++ ⟨#[10]⟩:=by
  unfold rawC endL;rw [List.map_append,List.flatMap_append,bytes_app,ByteArray.append_assoc]
  congr 1
  simp only [List.map_cons,List.map_nil,List.flatMap_cons,List.flatMap_nil,List.append_nil];rw [bytes_app,bytes_ls];rfl
theorem join_endL (c : UInt8) : ∀ (l : List (List UInt8)),l ≠ [] → Lib.join l [c] ++ [c] = l.flatMap fun s=>s ++ [c]
  | [],h=>absurd rfl h
  | [a],_=>by rw [Lib.join_one];simp
  | a :: b :: r,_=>by
    have:=join_endL c (b :: r) (by simp);rw [join_two,List.flatMap_cons,← this];simp
theorem rawB_C {b : List ByteArray} (h : b ≠ []) : rawB b = rawC b:=by
  unfold rawB rawC endL;rw [show b.map ls = b.map (·.data.toList) from rfl,← join_endL 10 (b.map (·.data.toList)) (by simpa using h),bytes_app];rfl
theorem rawC_nil {b : List ByteArray} : rawC b = ByteArray.empty ↔ b = []:=by
  refine ⟨fun h=>?_,fun h=>by rw [h];rfl⟩;cases b with
  | nil=>rfl
  | cons x r =>
    have:=congrArg ByteArray.size h;unfold rawC endL at this;rw [yV] at this;simp at this
structure Alike (p : PSt) (t : RSt) (bh : Bool) (L : List Lne) : Prop where
  its : t.out = p.its
  raw : t.raw = rawC p.blk
  bh : bh = true ↔ p.lns ≠ []
  flds : t.flds = p.flds ++ (if p.lns = [] then [] else [fldOf (p.lns ++ (L.takeWhile more).map (·.2.2.1))])
  kind : t.kind = if t.flds = [] then 2 else 3
  recs : t.recs = p.recs + (if t.flds = [] then 0 else 1)
  pend : p.lns ≠ [] → p.full = false ∧ (yB ((p.lns ++ (L.takeWhile more).map (·.2.2.1)).map ls)).2 = 0
  blk0 : p.blk = [] → t.flds = []
  r4 : p.recs ≤ 400
  rf : t.flds ≠ [] → p.recs < 400
  f40 : t.flds.length ≤ 40
section
variable {p : PSt} {t : RSt} {bh : Bool} {L : List Lne}
theorem alike_flush (h : Alike p t bh L) (hL : L.takeWhile more = []) : ∃ q,yH p = .inr q ∧ q.lns = [] ∧ q.flds = t.flds ∧ q.its = p.its ∧ q.blk = p.blk ∧ q.recs = p.recs:=by
  by_cases h0 : p.lns = []
  · refine ⟨p,by unfold yH;rw [if_pos h0],h0,?_,rfl,rfl,rfl⟩;rw [h.flds,if_pos h0,List.append_nil]
  · obtain ⟨h1,h2⟩:=h.pend h0;rw [hL,List.map_nil,List.append_nil] at h2;refine ⟨{ p with flds:=p.flds ++ [(bytes (yB (p.lns.map ls)).1.1,bytes (yB (p.lns.map ls)).1.2)],lns:=[] },?_,rfl,?_,rfl,rfl,rfl⟩
    · unfold yH;rw [if_neg h0,if_neg (by rw [h2];simp),if_neg (by rw [h1];simp)]
    · rw [h.flds,if_neg h0,hL];simp [fldOf]
theorem alike_end (h : Alike p t bh L) (hL : L.takeWhile more = []) : ∃ q,endS p = .inr q ∧ q.lns = [] ∧ q.flds = [] ∧ q.blk = [] ∧ q.its = (if t.raw = ByteArray.empty then t.out else t.out ++ [(t.kind,t.raw,t.flds)]) ∧ q.recs = t.recs:=by
  obtain ⟨q,f1,f2,f3,f4,f5,f6⟩:=alike_flush h hL;refine ⟨xF q,by unfold endS;rw [f1],?_⟩;unfold xF
  by_cases hb : p.blk = []
  · have hraw : t.raw = ByteArray.empty:=by rw [h.raw];exact rawC_nil.2 hb
    rw [if_pos (f5.trans hb),if_pos hraw];refine ⟨f2,rfl,rfl,by rw [h.its];exact f4,?_⟩;rw [h.recs,if_pos (h.blk0 hb),Int.add_zero];exact f6
  · have hraw : ¬ t.raw = ByteArray.empty:=fun e=>hb (rawC_nil.1 (by rw [← h.raw];exact e))
    rw [if_neg (by rw [f5];exact hb),if_neg hraw];refine ⟨f2,rfl,rfl,?_,?_⟩
    · simp only [h.its,h.kind,h.raw,rawB_C hb,f3,f4,f5]
    · simp only [f3,f6];rw [h.recs]
      by_cases hf : t.flds = []
      · simp [hf]
      · simp [hf]
end
theorem run_eq : ∀ (L : List Lne) (p : PSt) (t : RSt) (bh : Bool),Ends L → Alike p t bh L → outP p L = runR bh t L
  | [],p,t,bh,_,h=>by
    obtain ⟨q,e,_,_,_,h1,_⟩:=alike_end h rfl;unfold outP;simp only [runS,e,h1];rfl
  | l :: r,p,t,bh,hE,h=>by
    rw [outP_cons];unfold runR
    by_cases h3 : yC (ls l.2.2.1) = 3
    · by_cases hb : p.lns = []
      · have hbh : bh = false:=by
          cases bh
          · rfl
          · exact absurd hb (h.bh.1 rfl)
        have hw : wrongL bh l r t.flds.length t.recs = 2:=by
          unfold wrongL;rw [if_pos (.inr (.inl ⟨h3,hbh⟩))]
        have ht : yL p l = .inl (l.1,2):=by
          unfold yL yI;rw [if_pos h3,if_pos hb]
        rw [hw,ht];rfl
      · have hbh : bh = true:=h.bh.2 hb;obtain ⟨h5,h6⟩:=h.pend hb;rw [is_more h3] at h6
        by_cases he : l.2.2.2 = true
        · have hw : wrongL bh l r t.flds.length t.recs = 0:=by
            unfold wrongL;rw [if_neg (by simp [h3,hbh,he]),if_pos (by rw [h3];decide)]
          have ht : yL p l = .inr { p with lns:=p.lns ++ [l.2.2.1],blk:=p.blk ++ [l.2.2.1] }:=by
            unfold yL;simp only [h3];simp [yI,lineS,hb,he]
          rw [hw,ht,if_neg (by decide)];refine run_eq r _ _ _ hE.2 ?_;have hfl:=h.flds;rw [if_neg hb,is_more h3] at hfl;have hne : t.flds ≠ []:=by rw [hfl];simp
          unfold stepR;rw [if_neg (by rw [h3];decide),if_neg (by rw [h3];decide)];exact ⟨h.its,by simp only [h.raw,rawC_snoc],by simp [h3],by simp only;rw [hfl,if_neg (by simp)];simp,h.kind,h.recs,fun _=>⟨h5,by simpa using h6⟩,fun e=>by simp at e,h.r4,h.rf,h.f40⟩
        · have he' : l.2.2.2 = false:=by simpa using he
          obtain rfl:=hE.1 he';have hw : wrongL bh l [] t.flds.length t.recs = 2:=by
            unfold wrongL;rw [if_pos (.inr (.inr he'))]
          have ht : yL p l = .inl (l.1,2):=by
            have : yI p l 3 = .inr { p with flds:=p.flds ++ [(bytes (yB ((p.lns ++ [l.2.2.1]).map ls)).1.1,bytes (yB ((p.lns ++ [l.2.2.1]).map ls)).1.2)],lns:=[] }:=by
              unfold yI;rw [if_pos rfl,if_neg hb,if_neg he];unfold yH;simp only [List.takeWhile_nil,List.map_cons,List.map_nil] at h6;rw [if_neg (by simp),if_neg (by simp only [ne_eq,h6];simp),if_neg (by simp [h5])]
            unfold yL;rw [h3,this];simp [lineS,he']
          rw [hw,ht];rfl
    · have hno:=not_more h3 r
      by_cases h1 : yC (ls l.2.2.1) = 1
      · obtain ⟨q,e,e1,e2,e3,e4,e5⟩:=alike_end h hno
        by_cases he : l.2.2.2 = true
        · have hw : wrongL bh l r t.flds.length t.recs = 0:=by
            unfold wrongL;rw [if_neg (by simp [h1,he]),if_pos (by rw [h1];decide)]
          have ht : yL p l = .inr { q with its:=q.its ++ [(1,l.2.2.1 ++ ⟨#[10]⟩,[])] }:=by
            unfold yL yI;rw [if_neg h3,if_pos h1,e];simp [lineS,h1,he]
          rw [hw,ht,if_neg (by decide)];refine run_eq r _ _ _ hE.2 ?_;unfold stepR;rw [if_pos h1];refine ⟨by simp only [e4],by rw [e3];rfl,by simp [h1,e1],by simp [e1,e2],rfl,by simp [e5],fun h=>absurd e1 h,fun _=>rfl,?_,fun e=>absurd rfl e,by simp⟩;simp only [e5,h.recs];split
          · have:=h.r4;omega
          · rename_i hf;have:=h.rf hf;omega
        · have he' : l.2.2.2 = false:=by simpa using he
          have hw : wrongL bh l r t.flds.length t.recs = 2:=by
            unfold wrongL;rw [if_pos (.inr (.inr he'))]
          have ht : yL p l = .inl (l.1,2):=by
            unfold yL yI;rw [if_neg h3,if_pos h1,e];simp [lineS,he']
          rw [hw,ht];rfl
      · obtain ⟨q,f1,f2,f3,f4,f5,f6⟩:=alike_flush h hno;have hah : yI p l (yC (ls l.2.2.1)) = .inr q:=by
          unfold yI;rw [if_neg h3,if_neg h1,f1]
        by_cases hbad : yC (ls l.2.2.1) = 5 ∨ l.2.2.2 = false
        · have hw : wrongL bh l r t.flds.length t.recs = 2:=by
            unfold wrongL;rw [if_pos (hbad.elim .inl (fun h=>.inr (.inr h)))]
          have ht : yL p l = .inl (l.1,2):=by
            unfold yL lineS;rw [hah];simp only;rw [if_pos hbad]
          rw [hw,ht];rfl
        · have hb5 : yC (ls l.2.2.1) ≠ 5:=fun e=>hbad (.inl e)
          have he : l.2.2.2 = true:=by
            cases e : l.2.2.2
            · exact absurd (.inr e) hbad
            · rfl
          by_cases h4 : yC (ls l.2.2.1) = 4
          · have ht : yL p l = .inr { xG q l with blk:=q.blk ++ [l.2.2.1] }:=by
              unfold yL lineS;rw [hah];simp only;rw [if_neg hbad,if_neg h1,if_pos h4]
            have hfull : ((decide ((q.flds.length : Int) = 40) || (decide ((q.flds.length : Int) = 0) && decide (q.recs = 400))) = true) ↔ (40 ≤ (t.flds.length : Int) ∨ ((t.flds.length : Int) = 0 ∧ 400 ≤ t.recs)):=by
              have g1:=h.f40;have g2:=h.r4;have g3:=h.recs;rw [f3,f6];simp only [Bool.or_eq_true,Bool.and_eq_true,decide_eq_true_eq]
              constructor
              · rintro (g|⟨g,g'⟩)
                · exact .inl (by omega)
                · refine .inr ⟨g,?_⟩;rw [if_pos (List.eq_nil_of_length_eq_zero (by omega))] at g3;omega
              · rintro (g|⟨g,g'⟩)
                · exact .inl (by omega)
                · refine .inr ⟨g,?_⟩;rw [if_pos (List.eq_nil_of_length_eq_zero (by omega))] at g3;omega
            rw [ht]
            by_cases hu : (yB ((saidL l r).map ls)).2 = 0
            · by_cases hfu : 40 ≤ (t.flds.length : Int) ∨ ((t.flds.length : Int) = 0 ∧ 400 ≤ t.recs)
              · have hw : wrongL bh l r t.flds.length t.recs = 11:=by
                  unfold wrongL;rw [if_neg (by simp [h4,he]),if_neg (by simp [h4]),if_neg (by simp [hu]),if_pos hfu]
                rw [hw,if_pos (by decide)];refine pend_err r _ l.1 11 hE.2 (by simp [xG]) (fun q' g1 g2 g3=>?_);have g1' : q'.lns = saidL l r:=g1;have g2' : q'.full = true:=g2.trans (hfull.2 hfu);have g3' : q'.frm = l.1:=g3;unfold yH;rw [g1',if_neg (by unfold saidL;simp),if_neg (by simp [hu]),if_pos g2',g3']
              · have hw : wrongL bh l r t.flds.length t.recs = 0:=by
                  unfold wrongL;rw [if_neg (by simp [h4,he]),if_neg (by simp [h4]),if_neg (by simp [hu]),if_neg hfu]
                rw [hw,if_neg (by decide)];refine run_eq r _ _ _ hE.2 ?_;have hff : (decide ((q.flds.length : Int) = 40) || (decide ((q.flds.length : Int) = 0) && decide (q.recs = 400))) = false:=by
                  cases e : (decide ((q.flds.length : Int) = 40) || (decide ((q.flds.length : Int) = 0) && decide (q.recs = 400)))
                  · rfl
                  · exact absurd (hfull.1 e) hfu
                unfold stepR;rw [if_neg h1,if_pos h4];refine ⟨by simp only [xG,h.its,f4],by simp only [h.raw,rawC_snoc,f5],by simp [h4,xG],?_,by simp,?_,fun _=>⟨hff,hu⟩,fun e=>by simp at e,?_,fun _=>?_,?_⟩
                · simp only [xG,f3];rw [if_neg (by simp)];rfl
                · simp only [xG,f6];have g3:=h.recs;have g4:=h.kind
                  by_cases hf : t.flds = []
                  · rw [if_pos hf] at g3 g4;rw [if_pos g4,if_neg (by simp),g3];omega
                  · rw [if_neg hf] at g3 g4;rw [if_neg (by rw [g4];decide),if_neg (by simp),g3]
                · simp only [xG,f6];exact h.r4
                · simp only [xG,f6]
                  by_cases hf : t.flds = []
                  · have g3:=h.recs;rw [if_pos hf] at g3;have : ¬ 400 ≤ t.recs:=fun e=>hfu (.inr ⟨by rw [hf];rfl,e⟩)
                    omega
                  · exact h.rf hf
                · rw [List.length_append,List.length_singleton];have : ¬ 40 ≤ (t.flds.length : Int):=fun e=>hfu (.inl e)
                  omega
            · have hw : wrongL bh l r t.flds.length t.recs = (yB ((saidL l r).map ls)).2:=by
                unfold wrongL;rw [if_neg (by simp [h4,he]),if_neg (by simp [h4]),if_pos hu]
              rw [hw,if_pos hu];refine pend_err r _ l.1 _ hE.2 (by simp [xG]) (fun q' g1 g2 g3=>?_);have g1' : q'.lns = saidL l r:=g1;have g3' : q'.frm = l.1:=g3;unfold yH;rw [g1',if_neg (by unfold saidL;simp),if_pos hu,g3']
          · have hw : wrongL bh l r t.flds.length t.recs = 0:=by
              unfold wrongL;rw [if_neg (by simp [h3,hb5,he]),if_pos h4]
            have ht : yL p l = .inr { q with blk:=q.blk ++ [l.2.2.1] }:=by
              unfold yL lineS;rw [hah];simp only;rw [if_neg hbad,if_neg h1,if_neg h4]
            rw [hw,ht,if_neg (by decide)];refine run_eq r _ _ _ hE.2 ?_;unfold stepR;rw [if_neg h1,if_neg h4];exact ⟨by simp only [h.its,f4],by simp only [h.raw,rawC_snoc,f5],by simp [h3,h4,f2],by simp [f2,f3],h.kind,by simp only [f6];exact h.recs,fun e=>absurd f2 e,fun e=>by simp at e,by simp only [f6];exact h.r4,by simp only [f6];exact h.rf,h.f40⟩
theorem parse_ref (s : ByteArray) : yJ s = runR false rst0 (yR s):=by
  rw [parse_out];exact run_eq _ _ _ _ (ends_linesR _ _ _ _) ⟨rfl,rfl,by simp [pst0],by simp [rst0,pst0],rfl,rfl,fun e=>absurd rfl e,fun _=>rfl,by decide,fun e=>absurd rfl e,by simp [rst0]⟩
theorem is_fault (at_ n : Int) (hn : n ≠ 0) : qU Tryz.prog 29 [.one (errF at_ n),ii .i64 n] (ib true):=by
  refine qT (rs:=[4]) Tryz.func29 rfl rfl rfl teOk rfl ?_;refine qC ?_;refine qB ?_;refine qC ?_;refine qB ?_;refine Or.inl ?_;refine zai (rfl) ?_;refine zei _ (zai (num_fault at_ n hn) ?_);refine qL ?_;exact ib_eq (decide_eq_true rfl)
structure SpI (s : ByteArray) (i at_ : Nat) (out : List Lne) : Prop where
  ai : at_ ≤ i
  is : i ≤ s.size
  no : (10 : UInt8) ∉ ((ls s).drop at_).take (i - at_)
  ol : out.length ≤ at_
  eq : ∃ f,((ls s).drop at_).length ≤ f ∧ out ++ linesR f s.size out.length ((ls s).drop at_) = yR s
def rawsL (l : List Itm) : List UInt8:=l.flatMap fun x=>ls x.2.1
theorem getD_get {α : Type} {l : List α} {i : Nat} (h : i < l.length) (d : α) : l[i] = l.getD i d:=by
  rw [List.getD_eq_getElem?_getD,List.getElem?_eq_getElem h];rfl
def bhI (k : List Int) (i : Nat) : Bool:=decide (0 < i) && (decide (k.getD (i - 1) 0 = 4) || decide (k.getD (i - 1) 0 = 3))
structure RI (L : List Lne) (k : List Int) (i : Nat) (t : RSt) : Prop where
  il : i ≤ L.length
  eq : runR false rst0 L = runR (bhI k i) t (L.drop i)
  r0 : 0 ≤ t.recs
  ri : t.recs ≤ i
  oi : t.out.length ≤ 2 * i
  fi : t.flds.length ≤ i
  rw_ : t.raw.size ≤ ((L.take i).map (fun l=>l.2.2.1.size + 1)).sum
  rd : t.raw = ByteArray.empty ↔ t.raw.size = 0
def resR : (Int × Int) ⊕ List Itm → A
  | .inl e=>.tup [(false,[.sl rItm []]),(false,[.lit (.int .i64 e.1)]),(false,[.lit (.int .i64 e.2)])]
  | .inr l=>.tup [(false,[.sl rItm l]),(false,[.lit (.int .i64 (-9))]),(false,[.lit (.int .i64 0)])]
abbrev rRow : Rd (List Fld):=.sl rFld
def recsL (l : List Itm) : List (List Fld):=(l.filter fun x=>decide (x.1 = 3)).map (·.2.2)
def contP (p : PSt) : List UInt8:=rawsL p.its ++ endL (p.blk.map ls)
theorem raws_app (a b : List Itm) : rawsL (a ++ b) = rawsL a ++ rawsL b:=by simp [rawsL]
theorem endL_app (a b : List (List UInt8)) : endL (a ++ b) = endL a ++ endL b:=by simp [endL]
theorem close_cont (p : PSt) : contP (xF p) = contP p:=by
  unfold xF;split
  · rename_i h;unfold contP;simp [h]
  · rename_i h;unfold contP;simp only [raws_app];rw [rawB_C h];have : rawsL [((if p.flds = [] then 2 else 3 : Int),rawC p.blk,p.flds)] = endL (p.blk.map ls):=by
      unfold rawsL rawC;simp only [List.flatMap_cons,List.flatMap_nil,List.append_nil];exact qY _
    rw [this];simp [endL]
theorem flush_cont {p q : PSt} (h : yH p = .inr q) : contP q = contP p:=by
  obtain ⟨h1,h2⟩:=flush_same h;unfold contP;rw [h1,h2]
theorem end_cont {p q : PSt} (h : endS p = .inr q) : contP q = contP p:=by
  unfold endS at h;cases e : yH p with
  | inl x=>rw [e] at h;cases h
  | inr r =>
    rw [e] at h;cases h;rw [close_cont,flush_cont e]
theorem ahead_cont {p q : PSt} {l : Lne} {k : Int} (h : yI p l k = .inr q) : contP q = contP p:=by
  unfold yI at h;split at h
  · split at h
    · cases h
    · split at h
      · cases h;rfl
      · rw [flush_cont h];rfl
  · split at h
    · exact end_cont h
    · exact flush_cont h
theorem take_cont {p q : PSt} {l : Lne} (h : yL p l = .inr q) : contP q = contP p ++ (ls l.2.2.1 ++ [10]):=by
  have hi:=fun hk=>(ahead_took (p:=p) (l:=l) (k:=yC (ls l.2.2.1)) (q:=q) hk)
  unfold yL at h;cases e : yI p l (yC (ls l.2.2.1)) with
  | inl x=>rw [e] at h;cases h
  | inr r =>
    rw [e] at h;have hc:=ahead_cont e;obtain ⟨_,_,h4⟩:=ahead_took e;simp only at h;unfold lineS at h;split at h
    · cases h
    · split at h
      · rename_i g1;cases h;rw [← hc];unfold contP;simp only [raws_app,(h4 g1).2.1];simp [rawsL,endL,ls]
      · split at h
        · cases h;rw [← hc];unfold contP xG;simp only [List.map_append,endL_app];simp [endL,ls]
        · cases h;rw [← hc];unfold contP;simp only [List.map_append,endL_app];simp [endL,ls]
theorem run_cont : ∀ (L : List Lne) (p q : PSt),runS p L = .inr q → contP q = contP p ++ glue (L.map (·.2.2))
  | [],p,q,h=>by cases h;simp [glue]
  | l :: r,p,q,h=>by
    simp only [runS] at h;cases e : yL p l with
    | inl x=>rw [e] at h;cases h
    | inr p1 =>
      rw [e] at h;obtain ⟨he,_⟩:=take_took e;rw [run_cont r p1 q h,take_cont e,List.map_cons];simp only [glue,he,if_true,List.append_assoc]
theorem raws_text {s : ByteArray} {l : List Itm} (hp : yJ s = .inr l) : bytes (rawsL l) = s:=by
  unfold yJ at hp;cases e : runS pst0 (yR s) with
  | inl x=>rw [e] at hp;cases hp
  | inr p =>
    rw [e] at hp;simp only at hp;cases e2 : endS p with
    | inl x=>rw [e2] at hp;cases hp
    | inr q =>
      rw [e2] at hp;cases hp;obtain ⟨_,_,hidle⟩:=end_took e2;have h1 : contP q = rawsL q.its:=by unfold contP;rw [hidle.2.1];simp [endL]
      rw [← h1,end_cont e2,run_cont _ _ _ e,lines_text,glue_lines _ _ (by rw [show (ls s).length = s.size from (yF s).symm];exact Nat.le_refl _)];exact bytes_ls s
theorem items_flds {s : ByteArray} {l : List Itm} (hs : s.size ≤ 60000) (hp : yJ s = .inr l) : l.length ≤ 1000000 ∧ ∀ x ∈ l,x.2.2.length ≤ 1000000:=by
  have h0:=parse_ref s;rw [hp] at h0;obtain ⟨h1,_⟩:=linesT_len s;have key : ∀ (L : List Lne) (t : RSt) (bh : Bool) (l : List Itm),runR bh t L = .inr l → l.length ≤ t.out.length + 1 + 2 * L.length ∧ ∀ (B : Nat),t.flds.length + L.length ≤ B → (∀ x ∈ t.out,x.2.2.length ≤ B) → ∀ x ∈ l,x.2.2.length ≤ B:=by
    intro L
    induction L with
    | nil =>
      intro t bh l h;unfold runR at h;cases h;refine ⟨by split <;> simp,fun B hB ho x hx=>?_⟩;split at hx
      · exact ho x hx
      · rcases List.mem_append.1 hx with hx|hx
        · exact ho x hx
        · rw [List.mem_singleton.1 hx];simpa using hB
    | cons a r ih =>
      intro t bh l h;unfold runR at h;split at h
      · cases h
      · obtain ⟨i1,i2⟩:=ih _ _ _ h;have so : (stepR t a r).out.length ≤ t.out.length + 2:=by
          unfold stepR;split
          · simp only;split <;> simp
          · split <;> simp
        have sf : (stepR t a r).flds.length ≤ t.flds.length + 1:=by
          unfold stepR;split
          · simp
          · split <;> simp
        refine ⟨by rw [List.length_cons];omega,fun B hB ho=>i2 B (by rw [List.length_cons] at hB;omega) (fun x hx=>?_)⟩;have hB2 : t.flds.length ≤ B:=by omega
        unfold stepR at hx;split at hx
        · simp only at hx;rcases List.mem_append.1 hx with hx|hx
          · split at hx
            · exact ho x hx
            · rcases List.mem_append.1 hx with hx|hx
              · exact ho x hx
              · rw [List.mem_singleton.1 hx];exact hB2
          · rw [List.mem_singleton.1 hx];exact Nat.zero_le _
        · split at hx
          · exact ho x hx
          · exact ho x hx
  obtain ⟨k1,k2⟩:=key _ _ _ _ h0.symm;refine ⟨by simp only [rst0,List.length_nil] at k1;omega,k2 1000000 (by simp only [rst0,List.length_nil];omega) (fun x hx=>by cases hx)⟩
def badAt : Int → List Fld → Int × Int
  | _,[]=>(-9,0)
  | i,f :: r=>if yO f ≠ 0 then (i,yO f) else badAt (i + 1) r
def chkR (l : List Fld) : Int × Int:=if l = [] then (-9,2) else if 40 < l.length then (-9,11) else badAt 0 l
def chkA (l : List Fld) : C:=if (chkR l).2 = 0 then .lit .nilIface else if (chkR l).1 = -9 then errN (chkR l).2 else errF (chkR l).1 (chkR l).2
theorem badAt_hit : ∀ (l : List Fld) (i : Nat) (k : Int),i < l.length → (∀ f ∈ l.take i,yO f = 0) → yO (l.getD i (ByteArray.empty,ByteArray.empty)) ≠ 0 → badAt k l = (k + i,yO (l.getD i (ByteArray.empty,ByteArray.empty)))
  | [],i,k,h,_,_=>by simp at h
  | f :: r,0,k,_,_,hb=>by
    unfold badAt;rw [if_pos (by simpa using hb)];simp
  | f :: r,i + 1,k,h,ht,hb=>by
    unfold badAt;rw [if_neg (by simpa using ht f (by simp))];rw [badAt_hit r i (k + 1) (by simpa using h) (fun g hg=>ht g (by simp [hg])) (by simpa using hb)];simp only [List.getD_cons_succ]
    congr 1
    omega
theorem badAt_no : ∀ (l : List Fld) (k : Int),(∀ f ∈ l,yO f = 0) → badAt k l = (-9,0)
  | [],_,_=>rfl
  | f :: r,k,h=>by
    unfold badAt;rw [if_neg (by simpa using h f (by simp))];exact badAt_no r (k + 1) (fun g hg=>h g (by simp [hg]))
theorem chkA_nil {l : List Fld} (h : chkR l = (-9,0)) : chkA l = .lit .nilIface:=by unfold chkA;rw [h];rfl
theorem chkA_no {l : List Fld} {n : Int} (h : chkR l = (-9,n)) (hn : n ≠ 0) : chkA l = errN n:=by unfold chkA;rw [h,if_neg hn,if_pos rfl]
theorem chkA_at {l : List Fld} {i n : Int} (h : chkR l = (i,n)) (hn : n ≠ 0) (hi : 0 ≤ i) : chkA l = errF i n:=by unfold chkA;rw [h,if_neg hn,if_neg (by show ¬ i = -9;omega)]
theorem pcheck_c {κ : Nat} (l : List Fld) (hl : yA l) : qU Tryz.prog 47 [.one (.slk κ rFld l)] (.one (chkA l)):=by
  have hln:=hl.1;refine qT (rs:=[2]) Tryz.func47 rfl rfl rfl teOk rfl ?_;refine qC ?_;refine qB ?_;refine qC ?_;refine qN ?_;refine qC ?_;refine qB ?_;intro l1_1
  try simp only [zds] at l1_1
  refine qK rfl (fun h6=>?_) (fun h6=>?_)
  ·try simp only [decide_eq_true_eq] at h6
   try simp only [zds] at h6
   refine qC ?_;refine qB ?_;refine qL ?_;rw [chkA_no (l:=l) (n:=2) (by unfold chkR;rw [if_pos (List.eq_nil_of_length_eq_zero (by omega))]) (by decide)];rfl
  ·try simp only [decide_eq_false_iff_not] at h6
   try simp only [zds] at h6
   refine qC ?_;refine qB ?_;intro l3_1
   try simp only [zds] at l3_1
   refine qK rfl (fun h11=>?_) (fun h11=>?_)
   ·try simp only [decide_eq_true_eq] at h11
    try simp only [zds] at h11
    refine qC ?_;refine qB ?_;refine qL ?_;rw [chkA_no (l:=l) (n:=11) (by unfold chkR;rw [if_neg (fun e=>h6 (by rw [e];rfl)),if_pos (by omega)]) (by decide)];rfl
   ·try simp only [decide_eq_false_iff_not,Int.not_lt] at h11
    try simp only [zds] at h11
    refine qM ?_;refine qC ?_;refine qC ?_;refine qB ?_;intro l5_1
    try simp only [zds] at l5_1
    refine qN ?_;refine yP (fun (i : Nat)=>i ≤ l.length ∧ ∀ f ∈ l.take i,yO f = 0) (fun (i : Nat)=>[(16,.one (.slk κ rFld l)),(17,ii .i64 l.length),(18,ii .i64 i)]) (fun (i : Nat)=>[]) 0 (fun (i : Nat)=>l.length - i) 0 (⟨Nat.zero_le _,by simp⟩) (qV ⟨rfl,rfl,rfl⟩ trivial rfl) ?_;intro i hI1;obtain ⟨hi,hall⟩:=hI1;refine qC ?_;refine qB ?_;refine qC ?_;refine qK rfl (fun h19=>?_) (fun h19=>?_)
    ·try simp only [decide_eq_true_eq] at h19
     try simp only [zds] at h19
     have hlt : i < l.length:=(by omega);have hm:=hl.2 _ (xK hlt (ByteArray.empty,ByteArray.empty));have hne : l ≠ []:=(fun e=>by rw [e] at hlt;simp at hlt);refine qM ?_;refine qC ?_;refine qN ?_;refine qC ?_;refine qB ?_;refine zai (by first|omega|assumption|decide|(simp only [zds];omega)|(simp <;> omega)) ?_;refine qC ?_;rcases check_cases (l.getD i (ByteArray.empty,ByteArray.empty)) with hc|hc|hc
     ·refine qB ?_;refine Or.inl ?_;refine zai (rfl) ?_;refine zei _ (zai (check_v (l.getD i (ByteArray.empty,ByteArray.empty)) _ (by omega) hc) ?_);refine qC ?_;refine qB ?_;refine qK rfl (fun h26=>?_) (fun h26=>?_)
      ·skip
       refine qC ?_;refine qB ?_;refine qL ?_;rw [chkA_at (l:=l) (i:=i) (n:=5) (by unfold chkR;rw [if_neg hne,if_neg (by omega),badAt_hit l i 0 hlt hall (by rw [hc];decide),hc];simp) (by decide) (by omega)];rfl
      ·try simp only [zbq] at h26
       try simp only [zds] at h26
       cases h26
     ·refine qB ?_;refine Or.inl ?_;refine zai (rfl) ?_;refine zei _ (zai (check_v (l.getD i (ByteArray.empty,ByteArray.empty)) _ (by omega) hc) ?_);refine qC ?_;refine qB ?_;refine qK rfl (fun h26=>?_) (fun h26=>?_)
      ·skip
       refine qC ?_;refine qB ?_;refine qL ?_;rw [chkA_at (l:=l) (i:=i) (n:=6) (by unfold chkR;rw [if_neg hne,if_neg (by omega),badAt_hit l i 0 hlt hall (by rw [hc];decide),hc];simp) (by decide) (by omega)];rfl
      ·try simp only [zbq] at h26
       try simp only [zds] at h26
       cases h26
     ·refine qB ?_;refine Or.inl ?_;refine zai (rfl) ?_;refine zei _ (zai (check_v (l.getD i (ByteArray.empty,ByteArray.empty)) _ (by omega) hc) ?_);refine qC ?_;refine qB ?_;refine qK rfl (fun h26=>?_) (fun h26=>?_)
      ·try simp only [Bool.not_eq_true'] at h26
       try simp only [zds] at h26
       cases h26
      ·try simp only [Bool.not_eq_false'] at h26
       try simp only [zds] at h26
       refine qM ?_;refine qB ?_;refine zai (by first|omega|assumption|decide|(simp only [zds];omega)|(simp <;> omega)) ?_;exact ⟨i + 1,⟨by omega,by rw [← xA (ByteArray.empty,ByteArray.empty) hlt];intro f hf;rcases List.mem_append.1 hf with h|h;exact hall f h;rw [List.mem_singleton.1 h];exact hc⟩,by first|omega|(simp <;> omega),qV ⟨rfl,rfl,(ii_eq (by omega))⟩ trivial rfl⟩
    ·try simp only [decide_eq_false_iff_not,Int.not_lt] at h19
     try simp only [zds] at h19
     refine xI ?_;refine qC ?_;refine qB ?_;refine qL ?_;rw [List.take_of_length_le (by omega)] at hall;rw [chkA_nil (by unfold chkR;rw [if_neg (fun e=>h6 (by rw [e];rfl)),if_neg (by omega)];exact badAt_no l 0 hall)];rfl
theorem badAt_zero : ∀ (l : List Fld) (k : Int),(badAt k l).2 = 0 → (∀ f ∈ l,yO f = 0)
  | [],_,_,f,hf=>by cases hf
  | g :: r,k,h,f,hf=>by
    unfold badAt at h;split at h
    · rename_i hg;exact absurd h hg
    · rename_i hg;rcases List.mem_cons.1 hf with rfl|hf
      · exact Classical.not_not.1 hg
      · exact badAt_zero r (k + 1) h f hf
theorem chk_good {l : List Fld} (h : (chkR l).2 = 0) : GoodS l ∧ badF l = 0 ∧ chkA l = .lit .nilIface:=by
  have hA : chkA l = .lit .nilIface:=by unfold chkA;rw [if_pos h]
  unfold chkR at h;split at h
  · cases h
  · rename_i h0;split at h
    · cases h
    · rename_i h4;have:=badAt_zero l 0 h;exact ⟨⟨h0,by omega,this⟩,badF_ok this,hA⟩
theorem chk_bad {l : List Fld} (h : (chkR l).2 ≠ 0) : ∃ e,chkA l = e ∧ ((∃ n,n ≠ 0 ∧ e = errN n ∧ chkR l = (-9,n)) ∨ ∃ i n,n ≠ 0 ∧ e = errF i n ∧ chkR l = (i,n)):=by
  refine ⟨_,rfl,?_⟩;unfold chkA;rw [if_neg h]
  by_cases h9 : (chkR l).1 = -9
  · rw [if_pos h9];exact .inl ⟨_,h,rfl,Prod.ext h9 rfl⟩
  · rw [if_neg h9];exact .inr ⟨_,_,h,rfl,rfl⟩
theorem pstanza_ok {κ : Nat} {l : List Fld} (hl : yA l) (h : (chkR l).2 = 0) : qU Tryz.prog 147 [.one (.slk κ rFld l)] (.tup [(false,[.lit (.string (bytes (foldL l)))]),(false,[.lit .nilIface])]):=by
  obtain ⟨h1,h2,h3⟩:=chk_good h;have hc:=pcheck_c (κ:=κ) l hl;rw [h3] at hc;refine qT (rs:=[2,3]) Tryz.func147 rfl rfl rfl teOk rfl ?_;refine qC ?_;refine qB ?_;refine qC ?_;refine qC ?_;refine qB ?_;refine Or.inl ?_;refine zai (rfl) ?_;refine zei _ (zai (hc) ?_);refine qC ?_;refine qB ?_;refine qK rfl (fun h8=>?_) (fun h8=>?_)
  ·try simp only [Bool.not_eq_true'] at h8
   try simp only [zds] at h8
   cases h8
  ·try simp only [Bool.not_eq_false'] at h8
   try simp only [zds] at h8
   refine qM ?_;refine qC ?_;refine qB ?_;refine Or.inl ?_;refine zai (rfl) ?_;refine zei _ (zai (fold_yes hl h2) ?_);refine qL ?_;rfl
theorem pstanza_err {κ : Nat} {l : List Fld} (hl : yA l) (h : (chkR l).2 ≠ 0) : qU Tryz.prog 147 [.one (.slk κ rFld l)] (.tup [(false,[.lit (.string ⟨#[]⟩)]),(false,[chkA l])]):=by
  have hc:=pcheck_c (κ:=κ) l hl;obtain ⟨e,he,hs⟩:=chk_bad h;rw [he] at hc ⊢;rcases hs with ⟨n,hn,rfl,_⟩|⟨i,n,hn,rfl,_⟩
  ·
    refine qT (rs:=[2,3]) Tryz.func147 rfl rfl rfl teOk rfl ?_;refine qC ?_;refine qB ?_;refine qC ?_;refine qC ?_;refine qB ?_;refine Or.inl ?_;refine zai (rfl) ?_;refine zei _ (zai (hc) ?_);refine qC ?_;refine qB ?_;refine qK rfl (fun h8=>?_) (fun h8=>?_)
    ·skip
     refine qC ?_;refine qB ?_;refine qL ?_;rfl
    ·try simp only [zbq] at h8
     try simp only [zds] at h8
     cases h8
  ·
    refine qT (rs:=[2,3]) Tryz.func147 rfl rfl rfl teOk rfl ?_;refine qC ?_;refine qB ?_;refine qC ?_;refine qC ?_;refine qB ?_;refine Or.inl ?_;refine zai (rfl) ?_;refine zei _ (zai (hc) ?_);refine qC ?_;refine qB ?_;refine qK rfl (fun h8=>?_) (fun h8=>?_)
    ·skip
     refine qC ?_;refine qB ?_;refine qL ?_;rfl
    ·try simp only [zbq] at h8
     try simp only [zds] at h8
     cases h8
def apartK (k : Int) : List Itm → List Itm
  | []=>[]
  | x :: r=>if k ≠ 1 ∧ x.1 ≠ 1 then (1,⟨#[10]⟩,[]) :: x :: apartK x.1 r else x :: apartK x.1 r
def apartL (l : List Itm) : List Itm:=apartK 1 l
def altK (k : Int) : List Itm → Prop
  | []=>True
  | x :: r=>(k = 1 ∨ x.1 = 1) ∧ altK x.1 r
def lastK (k : Int) : List Itm → Int
  | []=>k
  | x :: r=>lastK x.1 r
def AltP (p : PSt) : Prop:=altK 1 p.its ∧ lastK 1 p.its = 1
theorem clone_c {k : Nat} (l : List Fld) (hl : l.length ≤ 1000000) : qU Tryz.prog 62 [.one (.slk k rFld l)] (.one (.sl rFld l)):=by
  refine qT (rs:=[2]) Tryz.func62 rfl rfl rfl teOk rfl ?_;refine qC ?_;refine qB ?_;refine qC ?_;refine qC ?_;refine acode_isnil (q:=k) [_] _ (R:=rFld) (xs:=l) rfl rfl rfl rfl (e:=82) rfl rfl ?_;refine ⟨rfl,fun b hb=>?_⟩;refine qK rfl (fun h4=>?_) (fun h4=>?_)
  ·have hl0:=hb h4;subst hl0;refine qC ?_;refine qB ?_;refine acode_nilvec 2 82 rFld rfl ?_;refine qL ?_;rfl
  ·refine qM ?_;refine qC ?_;refine qB ?_;refine zai (by first|exact qQ (show l.length ≤ 1000000000 by omega) (by decide)|exact qQ (show 0 + l.length ≤ 1000000000 by omega) (by decide)) ?_;refine qL ?_;rfl
def al6 : List (List Fld):=[[(⟨#[65]⟩,⟨#[49]⟩)],[(⟨#[66]⟩,⟨#[50]⟩)]]
theorem dif_row {ok : Oks} {w : World} {v : Value} {f : List Fld} (hf : yA f) (h : SlOk rFld.n (fun cs x=>rFld.is ok w cs x) (okU ok w 0) w v f) : Rdl.Sl Dif.field Rdl.all w v f:=by
  obtain ⟨a,cap,hv,h1,h2,hc⟩:=h;refine ⟨a,cap,hv,h1,h2,fun i hi=>?_⟩;obtain ⟨b,off,cs,ha,_,_,hcell,hr⟩:=hc i hi;obtain ⟨c,d,rfl,e1,e2⟩:=hr;have hs:=hf.2 _ (List.getElem_mem hi);refine ⟨b,off,c ++ d,ha,trivial,⟨c,d,rfl,⟨e1,?_⟩,⟨e2,?_⟩⟩,fun j hj=>?_⟩
  · exact Nat.le_trans hs.1 (by decide)
  · exact Nat.le_trans hs.2 (by decide)
  · rw [← Nat.add_assoc];exact hcell.2 j hj
theorem dif_rows {ok : Oks} {w : World} {v : Value} {r : List (List Fld)} (hf : ∀ f ∈ r,yA f) (h : SlOk (Rd.sl rFld).n (fun cs x=>(Rd.sl rFld).is ok w cs x) (okU ok w 0) w v r) : Rdl.Sl Dif.fields Rdl.all w v r:=by
  obtain ⟨a,cap,hv,h1,h2,hc⟩:=h;refine ⟨a,cap,hv,h1,h2,fun i hi=>?_⟩;obtain ⟨b,off,cs,ha,_,_,hcell,hr⟩:=hc i hi;obtain ⟨u,rfl,hs⟩:=hr;refine ⟨b,off,[u],ha,trivial,⟨u,rfl,dif_row (hf _ (List.getElem_mem hi)) hs⟩,fun j hj=>?_⟩;rw [← Nat.add_assoc];exact hcell.2 j hj
theorem ints_rep {ok : Oks} {p : Nat → Prop} {w : World} {v : Value} {xs : List Int} (hp : ∀ b,p b → ok 0 b) (h : Rdl.Sl Rdl.int p w v xs) : SlOk (Rd.int .i64).n (fun cs x=>(Rd.int .i64).is ok w cs x) (okU ok w 0) w v xs:=by
  obtain ⟨a,cap,hv,h1,h2,hc⟩:=h;refine ⟨a,cap,hv,h1,h2,fun i hi=>?_⟩;obtain ⟨b,off,cs,ha,hb,⟨rfl,_⟩,hcell⟩:=hc i hi;have h0:=hcell 0 (by decide);refine ⟨b,off,_,ha,okU0 (hp b hb),World.block_lt_of_cell? _ _ h0,⟨rfl,fun j hj=>?_⟩,rfl⟩;rw [Nat.add_assoc];exact hcell j hj
theorem way_c (xs ys : List (List Fld)) (hx : xs.length ≤ 900) (hy : ys.length ≤ 900) (fx : ∀ f ∈ xs,yA f) (fy : ∀ f ∈ ys,yA f) : qU Tryz.prog 73 [.one (.sl (.sl rFld) xs),.one (.sl (.sl rFld) ys)] (.one (.sl (.int .i64) (Dif.wayOf xs ys))):=by
  refine ⟨⟨_,Tryz.func73,rfl,rfl⟩,fun ok w vs _ hvs=>?_⟩;obtain ⟨v,t,rfl,hv,v2,t2,rfl,hv2,ht⟩:=hvs;rw [show t2 = [] from ht];refine (Dif.Way_new v v2 xs ys w (dif_rows fx hv) (dif_rows fy hv2) hx hy).mono ?_
  rintro e w' ⟨u,rfl,hs,hb⟩
  exact ⟨_,rfl,hb,ints_rep (fun b hb=>.inr ⟨hb,by decide⟩) hs⟩
theorem distance_c (xs ys : List (List Fld)) (hx : xs.length ≤ 900) (hy : ys.length ≤ 900) (fx : ∀ f ∈ xs,yA f) (fy : ∀ f ∈ ys,yA f) : qU Tryz.prog 45 [.one (.sl (.sl rFld) xs),.one (.sl (.sl rFld) ys)] (ii .i64 (Dif.dist xs ys : Int)):=by
  refine ⟨⟨_,Tryz.func45,rfl,rfl⟩,fun ok w vs _ hvs=>?_⟩;obtain ⟨v,t,rfl,hv,v2,t2,rfl,hv2,ht⟩:=hvs;rw [show t2 = [] from ht];refine (Dif.Distance_any v v2 xs ys w (dif_rows fx hv) (dif_rows fy hv2) hx hy).mono ?_
  rintro e w' ⟨rfl,hb⟩
  exact ⟨_,rfl,hb,rfl⟩
theorem dsame_c (xs ys : List (List Fld)) (fx : ∀ f ∈ xs,yA f) (fy : ∀ f ∈ ys,yA f) : qU Tryz.prog 46 [.one (.sl (.sl rFld) xs),.one (.sl (.sl rFld) ys)] (ib (decide (xs = ys))):=by
  refine ⟨⟨_,Tryz.func46,rfl,rfl⟩,fun ok w vs _ hvs=>?_⟩;obtain ⟨v,t,rfl,hv,v2,t2,rfl,hv2,ht⟩:=hvs;rw [show t2 = [] from ht];refine (Dif.Same_any v v2 xs ys w (dif_rows fx hv) (dif_rows fy hv2)).mono ?_
  rintro e w' ⟨rfl,n,rfl⟩
  exact ⟨_,rfl,below_drewN (Below.refl _ _) n,rfl⟩
theorem flush_recs {p q : PSt} (h : yH p = .inr q) : q.recs = p.recs:=by
  unfold yH at h;split at h
  · cases h;rfl
  · split at h
    · cases h
    · split at h
      · cases h
      · cases h;rfl
theorem close_recs (p : PSt) : p.recs ≤ (xF p).recs ∧ (xF p).recs ≤ p.recs + 1:=by
  unfold xF;split
  · exact ⟨Int.le_refl _,by simp only;omega⟩
  · simp only;split <;> omega
theorem end_recs {p q : PSt} (h : endS p = .inr q) : p.recs ≤ q.recs ∧ q.recs ≤ p.recs + 1:=by
  unfold endS at h;cases e : yH p with
  | inl x=>rw [e] at h;cases h
  | inr r =>
    rw [e] at h;cases h;rw [← flush_recs e];exact close_recs r
theorem ahead_recs {p q : PSt} {l : Lne} {k : Int} (h : yI p l k = .inr q) : p.recs ≤ q.recs ∧ (k ≠ 1 → q.recs = p.recs):=by
  unfold yI at h;split at h
  · split at h
    · cases h
    · split at h
      · cases h;exact ⟨Int.le_refl _,fun _=>rfl⟩
      · have:=flush_recs h;simp only at this;exact ⟨by omega,fun _=>this⟩
  · split at h
    · rename_i h1;exact ⟨(end_recs h).1,fun e=>absurd h1 e⟩
    · have:=flush_recs h;exact ⟨by omega,fun _=>this⟩
theorem line_recs {p q : PSt} {l : Lne} {k : Int} (h : lineS p l k = .inr q) : q.recs = p.recs:=by
  unfold lineS at h;split at h
  · cases h
  · split at h
    · cases h;rfl
    · split at h <;> (cases h;rfl)
theorem take_recs {p q : PSt} {l : Lne} (h : yL p l = .inr q) : p.recs ≤ q.recs ∧ (yC (ls l.2.2.1) ≠ 1 → q.recs = p.recs):=by
  unfold yL at h;cases e : yI p l (yC (ls l.2.2.1)) with
  | inl x=>rw [e] at h;cases h
  | inr r =>
    rw [e] at h;rw [line_recs h];exact ahead_recs e
theorem take_its {p q : PSt} {l : Lne} (h : yL p l = .inr q) (hk : yC (ls l.2.2.1) ≠ 1) : q.its = p.its:=by
  unfold yL at h;cases e : yI p l (yC (ls l.2.2.1)) with
  | inl x=>rw [e] at h;cases h
  | inr r =>
    rw [e] at h;have h1 : r.its = p.its:=by
      unfold yI at e;split at e
      · split at e
        · cases e
        · split at e
          · cases e;rfl
          · exact (flush_same e).1
      · exact (flush_same e).1
    rw [← h1];simp only at h;unfold lineS at h;split at h
    · cases h
    · split at h <;> (cases h;rfl)
structure Fwd (I : List Itm) (c : Int) (p q : PSt) : Prop where
  lns : p.lns = q.lns
  full : q.lns ≠ [] → q.full = false → p.full = false
  its : p.its = I ++ q.its
  blk : p.blk = q.blk
  flds : p.flds = q.flds
  recs : p.recs = q.recs + c
  c0 : 0 ≤ c
section
variable {I : List Itm} {c : Int} {p q q1 : PSt}
end
def Blk (x : Itm) : Prop:=∃ (L : List Lne) (q qe : PSt),(∀ l ∈ L,l.2.2.2 = true ∧ (10 : UInt8) ∉ ls l.2.2.1) ∧ runS pst0 L = .inr q ∧ q.its = [] ∧ q.recs = 0 ∧ endS q = .inr qe ∧ qe.its = [x] ∧ glue (L.map (·.2.2)) = ls x.2.1
theorem end_one {q qe : PSt} (h : endS q = .inr qe) (h0 : q.its = []) : qe.its = [] ∨ ∃ x,qe.its = [x]:=by
  unfold endS at h;cases e : yH q with
  | inl x=>rw [e] at h;cases h
  | inr r =>
    rw [e] at h;cases h;have h1:=(flush_same e).1;unfold xF;split
    · left;simp only;rw [h1,h0]
    · right;simp only;rw [h1,h0];exact ⟨_,rfl⟩
def Par (p : PSt) : Prop:=∃ (I : List Itm) (c : Int) (L : List Lne) (q : PSt),Rel I c p q ∧ runS pst0 L = .inr q ∧ q.its = [] ∧ q.recs = 0 ∧ (∀ l ∈ L,l.2.2.2 = true ∧ (10 : UInt8) ∉ ls l.2.2.1) ∧ ∀ x ∈ I,x.1 ≠ 1 → Blk x
theorem end_par {p pe : PSt} (hp : Par p) (h : endS p = .inr pe) : (∀ x ∈ pe.its,x.1 ≠ 1 → Blk x) ∧ Idle pe ∧ 0 ≤ pe.recs ∧ pe.recs ≤ 400:=by
  obtain ⟨I,c,L,q,hrel,hrun,hits,hrec,hL,hI⟩:=hp;obtain ⟨qe,h1,h2⟩:=end_rel hrel h;obtain ⟨_,_,hid⟩:=end_took h;have hqr:=end_recs h1;refine ⟨fun x hx hx1=>?_,hid,by have:=h2.recs;have:=h2.c0;omega,h2.r4⟩;rw [h2.its] at hx;rcases List.mem_append.1 hx with hx|hx
  · exact hI x hx hx1
  · rcases end_one h1 hits with e|⟨y,e⟩
    · rw [e] at hx;cases hx
    · rw [e] at hx;obtain rfl:=List.mem_singleton.1 hx;refine ⟨L,q,qe,hL,hrun,hits,hrec,h1,e,?_⟩;obtain ⟨_,_,hidq⟩:=end_took h1;have c1:=end_cont h1;have c2:=run_cont _ _ _ hrun;have c3 : contP qe = rawsL qe.its:=by unfold contP;rw [hidq.2.1];simp [endL]
      have c4 : contP pst0 = []:=rfl;rw [c4,List.nil_append] at c2;rw [← c2,← c1,c3,e];simp [rawsL]
theorem take_par {p p1 : PSt} {l : Lne} (hp : Par p) (h : yL p l = .inr p1) (hn : (10 : UInt8) ∉ ls l.2.2.1) : Par p1:=by
  by_cases hk : yC (ls l.2.2.1) = 1
  · unfold yL at h;rw [hk] at h;cases e : yI p l 1 with
    | inl x=>rw [e] at h;cases h
    | inr pe =>
      rw [e] at h;have e' : endS p = .inr pe:=e;obtain ⟨hb,hid,h0,h4⟩:=end_par hp e';simp only at h;unfold lineS at h;split at h
      · cases h
      · rw [if_pos rfl] at h;cases h;refine ⟨_,_,[],pst0,rel_self (pe.its ++ [(1,l.2.2.1 ++ ⟨#[10]⟩,[])]) ⟨hid.1,hid.2.1,hid.2.2⟩ rfl h0 h4,rfl,rfl,rfl,(fun _ h=>by cases h),fun x hx hx1=>?_⟩;rcases List.mem_append.1 hx with hx|hx
        · exact hb x hx hx1
        · rw [List.mem_singleton.1 hx] at hx1;exact absurd rfl hx1
  · obtain ⟨I,c,L,q,hrel,hrun,hits,hrec,hL,hI⟩:=hp;obtain ⟨a,b,t⟩:=l;obtain ⟨q1,h1,h2⟩:=take_rel (a':=a) (b':=b) hrel h;refine ⟨I,c,L ++ [(a,b,t)],q1,h2,?_,(take_its h1 hk).trans hits,((take_recs h1).2 hk).trans hrec,fun x hx=>?_,hI⟩
    · rw [run_app _ _ _ _ hrun];simp only [runS,h1]
    · rcases List.mem_append.1 hx with hx|hx
      · exact hL x hx
      · rw [List.mem_singleton.1 hx];exact ⟨(take_took h).1,hn⟩
theorem run_par : ∀ (L : List Lne) (p q : PSt),Par p → runS p L = .inr q → (∀ l ∈ L,(10 : UInt8) ∉ ls l.2.2.1) → Par q
  | [],p,q,hp,h,_=>by cases h;exact hp
  | l :: r,p,q,hp,h,hn=>by
    simp only [runS] at h;cases e : yL p l with
    | inl x=>rw [e] at h;cases h
    | inr p1 =>
      rw [e] at h;exact run_par r p1 q (take_par hp e (hn l List.mem_cons_self)) h (fun x hx=>hn x (List.mem_cons_of_mem _ hx))
theorem parse_blks {s : ByteArray} {l : List Itm} (hp : yJ s = .inr l) : ∀ x ∈ l,x.1 ≠ 1 → Blk x:=by
  unfold yJ at hp;cases e : runS pst0 (yR s) with
  | inl x=>rw [e] at hp;cases hp
  | inr p =>
    rw [e] at hp;simp only at hp;cases e2 : endS p with
    | inl x=>rw [e2] at hp;cases hp
    | inr q =>
      rw [e2] at hp;cases hp;refine (end_par (run_par _ _ _ ⟨[],0,[],pst0,rel_0,rfl,rfl,rfl,(fun _ h=>by cases h),(fun _ h=>by cases h)⟩ e fun l hl=>?_) e2).1;have h1 : l.2.2 ∈ (yR s).map (·.2.2):=List.mem_map_of_mem hl;rw [lines_text] at h1;exact linesB_no _ _ _ h1
theorem raws_sz (l : List Itm) : (rawsL l).length = szI l:=by
  induction l with
  | nil=>rfl
  | cons x r ih =>
    unfold rawsL szI at *;simp only [List.flatMap_cons,List.length_append,List.map_cons,List.sum_cons,ih];rw [yF]
theorem filter_at {α : Type} (p : α → Bool) (d : α) : ∀ (l : List α) (j : Nat),j < l.length → p (l.getD j d) = true → ((l.take j).filter p).length < (l.filter p).length ∧ (l.filter p).getD ((l.take j).filter p).length d = l.getD j d
  | [],j,h,_=>by simp at h
  | x :: r,0,h,hp=>by
    have hp : p x = true:=by simpa using hp
    simp [hp]
  | x :: r,j + 1,h,hp=>by
    obtain ⟨h1,h2⟩:=filter_at p d r j (by simpa using h) (by simpa using hp);rw [List.take_succ_cons,List.filter_cons,List.filter_cons]
    by_cases hx : p x = true
    · simp only [hx,if_true,List.length_cons,List.getD_cons_succ];exact ⟨by omega,h2⟩
    · simp only [hx,List.getD_cons_succ];exact ⟨h1,h2⟩
def mix1 (l : List Itm) (k : Nat) : List Itm:=if k < l.length ∧ (l.getD k ((0 : Int),ByteArray.empty,([] : List Fld))).1 ≠ 1 then [l.getD k ((0 : Int),ByteArray.empty,([] : List Fld))] else []
def mixL (turn : Bool) (l m : List Itm) (i : Nat) : List Itm:=(List.range i).flatMap fun k=>mix1 l k ++ if turn then mix1 m k else []
abbrev Ent:=Itm × Int
abbrev rEnt : Rd Ent:=.st rItm (.int .i64)
abbrev Lst:=List Ent × Int × Int
abbrev rLst (k : Nat) : Rd Lst:=.st (.slk k rEnt) (.st (.int .i64) (.int .i64))
abbrev Stz:=Int × List Fld
abbrev rStz : Rd Stz:=.st (.int .i64) (.sl rFld)
def isRec (x : Itm) : Bool:=decide (x.1 = 3)
def cntR (l : List Itm) : Nat:=(l.filter isRec).length
def numI (n : Int) : List Itm → List Ent
  | []=>[]
  | x :: r=>match isRec x with
    | true=>(x,n) :: numI (n + 1) r
    | false=>(x,0) :: numI n r
theorem cntR_app (a b : List Itm) : cntR (a ++ b) = cntR a + cntR b:=by simp [cntR]
theorem numI_snoc : ∀ (l : List Itm) (n : Int) (x : Itm),numI n (l ++ [x]) = numI n l ++ [(x,if isRec x then n + cntR l else 0)]
  | [],n,x=>by
    cases h : isRec x <;> simp [numI,h,cntR]
  | y :: r,n,x=>by
    have ih:=fun m=>numI_snoc r m x
    cases h : isRec y with
    | true =>
      have e : n + 1 + (cntR r : Int) = n + (cntR (y :: r) : Int):=by simp [cntR,h];omega
      simp only [List.cons_append,numI,h,ih,e]
    | false =>
      have e : (cntR r : Int) = (cntR (y :: r) : Int):=by simp [cntR,h]
      simp only [List.cons_append,numI,h,ih,e]
theorem numI_len : ∀ (l : List Itm) (n : Int),(numI n l).length = l.length
  | [],_=>rfl
  | x :: r,n=>by
    unfold numI;split <;> simp [numI_len r]
theorem numI_items : ∀ (l : List Itm) (n : Int),(numI n l).map (·.1) = l
  | [],_=>rfl
  | x :: r,n=>by
    unfold numI;split <;> simp [numI_items r]
def ofT (l : List Itm) : Lst:=(numI 1 l,1 + (cntR l : Int),(cntR l : Int))
def hasId (id : Int) (e : Ent) : Bool:=decide (e.2 = id)
def atE (es : List Ent) (id : Int) : Int:=if id < 1 then -1 else ixOf (hasId id) es
theorem at_cases (es : List Ent) (id : Int) : (atE es id = -1 ∧ ∀ e ∈ es,0 < id → e.2 ≠ id) ∨ ∃ i : Nat,i < es.length ∧ atE es id = i ∧ 0 < id ∧ (es.getD i (((0 : Int),ByteArray.empty,([] : List Fld)),(0 : Int))).2 = id ∧ ∀ e ∈ es.take i,e.2 ≠ id:=by
  unfold atE
  by_cases h : id < 1
  · exact .inl ⟨if_pos h,fun e _ h0=>by omega⟩
  · rw [if_neg h];rcases ixOf_cases (hasId id) es (((0 : Int),ByteArray.empty,([] : List Fld)),(0 : Int)) with ⟨h1,h2⟩|⟨i,h1,h2,h3,h4⟩
    · refine .inl ⟨h1,fun e he _=>?_⟩;have:=List.any_eq_false.1 h2 e he
      simpa [hasId] using this
    · refine .inr ⟨i,h1,h2,by omega,by simpa [hasId] using h4,fun e he=>?_⟩;have:=List.any_eq_false.1 h3 e he
      simpa [hasId] using this
def replE (es : List Ent) (i : Nat) (x : Itm) : List Ent:=es.set i (x,(es.getD i (((0 : Int),ByteArray.empty,([] : List Fld)),(0 : Int))).2)
def delE (es : List Ent) (i : Nat) : List Ent:=es.take i ++ es.drop (i + 1)
def insE (es : List Ent) (i : Nat) (e : Ent) : List Ent:=es.take i ++ e :: es.drop i
def live (e : Ent) : Bool:=decide (0 < e.2)
def stzOf (e : Ent) : Stz:=(e.2,e.1.2.2)
def stzL (es : List Ent) : List Stz:=(es.filter live).map stzOf
def itmL (es : List Ent) : List Itm:=es.map (·.1)
def plcL (es : List Ent) (id : Int) : Int:=ixOf (hasId id) (es.filter live)
def qX (es : List Ent) : List (List Fld):=(stzL es).map (·.2)
def getL (es : List Ent) (id : Int) : List Fld:=(es.getD (atE es id).toNat (((0 : Int),ByteArray.empty,([] : List Fld)),(0 : Int))).1.2.2
def rawL (es : List Ent) (id : Int) : ByteArray:=(es.getD (atE es id).toNat (((0 : Int),ByteArray.empty,([] : List Fld)),(0 : Int))).1.2.1
def txtL (es : List Ent) : List UInt8:=rawsL (apartL (itmL es))
theorem cntR_at {l : List Itm} {i : Nat} (h : i < l.length) : cntR (l.take (i + 1)) = cntR (l.take i) + if isRec (l.getD i ((0 : Int),ByteArray.empty,([] : List Fld))) then 1 else 0:=by
  rw [← xA ((0 : Int),ByteArray.empty,([] : List Fld)) h,cntR_app]
  generalize l.getD i ((0 : Int),ByteArray.empty,([] : List Fld)) = x
  cases hk : isRec x
  · simp [cntR,hk]
  · simp [cntR,hk]
theorem numI_at {l : List Itm} {i : Nat} (h : i < l.length) : numI 1 (l.take (i + 1)) = numI 1 (l.take i) ++ [(l.getD i ((0 : Int),ByteArray.empty,([] : List Fld)),if isRec (l.getD i ((0 : Int),ByteArray.empty,([] : List Fld))) then 1 + (cntR (l.take i) : Int) else 0)]:=by
  rw [← xA ((0 : Int),ByteArray.empty,([] : List Fld)) h];exact numI_snoc (l.take i) 1 _
theorem cntR_le (l : List Itm) : cntR l ≤ l.length:=List.length_filter_le _ _
def lsO (l : Lst) : Obs:=[(0,.box 116 [.vec 1,.lit (.int .i64 l.2.1),.lit (.int .i64 l.2.2)]),(1,.vec 111 rEnt l.1)]
theorem lbox_eq {a b c d : Int} (h1 : a = c) (h2 : b = d) : some (Ob.box 116 [.vec 1,.lit (.int .i64 a),.lit (.int .i64 b)]) = some (Ob.box 116 [.vec 1,.lit (.int .i64 c),.lit (.int .i64 d)]):=by rw [h1,h2]
theorem of_ok (s : ByteArray) (hs : s.size ≤ 60000) {l : List Itm} (hp : yJ s = .inr l) : qR Tryz.prog 27 [is s] [] 0 (.tup [(false,[.own 0 0]),(false,[.lit .nilIface])]) (lsO (ofT l)) 2:=by
  have hpa:=parse_a s hs;rw [hp] at hpa;obtain ⟨hl1,hl2⟩:=items_flds hs hp;refine qP (rs:=[2,3]) Tryz.func27 rfl rfl rfl teOk (by decide) rfl ?_;refine qC ?_;refine qB ?_;refine qC ?_;refine qB ?_;refine Or.inl ?_;refine zai (rfl) ?_;refine zei _ (zai (hpa) ?_);refine qC ?_;refine qC ?_;refine qB ?_;refine qK rfl (fun h16=>?_) (fun h16=>?_)
  ·try simp only [Bool.not_eq_true'] at h16
   try simp only [zds] at h16
   cases h16
  ·try simp only [Bool.not_eq_false'] at h16
   try simp only [zds] at h16
   refine qM ?_;refine qC ?_;refine qB ?_;refine qC ?_;refine qC ?_;refine yD 0 0 111 rEnt rfl rfl rfl ?_;refine qB ?_;intro l5_1
   try simp only [zds] at l5_1
   refine qN ?_;refine yP (fun (i : Nat)=>i ≤ l.length) (fun (i : Nat)=>[(0,is s),(6,.one (.own 0 0)),(20,.one (.sl rItm l)),(21,ii .i64 l.length),(22,ii .i64 i)]) (fun (i : Nat)=>[(0,.box 116 [.vec 1,.lit (.int .i64 (1 + (cntR (l.take i) : Int))),.lit (.int .i64 (cntR (l.take i)))]),(1,.vec 111 rEnt (numI 1 (l.take i)))]) 2 (fun (i : Nat)=>l.length - i) 0 (Nat.zero_le _) (qV ⟨rfl,rfl,rfl,rfl,rfl⟩ ⟨rfl,rfl⟩ rfl) ?_;intro i hI0;refine qC ?_;refine qB ?_;refine qC ?_;refine qK rfl (fun h23=>?_) (fun h23=>?_)
   ·try simp only [decide_eq_true_eq] at h23
    try simp only [zds] at h23
    have hil : i < l.length:=(by omega);have hsn:=numI_at hil;have hcn:=cntR_at hil;have hcl:=cntR_le (l.take i);rw [List.length_take] at hcl;refine qM ?_;refine qC ?_;refine qN ?_;refine qC ?_;refine qB ?_;refine zai (by first|omega|assumption|decide|(simp only [zds];omega)|(simp <;> omega)) ?_;refine qC ?_;refine qB ?_;refine qC ?_;refine qC ?_;refine qB ?_;refine qK rfl (fun h30=>?_) (fun h30=>?_)
    ·try simp only [decide_eq_true_eq] at h30
     try simp only [Int.toNat_natCast,qH,qG,qE,qF] at h30
     have hk : isRec (l.getD i ((0 : Int),ByteArray.empty,([] : List Fld))) = true:=decide_eq_true h30;rw [hk,if_pos rfl] at hsn hcn;refine qC ?_;refine qB ?_;refine qC ?_;refine qB ?_;refine zai (by first|omega|assumption|decide|(simp only [zds];omega)|(simp <;> omega)) ?_;refine qB ?_;refine zai (by first|omega|assumption|decide|(simp only [zds];omega)|(simp <;> omega)) ?_;refine xB rfl ?_;refine qJ 0 rfl rfl rfl (by kernel_rfl) ?_;refine qJ 1 rfl rfl rfl (by kernel_rfl) ?_;refine qJ 2 rfl rfl rfl (by kernel_rfl) ?_;refine qJ 3 rfl rfl rfl (by kernel_rfl) ?_;refine qI [4,5] (by kernel_rfl) rfl ?_;refine zai ?_ ?_
     ·refine qI [5] (by kernel_rfl) rfl ?_;refine qI [6] (by kernel_rfl) rfl ?_;refine qI [7] (by kernel_rfl) rfl ?_;refine zai (by exact qQ (show (numI 1 (l.take i)).length + 1 ≤ 1000000000 by rw [numI_len,List.length_take];omega) (by decide)) ?_;refine qJ 8 rfl rfl rfl (by kernel_rfl) ?_;refine qJ 9 rfl rfl rfl (by kernel_rfl) ?_;refine qI [10] (by kernel_rfl) rfl ?_;refine qO (by kernel_rfl) ?_;refine qB ?_;refine zai (by first|omega|assumption|decide|(simp only [zds];omega)|(simp <;> omega)) ?_;exact ⟨i + 1,by omega,by first|omega|(simp <;> omega),qV ⟨rfl,rfl,rfl,rfl,rfl⟩ ⟨(lbox_eq (by omega) (by omega)),(yN (by rw [hsn];exact rfl))⟩ rfl⟩
     ·refine qI [4,6] (by kernel_rfl) rfl ?_;refine zai ?_ ?_
      ·refine qI [6] (by kernel_rfl) rfl ?_;refine qI [7] (by kernel_rfl) rfl ?_;refine zai (by exact qQ (show (numI 1 (l.take i)).length + 1 ≤ 1000000000 by rw [numI_len,List.length_take];omega) (by decide)) ?_;refine qJ 8 rfl rfl rfl (by kernel_rfl) ?_;refine qJ 9 rfl rfl rfl (by kernel_rfl) ?_;refine qI [10] (by kernel_rfl) rfl ?_;refine qO (by kernel_rfl) ?_;refine qB ?_;refine zai (by first|omega|assumption|decide|(simp only [zds];omega)|(simp <;> omega)) ?_;exact ⟨i + 1,by omega,by first|omega|(simp <;> omega),qV ⟨rfl,rfl,rfl,rfl,rfl⟩ ⟨(lbox_eq (by omega) (by omega)),(yN (by rw [hsn];exact rfl))⟩ rfl⟩
      ·refine qI [4] (by kernel_rfl) rfl ?_;refine qI [7] (by kernel_rfl) rfl ?_;refine zai (by exact qQ (show (numI 1 (l.take i)).length + 1 ≤ 1000000000 by rw [numI_len,List.length_take];omega) (by decide)) ?_;refine qJ 8 rfl rfl rfl (by kernel_rfl) ?_;refine qJ 9 rfl rfl rfl (by kernel_rfl) ?_;refine qI [10] (by kernel_rfl) rfl ?_;refine qO (by kernel_rfl) ?_;refine qB ?_;refine zai (by first|omega|assumption|decide|(simp only [zds];omega)|(simp <;> omega)) ?_;exact ⟨i + 1,by omega,by first|omega|(simp <;> omega),qV ⟨rfl,rfl,rfl,rfl,rfl⟩ ⟨(lbox_eq (by omega) (by omega)),(yN (by rw [hsn];exact rfl))⟩ rfl⟩
    ·try simp only [decide_eq_false_iff_not] at h30
     try simp only [Int.toNat_natCast,qH,qG,qE,qF] at h30
     have hk : isRec (l.getD i ((0 : Int),ByteArray.empty,([] : List Fld))) = false:=decide_eq_false h30;rw [hk,if_neg Bool.false_ne_true] at hsn hcn;refine qM ?_;refine xB rfl ?_;refine qJ 0 rfl rfl rfl (by kernel_rfl) ?_;refine qJ 1 rfl rfl rfl (by kernel_rfl) ?_;refine qJ 2 rfl rfl rfl (by kernel_rfl) ?_;refine qJ 3 rfl rfl rfl (by kernel_rfl) ?_;refine qI [4,5] (by kernel_rfl) rfl ?_;refine zai ?_ ?_
     ·refine qI [5] (by kernel_rfl) rfl ?_;refine qI [6] (by kernel_rfl) rfl ?_;refine qI [7] (by kernel_rfl) rfl ?_;refine zai (by exact qQ (show (numI 1 (l.take i)).length + 1 ≤ 1000000000 by rw [numI_len,List.length_take];omega) (by decide)) ?_;refine qJ 8 rfl rfl rfl (by kernel_rfl) ?_;refine qJ 9 rfl rfl rfl (by kernel_rfl) ?_;refine qI [10] (by kernel_rfl) rfl ?_;refine qO (by kernel_rfl) ?_;refine qB ?_;refine zai (by first|omega|assumption|decide|(simp only [zds];omega)|(simp <;> omega)) ?_;exact ⟨i + 1,by omega,by first|omega|(simp <;> omega),qV ⟨rfl,rfl,rfl,rfl,rfl⟩ ⟨(lbox_eq (by omega) (by omega)),(yN (by rw [hsn];exact rfl))⟩ rfl⟩
     ·refine qI [4,6] (by kernel_rfl) rfl ?_;refine zai ?_ ?_
      ·refine qI [6] (by kernel_rfl) rfl ?_;refine qI [7] (by kernel_rfl) rfl ?_;refine zai (by exact qQ (show (numI 1 (l.take i)).length + 1 ≤ 1000000000 by rw [numI_len,List.length_take];omega) (by decide)) ?_;refine qJ 8 rfl rfl rfl (by kernel_rfl) ?_;refine qJ 9 rfl rfl rfl (by kernel_rfl) ?_;refine qI [10] (by kernel_rfl) rfl ?_;refine qO (by kernel_rfl) ?_;refine qB ?_;refine zai (by first|omega|assumption|decide|(simp only [zds];omega)|(simp <;> omega)) ?_;exact ⟨i + 1,by omega,by first|omega|(simp <;> omega),qV ⟨rfl,rfl,rfl,rfl,rfl⟩ ⟨(lbox_eq (by omega) (by omega)),(yN (by rw [hsn];exact rfl))⟩ rfl⟩
      ·refine qI [4] (by kernel_rfl) rfl ?_;refine qI [7] (by kernel_rfl) rfl ?_;refine zai (by exact qQ (show (numI 1 (l.take i)).length + 1 ≤ 1000000000 by rw [numI_len,List.length_take];omega) (by decide)) ?_;refine qJ 8 rfl rfl rfl (by kernel_rfl) ?_;refine qJ 9 rfl rfl rfl (by kernel_rfl) ?_;refine qI [10] (by kernel_rfl) rfl ?_;refine qO (by kernel_rfl) ?_;refine qB ?_;refine zai (by first|omega|assumption|decide|(simp only [zds];omega)|(simp <;> omega)) ?_;exact ⟨i + 1,by omega,by first|omega|(simp <;> omega),qV ⟨rfl,rfl,rfl,rfl,rfl⟩ ⟨(lbox_eq (by omega) (by omega)),(yN (by rw [hsn];exact rfl))⟩ rfl⟩
   ·try simp only [decide_eq_false_iff_not,Int.not_lt] at h23
    try simp only [zds] at h23
    refine xI ?_;refine qC ?_;refine qB ?_;refine qL ?_;rw [List.take_of_length_le (by omega)];exact ⟨rfl,⟨rfl,rfl⟩,rfl⟩
theorem of_err (s : ByteArray) (hs : s.size ≤ 60000) {at_ n : Int} (hp : yJ s = .inl (at_,n)) : qU Tryz.prog 27 [is s] (.tup [(false,[.lit (.pointer none)]),(false,[errF at_ n])]):=by
  have hpa:=parse_a s hs;rw [hp] at hpa;refine qT (rs:=[2,3]) Tryz.func27 rfl rfl rfl teOk rfl ?_;refine qC ?_;refine qB ?_;refine qC ?_;refine qB ?_;refine Or.inl ?_;refine zai (rfl) ?_;refine zei _ (zai (hpa) ?_);refine qC ?_;refine qC ?_;refine qB ?_;refine qK rfl (fun h16=>?_) (fun h16=>?_)
  ·skip
   refine qC ?_;refine qB ?_;refine qL ?_;rfl
  ·try simp only [zbq] at h16
   try simp only [zds] at h16
   cases h16
end Q
end Ab
end Go.Proofs.YtpfkncffaanjcaaGreatDoor
namespace Go.Proofs.YtpfkncffaanjcaaGreatDoor
open Go.RowKit
namespace Ab
set_option maxRecDepth 100000
set_option maxHeartbeats 2000000
namespace Q
abbrev z4 : List Value:=[.int .i64 0,.string ⟨#[]⟩,.slice none 0 0,.int .i64 0]
theorem step_append_runI {P : Program} {ops : Array Oper} {o : Oper} {a : Act} {w : World} {K : Act → World → Prop} {Q : Exit → Act → World → Prop} {E : Prop}
    (hg : o.guard = none) (d x : Operand) (dT sT : TypeId) (hop : o.op = Op.call { callee:=Callee.builtin Builtin.append,args:=#[d,x],argTypes:=#[dT,sT] })
    (v u : Value) (hd : a.eval d = v) (hx : a.eval x = u) {v' : Value} {w' : World} (hr : (Builtin.append_ #[dT,sT] o.type #[v,u]).run P w = .ok v' w') (hK : K (a.put o.dst v') w') :
    if Region.wanted o (yielded ops a.tmps) = true then Oper.wp P o a w K Q else E:=by
  have hw : Region.wanted o (yielded ops a.tmps) = true:=by simp [Region.wanted,hg]
  rw [if_pos hw];unfold Oper.wp;simp [execOp,hop,resolve,invoke,builtin,hd,hx,hr,Result.andThen];exact hK
theorem wpList_clear_runI {P : Program} (w : World) {ops : Array Oper} {rest : List Oper} {o : Oper} {a : Act} {Q : Exit → Act → World → Prop} (hgd : o.guard = none) (d : Operand) (t : TypeId)
    (ho : o.op = .call { callee:=.builtin .clear,args:=#[d],argTypes:=#[t] }) (v : Value) (hd : a.eval d = v) {v' : Value} {w' : World}
    (hr : (Builtin.clear_ #[t] o.type #[v]).run P w = .ok v' w') (h : wpList P ops Q rest (a.put o.dst v') w') : wpList P ops Q (o :: rest) a w :=
  wpList_plain hgd fun K hK=>by
    unfold Oper.wp execOp;simp only [ho,resolve,invoke,builtin,Sem.run_bind,Sem.run_pure,Result.andThen_ok,List.map_toArray,List.map_cons,List.map_nil,hd,hr];exact hK _ _ h
theorem zs_len {P : Program} {t : TypeId} {i : TyI} (h : TyOk P t i) (n : Nat) : (Builtin.zeroCells i.zeroV.cells n).toList.length = n * i.size:=by
  rw [Array.length_toList,size_zeroCells,h.zeroCells,List.size_toArray,h.zlen]
theorem zs_one {P : Program} {t : TypeId} {i : TyI} (h : TyOk P t i) (n : Nat) : ∀ v ∈ (Builtin.zeroCells i.zeroV.cells n).toList,v.oneCell' = true:=by
  intro v hv;unfold Builtin.zeroCells at hv;rw [h.zeroCells] at hv;simp only [Array.toList_map,Array.toList_range,List.mem_map,List.mem_range,List.size_toArray] at hv;obtain ⟨k,hk,rfl⟩:=hv;have hlt : k % i.zero.length < i.zero.length:=Nat.mod_lt _ (by
    rcases Nat.eq_zero_or_pos i.zero.length with h0|h0
    · rw [h0,Nat.mul_zero] at hk;omega
    · exact h0)
  have e : (i.zero.toArray)[k % i.zero.length]! = i.zero[k % i.zero.length]:=by simp [hlt]
  rw [e];exact plain_one (h.zplain _ (List.getElem_mem hlt))
theorem run_clear_row {P : Program} {t e ty : TypeId} {ei : TyI} (ht : P.underlying t = some (.slice e)) (he : TyOk P e ei) (w : World) (b o n c : Nat) {cur : Array Value} {T : TypeId} (hb : w.heap[b]? = some (.cells cur T (0,0))) (hn : 0 < n) (hfit : o + n * ei.size ≤ cur.size) :
    (Builtin.clear_ #[t] ty #[.slice (some ⟨b,o,none⟩) n c]).run P w = .ok (.tuple #[]) (w.setRow b (cur.toList.take o ++ (Builtin.zeroCells ei.zeroV.cells n).toList ++ cur.toList.drop (o + n * ei.size)).toArray):=by
  have hst:=run_storeCells_at P b o T (Builtin.zeroCells ei.zeroV.cells n).toList 0 cur w hb (by rw [zs_len he];omega) (zs_one he n);simp only [Nat.add_zero,zs_len he] at hst;obtain ⟨m,rfl⟩ : ∃ m,n = m + 1:=⟨n - 1,by omega⟩;simp [Builtin.clear_,run_underlying ht,he.zeroValue,hst]
theorem tyEnt : TyOk Tryz.prog 111 ty111:=tyOk111
theorem del_w (b cap n i j : Nat) (cur : Array Value) (w : World) (hb : w.heap[b]? = some (.cells cur 111 (0,0))) (hcs : cur.size = cap * 4) (hnc : n ≤ cap) (_hcm : cap ≤ maxLen) (hij : i < j) (hj : j ≤ n) (h1 : ∀ v ∈ cur.toList.take (n * 4),v.oneCell' = true) :
    Calls Tryz.prog 119 #[.slice (some ⟨b,0,none⟩) n cap,.int .i64 i,.int .i64 j] w fun e w'=>e = .returned (.slice (some ⟨b,0,none⟩) (n - (j - i)) cap) ∧ ∃ cur',Grew w w' (some b) ∧ w'.heap[b]? = some (.cells cur' 111 (0,0)) ∧ cur'.size = cap * 4 ∧ cur'.toList.take ((n - (j - i)) * 4) = cur.toList.take (i * 4) ++ (cur.toList.drop (j * 4)).take ((n - j) * 4):=by
  have mixed : Tryz.prog.follows .mixedOrders = true:=by kernel_rfl
  have hic : i ≤ cap:=by omega
  have hjc : j ≤ cap:=by omega
  obtain ⟨news,hnews⟩ : ∃ news,(cur.toList.drop (j * 4)).take ((n - j) * 4) = news:=⟨_,rfl⟩;have hlen : news.length = (n - j) * 4:=by
    rw [← hnews,List.length_take,List.length_drop,Array.length_toList,hcs];have : (n - j) * 4 ≤ cap * 4 - j * 4:=by omega
    omega
  obtain ⟨i0,hi0,hz0,hz1,hz2⟩:=tyEnt.info;obtain ⟨A,hA,hsrc⟩ : ∃ A : Addr,(if cap = j then (some ⟨b,0,none⟩ : Option Addr) else some ⟨b,j * 4,none⟩) = some A ∧ (∀ t u,news[t]? = some u → w.drew.cell? (A.add t) = some u):=by
    by_cases h : cap = j
    · refine ⟨_,if_pos h,fun t u hu=>?_⟩;have h0 : news.length = 0:=by rw [hlen];omega
      rw [List.length_eq_zero_iff.1 h0] at hu;simp at hu
    · refine ⟨_,if_neg h,fun t u hu=>?_⟩;have ht:=(List.getElem?_eq_some_iff.1 hu).1;rw [← hnews,List.getElem?_take_of_lt (by omega),List.getElem?_drop] at hu;rw [Go.WideShapes.add_plain];show w.cell? _ = _;simp only [World.cell?,hb,Option.isSome_none,Bool.false_eq_true,if_false];rw [← hu];simp
  have hone : ∀ u ∈ news,u.oneCell' = true:=by
    intro u hu;rw [← hnews,show (n - j) * 4 = n * 4 - j * 4 by omega,← List.drop_take] at hu;exact h1 u (List.mem_of_mem_drop hu)
  obtain ⟨cur1,hcur1⟩ : ∃ c : Array Value,(cur.toList.take (i * 4) ++ news ++ cur.toList.drop (i * 4 + news.length)).toArray = c:=⟨_,rfl⟩;have hsz1 : cur1.size = cap * 4:=by
    rw [← hcur1];simp only [List.size_toArray,List.length_append,List.length_take,List.length_drop,Array.length_toList,hcs,hlen];omega
  obtain ⟨W1,hW1⟩ : ∃ W1,w.drew.setRow b cur1 = W1:=⟨_,rfl⟩;have hap : ∀ ty,(Builtin.append_ #[114,114] ty #[.slice (some ⟨b,0,none⟩) i cap,.slice (some A) (n - j) (cap - j)]).run Tryz.prog w.drew = .ok (.slice (some ⟨b,0,none⟩) (i + (n - j)) cap) W1:=by
    intro ty;have:=run_append_room (P:=Tryz.prog) w.drew 114 ty 111 i0 Tryz.underlying114 hi0 b i cap cur hb A (n - j) (cap - j) news (by rw [hlen,hz0];rfl) hsrc hone (by omega) (by rw [hz0,hlen,hcs];show i * 4 + _ ≤ _;omega);rw [show i0.size = 4 from hz0,hcur1,hW1] at this;exact this
  have hb1 : W1.heap[b]? = some (.cells cur1 111 (0,0)):=by rw [← hW1];exact setRow_heap w.drew b cur cur1 _ _ hb
  have hk : i + (n - j) < n:=by omega
  have hkc : ¬ cap = i + (n - j):=by omega
  obtain ⟨W2,cur2,hW2,hcl⟩ : ∃ W2 cur2,W2 = W1.setRow b cur2 ∧ cur2.size = cap * 4 ∧ cur2.toList.take ((i + (n - j)) * 4) = cur1.toList.take ((i + (n - j)) * 4) ∧ ∀ ty,(Builtin.clear_ #[114] ty #[.slice (some ⟨b,(i + (n - j)) * 4,none⟩) (n - (i + (n - j))) (cap - (i + (n - j)))]).run Tryz.prog W1 = .ok (.tuple #[]) W2:=by
    have hz:=zs_len tyEnt (n - (i + (n - j)));have hz4 : ty111.size = 4:=rfl;rw [hz4] at hz;refine ⟨_,_,rfl,?_,?_,fun ty=>run_clear_row Tryz.underlying114 tyEnt W1 b _ _ _ hb1 (by omega) (by rw [hsz1,hz4];omega)⟩
    · simp only [List.size_toArray,List.length_append,List.length_take,List.length_drop,Array.length_toList,hsz1,hz,hz4];omega
    · rw [List.append_assoc,List.take_append_of_le_length (by rw [List.length_take,Array.length_toList,hsz1];omega),List.take_take,Nat.min_self]
  obtain ⟨hsz2,htk,hcl⟩:=hcl;have fin : W2.heap[b]? = some (.cells cur2 111 (0,0)) ∧ Grew w W2 (some b):=by
    rw [hW2];exact ⟨setRow_heap W1 b cur1 cur2 _ _ hb1,by rw [← hW1,setRow_setRow];exact ⟨rfl,rfl,rfl,by simp,fun k hk hne=>setRow_other w.drew b k _ (fun e=>hne (by rw [e]))⟩⟩
  have hres : cur2.toList.take ((i + (n - j)) * 4) = cur.toList.take (i * 4) ++ news:=by
    rw [htk,← hcur1,List.take_append_of_le_length (by simp only [List.length_append,List.length_take,Array.length_toList,hcs,hlen];omega),List.take_of_length_le (by simp only [List.length_append,List.length_take,Array.length_toList,hcs,hlen];omega)]
  have hnn : n - (j - i) = i + (n - j):=by omega
  rw [hnn];rw [← hnews] at hres;clear hW2 hW1 htk hcur1 hb hb1 hsrc hone hlen hnews h1
  go_enter Tryz.func119,Tryz.ntmps119
  go_wp2
  go_region_law_o (refine step_append_runI rfl (.tmp 22) (.tmp 25) 114 114 rfl (.slice (some ⟨b,0,none⟩) i cap) (.slice (some A) (n - j) (cap - j)) (by simp [Act.eval,Act.put]) (by simp [Act.eval,Act.put]) (hap _) ?_)
  go_wp2_with (at_builtin;refine wpList_clear_runI _ rfl _ _ rfl _ rfl (hcl _) ?_)
  go_ret
  exact ⟨rfl,cur2,fin.2,fin.1,hsz2,hres⟩
end Q
end Ab
end Go.Proofs.YtpfkncffaanjcaaGreatDoor
namespace Go.Proofs.YtpfkncffaanjcaaGreatDoor
open Go.RowKit
namespace Ab
set_option maxRecDepth 100000
set_option maxHeartbeats 4000000
namespace Q
theorem run_copy_k {P : Program} (w : World) (dT sT ty elem : TypeId) {ei : TyI} (hu : P.underlying dT = some (.slice elem)) (he : TyOk P elem ei) (g o dLen dCap : Nat) (a : Addr) (sLen sCap n : Nat) (cur : Array Value) (t : TypeId) (cs : List Value)
    (hg : w.heap[g]? = some (.cells cur t (0,0))) (hm : Nat.min sLen dLen = n) (hn : cs.length = n * ei.size) (hsrc : ∀ j v,cs[j]? = some v → w.cell? (a.add j) = some v) (hfit : o + cs.length ≤ cur.size) (h1 : ∀ v ∈ cs,v.oneCell' = true) :
    (Builtin.copy_ #[dT,sT] ty #[.slice (some ⟨g,o,none⟩) dLen dCap,.slice (some a) sLen sCap]).run P w = .ok (goInt n) (w.setRow g (cur.toList.take o ++ cs ++ cur.toList.drop (o + cs.length)).toArray):=by
  have hl:=run_loadCells_list (P:=P) w a cs hsrc;have hst:=run_storeCells_at P g o t cs 0 cur w hg (by simpa using hfit) h1;simp only [Nat.add_zero] at hst;simp [Builtin.copy_,run_underlying hu,Builtin.lenOf,Builtin.firstCells,he.sizeOf,hm,← hn,hl,hst]
def RowTo (w w' : World) (v u : Value) (n : Nat) (cs : List Value) : Prop :=
  w'.ownsRow 0 111 4 u n cs ∧ Grew w w' (blk (some v)) ∧ (∀ b,blk (some u) = some b → blk (some v) = some b ∨ (w.heap.size ≤ b ∧ b < w'.heap.size)) ∧ ∃ a n c,u = .slice a n c
theorem rowCells {w : World} {b n cap : Nat} {cs : List Value} (h : w.ownsRow 0 111 4 (.slice (some ⟨b,0,none⟩) n cap) n cs) : ∃ cur,w.heap[b]? = some (.cells cur 111 (0,0)) ∧ n ≤ cap ∧ cap ≤ maxLen ∧ cur.size = cap * 4 ∧ cur.toList.take (n * 4) = cs ∧ cs.length = n * 4:=by
  rcases h.2 with ⟨h0,_⟩|⟨g,c,cur,hsl,_,hg,hnc,hcm,hcs,htake⟩
  · cases h0
  · injection hsl with e1 e2 e3
    injection e1 with e1
    injection e1 with e1 _ _
    subst e1 e3;exact ⟨cur,hg,hnc,hcm,hcs,htake,h.1⟩
theorem ins_end (n : Nat) (v : Value) (cs ns : List Value) (vb vc : Nat) (w : World) (hown : w.ownsRow 0 111 4 v n cs) (hown2 : w.ownsRow 0 111 4 (.slice (some ⟨vb,0,none⟩) 1 vc) 1 ns) (h1 : ∀ u ∈ ns,u.oneCell' = true) (hn : n ≤ 1000000) :
    Calls Tryz.prog 120 #[v,.int .i64 n,.slice (some ⟨vb,0,none⟩) 1 vc] w fun e w'=>∃ u,e = .returned u ∧ RowTo w w' v u (n + 1) (cs ++ ns):=by
  obtain ⟨v',w',hr,h2,h3,h4,h5⟩:=Ab.run_app (P:=Tryz.prog) (w:=w) (ty:=114) Tryz.underlying114 tyEnt (by decide) hown (ad:=⟨vb,0,none⟩) (m:=1) (c:=vc) (news:=ns) hown2.1 (fun j u hj=>hown2.cells (g:=vb) rfl j u hj) h1 Nat.one_pos (by unfold maxLen;omega) (qQ (show n + 1 ≤ 1000000000 by omega) (show ty111.bytes ≤ 1000 by decide));have mixed : Tryz.prog.follows .mixedOrders = true:=by kernel_rfl
  have fin : RowTo w w' v v' (n + 1) (cs ++ ns):=⟨h2,h3,h4,h5⟩;obtain ⟨va,vn,vcap,hv,hvn⟩ : ∃ a m c,v = .slice a m c ∧ m = n:=by
    rcases hown.2 with ⟨h0,hz⟩|⟨g,c,cur,hsl,_⟩
    · exact ⟨_,_,_,h0,hz.symm⟩
    · exact ⟨_,_,_,hsl,rfl⟩
  subst hvn;subst hv;have hcap : vn ≤ vcap:=by
    rcases hown.2 with ⟨h0,hz⟩|⟨g,c,cur,hsl,_,_,hnc,_⟩
    · omega
    · injection hsl with _ _ e3;omega
  clear hown hown2 h1 h2 h3 h4 h5
  by_cases hq : vcap = vn
  · subst hq
    go_enter Tryz.func120,Tryz.ntmps120
    go_wp2_with (at_builtin;refine Lib.wpList_append_run _ rfl _ _ _ _ rfl _ _ rfl rfl _ _ hr ?_)
    go_ret
    exact ⟨_,rfl,fin⟩
  · go_enter Tryz.func120,Tryz.ntmps120
    go_wp2_with (at_builtin;refine Lib.wpList_append_run _ rfl _ _ _ _ rfl _ _ rfl rfl _ _ hr ?_)
    go_ret
    exact ⟨_,rfl,fin⟩
theorem take4 {α : Type} (l : List α) (a b : Nat) (h : a ≤ b) : (l.take b).take a = l.take a:=by rw [List.take_take,Nat.min_eq_left h]
theorem ins_shift (n i : Nat) (b cap : Nat) (cs ns : List Value) (vb vc : Nat) (w : World) (hi : i < n) (hroom : n + 1 ≤ cap) (hown : w.ownsRow 0 111 4 (.slice (some ⟨b,0,none⟩) n cap) n cs) (hown2 : w.ownsRow 0 111 4 (.slice (some ⟨vb,0,none⟩) 1 vc) 1 ns) (hne : vb ≠ b) (h1 : ∀ u ∈ ns,u.oneCell' = true) (h1c : ∀ u ∈ cs,u.oneCell' = true) :
    Calls Tryz.prog 120 #[.slice (some ⟨b,0,none⟩) n cap,.int .i64 i,.slice (some ⟨vb,0,none⟩) 1 vc] w fun e w'=>∃ u,e = .returned u ∧ RowTo w w' (.slice (some ⟨b,0,none⟩) n cap) u (n + 1) (cs.take (i * 4) ++ ns ++ cs.drop (i * 4)):=by
  obtain ⟨cur,hb,hnc,hcm,hcz,htk,hcl⟩:=rowCells hown;obtain ⟨cur2,hvb,hvc,_,hcz2,htk2,hnl⟩:=rowCells hown2;have hz4 : ty111.size = 4:=rfl;have hdl : (cs.drop (i * 4)).length = (n - i) * 4:=by rw [List.length_drop,hcl];omega
  have hov : ∀ lb cb,(callFunc 148 #[.slice (some ⟨vb,0,none⟩) 1 vc,.slice (some ⟨b,(i + 1) * 4,none⟩) lb cb]).run Tryz.prog w = .ok (.value (.bool false)) w:=fun lb cb=>by
    rw [run_callFunc_extern Tryz.func148 (by kernel_rfl) (by kernel_rfl) (by kernel_rfl) (e:=Extern.SlicesOverlaps.overlaps #[114,114] #[4]) (by kernel_rfl),
      Lib.run_overlaps_apart w 114 4 111 Tryz.underlying114 4 (fun w=>tyEnt.sizeOf w) ⟨vb,0,none⟩ ⟨b,(i + 1) * 4,none⟩ 1 vc lb cb hne 111 111 cur2.size cur.size (by simp [World.shape?,hvb]) (by simp [World.shape?,hb]) (by omega) (by simp [World.frozen?,hvb]) (by simp [World.frozen?,hvb])]
    rfl
  obtain ⟨cur1,hcur1⟩ : ∃ c : Array Value,(cur.toList.take ((i + 1) * 4) ++ cs.drop (i * 4) ++ cur.toList.drop ((i + 1) * 4 + (cs.drop (i * 4)).length)).toArray = c:=⟨_,rfl⟩;have hsz1 : cur1.size = cap * 4:=by
    rw [← hcur1];simp only [List.size_toArray,List.length_append,List.length_take,hdl,List.length_drop (l:=cur.toList),Array.length_toList,hcz];omega
  have hcsrc : ∀ j v,(cs.drop (i * 4))[j]? = some v → w.cell? ⟨b,i * 4 + j,none⟩ = some v:=by
    intro j v hj;have hlt:=(List.getElem?_eq_some_iff.1 hj).1;rw [List.getElem?_drop,← htk,List.getElem?_take_of_lt (by omega)] at hj;simp only [World.cell?,hb,Option.isSome_none,Bool.false_eq_true,if_false];rw [← hj];simp
  have hcp1 : ∀ ty dc sc,(Builtin.copy_ #[114,114] ty #[.slice (some ⟨b,(i + 1) * 4,none⟩) (n - i) dc,.slice (some ⟨b,i * 4,none⟩) (n + 1 - i) sc]).run Tryz.prog w.drew = .ok (goInt ((n - i : Nat) : Int)) (w.drew.setRow b cur1):=fun ty dc sc=>by
    rw [← hcur1];exact run_copy_k w.drew _ _ ty 111 Tryz.underlying114 tyEnt b ((i + 1) * 4) (n - i) dc ⟨b,i * 4,none⟩ (n + 1 - i) sc (n - i) cur _ (cs.drop (i * 4)) hb (by simp only [Nat.min_def];split <;> omega) (by rw [hdl,hz4]) (fun j v hj=>by rw [Go.WideShapes.add_plain];exact hcsrc j v hj) (by rw [hdl,hcz];omega) (fun v hv=>h1c v (List.mem_of_mem_drop hv))
  obtain ⟨W1,hW1⟩ : ∃ W1,w.drew.setRow b cur1 = W1:=⟨_,rfl⟩;rw [hW1] at hcp1;have hb1 : W1.heap[b]? = some (.cells cur1 111 (0,0)):=by rw [← hW1];exact setRow_heap w.drew b cur cur1 _ _ hb
  have hvb1 : W1.heap[vb]? = w.heap[vb]?:=by rw [← hW1];exact setRow_other w.drew b vb _ hne
  obtain ⟨curn,hcurn⟩ : ∃ c : Array Value,(cur1.toList.take (i * 4) ++ ns ++ cur1.toList.drop (i * 4 + ns.length)).toArray = c:=⟨_,rfl⟩;have hszn : curn.size = cap * 4:=by
    rw [← hcurn];simp only [List.size_toArray,List.length_append,List.length_take,hnl,List.length_drop,Array.length_toList,hsz1];omega
  have hcp2 : ∀ (W : World),(∀ k : Nat,W.heap[k]? = W1.heap[k]?) → ∀ ty dc,(Builtin.copy_ #[114,114] ty #[.slice (some ⟨b,i * 4,none⟩) (n + 1 - i) dc,.slice (some ⟨vb,0,none⟩) 1 vc]).run Tryz.prog W = .ok (goInt 1) (W.setRow b curn):=fun W hW ty dc=>by
    rw [← hcurn];exact run_copy_k W _ _ ty 111 Tryz.underlying114 tyEnt b (i * 4) (n + 1 - i) dc ⟨vb,0,none⟩ 1 vc 1 cur1 _ ns (by rw [hW];exact hb1) (by simp only [Nat.min_def];split <;> omega) (by rw [hnl,hz4]) (fun j v hj=>by
      rw [Go.WideShapes.add_plain];have h0:=hown2.cells (g:=vb) rfl j v hj;rw [Go.WideShapes.add_plain] at h0;rw [← h0];simp only [World.cell?,hW,hvb1]) (by rw [hnl,hsz1];omega) h1
  have hrow : curn.toList.take ((n + 1) * 4) = cs.take (i * 4) ++ ns ++ cs.drop (i * 4):=by
    rw [← hcurn];have e1 : cur1.toList.take (i * 4) = cs.take (i * 4):=by
      rw [← hcur1,List.append_assoc,List.take_append_of_le_length (by simp only [List.length_take,Array.length_toList,hcz];omega),take4 _ _ _ (by omega),← htk,take4 _ _ _ (by omega)]
    have e2 : cur1.toList.drop (i * 4 + ns.length) = cs.drop (i * 4) ++ cur.toList.drop ((i + 1) * 4 + (cs.drop (i * 4)).length):=by
      rw [← hcur1,hnl,List.append_assoc,show i * 4 + 1 * 4 = (cur.toList.take ((i + 1) * 4)).length by simp only [List.length_take,Array.length_toList,hcz];omega,List.drop_left]
    rw [e1,e2,← List.append_assoc,List.take_append_of_le_length (by simp only [List.length_append,List.length_take,hcl,hnl,hdl];omega),List.take_of_length_le (by simp only [List.length_append,List.length_take,hcl,hnl,hdl];omega)]
  have fin : ∀ W : World,(∀ k : Nat,W.heap[k]? = W1.heap[k]?) → W.heap.size = W1.heap.size → W.os = W1.os → W.tape = W1.tape → W.output = W1.output → RowTo w (W.setRow b curn) (.slice (some ⟨b,0,none⟩) n cap) (.slice (some ⟨b,0,none⟩) (n + 1) cap) (n + 1) (cs.take (i * 4) ++ ns ++ cs.drop (i * 4)):=by
    intro W hW hs ho ht hu;refine ⟨⟨by simp only [List.length_append,List.length_take,hcl,hnl,hdl];omega,.inr ⟨b,cap,curn,rfl,Nat.zero_le _,setRow_heap W b cur1 curn _ _ (by rw [hW];exact hb1),hroom,hcm,hszn,hrow⟩⟩,⟨?_,?_,?_,?_,?_⟩,fun _ h=>.inl h,_,_,_,rfl⟩
    · show W.os = _;rw [ho,← hW1];rfl
    · show W.tape = _;rw [ht,← hW1];rfl
    · show W.output = _;rw [hu,← hW1];rfl
    · rw [show (W.setRow b curn).heap.size = W.heap.size by simp,hs,← hW1];simp
    · intro k hk hkb;have hkb' : k ≠ b:=fun e=>hkb (by rw [e];rfl)
      rw [setRow_other W b k _ hkb',hW,← hW1];exact setRow_other w.drew b k _ hkb'
  have mixed : Tryz.prog.follows .mixedOrders = true:=by kernel_rfl
  have hz2 : ¬ ((i : Int) = (n : Int)):=by omega
  have hc63 : cap ≤ 9223372036854775807:=by unfold maxLen at hcm;omega
  have hw1 : IntKind.i64.wrap ((i : Int) + 1) = (i : Int) + 1:=by rw [IntKind.wrap_i64];omega
  have hw2 : IntKind.i64.wrap ((n : Int) + 1) = (n : Int) + 1:=by rw [IntKind.wrap_i64];omega
  have hin : i ≤ n:=by omega
  have hb1' : (0 : Int) ≤ (i : Int) + 1:=by omega
  have htn : ((i : Int) + 1).toNat = i + 1:=by omega
  have hb2 : ¬ (cap = i + 1):=by omega
  have hb4 : ¬ (cap = i):=by omega
  have hb3 : (i : Int) ≤ (n : Int) + 1:=by omega
  clear hcur1 hcurn hW1 hown hown2 h1 h1c hcsrc hrow hdl hcl hnl htk htk2
  go_enter Tryz.func120,Tryz.ntmps120
  go_wp2_with (simp only [hov])
  go_region_law_o (refine step_copy_runI rfl _ _ 114 114 rfl _ _ (by simp [Act.eval,Act.put]) (by simp [Act.eval,Act.put]) (hcp1 _ _ _) ?_)
  go_wp2_with (at_builtin;refine wpList_copy_runI _ rfl _ _ 114 114 rfl _ _ rfl rfl (hcp2 _ (fun _=>rfl) _ _) ?_)
  go_ret
  exact ⟨_,rfl,fin _ (fun _=>rfl) rfl rfl rfl rfl⟩
theorem ins_grow (n i : Nat) (b cap : Nat) (cs ns : List Value) (vb vc : Nat) (w : World) (hi : i < n) (hroom : cap < n + 1) (hn1 : n ≤ 1000000) (hown : w.ownsRow 0 111 4 (.slice (some ⟨b,0,none⟩) n cap) n cs) (hown2 : w.ownsRow 0 111 4 (.slice (some ⟨vb,0,none⟩) 1 vc) 1 ns) (h1 : ∀ u ∈ ns,u.oneCell' = true) (h1c : ∀ u ∈ cs,u.oneCell' = true) :
    Calls Tryz.prog 120 #[.slice (some ⟨b,0,none⟩) n cap,.int .i64 i,.slice (some ⟨vb,0,none⟩) 1 vc] w fun e w'=>∃ u,e = .returned u ∧ RowTo w w' (.slice (some ⟨b,0,none⟩) n cap) u (n + 1) (cs.take (i * 4) ++ ns ++ cs.drop (i * 4)):=by
  obtain ⟨cur,hb,hnc,hcm,hcz,htk,hcl⟩:=rowCells hown;obtain ⟨cur2,hvb,hvc,_,hcz2,htk2,hnl⟩:=rowCells hown2;have hbw : b < w.heap.size:=(Array.getElem?_eq_some_iff.1 hb).1;have hvw : vb < w.heap.size:=(Array.getElem?_eq_some_iff.1 hvb).1;have hz4 : ty111.size = 4:=rfl;have hdl : (cs.drop (i * 4)).length = (n - i) * 4:=by rw [List.length_drop,hcl];omega
  obtain ⟨i0,hi0,hz0,hzb,hzz⟩:=tyEnt.info;have hkk : (n : Int) + 1 - (i : Int) = ((n + 1 - i : Nat) : Int):=by omega
  have hik : i + (n + 1 - i) = n + 1:=by omega
  have hold : (Builtin.firstCells i0.size i (.slice (some ⟨b,0,none⟩) i cap)).run Tryz.prog w.drew = .ok (cs.take (i * 4)).toArray w.drew:=by
    rw [hz0,hz4];exact run_firstCells_some w.drew 4 i ⟨b,0,none⟩ i cap (cs.take (i * 4)) (by rw [List.length_take];omega) (fun j v hj=>by
      have hlt:=(List.getElem?_eq_some_iff.1 hj).1;rw [List.length_take] at hlt;rw [List.getElem?_take_of_lt (by omega)] at hj;exact hown.cells (g:=b) rfl j v hj)
  obtain ⟨G,hG⟩ : ∃ G,grownCap w (n + 1) cap 111 = G:=⟨_,rfl⟩;obtain ⟨ROW,hROW⟩ : ∃ ROW : Array Value,(cs.take (i * 4)).toArray ++ Builtin.zeroCells ty111.zeroV.cells (n + 1 - i) ++ Builtin.zeroCells ty111.zeroV.cells (G - (n + 1)) = ROW:=⟨_,rfl⟩;have hGn : n + 1 ≤ G:=by rw [← hG];exact grownCap_ge w _ _ _
  have hGm : G ≤ maxLen:=by rw [← hG];exact grownCap_le_maxLen w (n + 1) cap _ (by unfold maxLen;omega)
  have hRs : ROW.size = G * 4:=by
    have e1:=zs_len tyEnt (n + 1 - i);have e2:=zs_len tyEnt (G - (n + 1));rw [Array.length_toList,hz4] at e1 e2;rw [← hROW];simp only [Array.size_append,List.size_toArray,List.length_take,e1,e2];omega
  have hRt : ROW.toList.take (i * 4) = cs.take (i * 4):=by
    rw [← hROW];simp only [Array.toList_append,List.append_assoc];rw [List.take_append_of_le_length (by simp only [List.length_take];omega),take4 _ _ _ (by omega)]
  have hrz : ∀ ty,(Builtin.append_ #[114,3] ty #[.slice (some ⟨b,0,none⟩) i cap,.int .i64 ((n : Int) + 1 - (i : Int))]).run Tryz.prog w = .ok (.slice (some ⟨w.heap.size,0,none⟩) (n + 1) G) (w.drew.alloc (.cells ROW 111)):=fun ty=>by
    have h:=Lib.run_append_grow_zeros w 114 3 ty 111 i0 _ .i64 .i64 Tryz.underlying114 Tryz.underlying3 hi0 hzz (some ⟨b,0,none⟩) i cap (cs.take (i * 4)) hold (n + 1 - i) (by omega) (by rw [hz0,hz4];decide) (by omega) (by omega) (by rw [hzb,show ty111.bytes = 56 from rfl];omega) (by rw [hzb,hik];exact growslice_fits hroom (qQ (show n + 1 ≤ 1000000000 by omega) (show ty111.bytes ≤ 1000 by decide)));rw [hik,hG,hROW] at h;rw [hkk];exact h
  obtain ⟨W1,hW1⟩ : ∃ W1,w.drew.alloc (.cells ROW 111) = W1:=⟨_,rfl⟩;have hN1 : W1.heap[w.heap.size]? = some (.cells ROW 111 (0,0)):=by rw [← hW1];exact heap_new w.drew _
  have hO1 : ∀ k,k < w.heap.size → W1.heap[k]? = w.heap[k]?:=fun k hk=>by rw [← hW1];exact Lib.alloc_old w.drew _ k hk
  obtain ⟨curA,hcurA⟩ : ∃ c : Array Value,(ROW.toList.take (i * 4) ++ ns ++ ROW.toList.drop (i * 4 + ns.length)).toArray = c:=⟨_,rfl⟩;have hszA : curA.size = G * 4:=by
    rw [← hcurA];simp only [List.size_toArray,List.length_append,List.length_take,hnl,List.length_drop,Array.length_toList,hRs];omega
  have hcpA : ∀ (W : World),(∀ k : Nat,W.heap[k]? = W1.heap[k]?) → ∀ ty dc,(Builtin.copy_ #[114,114] ty #[.slice (some ⟨w.heap.size,i * 4,none⟩) (n + 1 - i) dc,.slice (some ⟨vb,0,none⟩) 1 vc]).run Tryz.prog W = .ok (goInt 1) (W.setRow w.heap.size curA):=fun W hW ty dc=>by
    rw [← hcurA];exact run_copy_k W _ _ ty 111 Tryz.underlying114 tyEnt w.heap.size (i * 4) (n + 1 - i) dc ⟨vb,0,none⟩ 1 vc 1 ROW _ ns (by rw [hW];exact hN1) (by simp only [Nat.min_def];split <;> omega) (by rw [hnl,hz4]) (fun j v hj=>by
      rw [Go.WideShapes.add_plain];have h0:=hown2.cells (g:=vb) rfl j v hj;rw [Go.WideShapes.add_plain] at h0;rw [← h0];simp only [World.cell?,hW,hO1 vb hvw]) (by rw [hnl,hRs];omega) h1
  obtain ⟨W2,hW2⟩ : ∃ W2,W1.setRow w.heap.size curA = W2:=⟨_,rfl⟩;have hN2 : W2.heap[w.heap.size]? = some (.cells curA 111 (0,0)):=by rw [← hW2];exact setRow_heap W1 _ ROW curA _ _ hN1
  have hO2 : ∀ k,k < w.heap.size → W2.heap[k]? = w.heap[k]?:=fun k hk=>by rw [← hW2,setRow_other W1 _ k _ (by omega)];exact hO1 k hk
  obtain ⟨curn,hcurn⟩ : ∃ c : Array Value,(curA.toList.take ((i + 1) * 4) ++ cs.drop (i * 4) ++ curA.toList.drop ((i + 1) * 4 + (cs.drop (i * 4)).length)).toArray = c:=⟨_,rfl⟩;have hszn : curn.size = G * 4:=by
    rw [← hcurn];simp only [List.size_toArray,List.length_append,List.length_take,hdl,List.length_drop (l:=curA.toList),Array.length_toList,hszA];omega
  have hcpB : ∀ (W : World),(∀ k : Nat,W.heap[k]? = W2.heap[k]?) → ∀ ty dc sc,(Builtin.copy_ #[114,114] ty #[.slice (some ⟨w.heap.size,(i + 1) * 4,none⟩) (n - i) dc,.slice (some ⟨b,i * 4,none⟩) (n - i) sc]).run Tryz.prog W = .ok (goInt ((n - i : Nat) : Int)) (W.setRow w.heap.size curn):=fun W hW ty dc sc=>by
    rw [← hcurn];exact run_copy_k W _ _ ty 111 Tryz.underlying114 tyEnt w.heap.size ((i + 1) * 4) (n - i) dc ⟨b,i * 4,none⟩ (n - i) sc (n - i) curA _ (cs.drop (i * 4)) (by rw [hW];exact hN2) (by simp only [Nat.min_def];split <;> omega) (by rw [hdl,hz4]) (fun j v hj=>by
      rw [Go.WideShapes.add_plain];rw [List.getElem?_drop] at hj;have h0:=hown.cells (g:=b) rfl _ v hj;rw [Go.WideShapes.add_plain,Nat.zero_add] at h0;rw [← h0];simp only [World.cell?,hW,hO2 b hbw]) (by rw [hdl,hszA];omega) (fun v hv=>h1c v (List.mem_of_mem_drop hv))
  have hrow : curn.toList.take ((n + 1) * 4) = cs.take (i * 4) ++ ns ++ cs.drop (i * 4):=by
    have e1 : curA.toList.take ((i + 1) * 4) = cs.take (i * 4) ++ ns:=by
      have hlen : (ROW.toList.take (i * 4) ++ ns).length = (i + 1) * 4:=by
        rw [List.length_append,List.length_take,Array.length_toList,hRs,hnl];omega
      rw [← hcurA,← hlen,List.take_left,hRt]
    rw [← hcurn,e1,List.take_append_of_le_length (by simp only [List.length_append,List.length_take,hcl,hnl,hdl];omega),List.take_of_length_le (by simp only [List.length_append,List.length_take,hcl,hnl,hdl];omega)]
  have fin : ∀ W : World,(∀ k : Nat,W.heap[k]? = W2.heap[k]?) → W.heap.size = W2.heap.size → W.os = W2.os → W.tape = W2.tape → W.output = W2.output → RowTo w (W.setRow w.heap.size curn) (.slice (some ⟨b,0,none⟩) n cap) (.slice (some ⟨w.heap.size,0,none⟩) (n + 1) G) (n + 1) (cs.take (i * 4) ++ ns ++ cs.drop (i * 4)):=by
    intro W hW hs ho ht hu;have hsz : (W.setRow w.heap.size curn).heap.size = w.heap.size + 1:=by rw [show (W.setRow w.heap.size curn).heap.size = W.heap.size by simp,hs,← hW2,← hW1];simp
    refine ⟨⟨by simp only [List.length_append,List.length_take,hcl,hnl,hdl];omega,.inr ⟨w.heap.size,G,curn,rfl,Nat.zero_le _,setRow_heap W _ curA curn _ _ (by rw [hW];exact hN2),hGn,hGm,hszn,hrow⟩⟩,⟨?_,?_,?_,by omega,?_⟩,fun b' h=>.inr ?_,_,_,_,rfl⟩
    · show W.os = _;rw [ho,← hW2,← hW1];rfl
    · show W.tape = _;rw [ht,← hW2,← hW1];rfl
    · show W.output = _;rw [hu,← hW2,← hW1];rfl
    · intro k hk _;rw [setRow_other W _ k _ (by omega),hW];exact hO2 k hk
    · cases h;exact ⟨Nat.le_refl _,by rw [hsz];exact Nat.lt_succ_self _⟩
  have mixed : Tryz.prog.follows .mixedOrders = true:=by kernel_rfl
  have hz2 : ¬ ((i : Int) = (n : Int)):=by omega
  have hz3 : (cap : Int) < (n : Int) + 1:=by omega
  have hw1 : IntKind.i64.wrap ((i : Int) + 1) = (i : Int) + 1:=by rw [IntKind.wrap_i64];omega
  have hw2 : IntKind.i64.wrap ((n : Int) + 1) = (n : Int) + 1:=by rw [IntKind.wrap_i64];omega
  have hin : i ≤ n:=by omega
  have hb1' : (0 : Int) ≤ (i : Int) + 1:=by omega
  have htn : ((i : Int) + 1).toNat = i + 1:=by omega
  have hGi : ¬ (G = i):=by omega
  have hGim : ¬ (G = i + 1):=by omega
  have hci : ¬ (cap = i):=by omega
  have hb3 : (i : Int) ≤ (n : Int):=by omega
  have hG63 : G ≤ 9223372036854775807:=by unfold maxLen at hGm;omega
  rw [← hW1] at hW2;have hA : ∀ k : Nat,((w.alloc (.cells ROW 111)).drew).heap[k]? = W1.heap[k]?:=fun k=>by rw [← hW1];rfl
  have hB : ∀ k : Nat,(((w.alloc (.cells ROW 111)).drew.setRow w.heap.size curA).drew).heap[k]? = W2.heap[k]?:=fun k=>by rw [← hW2];rfl
  have hfin:=fin _ hB (by rw [← hW2];rfl) (by rw [← hW2];rfl) (by rw [← hW2];rfl) (by rw [← hW2];rfl);have hcA:=hcpA _ hA;have hcB:=hcpB _ hB;rw [hW1] at hrz;rw [← hW1] at hrz;clear hcpA hcpB fin hA hB hkk hik hold hG hROW hRs hRt hcurA hcurn hW1 hW2 hN1 hN2 hO1 hO2 hown hown2 h1 h1c hrow hdl hcl hnl htk htk2 hroom
  go_enter Tryz.func120,Tryz.ntmps120
  go_wp2_with (first
    | (at_builtin;refine Lib.wpList_append_run _ rfl _ _ _ _ rfl _ _ rfl rfl _ _ (hrz _) ?_)
    | (at_builtin;refine wpList_copy_runI _ rfl _ _ 114 114 rfl _ _ rfl rfl (hcA _ _) ?_))
  go_region_law_o (refine step_copy_runI rfl _ _ 114 114 rfl (.slice (some ⟨w.heap.size,(i + 1) * 4,none⟩) (n - i) (G - (i + 1))) (.slice (some ⟨b,i * 4,none⟩) (n - i) (cap - i)) (by simp [Act.eval,Act.put]) (by simp [Act.eval,Act.put]) (hcB _ _ _) ?_)
  go_wp2
  go_ret
  exact ⟨_,rfl,hfin⟩
end Q
end Ab
end Go.Proofs.YtpfkncffaanjcaaGreatDoor
namespace Go.Proofs.YtpfkncffaanjcaaGreatDoor
open Go.RowKit
namespace Ab
set_option maxRecDepth 100000
namespace Q
theorem flat_take {n : Nat} : ∀ (css : List (List Value)) (k : Nat),(∀ c ∈ css,c.length = n) → (css.take k).flatten = css.flatten.take (k * n)
  | [],_,_=>by simp
  | c :: r,0,_=>by simp
  | c :: r,k + 1,h=>by
    have h0 : c.length = n:=h c (by simp);have ih:=flat_take r k fun d hd=>h d (by simp [hd])
    rw [List.take_succ_cons,List.flatten_cons,List.flatten_cons,ih,Nat.add_mul,Nat.one_mul,Nat.add_comm (k * n) n]
    conv=>rhs;rw [← h0]
    rw [List.take_length_add_append,h0]
theorem flat_drop {n : Nat} : ∀ (css : List (List Value)) (k : Nat),(∀ c ∈ css,c.length = n) → (css.drop k).flatten = css.flatten.drop (k * n)
  | [],_,_=>by simp
  | c :: r,0,_=>by simp
  | c :: r,k + 1,h=>by
    have h0 : c.length = n:=h c (by simp);have ih:=flat_drop r k fun d hd=>h d (by simp [hd])
    rw [List.drop_succ_cons,List.flatten_cons,ih,Nat.add_mul,Nat.one_mul,Nat.add_comm (k * n) n,← List.drop_drop,← h0,List.drop_left,h0]
section
variable {cx : Cx} {ob : Obs} {nx : Nat} {ρ : Nat → Option Value} {w w' : World}
theorem ent_lens {ok : Oks} {xs : List Ent} {css : List (List Value)} (h1 : css.length = xs.length) (h2 : ∀ i (h : i < xs.length),rEnt.is ok w (css.getD i []) xs[i]) : ∀ c ∈ css,c.length = 4:=css_lens h1 h2
theorem ent_ones {ok : Oks} {xs : List Ent} {css : List (List Value)} (h1 : css.length = xs.length) (h2 : ∀ i (h : i < xs.length),rEnt.is ok w (css.getD i []) xs[i]) : ∀ v ∈ css.flatten,v.oneCell' = true:=css_ones h1 h2
theorem row_st (hs : StOk cx [] ob nx ρ ⟨#[],[]⟩ w) {xs xs' : List Ent} (hg : getO ob 0 = some (.vec 111 rEnt xs)) {v u : Value} (hv : ρ 0 = some v) {css' : List (List Value)} (hl : css'.length = xs'.length)
    (hR : ∀ i (h : i < xs'.length),rEnt.is (okOf cx ρ ob) w (css'.getD i []) xs'[i]) (hrow : RowTo w w' v u xs'.length css'.flatten) :
    ∃ ρ',StOk cx [] (setO 0 (.vec 111 rEnt xs') (subOb 0 .any ob)) nx ρ' ⟨#[],[]⟩ w' ∧ (C.vec 0).rep (okOf cx ρ' (setO 0 (.vec 111 rEnt xs') (subOb 0 .any ob))) ρ' w' u:=by
  obtain ⟨h1,h2,h3,h4⟩:=hrow;rw [← hv] at h2;have h3' : ∀ b,blk (some u) = some b → blk (ρ 0) = some b ∨ (w.heap.size ≤ b ∧ b < w'.heap.size):=by rw [hv];exact h3
  have hkp:=okOf_swap (o':=.vec 111 rEnt xs') hs hg h2 (fun b hb=>(h3' b hb).imp (fun h=>h) (·.1));refine ⟨upd ρ 0 u,hs.swap hg h2 h3' ⟨u,yS,css',hl,fun i hi=>Rd.kept _ hkp (hR i hi),h1⟩,yS,h4⟩
end
theorem getD_app {α : Type} (a b : List α) (i : Nat) (d : α) : (a ++ b).getD i d = if i < a.length then a.getD i d else b.getD (i - a.length) d:=by
  simp only [List.getD_eq_getElem?_getD];split
  · rename_i h;rw [List.getElem?_append_left h]
  · rename_i h;rw [List.getElem?_append_right (by omega)]
theorem delete_x (xs : List Ent) (i j : Nat) (hij : i < j) (hj : j ≤ xs.length) : ACallX Tryz.prog 119 [.one (.vec 0),ii .i64 i,ii .i64 j] [(0,.vec 111 rEnt xs)] 1 (.one (.vec 0)) [(0,.vec 111 rEnt (xs.take i ++ xs.drop j))] 1 []:=by
  refine ⟨⟨_,Tryz.func119,rfl,rfl⟩,fun cx ρ w vs _ _ _ hs hvs=>?_⟩;obtain ⟨v,r1,rfl,⟨hv,_⟩,vi,r2,rfl,hvi,vj,r3,rfl,hvj,hr3⟩:=hvs;rw [show r3 = [] from hr3,show vi = _ from hvi,show vj = _ from hvj];obtain ⟨v',hv',css,h1,h2,hown⟩ : ∃ v,ρ 0 = some v ∧ VecOk (okOf cx ρ [(0,.vec 111 rEnt xs)]) w v 111 rEnt xs:=hs.obs (0,.vec 111 rEnt xs) (by simp);rw [hv] at hv';obtain rfl:=Option.some.inj hv';have hfl:=ent_lens h1 h2;have hon:=ent_ones h1 h2;rcases id hown.2 with ⟨_,h0⟩|⟨b,cap,cur,rfl,_⟩
  · omega
  obtain ⟨cur,hb,hnc,hcm,hcz,htk,hcl⟩:=rowCells hown;refine (del_w b cap xs.length i j cur w hb hcz hnc hcm hij hj (by rw [htk];exact hon)).mono ?_
  rintro e w' ⟨rfl,cur',hgr,hb',hcz',hrow⟩
  have hnl : xs.length - (j - i) = (xs.take i ++ xs.drop j).length:=by rw [List.length_append,List.length_take,List.length_drop];omega
  have hf : (css.take i ++ css.drop j).flatten = cur.toList.take (i * 4) ++ (cur.toList.drop (j * 4)).take ((xs.length - j) * 4):=by
    rw [List.flatten_append,flat_take css i hfl,flat_drop css j hfl,← htk,take4 _ _ _ (by omega),List.drop_take]
    congr 2
    omega
  have hown' : w'.ownsRow 0 111 4 (.slice (some ⟨b,0,none⟩) (xs.length - (j - i)) cap) (xs.length - (j - i)) (css.take i ++ css.drop j).flatten:=by
    rw [hf,← hrow];have hcl' : cur'.toList.length = cap * 4:=by simpa using hcz'
    exact ⟨by rw [List.length_take,hcl'];omega,.inr ⟨b,cap,cur',rfl,Nat.zero_le _,hb',by omega,hcm,hcz',rfl⟩⟩
  rw [hnl] at hown' ⊢;obtain ⟨ρ',h3,h4⟩:=row_st (xs':=xs.take i ++ xs.drop j) (css':=css.take i ++ css.drop j) (u:=.slice (some ⟨b,0,none⟩) (xs.take i ++ xs.drop j).length cap) hs rfl hv (by simp [h1]) (fun k hk=>by
    rw [List.length_append,List.length_take,List.length_drop] at hk;rw [getD_app,List.getElem_append];simp only [List.length_take,h1];split
    · rename_i hlt;have:=h2 k (by omega);rw [List.getElem_take];rw [List.getD_eq_getElem?_getD] at this ⊢;rw [List.getElem?_take_of_lt (by omega)];exact this
    · rename_i hlt;have:=h2 (j + (k - min i xs.length)) (by omega);rw [List.getElem_drop];rw [List.getD_eq_getElem?_getD] at this ⊢;rw [List.getElem?_drop];exact this) ⟨hown',hgr,fun _ h=>.inl h,_,_,_,rfl⟩
  exact ⟨_,ρ',rfl,h3,h4,fun k hk=>by cases hk⟩
theorem insert_x (xs : List Ent) (e : Ent) (i : Nat) (hi : i ≤ xs.length) (hn : xs.length ≤ 1000000) : ACallX Tryz.prog 120 [.one (.vec 0),ii .i64 i,.one (.vec 1)] [(0,.vec 111 rEnt xs),(1,.vec 111 rEnt [e])] 2 (.one (.vec 0)) [(0,.vec 111 rEnt (insE xs i e)),(1,.vec 111 rEnt [e])] 2 []:=by
  refine ⟨⟨_,Tryz.func120,rfl,rfl⟩,fun cx ρ w vs _ _ _ hs hvs=>?_⟩;obtain ⟨v,r1,rfl,⟨hv,_⟩,vi,r2,rfl,hvi,v2,r3,rfl,⟨hv2,_⟩,hr3⟩:=hvs;rw [show r3 = [] from hr3,show vi = _ from hvi];obtain ⟨v',hv',css,h1,h2,hown⟩ : ∃ v,ρ 0 = some v ∧ VecOk (okOf cx ρ [(0,.vec 111 rEnt xs),(1,.vec 111 rEnt [e])]) w v 111 rEnt xs:=hs.obs (0,.vec 111 rEnt xs) (by simp);rw [hv] at hv';obtain rfl:=Option.some.inj hv';obtain ⟨v2',hv2',ess,g1,g2,hown2⟩ : ∃ v,ρ 1 = some v ∧ VecOk (okOf cx ρ [(0,.vec 111 rEnt xs),(1,.vec 111 rEnt [e])]) w v 111 rEnt [e]:=hs.obs (1,.vec 111 rEnt [e]) (by simp);rw [hv2] at hv2';obtain rfl:=Option.some.inj hv2';obtain ⟨es,rfl⟩ : ∃ es,ess = [es]:=List.length_eq_one_iff.1 g1;have hge:=g2 0 Nat.one_pos;have hel : es.length = 4:=Rd.len rEnt hge;have hfl:=ent_lens h1 h2;have hon:=ent_ones h1 h2;have hon2:=ent_ones g1 g2;rcases id hown2.2 with ⟨_,h0⟩|⟨vb,vc,cur2,hv2e,_⟩
  · simp at h0
  have hv2e : v2 = .slice (some ⟨vb,0,none⟩) 1 vc:=hv2e;subst hv2e;rw [show ([es] : List (List Value)).flatten = es by simp] at hown2 hon2;have hrow : Calls Tryz.prog 120 #[v,.int .i64 i,.slice (some ⟨vb,0,none⟩) 1 vc] w fun e' w'=>∃ u,e' = .returned u ∧ RowTo w w' v u (xs.length + 1) (css.flatten.take (i * 4) ++ es ++ css.flatten.drop (i * 4)):=by
    have hcl : css.flatten.length = xs.length * 4:=hown.1;rcases Nat.lt_or_ge i xs.length with hlt|hge'
    · rcases id hown.2 with ⟨_,h0⟩|⟨b,cap,cur,rfl,_⟩
      · omega
      have hne : vb ≠ b:=fun e'=>hs.sep (0,.vec 111 rEnt xs) (by simp) (1,.vec 111 rEnt [e]) (by simp) Nat.zero_ne_one b (by rw [hv];rfl) (by rw [hv2,e'];rfl)
      by_cases hroom : xs.length + 1 ≤ cap
      · exact ins_shift xs.length i b cap css.flatten es vb vc w hlt hroom hown hown2 hne hon2 hon
      · exact ins_grow xs.length i b cap css.flatten es vb vc w hlt (by omega) hn hown hown2 hon2 hon
    · obtain rfl : i = xs.length:=by omega
      have:=ins_end xs.length v css.flatten es vb vc w hown hown2 hon2 hn;rw [List.take_of_length_le (by omega),List.drop_of_length_le (by omega),List.append_nil];exact this
  refine hrow.mono ?_
  rintro e' w' ⟨u,rfl,hrt⟩
  have hf : (css.take i ++ es :: css.drop i).flatten = css.flatten.take (i * 4) ++ es ++ css.flatten.drop (i * 4):=by
    rw [List.flatten_append,List.flatten_cons,flat_take css i hfl,flat_drop css i hfl,List.append_assoc]
  have hnl : xs.length + 1 = (insE xs i e).length:=by unfold insE;rw [List.length_append,List.length_cons,List.length_take,List.length_drop];omega
  rw [← hf,hnl] at hrt;obtain ⟨ρ',h3,h4⟩:=row_st (xs':=insE xs i e) hs rfl hv (by rw [← hnl];simp [h1];omega) (fun k hk=>by
    rw [← hnl] at hk;simp only [insE,getD_app,List.getElem_append,List.length_take,h1];split
    · rename_i hlt;have:=h2 k (by omega);rw [List.getElem_take];rw [List.getD_eq_getElem?_getD] at this ⊢;rw [List.getElem?_take_of_lt (by omega)];exact this
    · rename_i hlt;obtain ⟨q,hq⟩ : ∃ q,k - min i xs.length = q:=⟨_,rfl⟩;simp only [hq];cases q with
      | zero=>exact hge
      | succ q =>
        have:=h2 (i + q) (by omega);simp only [List.getElem_cons_succ,List.getD_cons_succ,List.getElem_drop];rw [List.getD_eq_getElem?_getD] at this ⊢;rw [List.getElem?_drop];exact this) hrt
  exact ⟨_,ρ',rfl,h3,h4,fun k hk=>by cases hk⟩
theorem cloneE_o {k : Nat} (es : List Ent) (hl : es.length ≤ 1000000) : qR Tryz.prog 82 [.one (.slk k rEnt es)] [] 0 (.one (.vec 0)) [(0,.vec 111 rEnt es)] 1:=by
  refine qP (rs:=[2]) Tryz.func82 rfl rfl rfl teOk (by decide) rfl ?_;refine qC ?_;refine qB ?_;refine qC ?_;refine qC ?_;refine acode_isnil (q:=k) [_] _ (R:=rEnt) (xs:=es) rfl rfl rfl rfl (e:=111) rfl rfl ?_;refine ⟨rfl,fun b hb=>?_⟩;refine qK rfl (fun h4=>?_) (fun h4=>?_)
  ·have hl0:=hb h4;subst hl0;refine qC ?_;refine qB ?_;refine acode_nilvec 2 111 rEnt rfl ?_;refine qL ?_;exact ⟨rfl,rfl,rfl⟩
  ·refine qM ?_;refine qC ?_;refine qB ?_;refine zai (by first|exact qQ (show es.length ≤ 1000000000 by omega) (by decide)|exact qQ (show 0 + es.length ≤ 1000000000 by omega) (by decide)) ?_;refine qL ?_;exact ⟨rfl,rfl,rfl⟩
def itEs (es : List Ent) : List (List A):=(es.filter live).map fun e=>[A.agg (toL rEnt e)]
def cntL (es : List Ent) : Nat:=(es.filter live).length
theorem cntL_snoc {es : List Ent} {i : Nat} (h : i < es.length) : cntL (es.take (i + 1)) = cntL (es.take i) + if live (es.getD i (((0 : Int),ByteArray.empty,([] : List Fld)),(0 : Int))) then 1 else 0:=by
  unfold cntL;rw [← xA (((0 : Int),ByteArray.empty,([] : List Fld)),(0 : Int)) h,List.filter_append,List.length_append]
  generalize es.getD i (((0 : Int),ByteArray.empty,([] : List Fld)),(0 : Int)) = x
  cases hk : live x <;> simp [hk]
theorem itEs_at {es : List Ent} {i : Nat} (h : i < es.length) (hl : live (es.getD i (((0 : Int),ByteArray.empty,([] : List Fld)),(0 : Int))) = true) : ∃ hk : cntL (es.take i) < (itEs es).length,(itEs es)[cntL (es.take i)] = [A.agg (toL rEnt (es.getD i (((0 : Int),ByteArray.empty,([] : List Fld)),(0 : Int))))]:=by
  obtain ⟨h1,h2⟩:=filter_at live (((0 : Int),ByteArray.empty,([] : List Fld)),(0 : Int)) es i h hl;have h1' : cntL (es.take i) < (es.filter live).length:=h1;refine ⟨by unfold itEs;rw [List.length_map];exact h1',?_⟩;have h3 : (es.filter live)[cntL (es.take i)]'h1' = es.getD i (((0 : Int),ByteArray.empty,([] : List Fld)),(0 : Int)):=(getD_get h1' (((0 : Int),ByteArray.empty,([] : List Fld)),(0 : Int))).trans h2;exact (List.getElem_map (fun e=>[A.agg (toL rEnt e)])).trans (congrArg (fun e=>[A.agg (toL rEnt e)]) h3)
theorem all_iter {k : Nat} (es : List Ent) (n m : Int) : AIter Tryz.prog 95 [.one (.ref (.adk k (rLst k) (es,n,m)))] (itEs es):=by
  refine aiter_of Tryz.func95 rfl rfl rfl teOk rfl ?_;intro l ι Pr J U n0 hU hab hy;refine yW ?_;refine yW ?_;refine xJ hab hU rfl ?_;refine qB ?_;refine ⟨_,_,_,le_refl,?_⟩;refine acodeY_cond rfl (fun h6=>?_) (fun h6=>?_)
  ·simp at h6
  refine acodeY_skip ?_;refine yW ?_;refine xJ hab hU rfl ?_;refine qB ?_;intro hln;have hln : es.length ≤ 9223372036854775807:=hln;refine ⟨_,_,_,le_refl,?_⟩;refine acodeY_block ?_;refine acodeY_loop (κ:=Nat) (fun i=>i ≤ es.length) (fun i=>cntL (es.take i)) (fun i=>[(0,.one (.lit (.func (.yield l) #[] #[]))),(10,.one (.slk k rEnt es)),(11,ii .i64 es.length),(12,ii .i64 i)]) (fun _=>[]) 0 (fun i=>es.length - i) 0 (Nat.zero_le _) hab hU (qV ⟨rfl,rfl,rfl,rfl⟩ trivial rfl) rfl ?_;intro i hi;have hi : i ≤ es.length:=hi;refine acodeY_lowQ hab hU ?_;refine yW ?_;refine xJ hab hU rfl ?_;refine qB ?_;refine ⟨_,_,_,le_refl,?_⟩;refine yW ?_;refine acodeY_cond rfl (fun h13=>?_) (fun h13=>?_)
  ·simp only [decide_eq_true_eq] at h13;have hlt : i < es.length:=by omega
   have hsn:=cntL_snoc hlt;refine acodeY_skip ?_;refine yW ?_;refine acodeY_block ?_;refine yW ?_;refine xJ hab hU rfl ?_;refine qB ?_;refine zai (by omega) ?_;refine ⟨_,_,_,le_refl,?_⟩;refine yW ?_;refine acodeY_yieldG (pre:=[_,_,_,_,_,_]) (post:=[_,_]) _ (live (es.getD i (((0 : Int),ByteArray.empty,([] : List Fld)),(0 : Int)))) rfl rfl rfl rfl rfl hab hU hy ?_;refine zai (fun _=>trivial) ?_;refine zai (fun _=>trivial) ?_;refine ⟨_,_,_,le_refl,⟨_,rfl,rfl⟩,fun hq=>?_,fun hq=>?_⟩
   ·obtain ⟨hk,hx⟩:=itEs_at hlt hq;refine ⟨hk,⟨⟨hq,trivial⟩,⟨hq,trivial⟩,trivial⟩,rfl,hx.symm,by rw [hx];rfl,fun st=>?_⟩;refine zai (fun _=>⟨⟨rfl,trivial⟩,trivial⟩) ?_;refine zai (fun h=>h) ?_;refine ⟨_,_,_,le_refl,?_⟩;refine acodeY_cond rfl (fun h24=>?_) (fun h24=>?_)
    ·have h24 : (live (es.getD i (((0 : Int),ByteArray.empty,([] : List Fld)),(0 : Int))) && !!st) = true:=h24;rw [hq,Bool.true_and,Bool.not_not] at h24;subst h24;refine acodeY_ret ?_;exact ⟨_,.inl rfl,.inl rfl,fun e=>by cases e⟩
    ·have h24 : (live (es.getD i (((0 : Int),ByteArray.empty,([] : List Fld)),(0 : Int))) && !!st) = false:=h24;rw [hq,Bool.true_and,Bool.not_not] at h24;subst h24;refine acodeY_skip ?_;refine xJ hab hU rfl ?_;refine qB ?_;refine zai (by omega) ?_;refine ⟨_,_,_,qV (tm':=[(0,.one (.lit (.func (.yield l) #[] #[]))),(10,.one (.slk k rEnt es)),(11,ii .i64 es.length),(12,ii .i64 (i + 1 : Nat))]) (ob':=[]) (nx':=1) ⟨rfl,rfl,rfl,ii_eq (by omega)⟩ trivial rfl,0,.inr rfl,⟨i + 1,hlt,by omega,rfl,?_,rfl,rfl,rfl⟩⟩;rw [hsn,if_pos hq]
   ·refine zai (fun h=>absurd (h.symm.trans hq) (by decide)) ?_;refine zai (fun h=>h) ?_;refine ⟨_,_,_,le_refl,?_⟩;refine acodeY_cond rfl (fun h24=>?_) (fun h24=>?_)
    ·have h24 : (live (es.getD i (((0 : Int),ByteArray.empty,([] : List Fld)),(0 : Int))) && _) = true:=h24;rw [hq] at h24;cases h24
    ·refine acodeY_skip ?_;refine xJ hab hU rfl ?_;refine qB ?_;refine zai (by omega) ?_;refine ⟨_,_,_,qV (tm':=[(0,.one (.lit (.func (.yield l) #[] #[]))),(10,.one (.slk k rEnt es)),(11,ii .i64 es.length),(12,ii .i64 (i + 1 : Nat))]) (ob':=[]) (nx':=1) ⟨rfl,rfl,rfl,ii_eq (by omega)⟩ trivial rfl,0,.inr rfl,⟨i + 1,hlt,by omega,rfl,?_,rfl,rfl,rfl⟩⟩;rw [hsn,if_neg (by rw [hq];decide)];rfl
  ·simp only [decide_eq_false_iff_not] at h13;refine acodeY_exit ?_;refine ⟨_,.inl rfl,.inr rfl,fun _=>?_⟩;rw [List.take_of_length_le (by omega)];simp only [itEs,List.length_map,cntL]
theorem all_c {k : Nat} (L : Lst) : qU Tryz.prog 61 [.one (.adk k (rLst k) L)] (.one (.clo 95 (.ref (.adk k (rLst k) L)))):=by
  refine qT (rs:=[2]) Tryz.func61 rfl rfl rfl teOk rfl ?_;refine qC ?_;refine qB ?_;refine qC ?_;refine qB ?_;refine acode_frz [0] ?_;refine qL ?_;rfl
theorem index_E (f : FuncId) {k : Nat} {β : Type} (S : Rd β) (y : β) (l : List Ent) (p : Ent → Bool) (hp : ∀ x ∈ l,qU Tryz.prog f [.agg (toL rEnt x),.one (.addr S y)] (ib (p x))) : qU Tryz.prog 137 [.one (.slk k rEnt l),.one (.clo f (.addr S y))] (ii .i64 (ixOf p l)):=by
  refine qT (rs:=[4]) Tryz.func137 rfl rfl rfl teOk rfl ?_;refine qC ?_;refine qB ?_;refine qC ?_;refine qC ?_;refine qB ?_;intro l1_1
  try simp only [zds] at l1_1
  refine qN ?_;refine yP (fun (i : Nat)=>i ≤ l.length ∧ (l.take i).any p = false) (fun (i : Nat)=>[(0,.one (.slk k rEnt l)),(1,.one (.clo f (.addr S y))),(7,ii .i64 l.length),(8,ii .i64 i)]) (fun (i : Nat)=>[]) 0 (fun (i : Nat)=>l.length - i) 0 (⟨Nat.zero_le _,rfl⟩) (qV ⟨rfl,rfl,rfl,rfl⟩ trivial rfl) ?_;intro i hI0;obtain ⟨hi,hn⟩:=hI0;refine qC ?_;refine qB ?_;refine qC ?_;refine qK rfl (fun h9=>?_) (fun h9=>?_)
  ·try simp only [decide_eq_true_eq] at h9
   try simp only [zds] at h9
   refine qM ?_;refine qC ?_;refine qN ?_;refine qC ?_;refine qB ?_;refine qC ?_;refine qB ?_;refine zai (by first|omega|assumption|decide|(simp only [zds];omega)|(simp <;> omega)) ?_;refine Or.inl ?_;refine zai (rfl) ?_;refine zei _ (zai (hp _ (xK (show i < l.length by omega) _)) ?_);refine qK rfl (fun h16=>?_) (fun h16=>?_)
   ·try simp only [zbq] at h16
    try simp only [Int.toNat_natCast,qH,qG,qE,qF] at h16
    refine qC ?_;refine qB ?_;refine qL ?_;exact ii_eq (ixOf_at (((0 : Int),ByteArray.empty,([] : List Fld)),(0 : Int)) (by omega) hn h16).symm
   ·try simp only [zbq] at h16
    try simp only [Int.toNat_natCast,qH,qG,qE,qF] at h16
    refine qM ?_;refine qB ?_;refine zai (by first|omega|assumption|decide|(simp only [zds];omega)|(simp <;> omega)) ?_;exact ⟨i + 1,⟨by omega,by rw [take_any l p (((0 : Int),ByteArray.empty,([] : List Fld)),(0 : Int)) i (by omega),hn];exact h16⟩,by first|omega|(simp <;> omega),qV ⟨rfl,rfl,rfl,rfl⟩ trivial rfl⟩
  ·try simp only [decide_eq_false_iff_not,Int.not_lt] at h9
   try simp only [zds] at h9
   refine xI ?_;refine qC ?_;refine qB ?_;refine qL ?_;have e : i = l.length:=by omega
   subst e;rw [List.take_length] at hn;exact ii_eq (ixOf_none hn).symm
theorem at1_c (id : Int) (e : Ent) : qU Tryz.prog 138 [.agg (toL rEnt e),.one (.addr (.int .i64) id)] (ib (hasId id e)):=by
  refine qT (rs:=[3]) Tryz.func138 rfl rfl rfl teOk rfl ?_;refine qC ?_;refine qB ?_;refine qC ?_;refine qB ?_;refine qL ?_;rfl
theorem at_c {k : Nat} (es : List Ent) (n m id : Int) : qU Tryz.prog 104 [.one (.adk k (rLst k) (es,n,m)),ii .i64 id] (ii .i64 (atE es id)):=by
  refine qT (rs:=[4]) Tryz.func104 rfl rfl rfl teOk rfl ?_;refine qC ?_;refine qB ?_;refine qC ?_;refine qC ?_;refine qB ?_;refine zai (fun h=>trivial) ?_;refine zai (fun h=>⟨⟨h,trivial⟩,trivial⟩) ?_;refine zai (by first|(intro h;rw [h];rfl)|(intro h;cases h)) ?_;refine qK rfl (fun h10=>?_) (fun h10=>?_)
  ·try simp only [decide_eq_true_eq,Bool.or_eq_true] at h10
   try simp only [zds] at h10
   have h10 : id < 1:=h10.elim (fun h=>by cases h) (fun h=>h);refine qC ?_;refine qB ?_;refine qL ?_;exact ii_eq (by unfold atE;rw [if_pos h10])
  ·try simp only [decide_eq_false_iff_not,Bool.or_eq_false_iff,Int.not_lt] at h10
   try simp only [zds] at h10
   have h10 : ¬ id < 1:=(by simp at h10;omega);refine qM ?_;refine qC ?_;refine qB ?_;refine Or.inl ?_;refine zai (rfl) ?_;refine zei _ (zai (index_E _ (.int .i64) id es (hasId id) (fun x _=>at1_c id x)) ?_);refine qL ?_;exact ii_eq (by unfold atE;rw [if_neg h10])
theorem next_c {k : Nat} (es : List Ent) (n m : Int) : qU Tryz.prog 25 [.one (.adk k (rLst k) (es,n,m))] (ii .i64 n):=by
  refine qT (rs:=[2]) Tryz.func25 rfl rfl rfl teOk rfl ?_;refine qC ?_;refine qB ?_;refine qC ?_;refine qC ?_;refine qB ?_;refine qK rfl (fun h4=>?_) (fun h4=>?_)
  ·try simp only [zbq] at h4
   try simp only [zds] at h4
   simp at h4
  ·skip
   refine qM ?_;refine qC ?_;refine qB ?_;refine qL ?_;rfl
theorem at_lt {es : List Ent} {id : Int} (h : ¬ atE es id < 0) : ∃ i : Nat,i < es.length ∧ atE es id = i ∧ 0 < id ∧ (es.getD i (((0 : Int),ByteArray.empty,([] : List Fld)),(0 : Int))).2 = id:=by
  rcases at_cases es id with ⟨h1,_⟩|⟨i,h1,h2,h3,h4,_⟩
  · omega
  · exact ⟨i,h1,h2,h3,h4⟩
theorem lDel_no (es : List Ent) (n m id : Int) (h : atE es id < 0) : qR Tryz.prog 84 [.one (.own 0 0),ii .i64 id] (lsO (es,n,m)) 2 (.one (errN 7)) (lsO (es,n,m)) 2:=by
  refine qP (rs:=[4]) Tryz.func84 rfl rfl rfl teOk (by decide) rfl ?_;refine qC ?_;refine qB ?_;refine qC ?_;refine qB ?_;refine Or.inr (Or.inr (Or.inl ?_));refine zai rfl ?_;refine zei _ (zai (at_c es n m id) ?_);refine qC ?_;refine qC ?_;refine qB ?_;refine qK rfl (fun h10=>?_) (fun h10=>?_)
  ·try simp only [decide_eq_true_eq] at h10
   try simp only [zds] at h10
   refine qC ?_;refine qB ?_;refine qL ?_;exact ⟨rfl,⟨rfl,rfl⟩,rfl⟩
  ·try simp only [decide_eq_false_iff_not,Int.not_lt] at h10
   try simp only [zds] at h10
   omega
theorem lDel_ok (es : List Ent) (n m id : Int) (i : Nat) (hi : i < es.length) (h : atE es id = i) (hm : 0 ≤ m ∧ m ≤ 1000000) (hl : es.length ≤ 1000000) : qR Tryz.prog 84 [.one (.own 0 0),ii .i64 id] (lsO (es,n,m)) 2 (.one (.lit .nilIface)) (lsO (delE es i,n,m - 1)) 2:=by
  refine qP (rs:=[4]) Tryz.func84 rfl rfl rfl teOk (by decide) rfl ?_;refine qC ?_;refine qB ?_;refine qC ?_;refine qB ?_;refine Or.inr (Or.inr (Or.inl ?_));refine zai rfl ?_;refine zei _ (zai ((by have:=at_c (k:=1) es n m id;rw [h] at this;exact this)) ?_);refine qC ?_;refine qC ?_;refine qB ?_;refine qK rfl (fun h10=>?_) (fun h10=>?_)
  ·try simp only [decide_eq_true_eq] at h10
   try simp only [zds] at h10
   omega
  ·try simp only [decide_eq_false_iff_not,Int.not_lt] at h10
   try simp only [zds] at h10
   refine qM ?_;refine qC ?_;refine qB ?_;refine zai (by first|omega|assumption|decide|(simp only [zds];omega)|(simp <;> omega)) ?_;refine Or.inr (Or.inr (Or.inr (zei [1] (zei [] (zei _ (zei _ (zei _ (zei _ (zei _ (zai (delete_x es i (i + 1) (Nat.lt_succ_self _) hi) (zai rfl (zai (zai (zai rfl rfl) True.intro) (zai rfl ?_)))))))))))));refine qC ?_;refine qB ?_;refine zai (by first|omega|assumption|decide|(simp only [];omega)|(simp <;> omega)) ?_;refine qC ?_;refine qB ?_;refine qL ?_;exact ⟨rfl,⟨rfl,rfl⟩,rfl⟩
theorem pitem_ok {κ : Nat} {l : List Fld} (hl : yA l) (h : (chkR l).2 = 0) : qU Tryz.prog 118 [.one (.slk κ rFld l)] (.tup [(true,toL rItm (3,bytes (foldL l),l)),(false,[.lit .nilIface])]):=by
  refine acall_ofc (rs:=[.cell 2 109,.tmp 3]) Tryz.func118 rfl rfl rfl teOk rfl ?_;refine qC ?_;refine qB ?_;refine qC ?_;refine qB ?_;refine Or.inl ?_;refine zai (rfl) ?_;refine zei _ (zai (pstanza_ok hl h) ?_);refine qC ?_;refine qC ?_;refine qB ?_;refine qK rfl (fun h12=>?_) (fun h12=>?_)
  ·try simp only [Bool.not_eq_true'] at h12
   try simp only [zds] at h12
   cases h12
  ·try simp only [Bool.not_eq_false'] at h12
   try simp only [zds] at h12
   refine qM ?_;refine qC ?_;refine qB ?_;refine Or.inl ?_;refine zai (rfl) ?_;refine zei _ (zai (clone_c l (Nat.le_trans hl.1 (by decide))) ?_);refine qL ?_;rfl
theorem pitem_err {κ : Nat} {l : List Fld} (hl : yA l) (h : (chkR l).2 ≠ 0) : qU Tryz.prog 118 [.one (.slk κ rFld l)] (.tup [(true,[.lit (.int .i64 0),.lit (.string ⟨#[]⟩),.lit (.slice none 0 0)]),(false,[chkA l])]):=by
  have hc:=pstanza_err (κ:=κ) hl h;obtain ⟨e,he,hs⟩:=chk_bad h;rw [he] at hc ⊢;rcases hs with ⟨n,hn,rfl,_⟩|⟨i,n,hn,rfl,_⟩
  ·
    refine acall_ofc (rs:=[.cell 2 109,.tmp 3]) Tryz.func118 rfl rfl rfl teOk rfl ?_;refine qC ?_;refine qB ?_;refine qC ?_;refine qB ?_;refine Or.inl ?_;refine zai (rfl) ?_;refine zei _ (zai (hc) ?_);refine qC ?_;refine qC ?_;refine qB ?_;refine qK rfl (fun h12=>?_) (fun h12=>?_)
    ·skip
     refine qC ?_;refine qB ?_;refine qL ?_;rfl
    ·try simp only [zbq] at h12
     try simp only [zds] at h12
     cases h12
  ·
    refine acall_ofc (rs:=[.cell 2 109,.tmp 3]) Tryz.func118 rfl rfl rfl teOk rfl ?_;refine qC ?_;refine qB ?_;refine qC ?_;refine qB ?_;refine Or.inl ?_;refine zai (rfl) ?_;refine zei _ (zai (hc) ?_);refine qC ?_;refine qC ?_;refine qB ?_;refine qK rfl (fun h12=>?_) (fun h12=>?_)
    ·skip
     refine qC ?_;refine qB ?_;refine qL ?_;rfl
    ·try simp only [zbq] at h12
     try simp only [zds] at h12
     cases h12
def itmOf (f : List Fld) : Itm:=(3,bytes (foldL f),f)
theorem lRep_no {κ : Nat} (es : List Ent) (n m id : Int) (f : List Fld) (h : atE es id < 0) : qR Tryz.prog 83 [.one (.own 0 0),ii .i64 id,.one (.slk κ rFld f)] (lsO (es,n,m)) 2 (.one (errN 7)) (lsO (es,n,m)) 2:=by
  refine qP (rs:=[6]) Tryz.func83 rfl rfl rfl teOk (by decide) rfl ?_;refine qC ?_;refine qB ?_;refine qC ?_;refine qB ?_;refine Or.inr (Or.inr (Or.inl ?_));refine zai rfl ?_;refine zei _ (zai (at_c es n m id) ?_);refine qC ?_;refine qC ?_;refine qB ?_;refine qK rfl (fun h14=>?_) (fun h14=>?_)
  ·try simp only [decide_eq_true_eq] at h14
   try simp only [zds] at h14
   refine qC ?_;refine qB ?_;refine qL ?_;exact ⟨rfl,⟨rfl,rfl⟩,rfl⟩
  ·try simp only [decide_eq_false_iff_not,Int.not_lt] at h14
   try simp only [zds] at h14
   omega
theorem lRep_bad {κ : Nat} (es : List Ent) (n m id : Int) (f : List Fld) (h : 0 ≤ atE es id) (hf : yA f) (hc : (chkR f).2 ≠ 0) : qR Tryz.prog 83 [.one (.own 0 0),ii .i64 id,.one (.slk κ rFld f)] (lsO (es,n,m)) 2 (.one (chkA f)) (lsO (es,n,m)) 2:=by
  have hpi:=pitem_err (κ:=κ) hf hc;obtain ⟨e,he,hs⟩:=chk_bad hc;rw [he] at hpi ⊢;rcases hs with ⟨x,hx,rfl,_⟩|⟨j,x,hx,rfl,_⟩
  ·
    refine qP (rs:=[6]) Tryz.func83 rfl rfl rfl teOk (by decide) rfl ?_;refine qC ?_;refine qB ?_;refine qC ?_;refine qB ?_;refine Or.inr (Or.inr (Or.inl ?_));refine zai rfl ?_;refine zei _ (zai (at_c es n m id) ?_);refine qC ?_;refine qC ?_;refine qB ?_;refine qK rfl (fun h14=>?_) (fun h14=>?_)
    ·try simp only [decide_eq_true_eq] at h14
     try simp only [zds] at h14
     omega
    ·try simp only [decide_eq_false_iff_not,Int.not_lt] at h14
     try simp only [zds] at h14
     refine qM ?_;refine qC ?_;refine qB ?_;refine Or.inl ?_;refine zai (rfl) ?_;refine zei _ (zai (hpi) ?_);refine qC ?_;refine qC ?_;refine qB ?_;refine qK rfl (fun h22=>?_) (fun h22=>?_)
     ·skip
      refine qC ?_;refine qB ?_;refine qL ?_;exact ⟨rfl,⟨rfl,rfl⟩,rfl⟩
     ·try simp only [zbq] at h22
      try simp only [zds] at h22
      cases h22
  ·
    refine qP (rs:=[6]) Tryz.func83 rfl rfl rfl teOk (by decide) rfl ?_;refine qC ?_;refine qB ?_;refine qC ?_;refine qB ?_;refine Or.inr (Or.inr (Or.inl ?_));refine zai rfl ?_;refine zei _ (zai (at_c es n m id) ?_);refine qC ?_;refine qC ?_;refine qB ?_;refine qK rfl (fun h14=>?_) (fun h14=>?_)
    ·try simp only [decide_eq_true_eq] at h14
     try simp only [zds] at h14
     omega
    ·try simp only [decide_eq_false_iff_not,Int.not_lt] at h14
     try simp only [zds] at h14
     refine qM ?_;refine qC ?_;refine qB ?_;refine Or.inl ?_;refine zai (rfl) ?_;refine zei _ (zai (hpi) ?_);refine qC ?_;refine qC ?_;refine qB ?_;refine qK rfl (fun h22=>?_) (fun h22=>?_)
     ·skip
      refine qC ?_;refine qB ?_;refine qL ?_;exact ⟨rfl,⟨rfl,rfl⟩,rfl⟩
     ·try simp only [zbq] at h22
      try simp only [zds] at h22
      cases h22
theorem lRep_ok {κ : Nat} (es : List Ent) (n m id : Int) (f : List Fld) (i : Nat) (hi : i < es.length) (h : atE es id = i) (hf : yA f) (hc : (chkR f).2 = 0) : qR Tryz.prog 83 [.one (.own 0 0),ii .i64 id,.one (.slk κ rFld f)] (lsO (es,n,m)) 2 (.one (.lit .nilIface)) (lsO (replE es i (itmOf f),n,m)) 2:=by
  refine qP (rs:=[6]) Tryz.func83 rfl rfl rfl teOk (by decide) rfl ?_;refine qC ?_;refine qB ?_;refine qC ?_;refine qB ?_;refine Or.inr (Or.inr (Or.inl ?_));refine zai rfl ?_;refine zei _ (zai ((by have:=at_c (k:=1) es n m id;rw [h] at this;exact this)) ?_);refine qC ?_;refine qC ?_;refine qB ?_;refine qK rfl (fun h14=>?_) (fun h14=>?_)
  ·try simp only [decide_eq_true_eq] at h14
   try simp only [zds] at h14
   omega
  ·try simp only [decide_eq_false_iff_not,Int.not_lt] at h14
   try simp only [zds] at h14
   refine qM ?_;refine qC ?_;refine qB ?_;refine Or.inl ?_;refine zai (rfl) ?_;refine zei _ (zai (pitem_ok hf hc) ?_);refine qC ?_;refine qC ?_;refine qB ?_;refine qK rfl (fun h22=>?_) (fun h22=>?_)
   ·try simp only [Bool.not_eq_true'] at h22
    try simp only [zds] at h22
    cases h22
   ·try simp only [Bool.not_eq_false'] at h22
    try simp only [zds] at h22
    refine qM ?_;refine qC ?_;refine xB rfl ?_;refine qJ 0 rfl rfl rfl (by kernel_rfl) ?_;refine qJ 1 rfl rfl rfl (by kernel_rfl) ?_;refine qJ 2 rfl rfl rfl (by kernel_rfl) ?_;refine qJ 4 rfl rfl rfl (by kernel_rfl) ?_;refine qI [3,5] (by kernel_rfl) rfl ?_;refine zai ?_ ?_
    ·refine qI [5] (by kernel_rfl) rfl ?_;refine qJ 6 rfl rfl rfl (by kernel_rfl) ?_;refine zai (by first|omega|assumption|decide|(simp only [];omega)|(simp <;> omega)) ?_;refine qI [7] (by kernel_rfl) rfl ?_;refine qI [8] (by kernel_rfl) rfl ?_;refine zai (by (rw [Int.toNat_natCast];exact hi)) ?_;refine qO (by kernel_rfl) ?_;refine qC ?_;refine qB ?_;refine qL ?_;exact ⟨rfl,⟨rfl,rfl⟩,rfl⟩
    ·refine qI [3] (by kernel_rfl) rfl ?_;refine qJ 6 rfl rfl rfl (by kernel_rfl) ?_;refine zai (by first|omega|assumption|decide|(simp only [];omega)|(simp <;> omega)) ?_;refine qI [7] (by kernel_rfl) rfl ?_;refine qI [8] (by kernel_rfl) rfl ?_;refine zai (by (rw [Int.toNat_natCast];exact hi)) ?_;refine qO (by kernel_rfl) ?_;refine qC ?_;refine qB ?_;refine qL ?_;exact ⟨rfl,⟨rfl,rfl⟩,rfl⟩
theorem lIns_no {κ : Nat} (es : List Ent) (n m id : Int) (f : List Fld) (h : atE es id < 0) (h0 : id ≠ 0) : qR Tryz.prog 85 [.one (.own 0 0),ii .i64 id,.one (.slk κ rFld f)] (lsO (es,n,m)) 2 (.tup [(false,[.lit (.int .i64 0)]),(false,[errN 7])]) (lsO (es,n,m)) 2:=by
  refine qP (rs:=[6,7]) Tryz.func85 rfl rfl rfl teOk (by decide) rfl ?_;refine qC ?_;refine qB ?_;refine qC ?_;refine qB ?_;refine Or.inr (Or.inr (Or.inl ?_));refine zai rfl ?_;refine zei _ (zai (at_c es n m id) ?_);refine qC ?_;refine qC ?_;refine qB ?_;refine zai (fun h=>trivial) ?_;refine zai (fun h=>⟨⟨h,trivial⟩,trivial⟩) ?_;refine zai (fun h=>⟨⟨h,trivial⟩,trivial⟩) ?_;refine zai (fun h=>trivial) ?_;refine zai (fun h=>⟨⟨h,trivial⟩,trivial⟩) ?_;refine zai (fun h=>⟨⟨⟨h,trivial⟩,trivial⟩,by first|exact fun h2=>h2|(intro h2;rw [h,h2];rfl)|(intro h2;cases h2)|(intro h2;simp_all [gq])⟩) ?_;refine zai (by first|(intro h;rw [h];rfl)|(intro h;cases h)) ?_;refine qK rfl (fun h24=>?_) (fun h24=>?_)
  ·try simp only [decide_eq_true_eq,decide_eq_false_iff_not,Bool.and_eq_true,Bool.not_eq_true',Bool.or_eq_true] at h24
   try simp only [zds] at h24
   refine qC ?_;refine qB ?_;refine qL ?_;exact ⟨rfl,⟨rfl,rfl⟩,rfl⟩
  ·try simp only [decide_eq_true_eq,decide_eq_false_iff_not,Bool.not_eq_false',Bool.or_eq_false_iff,Bool.and_eq_false_iff,Int.not_lt] at h24
   try simp only [zds] at h24
   simp at h24;omega
theorem lIns_bad {κ : Nat} (es : List Ent) (n m id : Int) (f : List Fld) (h : ¬ (atE es id < 0 ∧ id ≠ 0)) (hf : yA f) (hc : (chkR f).2 ≠ 0) : qR Tryz.prog 85 [.one (.own 0 0),ii .i64 id,.one (.slk κ rFld f)] (lsO (es,n,m)) 2 (.tup [(false,[.lit (.int .i64 0)]),(false,[chkA f])]) (lsO (es,n,m)) 2:=by
  have hpi:=pitem_err (κ:=κ) hf hc;obtain ⟨e,he,hs⟩:=chk_bad hc;rw [he] at hpi ⊢;rcases hs with ⟨x,hx,rfl,_⟩|⟨j,x,hx,rfl,_⟩
  ·
    refine qP (rs:=[6,7]) Tryz.func85 rfl rfl rfl teOk (by decide) rfl ?_;refine qC ?_;refine qB ?_;refine qC ?_;refine qB ?_;refine Or.inr (Or.inr (Or.inl ?_));refine zai rfl ?_;refine zei _ (zai (at_c es n m id) ?_);refine qC ?_;refine qC ?_;refine qB ?_;refine zai (fun h=>trivial) ?_;refine zai (fun h=>⟨⟨h,trivial⟩,trivial⟩) ?_;refine zai (fun h=>⟨⟨h,trivial⟩,trivial⟩) ?_;refine zai (fun h=>trivial) ?_;refine zai (fun h=>⟨⟨h,trivial⟩,trivial⟩) ?_;refine zai (fun h=>⟨⟨⟨h,trivial⟩,trivial⟩,by first|exact fun h2=>h2|(intro h2;rw [h,h2];rfl)|(intro h2;cases h2)|(intro h2;simp_all [gq])⟩) ?_;refine zai (by first|(intro h;rw [h];rfl)|(intro h;cases h)) ?_;refine qK rfl (fun h24=>?_) (fun h24=>?_)
    ·try simp only [decide_eq_true_eq,decide_eq_false_iff_not,Bool.and_eq_true,Bool.not_eq_true',Bool.or_eq_true] at h24
     try simp only [zds] at h24
     exact absurd (by simpa using h24) h
    ·try simp only [decide_eq_true_eq,decide_eq_false_iff_not,Bool.not_eq_false',Bool.or_eq_false_iff,Bool.and_eq_false_iff,Int.not_lt] at h24
     try simp only [zds] at h24
     refine qM ?_;refine qC ?_;refine qB ?_;refine Or.inl ?_;refine zai (rfl) ?_;refine zei _ (zai (hpi) ?_);refine qC ?_;refine qN ?_;refine qC ?_;refine qB ?_;refine qK rfl (fun h31=>?_) (fun h31=>?_)
     ·skip
      refine qC ?_;refine qB ?_;refine qL ?_;exact ⟨rfl,⟨rfl,rfl⟩,rfl⟩
     ·try simp only [zbq] at h31
      try simp only [zds] at h31
      cases h31
  ·
    refine qP (rs:=[6,7]) Tryz.func85 rfl rfl rfl teOk (by decide) rfl ?_;refine qC ?_;refine qB ?_;refine qC ?_;refine qB ?_;refine Or.inr (Or.inr (Or.inl ?_));refine zai rfl ?_;refine zei _ (zai (at_c es n m id) ?_);refine qC ?_;refine qC ?_;refine qB ?_;refine zai (fun h=>trivial) ?_;refine zai (fun h=>⟨⟨h,trivial⟩,trivial⟩) ?_;refine zai (fun h=>⟨⟨h,trivial⟩,trivial⟩) ?_;refine zai (fun h=>trivial) ?_;refine zai (fun h=>⟨⟨h,trivial⟩,trivial⟩) ?_;refine zai (fun h=>⟨⟨⟨h,trivial⟩,trivial⟩,by first|exact fun h2=>h2|(intro h2;rw [h,h2];rfl)|(intro h2;cases h2)|(intro h2;simp_all [gq])⟩) ?_;refine zai (by first|(intro h;rw [h];rfl)|(intro h;cases h)) ?_;refine qK rfl (fun h24=>?_) (fun h24=>?_)
    ·try simp only [decide_eq_true_eq,decide_eq_false_iff_not,Bool.and_eq_true,Bool.not_eq_true',Bool.or_eq_true] at h24
     try simp only [zds] at h24
     exact absurd (by simpa using h24) h
    ·try simp only [decide_eq_true_eq,decide_eq_false_iff_not,Bool.not_eq_false',Bool.or_eq_false_iff,Bool.and_eq_false_iff,Int.not_lt] at h24
     try simp only [zds] at h24
     refine qM ?_;refine qC ?_;refine qB ?_;refine Or.inl ?_;refine zai (rfl) ?_;refine zei _ (zai (hpi) ?_);refine qC ?_;refine qN ?_;refine qC ?_;refine qB ?_;refine qK rfl (fun h31=>?_) (fun h31=>?_)
     ·skip
      refine qC ?_;refine qB ?_;refine qL ?_;exact ⟨rfl,⟨rfl,rfl⟩,rfl⟩
     ·try simp only [zbq] at h31
      try simp only [zds] at h31
      cases h31
theorem lIns_full {κ : Nat} (es : List Ent) (n m id : Int) (f : List Fld) (h : ¬ (atE es id < 0 ∧ id ≠ 0)) (hf : yA f) (hc : (chkR f).2 = 0) (hm : 400 ≤ m) : qR Tryz.prog 85 [.one (.own 0 0),ii .i64 id,.one (.slk κ rFld f)] (lsO (es,n,m)) 2 (.tup [(false,[.lit (.int .i64 0)]),(false,[errN 11])]) (lsO (es,n,m)) 2:=by
  refine qP (rs:=[6,7]) Tryz.func85 rfl rfl rfl teOk (by decide) rfl ?_;refine qC ?_;refine qB ?_;refine qC ?_;refine qB ?_;refine Or.inr (Or.inr (Or.inl ?_));refine zai rfl ?_;refine zei _ (zai (at_c es n m id) ?_);refine qC ?_;refine qC ?_;refine qB ?_;refine zai (fun h=>trivial) ?_;refine zai (fun h=>⟨⟨h,trivial⟩,trivial⟩) ?_;refine zai (fun h=>⟨⟨h,trivial⟩,trivial⟩) ?_;refine zai (fun h=>trivial) ?_;refine zai (fun h=>⟨⟨h,trivial⟩,trivial⟩) ?_;refine zai (fun h=>⟨⟨⟨h,trivial⟩,trivial⟩,by first|exact fun h2=>h2|(intro h2;rw [h,h2];rfl)|(intro h2;cases h2)|(intro h2;simp_all [gq])⟩) ?_;refine zai (by first|(intro h;rw [h];rfl)|(intro h;cases h)) ?_;refine qK rfl (fun h24=>?_) (fun h24=>?_)
  ·try simp only [decide_eq_true_eq,decide_eq_false_iff_not,Bool.and_eq_true,Bool.not_eq_true',Bool.or_eq_true] at h24
   try simp only [zds] at h24
   exact absurd (by simpa using h24) h
  ·try simp only [decide_eq_true_eq,decide_eq_false_iff_not,Bool.not_eq_false',Bool.or_eq_false_iff,Bool.and_eq_false_iff,Int.not_lt] at h24
   try simp only [zds] at h24
   refine qM ?_;refine qC ?_;refine qB ?_;refine Or.inl ?_;refine zai (rfl) ?_;refine zei _ (zai (pitem_ok hf hc) ?_);refine qC ?_;refine qN ?_;refine qC ?_;refine qB ?_;refine qK rfl (fun h31=>?_) (fun h31=>?_)
   ·try simp only [Bool.not_eq_true'] at h31
    try simp only [zds] at h31
    cases h31
   ·try simp only [Bool.not_eq_false'] at h31
    try simp only [zds] at h31
    refine qC ?_;refine qB ?_;refine qK rfl (fun h35=>?_) (fun h35=>?_)
    ·try simp only [decide_eq_true_eq] at h35
     try simp only [zds] at h35
     refine qC ?_;refine qB ?_;refine qL ?_;exact ⟨rfl,⟨rfl,rfl⟩,rfl⟩
    ·try simp only [decide_eq_false_iff_not,Int.not_le] at h35
     try simp only [zds] at h35
     omega
theorem lIns_ok {κ : Nat} (es : List Ent) (n m id : Int) (f : List Fld) (j : Nat) (hj : j ≤ es.length) (h : ¬ (atE es id < 0 ∧ id ≠ 0)) (ha : atE es id + 1 = (j : Int)) (hf : yA f) (hc : (chkR f).2 = 0) (hm : 0 ≤ m ∧ m < 400) (hn : 0 ≤ n ∧ n ≤ 1000000000) (hl : es.length ≤ 1000000) : qR Tryz.prog 85 [.one (.own 0 0),ii .i64 id,.one (.slk κ rFld f)] (lsO (es,n,m)) 2 (.tup [(false,[.lit (.int .i64 n)]),(false,[.lit .nilIface])]) (lsO (insE es j (itmOf f,n),n + 1,m + 1)) 2:=by
  have hins:=insert_x es (itmOf f,n) j hj hl;rw [← ha] at hins;refine qP (rs:=[6,7]) Tryz.func85 rfl rfl rfl teOk (by decide) rfl ?_;refine qC ?_;refine qB ?_;refine qC ?_;refine qB ?_;refine Or.inr (Or.inr (Or.inl ?_));refine zai rfl ?_;refine zei _ (zai (at_c es n m id) ?_);refine qC ?_;refine qC ?_;refine qB ?_;refine zai (fun h=>trivial) ?_;refine zai (fun h=>⟨⟨h,trivial⟩,trivial⟩) ?_;refine zai (fun h=>⟨⟨h,trivial⟩,trivial⟩) ?_;refine zai (fun h=>trivial) ?_;refine zai (fun h=>⟨⟨h,trivial⟩,trivial⟩) ?_;refine zai (fun h=>⟨⟨⟨h,trivial⟩,trivial⟩,by first|exact fun h2=>h2|(intro h2;rw [h,h2];rfl)|(intro h2;cases h2)|(intro h2;simp_all [gq])⟩) ?_;refine zai (by first|(intro h;rw [h];rfl)|(intro h;cases h)) ?_;refine qK rfl (fun h24=>?_) (fun h24=>?_)
  ·try simp only [decide_eq_true_eq,decide_eq_false_iff_not,Bool.and_eq_true,Bool.not_eq_true',Bool.or_eq_true] at h24
   try simp only [zds] at h24
   exact absurd (by simpa using h24) h
  ·try simp only [decide_eq_true_eq,decide_eq_false_iff_not,Bool.not_eq_false',Bool.or_eq_false_iff,Bool.and_eq_false_iff,Int.not_lt] at h24
   try simp only [zds] at h24
   refine qM ?_;refine qC ?_;refine qB ?_;refine Or.inl ?_;refine zai (rfl) ?_;refine zei _ (zai (pitem_ok hf hc) ?_);refine qC ?_;refine qN ?_;refine qC ?_;refine qB ?_;refine qK rfl (fun h31=>?_) (fun h31=>?_)
   ·try simp only [Bool.not_eq_true'] at h31
    try simp only [zds] at h31
    cases h31
   ·try simp only [Bool.not_eq_false'] at h31
    try simp only [zds] at h31
    refine qC ?_;refine qB ?_;refine qK rfl (fun h35=>?_) (fun h35=>?_)
    ·try simp only [decide_eq_true_eq] at h35
     try simp only [zds] at h35
     omega
    ·try simp only [decide_eq_false_iff_not,Int.not_le] at h35
     try simp only [zds] at h35
     refine qM ?_;refine qC ?_;refine qB ?_;refine qC ?_;refine xB rfl ?_;refine qJ 0 rfl rfl rfl (by kernel_rfl) ?_;refine qJ 1 rfl rfl rfl (by kernel_rfl) ?_;refine qJ 2 rfl rfl rfl (by kernel_rfl) ?_;refine qJ 3 rfl rfl rfl (by kernel_rfl) ?_;refine qJ 5 rfl rfl rfl (by kernel_rfl) ?_;refine qJ 6 rfl rfl rfl (by kernel_rfl) ?_;refine zai (by first|omega|assumption|decide|(simp only [zds];omega)|(simp <;> omega)) ?_;refine qJ 8 rfl rfl rfl (by kernel_rfl) ?_;refine qI [4,7] (by kernel_rfl) rfl ?_;refine zai ?_ ?_
     ·refine qI [7] (by kernel_rfl) rfl ?_;refine qI [9] (by kernel_rfl) rfl ?_;refine qI [10] (by kernel_rfl) rfl ?_;refine qI [11] (by kernel_rfl) rfl ?_;refine Or.inr (Or.inr (Or.inr (zei [1,3] (zei [] (zei _ (zei _ (zei _ (zei _ (zei _ (zai (hins) (zai rfl (zai (zai (zai rfl rfl) (zai (zai rfl rfl) True.intro)) (zai rfl ?_)))))))))))));refine qJ 12 rfl rfl rfl (by kernel_rfl) ?_;refine qJ 13 rfl rfl rfl (by kernel_rfl) ?_;refine qI [14] (by kernel_rfl) rfl ?_;refine qO (by kernel_rfl) ?_;refine qC ?_;refine qB ?_;refine zai (by first|omega|assumption|decide|(simp only [];omega)|(simp <;> omega)) ?_;refine qC ?_;refine qB ?_;refine zai (by first|omega|assumption|decide|(simp only [];omega)|(simp <;> omega)) ?_;refine qC ?_;refine qB ?_;refine qL ?_;exact ⟨rfl,⟨rfl,rfl⟩,rfl⟩
     ·refine qI [4,9] (by kernel_rfl) rfl ?_;refine zai ?_ ?_
      ·refine qI [9] (by kernel_rfl) rfl ?_;refine qI [10] (by kernel_rfl) rfl ?_;refine qI [11] (by kernel_rfl) rfl ?_;refine Or.inr (Or.inr (Or.inr (zei [1,3] (zei [] (zei _ (zei _ (zei _ (zei _ (zei _ (zai (hins) (zai rfl (zai (zai (zai rfl rfl) (zai (zai rfl rfl) True.intro)) (zai rfl ?_)))))))))))));refine qJ 12 rfl rfl rfl (by kernel_rfl) ?_;refine qJ 13 rfl rfl rfl (by kernel_rfl) ?_;refine qI [14] (by kernel_rfl) rfl ?_;refine qO (by kernel_rfl) ?_;refine qC ?_;refine qB ?_;refine zai (by first|omega|assumption|decide|(simp only [];omega)|(simp <;> omega)) ?_;refine qC ?_;refine qB ?_;refine zai (by first|omega|assumption|decide|(simp only [];omega)|(simp <;> omega)) ?_;refine qC ?_;refine qB ?_;refine qL ?_;exact ⟨rfl,⟨rfl,rfl⟩,rfl⟩
      ·refine qI [4,10] (by kernel_rfl) rfl ?_;refine zai ?_ ?_
       ·refine qI [10] (by kernel_rfl) rfl ?_;refine qI [11] (by kernel_rfl) rfl ?_;refine Or.inr (Or.inr (Or.inr (zei [1,3] (zei [] (zei _ (zei _ (zei _ (zei _ (zei _ (zai (hins) (zai rfl (zai (zai (zai rfl rfl) (zai (zai rfl rfl) True.intro)) (zai rfl ?_)))))))))))));refine qJ 12 rfl rfl rfl (by kernel_rfl) ?_;refine qJ 13 rfl rfl rfl (by kernel_rfl) ?_;refine qI [14] (by kernel_rfl) rfl ?_;refine qO (by kernel_rfl) ?_;refine qC ?_;refine qB ?_;refine zai (by first|omega|assumption|decide|(simp only [];omega)|(simp <;> omega)) ?_;refine qC ?_;refine qB ?_;refine zai (by first|omega|assumption|decide|(simp only [];omega)|(simp <;> omega)) ?_;refine qC ?_;refine qB ?_;refine qL ?_;exact ⟨rfl,⟨rfl,rfl⟩,rfl⟩
       ·refine qI [4] (by kernel_rfl) rfl ?_;refine qI [11] (by kernel_rfl) rfl ?_;refine Or.inr (Or.inr (Or.inr (zei [1,3] (zei [] (zei _ (zei _ (zei _ (zei _ (zei _ (zai (hins) (zai rfl (zai (zai (zai rfl rfl) (zai (zai rfl rfl) True.intro)) (zai rfl ?_)))))))))))));refine qJ 12 rfl rfl rfl (by kernel_rfl) ?_;refine qJ 13 rfl rfl rfl (by kernel_rfl) ?_;refine qI [14] (by kernel_rfl) rfl ?_;refine qO (by kernel_rfl) ?_;refine qC ?_;refine qB ?_;refine zai (by first|omega|assumption|decide|(simp only [];omega)|(simp <;> omega)) ?_;refine qC ?_;refine qB ?_;refine zai (by first|omega|assumption|decide|(simp only [];omega)|(simp <;> omega)) ?_;refine qC ?_;refine qB ?_;refine qL ?_;exact ⟨rfl,⟨rfl,rfl⟩,rfl⟩
end Q
end Ab
end Go.Proofs.YtpfkncffaanjcaaGreatDoor
namespace Go.Proofs.YtpfkncffaanjcaaGreatDoor
open Go.RowKit
namespace Ab
set_option maxRecDepth 100000
abbrev Edt:=Int × Int × List Fld
abbrev rEdt : Rd Edt:=.st (.int .i64) (.st (.int .i64) (.sl rFld))
namespace Q
def heavyB (l : List Edt) : Bool:=decide (51 < l.length) || l.any fun e=>muchB e.2.2
def spF : Fld:=(⟨#[115,112,111,105,108,116]⟩,⟨#[115,112,111,105,108,116]⟩)
end Q
end Ab
end Go.Proofs.YtpfkncffaanjcaaGreatDoor
namespace Go.Proofs.YtpfkncffaanjcaaGreatDoor
open Go.RowKit
namespace Ab
set_option maxRecDepth 100000
namespace Q
theorem itEs_len (es : List Ent) : (itEs es).length = (es.filter live).length:=List.length_map _
theorem itEs_get (es : List Ent) {i : Nat} (h : i < (itEs es).length) : ∃ e ∈ es,(es.filter live).getD i (((0 : Int),ByteArray.empty,([] : List Fld)),(0 : Int)) = e ∧ i < (es.filter live).length ∧ (itEs es)[i] = [A.agg (toL rEnt e)]:=by
  have h1 : i < (es.filter live).length:=by rw [← itEs_len];exact h
  refine ⟨_,(List.mem_filter.1 (xK h1 (((0 : Int),ByteArray.empty,([] : List Fld)),(0 : Int)))).1,rfl,h1,?_⟩;exact (List.getElem_map (fun e=>[A.agg (toL rEnt e)])).trans (congrArg (fun e=>[A.agg (toL rEnt e)]) (getD_get h1 (((0 : Int),ByteArray.empty,([] : List Fld)),(0 : Int))))
def stT (es : List Ent) (i : Nat) : List Stz:=((es.filter live).take i).map stzOf
theorem stT_snoc {es : List Ent} {i : Nat} (h : i < (es.filter live).length) : stT es (i + 1) = stT es i ++ [stzOf ((es.filter live).getD i (((0 : Int),ByteArray.empty,([] : List Fld)),(0 : Int)))]:=by
  unfold stT;rw [← xA (((0 : Int),ByteArray.empty,([] : List Fld)),(0 : Int)) h,List.map_append];rfl
theorem stT_len {es : List Ent} {i : Nat} : (stT es i).length ≤ i:=by
  unfold stT;rw [List.length_map,List.length_take];omega
theorem live_len (es : List Ent) : (es.filter live).length ≤ es.length:=List.length_filter_le _ _
theorem stanzasL_c {k : Nat} (es : List Ent) (n m : Int) (hl : es.length ≤ 1000000) (hf : ∀ e ∈ es,e.1.2.2.length ≤ 1000000) : qU Tryz.prog 23 [.one (.adk k (rLst k) (es,n,m))] (.one (.sl rStz (stzL es))):=by
  have hll:=live_len es;refine qT (rs:=[2]) Tryz.func23 rfl rfl rfl teOk rfl ?_;refine qC ?_;refine qB ?_;refine qC ?_;refine qB ?_;refine qC ?_;refine qC ?_;refine qB ?_;refine Or.inl ?_;refine zai (rfl) ?_;refine zei _ (zai (all_c (es,n,m)) ?_);refine qN ?_;refine yD 0 0 104 rStz rfl rfl rfl ?_;refine acode_range (caps:=[.one (.ref (.adk k (rLst k) (es,n,m)))]) (xs:=itEs es) [(3,.one (.own 0 0)),(6,.one (.clo 95 (.ref (.adk k (rLst k) (es,n,m)))))] 2 (fun st j (i : Nat)=>st = false ∧ i = j) (fun i=>[(0,.box 49 [.vec 1]),(1,.vec 104 rStz (stT es i))]) (fun _=>.ret) 0 rfl rfl (all_iter es n m) (qV ⟨rfl,rfl⟩ ⟨rfl,rfl⟩ rfl) ⟨rfl,rfl⟩ (fun j hj=>by simp [itEs]) rfl rfl rfl (fun _ _ _=>rfl) rfl ?_ ?_ ?_
  ·intro j i hk hp;obtain ⟨_,rfl⟩:=hp;obtain ⟨e,he,hg,hi,hx⟩:=itEs_get es hk;rw [hx];have hsn:=stT_snoc hi;rw [hg] at hsn;have hsl:=@stT_len es i;refine qB ?_;refine qN ?_;refine xB rfl ?_;refine qJ 1 rfl rfl rfl (by kernel_rfl) ?_;refine qJ 3 rfl rfl rfl (by kernel_rfl) ?_;refine qJ 4 rfl rfl rfl (by kernel_rfl) ?_;refine qI [0,2,5] (by kernel_rfl) rfl ?_;refine zai ?_ ?_
   ·refine qI [2,5] (by kernel_rfl) rfl ?_;refine zai ?_ ?_
    ·refine qI [5] (by kernel_rfl) rfl ?_;refine qI [6] (by kernel_rfl) rfl ?_;refine Or.inl ?_;refine zai (rfl) ?_;refine zei _ (zai (clone_c e.1.2.2 (hf e he)) ?_);refine qI [7] (by kernel_rfl) rfl ?_;refine qI [8] (by kernel_rfl) rfl ?_;refine qI [9] (by kernel_rfl) rfl ?_;refine zai (by exact qQ (show (stT es i).length + 1 ≤ 1000000000 by omega) (by decide)) ?_;refine qI [10] (by kernel_rfl) rfl ?_;refine qO (by kernel_rfl) ?_;exact ⟨i + 1,⟨rfl,rfl⟩,qV trivial ⟨rfl,yN (by rw [hsn];exact rfl)⟩ rfl⟩
    ·refine qI [2,6] (by kernel_rfl) rfl ?_;refine zai ?_ ?_
     ·refine qI [6] (by kernel_rfl) rfl ?_;refine Or.inl ?_;refine zai (rfl) ?_;refine zei _ (zai (clone_c e.1.2.2 (hf e he)) ?_);refine qI [7] (by kernel_rfl) rfl ?_;refine qI [8] (by kernel_rfl) rfl ?_;refine qI [9] (by kernel_rfl) rfl ?_;refine zai (by exact qQ (show (stT es i).length + 1 ≤ 1000000000 by omega) (by decide)) ?_;refine qI [10] (by kernel_rfl) rfl ?_;refine qO (by kernel_rfl) ?_;exact ⟨i + 1,⟨rfl,rfl⟩,qV trivial ⟨rfl,yN (by rw [hsn];exact rfl)⟩ rfl⟩
     ·refine Or.inl ?_;refine zai (rfl) ?_;refine zei _ (zai (clone_c e.1.2.2 (hf e he)) ?_);refine qI [2] (by kernel_rfl) rfl ?_;refine qI [7] (by kernel_rfl) rfl ?_;refine qI [8] (by kernel_rfl) rfl ?_;refine qI [9] (by kernel_rfl) rfl ?_;refine zai (by exact qQ (show (stT es i).length + 1 ≤ 1000000000 by omega) (by decide)) ?_;refine qI [10] (by kernel_rfl) rfl ?_;refine qO (by kernel_rfl) ?_;exact ⟨i + 1,⟨rfl,rfl⟩,qV trivial ⟨rfl,yN (by rw [hsn];exact rfl)⟩ rfl⟩
   refine zai ?_ ?_
   ·refine qI [0,5] (by kernel_rfl) rfl ?_;refine zai ?_ ?_
    ·refine qI [5] (by kernel_rfl) rfl ?_;refine qI [6] (by kernel_rfl) rfl ?_;refine Or.inl ?_;refine zai (rfl) ?_;refine zei _ (zai (clone_c e.1.2.2 (hf e he)) ?_);refine qI [7] (by kernel_rfl) rfl ?_;refine qI [8] (by kernel_rfl) rfl ?_;refine qI [9] (by kernel_rfl) rfl ?_;refine zai (by exact qQ (show (stT es i).length + 1 ≤ 1000000000 by omega) (by decide)) ?_;refine qI [10] (by kernel_rfl) rfl ?_;refine qO (by kernel_rfl) ?_;exact ⟨i + 1,⟨rfl,rfl⟩,qV trivial ⟨rfl,yN (by rw [hsn];exact rfl)⟩ rfl⟩
    ·refine qI [0,6] (by kernel_rfl) rfl ?_;refine zai ?_ ?_
     ·refine qI [6] (by kernel_rfl) rfl ?_;refine Or.inl ?_;refine zai (rfl) ?_;refine zei _ (zai (clone_c e.1.2.2 (hf e he)) ?_);refine qI [7] (by kernel_rfl) rfl ?_;refine qI [8] (by kernel_rfl) rfl ?_;refine qI [9] (by kernel_rfl) rfl ?_;refine zai (by exact qQ (show (stT es i).length + 1 ≤ 1000000000 by omega) (by decide)) ?_;refine qI [10] (by kernel_rfl) rfl ?_;refine qO (by kernel_rfl) ?_;exact ⟨i + 1,⟨rfl,rfl⟩,qV trivial ⟨rfl,yN (by rw [hsn];exact rfl)⟩ rfl⟩
     ·refine Or.inl ?_;refine zai (rfl) ?_;refine zei _ (zai (clone_c e.1.2.2 (hf e he)) ?_);refine qI [0,7] (by kernel_rfl) rfl ?_;refine zai ?_ ?_
      ·refine qI [7] (by kernel_rfl) rfl ?_;refine qI [8] (by kernel_rfl) rfl ?_;refine qI [9] (by kernel_rfl) rfl ?_;refine zai (by exact qQ (show (stT es i).length + 1 ≤ 1000000000 by omega) (by decide)) ?_;refine qI [10] (by kernel_rfl) rfl ?_;refine qO (by kernel_rfl) ?_;exact ⟨i + 1,⟨rfl,rfl⟩,qV trivial ⟨rfl,yN (by rw [hsn];exact rfl)⟩ rfl⟩
      ·refine qI [0,8] (by kernel_rfl) rfl ?_;refine zai ?_ ?_
       ·refine qI [8] (by kernel_rfl) rfl ?_;refine qI [9] (by kernel_rfl) rfl ?_;refine zai (by exact qQ (show (stT es i).length + 1 ≤ 1000000000 by omega) (by decide)) ?_;refine qI [10] (by kernel_rfl) rfl ?_;refine qO (by kernel_rfl) ?_;exact ⟨i + 1,⟨rfl,rfl⟩,qV trivial ⟨rfl,yN (by rw [hsn];exact rfl)⟩ rfl⟩
       ·refine qI [0] (by kernel_rfl) rfl ?_;refine qI [9] (by kernel_rfl) rfl ?_;refine zai (by exact qQ (show (stT es i).length + 1 ≤ 1000000000 by omega) (by decide)) ?_;refine qI [10] (by kernel_rfl) rfl ?_;refine qO (by kernel_rfl) ?_;exact ⟨i + 1,⟨rfl,rfl⟩,qV trivial ⟨rfl,yN (by rw [hsn];exact rfl)⟩ rfl⟩
   ·refine qI [0,2,6] (by kernel_rfl) rfl ?_;refine zai ?_ ?_
    ·refine qI [2,6] (by kernel_rfl) rfl ?_;refine zai ?_ ?_
     ·refine qI [6] (by kernel_rfl) rfl ?_;refine Or.inl ?_;refine zai (rfl) ?_;refine zei _ (zai (clone_c e.1.2.2 (hf e he)) ?_);refine qI [7] (by kernel_rfl) rfl ?_;refine qI [8] (by kernel_rfl) rfl ?_;refine qI [9] (by kernel_rfl) rfl ?_;refine zai (by exact qQ (show (stT es i).length + 1 ≤ 1000000000 by omega) (by decide)) ?_;refine qI [10] (by kernel_rfl) rfl ?_;refine qO (by kernel_rfl) ?_;exact ⟨i + 1,⟨rfl,rfl⟩,qV trivial ⟨rfl,yN (by rw [hsn];exact rfl)⟩ rfl⟩
     ·refine Or.inl ?_;refine zai (rfl) ?_;refine zei _ (zai (clone_c e.1.2.2 (hf e he)) ?_);refine qI [2] (by kernel_rfl) rfl ?_;refine qI [7] (by kernel_rfl) rfl ?_;refine qI [8] (by kernel_rfl) rfl ?_;refine qI [9] (by kernel_rfl) rfl ?_;refine zai (by exact qQ (show (stT es i).length + 1 ≤ 1000000000 by omega) (by decide)) ?_;refine qI [10] (by kernel_rfl) rfl ?_;refine qO (by kernel_rfl) ?_;exact ⟨i + 1,⟨rfl,rfl⟩,qV trivial ⟨rfl,yN (by rw [hsn];exact rfl)⟩ rfl⟩
    refine zai ?_ ?_
    ·refine qI [0,6] (by kernel_rfl) rfl ?_;refine zai ?_ ?_
     ·refine qI [6] (by kernel_rfl) rfl ?_;refine Or.inl ?_;refine zai (rfl) ?_;refine zei _ (zai (clone_c e.1.2.2 (hf e he)) ?_);refine qI [7] (by kernel_rfl) rfl ?_;refine qI [8] (by kernel_rfl) rfl ?_;refine qI [9] (by kernel_rfl) rfl ?_;refine zai (by exact qQ (show (stT es i).length + 1 ≤ 1000000000 by omega) (by decide)) ?_;refine qI [10] (by kernel_rfl) rfl ?_;refine qO (by kernel_rfl) ?_;exact ⟨i + 1,⟨rfl,rfl⟩,qV trivial ⟨rfl,yN (by rw [hsn];exact rfl)⟩ rfl⟩
     ·refine Or.inl ?_;refine zai (rfl) ?_;refine zei _ (zai (clone_c e.1.2.2 (hf e he)) ?_);refine qI [0,7] (by kernel_rfl) rfl ?_;refine zai ?_ ?_
      ·refine qI [7] (by kernel_rfl) rfl ?_;refine qI [8] (by kernel_rfl) rfl ?_;refine qI [9] (by kernel_rfl) rfl ?_;refine zai (by exact qQ (show (stT es i).length + 1 ≤ 1000000000 by omega) (by decide)) ?_;refine qI [10] (by kernel_rfl) rfl ?_;refine qO (by kernel_rfl) ?_;exact ⟨i + 1,⟨rfl,rfl⟩,qV trivial ⟨rfl,yN (by rw [hsn];exact rfl)⟩ rfl⟩
      ·refine qI [0,8] (by kernel_rfl) rfl ?_;refine zai ?_ ?_
       ·refine qI [8] (by kernel_rfl) rfl ?_;refine qI [9] (by kernel_rfl) rfl ?_;refine zai (by exact qQ (show (stT es i).length + 1 ≤ 1000000000 by omega) (by decide)) ?_;refine qI [10] (by kernel_rfl) rfl ?_;refine qO (by kernel_rfl) ?_;exact ⟨i + 1,⟨rfl,rfl⟩,qV trivial ⟨rfl,yN (by rw [hsn];exact rfl)⟩ rfl⟩
       ·refine qI [0] (by kernel_rfl) rfl ?_;refine qI [9] (by kernel_rfl) rfl ?_;refine zai (by exact qQ (show (stT es i).length + 1 ≤ 1000000000 by omega) (by decide)) ?_;refine qI [10] (by kernel_rfl) rfl ?_;refine qO (by kernel_rfl) ?_;exact ⟨i + 1,⟨rfl,rfl⟩,qV trivial ⟨rfl,yN (by rw [hsn];exact rfl)⟩ rfl⟩
    ·refine Or.inl ?_;refine zai (rfl) ?_;refine zei _ (zai (clone_c e.1.2.2 (hf e he)) ?_);refine qI [0,2] (by kernel_rfl) rfl ?_;refine zai ?_ ?_
     ·refine qI [2] (by kernel_rfl) rfl ?_;refine qI [7] (by kernel_rfl) rfl ?_;refine qI [8] (by kernel_rfl) rfl ?_;refine qI [9] (by kernel_rfl) rfl ?_;refine zai (by exact qQ (show (stT es i).length + 1 ≤ 1000000000 by omega) (by decide)) ?_;refine qI [10] (by kernel_rfl) rfl ?_;refine qO (by kernel_rfl) ?_;exact ⟨i + 1,⟨rfl,rfl⟩,qV trivial ⟨rfl,yN (by rw [hsn];exact rfl)⟩ rfl⟩
     ·refine qI [0,7] (by kernel_rfl) rfl ?_;refine zai ?_ ?_
      ·refine qI [7] (by kernel_rfl) rfl ?_;refine qI [8] (by kernel_rfl) rfl ?_;refine qI [9] (by kernel_rfl) rfl ?_;refine zai (by exact qQ (show (stT es i).length + 1 ≤ 1000000000 by omega) (by decide)) ?_;refine qI [10] (by kernel_rfl) rfl ?_;refine qO (by kernel_rfl) ?_;exact ⟨i + 1,⟨rfl,rfl⟩,qV trivial ⟨rfl,yN (by rw [hsn];exact rfl)⟩ rfl⟩
      ·refine qI [0,8] (by kernel_rfl) rfl ?_;refine zai ?_ ?_
       ·refine qI [8] (by kernel_rfl) rfl ?_;refine qI [9] (by kernel_rfl) rfl ?_;refine zai (by exact qQ (show (stT es i).length + 1 ≤ 1000000000 by omega) (by decide)) ?_;refine qI [10] (by kernel_rfl) rfl ?_;refine qO (by kernel_rfl) ?_;exact ⟨i + 1,⟨rfl,rfl⟩,qV trivial ⟨rfl,yN (by rw [hsn];exact rfl)⟩ rfl⟩
       ·refine qI [0] (by kernel_rfl) rfl ?_;refine qI [9] (by kernel_rfl) rfl ?_;refine zai (by exact qQ (show (stT es i).length + 1 ≤ 1000000000 by omega) (by decide)) ?_;refine qI [10] (by kernel_rfl) rfl ?_;refine qO (by kernel_rfl) ?_;exact ⟨i + 1,⟨rfl,rfl⟩,qV trivial ⟨rfl,yN (by rw [hsn];exact rfl)⟩ rfl⟩
  ·intro i hp;obtain ⟨_,rfl⟩:=hp;refine qC ?_;refine qB ?_;refine qL ?_;rw [show stT es (itEs es).length = stzL es from by unfold stT stzL;rw [itEs_len,List.take_length]];exact rfl
  ·intro j i hp;exact absurd hp.1 (by decide)
def SmallF (l : List Fld) : Prop:=∀ f ∈ l,f.1.size ≤ 1000 ∧ f.2.size ≤ 1000
structure GP (p : PSt) : Prop where
  flds : SmallF p.flds
  room : p.lns ≠ [] → p.full = false → p.flds.length < 40
  len : p.flds.length ≤ 40
  its : ∀ x ∈ p.its,SmallF x.2.2 ∧ x.2.2.length ≤ 40
theorem smallF_nil : SmallF []:=fun f hf=>by cases hf
theorem flush_gp {p q : PSt} (h : GP p) (hf : yH p = .inr q) : GP q:=by
  unfold yH at hf;split at hf
  · cases hf;exact h
  · rename_i h0;split at hf
    · cases hf
    · split at hf
      · cases hf
      · rename_i h1 h2;cases hf;have hr:=h.room h0 (by simpa using h2);refine ⟨fun f hf=>?_,fun h=>absurd rfl h,by simp only [List.length_append,List.length_cons,List.length_nil];omega,h.its⟩;rcases List.mem_append.1 hf with hf|hf
        · exact h.flds f hf
        · rw [List.mem_singleton.1 hf];rcases unf_cases (p.lns.map ls) with ⟨n,hn,e⟩|⟨k,v,e,hk,hv⟩
          · rw [e];exact ⟨by show (bytes []).size ≤ 1000;decide,by show (bytes []).size ≤ 1000;decide⟩
          · rw [e];simp only [yV];refine ⟨?_,hv⟩;unfold keyOk at hk;simp only [Bool.and_eq_true,decide_eq_true_eq] at hk;omega
theorem close_gp {q : PSt} (h : GP q) : GP (xF q):=by
  unfold xF;split
  · exact ⟨smallF_nil,fun _ _=>(by show 0 < 40;decide),(by show 0 ≤ 40;decide),h.its⟩
  · refine ⟨smallF_nil,fun _ _=>(by show 0 < 40;decide),(by show 0 ≤ 40;decide),fun x hx=>?_⟩;rcases List.mem_append.1 hx with hx|hx
    · exact h.its x hx
    · rw [List.mem_singleton.1 hx];exact ⟨h.flds,h.len⟩
theorem end_gp {p q : PSt} (h : GP p) (hf : endS p = .inr q) : GP q:=by
  unfold endS at hf;split at hf
  · cases hf
  · rename_i r e;cases hf;exact close_gp (flush_gp h e)
theorem begin_gp {p : PSt} (l : Lne) (h : GP p) : GP (xG p l):=by
  refine ⟨h.flds,fun _ hf=>?_,h.len,h.its⟩;have:=h.len;unfold xG at hf;simp only [Bool.or_eq_false_iff,decide_eq_false_iff_not] at hf;show p.flds.length < 40;omega
theorem ahead_gp {p q : PSt} {l : Lne} {k : Int} (h : GP p) (hf : yI p l k = .inr q) : GP q:=by
  unfold yI at hf;split at hf
  · split at hf
    · cases hf
    · rename_i h0;have h2 : GP { p with lns:=p.lns ++ [l.2.2.1] }:=⟨h.flds,fun _=>h.room h0,h.len,h.its⟩;split at hf
      · cases hf;exact h2
      · exact flush_gp h2 hf
  · split at hf
    · exact end_gp h hf
    · exact flush_gp h hf
theorem line_gp {p q : PSt} {l : Lne} {k : Int} (h : GP p) (hf : lineS p l k = .inr q) : GP q:=by
  unfold lineS at hf;split at hf
  · cases hf
  · split at hf
    · cases hf;refine ⟨h.flds,h.room,h.len,fun x hx=>?_⟩;rcases List.mem_append.1 hx with hx|hx
      · exact h.its x hx
      · rw [List.mem_singleton.1 hx];exact ⟨smallF_nil,by show 0 ≤ 40;decide⟩
    · split at hf
      · cases hf;have:=begin_gp l h;exact ⟨this.flds,this.room,this.len,this.its⟩
      · cases hf;exact ⟨h.flds,h.room,h.len,h.its⟩
theorem take_gp {p q : PSt} {l : Lne} (h : GP p) (hf : yL p l = .inr q) : GP q:=by
  unfold yL at hf;split at hf
  · cases hf
  · rename_i r e;exact line_gp (ahead_gp h e) hf
theorem run_gp : ∀ (L : List Lne) {p q : PSt},GP p → runS p L = .inr q → GP q
  | [],p,q,h,hf=>by
    cases hf;exact h
  | l :: r,p,q,h,hf=>by
    unfold runS at hf;split at hf
    · cases hf
    · rename_i t e;exact run_gp r (take_gp h e) hf
theorem items_small {s : ByteArray} {l : List Itm} (hp : yJ s = .inr l) : ∀ x ∈ l,SmallF x.2.2 ∧ x.2.2.length ≤ 40:=by
  unfold yJ at hp;split at hp
  · cases hp
  · rename_i p e;split at hp
    · cases hp
    · rename_i q e2;cases hp;exact (end_gp (run_gp _ ⟨smallF_nil,fun h=>absurd rfl h,by decide,fun x hx=>by cases hx⟩ e) e2).its
theorem fldsOk_of {l : List Fld} (h : SmallF l) (hl : l.length ≤ 40) : yA l:=⟨by omega,fun f hf=>by have:=h f hf;omega⟩
abbrev RLs:=List Ent × Int
abbrev rRL : Rd RLs:=.st (.sl rEnt) (.int .i64)
def doL (L : Lst) (e : Edt) : Lst :=
  if e.1 = 1 then
    if atE L.1 e.2.1 < 0 then L else if (chkR e.2.2).2 ≠ 0 then L else (replE L.1 (atE L.1 e.2.1).toNat (itmOf e.2.2),L.2)
  else if e.1 = 2 then
    if atE L.1 e.2.1 < 0 then L else (delE L.1 (atE L.1 e.2.1).toNat,L.2.1,L.2.2 - 1)
  else if atE L.1 e.2.1 < 0 ∧ e.2.1 ≠ 0 then L else if (chkR e.2.2).2 ≠ 0 then L else if 400 ≤ L.2.2 then L else
    (insE L.1 (atE L.1 e.2.1 + 1).toNat (itmOf e.2.2,L.2.1),L.2.1 + 1,L.2.2 + 1)
def refRep (M : RLs) (id : Int) (f : List Fld) : RLs × Int × Int :=
  if atE M.1 id < 0 then (M,-9,7) else if (chkR f).2 ≠ 0 then (M,(chkR f).1,(chkR f).2) else ((replE M.1 (atE M.1 id).toNat (itmOf f),M.2),-9,0)
def refDel (M : RLs) (id : Int) : RLs × Int :=
  if atE M.1 id < 0 then (M,7) else ((delE M.1 (atE M.1 id).toNat,M.2),0)
def refIns (M : RLs) (id : Int) (f : List Fld) : RLs × Int × Int × Int :=
  if atE M.1 id < 0 ∧ id ≠ 0 then (M,0,-9,7) else if (chkR f).2 ≠ 0 then (M,0,(chkR f).1,(chkR f).2) else if 400 ≤ ((M.1.filter live).length : Int) then (M,0,-9,11) else
    ((insE M.1 (atE M.1 id + 1).toNat (itmOf f,M.2),M.2 + 1),M.2,-9,0)
def posI (n : Int) : Bool:=decide (0 < n)
def nmsL (es : List Ent) : List Int:=(es.map (·.2)).filter posI
theorem ids_eq (es : List Ent) : (es.filter live).map (·.2) = nmsL es:=by
  unfold nmsL;rw [List.filter_map];rfl
theorem ids_len (es : List Ent) : (nmsL es).length = (es.filter live).length:=by rw [← ids_eq,List.length_map]
structure LOk (c : Nat) (L : Lst) : Prop where
  flds : ∀ e ∈ L.1,yA e.1.2.2
  ids : ∀ e ∈ L.1,0 ≤ e.2 ∧ e.2 < L.2.1
  nd : (nmsL L.1).Nodup
  many : L.2.2 = ((nmsL L.1).length : Int)
  next : 1 ≤ L.2.1 ∧ L.2.1 ≤ c
  len : L.1.length ≤ c
theorem ids_repl (es : List Ent) (i : Nat) (x : Itm) (h : i < es.length) : (replE es i x).map (·.2) = es.map (·.2):=by
  apply List.ext_getElem
  · simp [replE]
  · intro j h1 h2;simp only [replE,List.getElem_map,List.getElem_set];split
    · rename_i e;subst e;simp only;rw [List.getD_eq_getElem?_getD,List.getElem?_eq_getElem h];rfl
    · rfl
theorem mem_repl {es : List Ent} {i : Nat} {x : Itm} {e : Ent} (h : e ∈ replE es i x) : e ∈ es ∨ e = (x,(es.getD i (((0 : Int),ByteArray.empty,([] : List Fld)),(0 : Int))).2):=List.mem_or_eq_of_mem_set h
theorem del_split {es : List Ent} {i : Nat} (h : i < es.length) : es = es.take i ++ (es.getD i (((0 : Int),ByteArray.empty,([] : List Fld)),(0 : Int))) :: es.drop (i + 1):=by
  conv=>lhs;rw [← List.take_append_drop i es,List.drop_eq_getElem_cons h]
  rw [List.getD_eq_getElem?_getD,List.getElem?_eq_getElem h];rfl
theorem mem_del {es : List Ent} {i : Nat} {e : Ent} (h : e ∈ delE es i) : e ∈ es:=by
  rcases List.mem_append.1 h with h|h
  · exact List.mem_of_mem_take h
  · exact List.mem_of_mem_drop h
theorem ids_app (a b : List Ent) : nmsL (a ++ b) = nmsL a ++ nmsL b:=by unfold nmsL;rw [List.map_append,List.filter_append]
theorem ids_cons (e : Ent) (b : List Ent) : nmsL (e :: b) = if 0 < e.2 then e.2 :: nmsL b else nmsL b:=by
  unfold nmsL;rw [List.map_cons,List.filter_cons];unfold posI
  by_cases h : 0 < e.2
  · rw [if_pos h,if_pos (decide_eq_true h)]
  · rw [if_neg h,if_neg (by simpa using h)]
theorem ids_del {es : List Ent} {i : Nat} (h : i < es.length) (hp : 0 < (es.getD i (((0 : Int),ByteArray.empty,([] : List Fld)),(0 : Int))).2) : (nmsL es).length = (nmsL (delE es i)).length + 1 ∧ ((nmsL es).Nodup → (nmsL (delE es i)).Nodup):=by
  have e1 : nmsL es = nmsL (es.take i) ++ (es.getD i (((0 : Int),ByteArray.empty,([] : List Fld)),(0 : Int))).2 :: nmsL (es.drop (i + 1)):=by
    conv=>lhs;rw [del_split h,ids_app,ids_cons,if_pos hp]
  have e2 : nmsL (delE es i) = nmsL (es.take i) ++ nmsL (es.drop (i + 1)):=ids_app _ _;rw [e1,e2];refine ⟨by simp only [List.length_append,List.length_cons];omega,fun hn=>?_⟩;exact hn.sublist (List.Sublist.append_left (List.sublist_cons_self _ _) _)
theorem mem_ins {es : List Ent} {i : Nat} {x e : Ent} (h : e ∈ insE es i x) : e ∈ es ∨ e = x:=by
  rcases List.mem_append.1 h with h|h
  · exact .inl (List.mem_of_mem_take h)
  · rcases List.mem_cons.1 h with h|h
    · exact .inr h
    · exact .inl (List.mem_of_mem_drop h)
theorem ids_ins {es : List Ent} {i : Nat} {x : Ent} (hp : 0 < x.2) (hlt : ∀ e ∈ es,e.2 < x.2) : (nmsL (insE es i x)).length = (nmsL es).length + 1 ∧ ((nmsL es).Nodup → (nmsL (insE es i x)).Nodup):=by
  have e1 : nmsL es = nmsL (es.take i) ++ nmsL (es.drop i):=by
    conv=>lhs;rw [← List.take_append_drop i es,ids_app]
  have e2 : nmsL (insE es i x) = nmsL (es.take i) ++ x.2 :: nmsL (es.drop i):=by unfold insE;rw [ids_app,ids_cons,if_pos hp]
  have hno : x.2 ∉ nmsL es:=fun h=>by
    unfold nmsL at h;obtain ⟨e,he,hx⟩:=List.mem_map.1 (List.mem_filter.1 h).1;have:=hlt e he;omega
  rw [e1] at hno ⊢;rw [e2];refine ⟨by simp only [List.length_append,List.length_cons];omega,fun hn=>?_⟩;rw [List.perm_middle.nodup_iff];exact List.nodup_cons.2 ⟨hno,hn⟩
theorem doL_ok {c : Nat} {L : Lst} {e : Edt} (h : LOk c L) (hf : yA e.2.2) : LOk (c + 1) (doL L e):=by
  have h0 : LOk (c + 1) L:=⟨h.flds,h.ids,h.nd,h.many,⟨h.next.1,by have:=h.next.2;omega⟩,by have:=h.len;omega⟩;have hat : ∀ id,¬ atE L.1 id < 0 → ∃ i : Nat,i < L.1.length ∧ atE L.1 id = i ∧ 0 < id ∧ (L.1.getD i (((0 : Int),ByteArray.empty,([] : List Fld)),(0 : Int))).2 = id:=fun id hn=>by
    rcases at_cases L.1 id with ⟨h1,_⟩|⟨i,h1,h2,h3,h4,_⟩
    · omega
    · exact ⟨i,h1,h2,h3,h4⟩
  unfold doL;split
  · split
    · exact h0
    · rename_i hn;obtain ⟨i,hi,he,hp,hid⟩:=hat _ hn;rw [he,Int.toNat_natCast];split
      · exact h0
      · have hids : nmsL (replE L.1 i (itmOf e.2.2)) = nmsL L.1:=by unfold nmsL;rw [ids_repl _ _ _ hi]
        refine ⟨fun x hx=>?_,fun x hx=>?_,by show (nmsL (replE L.1 i _)).Nodup;rw [hids];exact h.nd,by show L.2.2 = ((nmsL (replE L.1 i _)).length : Int);rw [hids];exact h.many,h0.next,?_⟩
        · rcases mem_repl hx with hx|rfl
          · exact h.flds x hx
          · exact hf
        · rcases mem_repl hx with hx|rfl
          · exact h.ids x hx
          · show 0 ≤ (L.1.getD i (((0 : Int),ByteArray.empty,([] : List Fld)),(0 : Int))).2 ∧ (L.1.getD i (((0 : Int),ByteArray.empty,([] : List Fld)),(0 : Int))).2 < L.2.1;exact h.ids _ (xK hi (((0 : Int),ByteArray.empty,([] : List Fld)),(0 : Int)))
        · show (replE L.1 i _).length ≤ c + 1;unfold replE;rw [List.length_set];exact h0.len
  · split
    · split
      · exact h0
      · rename_i hn;obtain ⟨i,hi,he,hp,hid⟩:=hat _ hn;rw [he,Int.toNat_natCast];obtain ⟨h1,h2⟩:=ids_del hi (by omega);refine ⟨fun x hx=>h.flds x (mem_del hx),fun x hx=>h.ids x (mem_del hx),h2 h.nd,?_,h0.next,?_⟩
        · show L.2.2 - 1 = ((nmsL (delE L.1 i)).length : Int);rw [h.many];omega
        · show (delE L.1 i).length ≤ c + 1;have:=h.len;unfold delE;rw [List.length_append,List.length_take,List.length_drop];omega
    · split
      · exact h0
      · rename_i hn;split
        · exact h0
        · split
          · exact h0
          · have hnx:=h.next;obtain ⟨h1,h2⟩:=ids_ins (es:=L.1) (i:=(atE L.1 e.2.1 + 1).toNat) (x:=(itmOf e.2.2,L.2.1)) (by show 0 < L.2.1;omega) (fun x hx=>(h.ids x hx).2);refine ⟨fun x hx=>?_,fun x hx=>?_,h2 h.nd,?_,⟨by show 1 ≤ L.2.1 + 1;omega,by show L.2.1 + 1 ≤ ((c + 1 : Nat) : Int);omega⟩,?_⟩
            · rcases mem_ins hx with hx|rfl
              · exact h.flds x hx
              · exact hf
            · show 0 ≤ x.2 ∧ x.2 < L.2.1 + 1;rcases mem_ins hx with hx|rfl
              · have:=h.ids x hx;omega
              · show 0 ≤ L.2.1 ∧ L.2.1 < L.2.1 + 1;omega
            · show L.2.2 + 1 = _;rw [h1,h.many];omega
            · have:=h.len;show (insE L.1 _ _).length ≤ c + 1;unfold insE;rw [List.length_append,List.length_cons,List.length_take,List.length_drop];omega
theorem ids_num : ∀ (l : List Itm) (n : Int),1 ≤ n → nmsL (numI n l) = (List.range (cntR l)).map (fun k : Nat=>n + (k : Int)) ∧ ∀ e ∈ numI n l,0 ≤ e.2 ∧ e.2 < n + (cntR l : Int)
  | [],n,_=>⟨rfl,fun e he=>by cases he⟩
  | x :: r,n,hn=>by
    unfold numI;split
    · rename_i h;obtain ⟨h1,h2⟩:=ids_num r (n + 1) (by omega);have hc : cntR (x :: r) = cntR r + 1:=by simp [cntR,h]
      rw [hc];refine ⟨?_,fun e he=>?_⟩
      · rw [ids_cons,if_pos (show 0 < n by omega),h1,List.range_succ_eq_map,List.map_cons,List.map_map]
        congr 1
        · simp
        · apply List.map_congr_left;intro k _;simp only [Function.comp];omega
      · rcases List.mem_cons.1 he with rfl|he
        · show 0 ≤ n ∧ n < _;omega
        · have:=h2 e he;omega
    · rename_i h;obtain ⟨h1,h2⟩:=ids_num r n hn;have hc : cntR (x :: r) = cntR r:=by simp [cntR,h]
      rw [hc];refine ⟨?_,fun e he=>?_⟩
      · rw [ids_cons,if_neg (show ¬ (0 : Int) < 0 by omega),h1]
      · rcases List.mem_cons.1 he with rfl|he
        · show 0 ≤ (0 : Int) ∧ (0 : Int) < _;omega
        · exact h2 e he
theorem ofT_ok {l : List Itm} {c : Nat} (hl : l.length < c) (hf : ∀ x ∈ l,yA x.2.2) : LOk c (ofT l):=by
  obtain ⟨h1,h2⟩:=ids_num l 1 (Int.le_refl _);have h3:=List.length_filter_le isRec l;have h4 : cntR l ≤ l.length:=h3;refine ⟨fun e he=>?_,h2,?_,?_,⟨?_,?_⟩,?_⟩
  · have : e.1 ∈ (numI 1 l).map (·.1):=List.mem_map.2 ⟨e,he,rfl⟩;rw [numI_items] at this;exact hf _ this
  · show (nmsL (numI 1 l)).Nodup;rw [h1];refine List.Pairwise.map _ ?_ List.nodup_range;intro a b hab e;apply hab;omega
  · show (cntR l : Int) = _;rw [show nmsL (ofT l).1 = _ from h1,List.length_map,List.length_range]
  · show 1 ≤ 1 + (cntR l : Int);omega
  · show 1 + (cntR l : Int) ≤ c;omega
  · show (numI 1 l).length ≤ c;rw [numI_len];omega
def refDo (M : RLs) (e : Edt) : RLs:=if e.1 = 1 then (refRep M e.2.1 e.2.2).1 else if e.1 = 2 then (refDel M e.2.1).1 else (refIns M e.2.1 e.2.2).1
def prPl (es : List Ent) (id : Int) : Bool → Nat → Nat × Int → Prop
  | false,j,x=>x.1 = j ∧ x.2 = 0 ∧ ((es.filter live).take x.1).any (hasId id) = false
  | true,_,x=>x.2 = plcL es id
theorem copyL_o {k : Nat} (es : List Ent) (n m : Int) (hl : es.length ≤ 1000000) : qR Tryz.prog 51 [.one (.adk k (rLst k) (es,n,m))] [] 0 (.one (.own 1 0)) [(1,.box 116 [.vec 0,.lit (.int .i64 n),.lit (.int .i64 m)]),(0,.vec 111 rEnt es)] 2:=by
  have hcl:=cloneE_o (k:=k) es hl;refine qP (rs:=[2]) Tryz.func51 rfl rfl rfl teOk (by decide) rfl ?_;refine qC ?_;refine qB ?_;refine qC ?_;refine qC ?_;refine qB ?_;refine qK rfl (fun h4=>?_) (fun h4=>?_)
  ·try simp only [zbq] at h4
   try simp only [zds] at h4
   simp at h4
  ·try simp only [zbq] at h4
   try simp only [zds] at h4
   refine qM ?_;refine qC ?_;refine xB rfl ?_;refine qJ 0 rfl rfl rfl (by kernel_rfl) ?_;refine qJ 1 rfl rfl rfl (by kernel_rfl) ?_;refine qJ 2 rfl rfl rfl (by kernel_rfl) ?_;refine qJ 5 rfl rfl rfl (by kernel_rfl) ?_;refine qJ 6 rfl rfl rfl (by kernel_rfl) ?_;refine qJ 7 rfl rfl rfl (by kernel_rfl) ?_;refine qJ 9 rfl rfl rfl (by kernel_rfl) ?_;refine qJ 10 rfl rfl rfl (by kernel_rfl) ?_;refine qJ 11 rfl rfl rfl (by kernel_rfl) ?_;refine qI [3,8,12] (by kernel_rfl) rfl ?_;refine zai ?_ ?_
   ·refine qI [4,8,12] (by kernel_rfl) rfl ?_;refine zai ?_ ?_
    ·refine Or.inr (Or.inl (zei [] (zei [] (zei _ (zei _ (zei _ (zei _ (zei _ (zai (hcl) (zai rfl (zai True.intro (zai rfl ?_))))))))))));refine qI [8,12] (by kernel_rfl) rfl ?_;refine zai ?_ ?_
     ·refine qI [12] (by kernel_rfl) rfl ?_;refine qI [13] (by kernel_rfl) rfl ?_;refine qI [14] (by kernel_rfl) rfl ?_;refine qJ 15 rfl rfl rfl (by kernel_rfl) ?_;refine qO (by kernel_rfl) ?_;refine qL ?_;exact ⟨rfl,⟨rfl,rfl⟩,rfl⟩
     ·refine qI [8] (by kernel_rfl) rfl ?_;refine qI [13] (by kernel_rfl) rfl ?_;refine qI [14] (by kernel_rfl) rfl ?_;refine qJ 15 rfl rfl rfl (by kernel_rfl) ?_;refine qO (by kernel_rfl) ?_;refine qL ?_;exact ⟨rfl,⟨rfl,rfl⟩,rfl⟩
    refine zai ?_ ?_
    ·refine qI [4,12] (by kernel_rfl) rfl ?_;refine zai ?_ ?_
     ·refine Or.inr (Or.inl (zei [] (zei [] (zei _ (zei _ (zei _ (zei _ (zei _ (zai (hcl) (zai rfl (zai True.intro (zai rfl ?_))))))))))));refine qI [12] (by kernel_rfl) rfl ?_;refine qI [13] (by kernel_rfl) rfl ?_;refine qI [14] (by kernel_rfl) rfl ?_;refine qJ 15 rfl rfl rfl (by kernel_rfl) ?_;refine qO (by kernel_rfl) ?_;refine qL ?_;exact ⟨rfl,⟨rfl,rfl⟩,rfl⟩
     ·refine qI [4] (by kernel_rfl) rfl ?_;refine Or.inr (Or.inl (zei [] (zei [] (zei _ (zei _ (zei _ (zei _ (zei _ (zai (hcl) (zai rfl (zai True.intro (zai rfl ?_))))))))))));refine qI [13] (by kernel_rfl) rfl ?_;refine qI [14] (by kernel_rfl) rfl ?_;refine qJ 15 rfl rfl rfl (by kernel_rfl) ?_;refine qO (by kernel_rfl) ?_;refine qL ?_;exact ⟨rfl,⟨rfl,rfl⟩,rfl⟩
    ·refine qI [4,8] (by kernel_rfl) rfl ?_;refine zai ?_ ?_
     ·refine Or.inr (Or.inl (zei [] (zei [] (zei _ (zei _ (zei _ (zei _ (zei _ (zai (hcl) (zai rfl (zai True.intro (zai rfl ?_))))))))))));refine qI [8] (by kernel_rfl) rfl ?_;refine qI [13] (by kernel_rfl) rfl ?_;refine qI [14] (by kernel_rfl) rfl ?_;refine qJ 15 rfl rfl rfl (by kernel_rfl) ?_;refine qO (by kernel_rfl) ?_;refine qL ?_;exact ⟨rfl,⟨rfl,rfl⟩,rfl⟩
     ·refine qI [4] (by kernel_rfl) rfl ?_;refine Or.inr (Or.inl (zei [] (zei [] (zei _ (zei _ (zei _ (zei _ (zei _ (zai (hcl) (zai rfl (zai True.intro (zai rfl ?_))))))))))));refine qI [13] (by kernel_rfl) rfl ?_;refine qI [14] (by kernel_rfl) rfl ?_;refine qJ 15 rfl rfl rfl (by kernel_rfl) ?_;refine qO (by kernel_rfl) ?_;refine qL ?_;exact ⟨rfl,⟨rfl,rfl⟩,rfl⟩
   refine zai ?_ ?_
   ·refine qI [3,12] (by kernel_rfl) rfl ?_;refine zai ?_ ?_
    ·refine qI [4,12] (by kernel_rfl) rfl ?_;refine zai ?_ ?_
     ·refine Or.inr (Or.inl (zei [] (zei [] (zei _ (zei _ (zei _ (zei _ (zei _ (zai (hcl) (zai rfl (zai True.intro (zai rfl ?_))))))))))));refine qI [12] (by kernel_rfl) rfl ?_;refine qI [13] (by kernel_rfl) rfl ?_;refine qI [14] (by kernel_rfl) rfl ?_;refine qJ 15 rfl rfl rfl (by kernel_rfl) ?_;refine qO (by kernel_rfl) ?_;refine qL ?_;exact ⟨rfl,⟨rfl,rfl⟩,rfl⟩
     ·refine qI [4] (by kernel_rfl) rfl ?_;refine Or.inr (Or.inl (zei [] (zei [] (zei _ (zei _ (zei _ (zei _ (zei _ (zai (hcl) (zai rfl (zai True.intro (zai rfl ?_))))))))))));refine qI [13] (by kernel_rfl) rfl ?_;refine qI [14] (by kernel_rfl) rfl ?_;refine qJ 15 rfl rfl rfl (by kernel_rfl) ?_;refine qO (by kernel_rfl) ?_;refine qL ?_;exact ⟨rfl,⟨rfl,rfl⟩,rfl⟩
    ·refine qI [3] (by kernel_rfl) rfl ?_;refine qI [4] (by kernel_rfl) rfl ?_;refine Or.inr (Or.inl (zei [] (zei [] (zei _ (zei _ (zei _ (zei _ (zei _ (zai (hcl) (zai rfl (zai True.intro (zai rfl ?_))))))))))));refine qI [13] (by kernel_rfl) rfl ?_;refine qI [14] (by kernel_rfl) rfl ?_;refine qJ 15 rfl rfl rfl (by kernel_rfl) ?_;refine qO (by kernel_rfl) ?_;refine qL ?_;exact ⟨rfl,⟨rfl,rfl⟩,rfl⟩
   ·refine qI [3,8] (by kernel_rfl) rfl ?_;refine zai ?_ ?_
    ·refine qI [4,8] (by kernel_rfl) rfl ?_;refine zai ?_ ?_
     ·refine Or.inr (Or.inl (zei [] (zei [] (zei _ (zei _ (zei _ (zei _ (zei _ (zai (hcl) (zai rfl (zai True.intro (zai rfl ?_))))))))))));refine qI [8] (by kernel_rfl) rfl ?_;refine qI [13] (by kernel_rfl) rfl ?_;refine qI [14] (by kernel_rfl) rfl ?_;refine qJ 15 rfl rfl rfl (by kernel_rfl) ?_;refine qO (by kernel_rfl) ?_;refine qL ?_;exact ⟨rfl,⟨rfl,rfl⟩,rfl⟩
     ·refine qI [4] (by kernel_rfl) rfl ?_;refine Or.inr (Or.inl (zei [] (zei [] (zei _ (zei _ (zei _ (zei _ (zei _ (zai (hcl) (zai rfl (zai True.intro (zai rfl ?_))))))))))));refine qI [13] (by kernel_rfl) rfl ?_;refine qI [14] (by kernel_rfl) rfl ?_;refine qJ 15 rfl rfl rfl (by kernel_rfl) ?_;refine qO (by kernel_rfl) ?_;refine qL ?_;exact ⟨rfl,⟨rfl,rfl⟩,rfl⟩
    ·refine qI [3] (by kernel_rfl) rfl ?_;refine qI [4] (by kernel_rfl) rfl ?_;refine Or.inr (Or.inl (zei [] (zei [] (zei _ (zei _ (zei _ (zei _ (zei _ (zai (hcl) (zai rfl (zai True.intro (zai rfl ?_))))))))))));refine qI [13] (by kernel_rfl) rfl ?_;refine qI [14] (by kernel_rfl) rfl ?_;refine qJ 15 rfl rfl rfl (by kernel_rfl) ?_;refine qO (by kernel_rfl) ?_;refine qL ?_;exact ⟨rfl,⟨rfl,rfl⟩,rfl⟩
abbrev zRL : List C:=[.lit (.slice none 0 0),.lit (.int .i64 0)]
def insT (es : List Ent) (j : Nat) (e : Ent) (i : Nat) : List Ent:=if i < j then es.take i else insE (es.take i) j e
def doB (num at_ id bad at2 want : Int) : Bool:=((true && decide (num = bad)) && decide (at_ = at2)) && decide (id = want)
theorem chk_shape {f : List Fld} (h : (chkR f).2 ≠ 0) : (∃ k9,chkA f = errN k9 ∧ k9 ≠ 0 ∧ (-9 : Int) = (chkR f).1 ∧ k9 = (chkR f).2) ∨ ∃ a9 k9,chkA f = errF a9 k9 ∧ k9 ≠ 0 ∧ a9 = (chkR f).1 ∧ k9 = (chkR f).2:=by
  obtain ⟨e,he,hs⟩:=chk_bad h;rcases hs with ⟨n,hn,rfl,hr⟩|⟨i,n,hn,rfl,hr⟩
  · exact .inl ⟨n,he,hn,by rw [hr],by rw [hr]⟩
  · exact .inr ⟨i,n,he,hn,by rw [hr],by rw [hr]⟩
def xC (L : Lst) (s : List Edt) (i : Nat) : Lst:=(s.take i).foldl doL L
theorem plays_snoc (L : Lst) {s : List Edt} {i : Nat} (h : i < s.length) : xC L s (i + 1) = doL (xC L s i) (s.getD i ((0 : Int),(0 : Int),([] : List Fld))):=by
  unfold xC;rw [← xA ((0 : Int),(0 : Int),([] : List Fld)) h,List.foldl_append];rfl
theorem plays_ok {c : Nat} {L : Lst} {s : List Edt} (h : LOk c L) (hf : ∀ e ∈ s,yA e.2.2) : ∀ i,i ≤ s.length → LOk (c + i) (xC L s i)
  | 0,_=>by simpa [xC] using h
  | i + 1,hi=>by
    rw [plays_snoc L (by omega)];exact doL_ok (plays_ok h hf i (by omega)) (hf _ (xK (by omega) ((0 : Int),(0 : Int),([] : List Fld))))
theorem items_len {s : ByteArray} {l : List Itm} (hp : yJ s = .inr l) : l.length ≤ 2 * s.size + 1:=by
  have h0:=parse_ref s;rw [hp] at h0;obtain ⟨h1,_⟩:=linesT_len s;have key : ∀ (L : List Lne) (t : RSt) (bh : Bool) (l : List Itm),runR bh t L = .inr l → l.length ≤ t.out.length + 1 + 2 * L.length:=by
    intro L
    induction L with
    | nil =>
      intro t bh l h;unfold runR at h;cases h;split <;> simp
    | cons a r ih =>
      intro t bh l h;unfold runR at h;split at h
      · cases h
      · have i1:=ih _ _ _ h;have so : (stepR t a r).out.length ≤ t.out.length + 2:=by
          unfold stepR;split
          · simp only;split <;> simp
          · split <;> simp
        rw [List.length_cons];omega
  have k1:=key _ _ _ _ h0.symm;simp only [rst0,List.length_nil] at k1;omega
theorem of_lok {s : ByteArray} {l : List Itm} (hs : s.size ≤ 4000) (hp : yJ s = .inr l) : LOk 9000 (ofT l):=by
  have h1:=items_len hp;exact ofT_ok (by omega) fun x hx=>fldsOk_of (items_small hp x hx).1 (items_small hp x hx).2
end Q
end Ab
end Go.Proofs.YtpfkncffaanjcaaGreatDoor
namespace Go.Proofs.YtpfkncffaanjcaaGreatDoor
open Go.RowKit
namespace Ab
set_option maxRecDepth 100000
abbrev rEdk (κ : Nat) : Rd Edt:=.st (.int .i64) (.st (.int .i64) (.slk κ rFld))
namespace Q
def goodN (x : Edt) : Int:=if x.1 = 2 then (if 0 < x.2.2.length then 2 else 0) else if x.1 = 1 ∨ x.1 = 3 then (chkR x.2.2).2 else 2
def chkF (k : Int) : List Edt → Int × Int
  | []=>(-9,0)
  | x :: r=>if goodN x ≠ 0 then (k,goodN x) else chkF (k + 1) r
def chkB (l : List Edt) : Int × Int:=if l.length < 1 ∨ 40 < l.length then (-9,1) else chkF 0 l
theorem chkF_at : ∀ (l : List Edt) (i : Nat) (k : Int),i < l.length → (∀ e ∈ l.take i,goodN e = 0) → goodN (l.getD i ((0 : Int),(0 : Int),([] : List Fld))) ≠ 0 → chkF k l = (k + i,goodN (l.getD i ((0 : Int),(0 : Int),([] : List Fld))))
  | [],i,k,h,_,_=>by simp at h
  | f :: r,0,k,_,_,hb=>by
    unfold chkF;rw [if_pos (by simpa using hb)];simp
  | f :: r,i + 1,k,h,ht,hb=>by
    unfold chkF;rw [if_neg (by simpa using ht f (by simp))];rw [chkF_at r i (k + 1) (by simpa using h) (fun g hg=>ht g (by simp [hg])) (by simpa using hb)];simp only [List.getD_cons_succ]
    congr 1
    omega
theorem chkF_no : ∀ (l : List Edt) (k : Int),(∀ e ∈ l,goodN e = 0) → chkF k l = (-9,0)
  | [],_,_=>rfl
  | f :: r,k,h=>by
    unfold chkF;rw [if_neg (by simpa using h f (by simp))];exact chkF_no r (k + 1) (fun g hg=>h g (by simp [hg]))
theorem chkF_zero : ∀ (l : List Edt) (k : Int),(chkF k l).2 = 0 → ∀ e ∈ l,goodN e = 0
  | [],_,_,f,hf=>by cases hf
  | g :: r,k,h,f,hf=>by
    unfold chkF at h;split at h
    · rename_i hg;exact absurd h hg
    · rename_i hg;rcases List.mem_cons.1 hf with rfl|hf
      · exact Classical.not_not.1 hg
      · exact chkF_zero r (k + 1) h f hf
theorem chkB_rng {l : List Edt} (h : l.length < 1 ∨ 40 < l.length) : chkB l = (-9,1):=if_pos h
theorem chkB_at {l : List Edt} {i : Nat} (h1 : ¬ (l.length < 1 ∨ 40 < l.length)) (h : i < l.length) (ht : ∀ e ∈ l.take i,goodN e = 0) (hb : goodN (l.getD i ((0 : Int),(0 : Int),([] : List Fld))) ≠ 0) : chkB l = ((i : Int),goodN (l.getD i ((0 : Int),(0 : Int),([] : List Fld)))):=by
  unfold chkB;rw [if_neg h1,chkF_at l i 0 h ht hb,Int.zero_add]
theorem chkB_no {l : List Edt} (h1 : ¬ (l.length < 1 ∨ 40 < l.length)) (h : ∀ e ∈ l,goodN e = 0) : chkB l = (-9,0):=by
  unfold chkB;rw [if_neg h1,chkF_no l 0 h]
theorem chkB_zero {l : List Edt} (h : (chkB l).2 = 0) : (1 ≤ l.length ∧ l.length ≤ 40) ∧ ∀ e ∈ l,goodN e = 0:=by
  unfold chkB at h;split at h
  · cases h
  · exact ⟨by omega,chkF_zero l 0 h⟩
theorem chkB_good {l : List Edt} (h : (chkB l).2 = 0) : chkB l = (-9,0):=chkB_no (by have:=(chkB_zero h).1;omega) (chkB_zero h).2
theorem chkB_cases (l : List Edt) : (chkB l = (-9,0) ∧ (1 ≤ l.length ∧ l.length ≤ 40) ∧ ∀ e ∈ l,goodN e = 0) ∨ chkB l = (-9,1) ∨ ∃ (i : Nat) (n : Int),n ≠ 0 ∧ chkB l = ((i : Int),n):=by
  by_cases h : (chkB l).2 = 0
  · exact .inl ⟨chkB_good h,chkB_zero h⟩
  · by_cases h1 : l.length < 1 ∨ 40 < l.length
    · exact .inr (.inl (chkB_rng h1))
    · refine .inr (.inr ?_);have h2 : chkB l = chkF 0 l:=if_neg h1;rw [h2] at h ⊢;clear h1 h2;have key : ∀ (l : List Edt) (k : Nat),(chkF (k : Int) l).2 ≠ 0 → ∃ (i : Nat) (n : Int),n ≠ 0 ∧ chkF (k : Int) l = ((i : Int),n):=by
        intro l
        induction l with
        | nil=>intro k h;exact absurd rfl h
        | cons x r ih =>
          intro k h;unfold chkF at h ⊢;split at h
          · rename_i hg;rw [if_pos hg];exact ⟨k,_,hg,rfl⟩
          · rename_i hg;rw [if_neg hg];exact ih (k + 1) h
      exact key l 0 h
theorem take_good {l : List Edt} {i : Nat} (h : i < l.length) (ht : ∀ e ∈ l.take i,goodN e = 0) (hb : goodN (l.getD i ((0 : Int),(0 : Int),([] : List Fld))) = 0) : ∀ e ∈ l.take (i + 1),goodN e = 0:=by
  rw [← xA ((0 : Int),(0 : Int),([] : List Fld)) h];intro e he;rcases List.mem_append.1 he with he|he
  · exact ht e he
  · rw [List.mem_singleton.1 he];exact hb
def oneN (L : Lst) (e : Edt) : Int :=
  if e.1 = 1 then (if atE L.1 e.2.1 < 0 then 7 else (chkR e.2.2).2)
  else if e.1 = 2 then (if atE L.1 e.2.1 < 0 then 7 else 0)
  else if atE L.1 e.2.1 < 0 ∧ e.2.1 ≠ 0 then 7 else if (chkR e.2.2).2 ≠ 0 then (chkR e.2.2).2 else if 400 ≤ L.2.2 then 11 else 0
def newN (L : Lst) (e : Edt) : Int:=if e.1 = 1 ∨ e.1 = 2 then 0 else if oneN L e = 0 then L.2.1 else 0
def batK (k : Int) (L : Lst) : List Edt → Int × Int
  | []=>(-9,0)
  | x :: r=>if oneN L x ≠ 0 then (k,oneN L x) else batK (k + 1) (doL L x) r
def doR (L : Lst) (s : List Edt) : Int × Int:=if (chkB s).2 ≠ 0 then chkB s else batK 0 L s
def idsT (L : Lst) (s : List Edt) (i : Nat) : List Int:=((List.range i).map fun j=>newN (xC L s j) (s.getD j ((0 : Int),(0 : Int),([] : List Fld)))).filter posI
theorem idsT_snoc (L : Lst) (s : List Edt) (i : Nat) : idsT L s (i + 1) = idsT L s i ++ if 0 < newN (xC L s i) (s.getD i ((0 : Int),(0 : Int),([] : List Fld))) then [newN (xC L s i) (s.getD i ((0 : Int),(0 : Int),([] : List Fld)))] else []:=by
  unfold idsT;rw [List.range_succ,List.map_append,List.filter_append]
  congr 1
  simp only [List.map_cons,List.map_nil,List.filter_cons,List.filter_nil,posI,decide_eq_true_eq]
theorem idsT_len (L : Lst) (s : List Edt) (i : Nat) : (idsT L s i).length ≤ i:=by
  unfold idsT;have:=List.length_filter_le posI ((List.range i).map fun j=>newN (xC L s j) (s.getD j ((0 : Int),(0 : Int),([] : List Fld))));rw [List.length_map,List.length_range] at this;exact this
theorem batK_cases : ∀ (s : List Edt) (L : Lst) (k : Nat),(batK k L s = (-9,0) ∧ ∀ j,j < s.length → oneN (xC L s j) (s.getD j ((0 : Int),(0 : Int),([] : List Fld))) = 0) ∨
    ∃ (i : Nat),i < s.length ∧ batK k L s = (((k + i : Nat) : Int),oneN (xC L s i) (s.getD i ((0 : Int),(0 : Int),([] : List Fld)))) ∧ oneN (xC L s i) (s.getD i ((0 : Int),(0 : Int),([] : List Fld))) ≠ 0 ∧ ∀ j,j < i → oneN (xC L s j) (s.getD j ((0 : Int),(0 : Int),([] : List Fld))) = 0
  | [],_,_=>.inl ⟨rfl,fun j h=>by simp at h⟩
  | x :: r,L,k=>by
    by_cases h0 : oneN L x = 0
    · have e : batK k L (x :: r) = batK ((k + 1 : Nat) : Int) (doL L x) r:=by
        conv=>lhs;unfold batK
        rw [if_neg (by rw [h0];decide)];rfl
      rw [e];rcases batK_cases r (doL L x) (k + 1) with ⟨h1,h2⟩|⟨i,hi,h1,h2,h3⟩
      · refine .inl ⟨h1,fun j hj=>?_⟩;cases j with
        | zero=>exact h0
        | succ j=>exact h2 j (by simpa using hj)
      · refine .inr ⟨i + 1,by simpa using hi,?_,h2,fun j hj=>?_⟩
        · rw [h1];show (((k + 1 + i : Nat) : Int),_) = (((k + (i + 1) : Nat) : Int),oneN (xC (doL L x) r i) (r.getD i ((0 : Int),(0 : Int),([] : List Fld))))
          congr 1
          omega
        · cases j with
          | zero=>exact h0
          | succ j=>exact h3 j (by omega)
    · refine .inr ⟨0,by simp,?_,h0,fun j hj=>by omega⟩;unfold batK;rw [if_pos h0];rfl
theorem doR_cases (L : Lst) (s : List Edt) (hc : (chkB s).2 = 0) : (doR L s = (-9,0) ∧ ∀ j,j < s.length → oneN (xC L s j) (s.getD j ((0 : Int),(0 : Int),([] : List Fld))) = 0) ∨
    ∃ (i : Nat),i < s.length ∧ doR L s = ((i : Int),oneN (xC L s i) (s.getD i ((0 : Int),(0 : Int),([] : List Fld)))) ∧ oneN (xC L s i) (s.getD i ((0 : Int),(0 : Int),([] : List Fld))) ≠ 0 ∧ ∀ j,j < i → oneN (xC L s j) (s.getD j ((0 : Int),(0 : Int),([] : List Fld))) = 0:=by
  unfold doR;rw [if_neg (fun h=>h hc)];rcases batK_cases s L 0 with h|⟨i,h1,h2,h3⟩
  · exact .inl h
  · refine .inr ⟨i,h1,?_,h3⟩;rw [Nat.zero_add] at h2;exact h2
end Q
end Ab
end Go.Proofs.YtpfkncffaanjcaaGreatDoor
namespace Go.Proofs.YtpfkncffaanjcaaGreatDoor
open Go.RowKit
namespace Ab
set_option maxRecDepth 100000
namespace Q
def getF (L : Lst) (id : Int) : Option (List Fld):=if atE L.1 id < 0 then none else some (getL L.1 id)
theorem stz_app (a b : List Ent) : stzL (a ++ b) = stzL a ++ stzL b:=by unfold stzL;rw [List.filter_append,List.map_append]
theorem stz_cons (e : Ent) (b : List Ent) : stzL (e :: b) = if live e then stzOf e :: stzL b else stzL b:=by
  unfold stzL;rw [List.filter_cons];split <;> rfl
theorem stz_num {es : List Ent} {x : Stz} (h : x ∈ stzL es) : x.1 ∈ nmsL es:=by
  rw [← ids_eq];unfold stzL at h;obtain ⟨e,he,rfl⟩:=List.mem_map.1 h;exact List.mem_map_of_mem he
theorem getF_at {L : Lst} {i : Nat} {id : Int} (hi : i < L.1.length) (he : atE L.1 id = i) : getF L id = some (L.1.getD i (((0 : Int),ByteArray.empty,([] : List Fld)),(0 : Int))).1.2.2:=by
  unfold getF getL;rw [if_neg (by omega),he,Int.toNat_natCast]
theorem getF_no {L : Lst} {id : Int} (h : atE L.1 id < 0) : getF L id = none:=if_pos h
theorem getF_iff {c : Nat} {L : Lst} (h : LOk c L) (id : Int) (f : List Fld) : getF L id = some f ↔ (id,f) ∈ stzL L.1:=by
  rcases at_cases L.1 id with ⟨h1,h2⟩|⟨i,h1,h2,h3,h4,h5⟩
  · rw [getF_no (by rw [h1];decide)];refine ⟨fun e=>(by cases e),fun hm=>?_⟩;unfold stzL at hm;obtain ⟨e,he,hx⟩:=List.mem_map.1 hm;have hl:=(List.mem_filter.1 he).2;have hx1 : e.2 = id:=congrArg Prod.fst hx;exact absurd hx1 (h2 e (List.mem_filter.1 he).1 (by rw [← hx1];exact of_decide_eq_true hl))
  · rw [getF_at h1 h2];have hsp:=del_split h1;have hlv : live (L.1.getD i (((0 : Int),ByteArray.empty,([] : List Fld)),(0 : Int))) = true:=decide_eq_true (by rw [h4];exact h3);have hst : stzL L.1 = stzL (L.1.take i) ++ stzOf (L.1.getD i (((0 : Int),ByteArray.empty,([] : List Fld)),(0 : Int))) :: stzL (L.1.drop (i + 1)):=by
      conv=>lhs;rw [hsp,stz_app,stz_cons,if_pos hlv]
    have hnm : nmsL L.1 = nmsL (L.1.take i) ++ id :: nmsL (L.1.drop (i + 1)):=by
      conv=>lhs;rw [hsp,ids_app,ids_cons,h4,if_pos h3]
    have hn:=h.nd;rw [hnm] at hn;obtain ⟨n1,n2,n3⟩:=List.nodup_append.1 hn;rw [hst];refine ⟨fun e=>?_,fun hm=>?_⟩
    · refine List.mem_append_right _ (List.mem_cons.2 (.inl ?_));rw [← Option.some.inj e,← h4];rfl
    · rcases List.mem_append.1 hm with hm|hm
      · exact absurd rfl (n3 _ (stz_num hm) _ List.mem_cons_self)
      · rcases List.mem_cons.1 hm with hm|hm
        · rw [show f = _ from congrArg Prod.snd hm];rfl
        · exact absurd (stz_num hm) (List.nodup_cons.1 n2).1
theorem getF_pos {c : Nat} {L : Lst} (h : LOk c L) {id : Int} (hg : getF L id ≠ none) : 0 < id ∧ id < L.2.1 ∧ ¬ atE L.1 id < 0:=by
  rcases at_cases L.1 id with ⟨h1,_⟩|⟨i,h1,h2,h3,h4,_⟩
  · exact absurd (getF_no (by rw [h1];decide)) hg
  · refine ⟨h3,?_,by omega⟩;have:=(h.ids _ (xK h1 (((0 : Int),ByteArray.empty,([] : List Fld)),(0 : Int)))).2;rw [h4] at this;exact this
theorem one_rep0 {L : Lst} {e : Edt} (h1 : e.1 = 1) (hg : ¬ atE L.1 e.2.1 < 0) (hc : (chkR e.2.2).2 = 0) : oneN L e = 0:=by
  unfold oneN;rw [if_pos h1,if_neg hg];exact hc
theorem one_del0 {L : Lst} {e : Edt} (h1 : e.1 = 2) (hg : ¬ atE L.1 e.2.1 < 0) : oneN L e = 0:=by
  unfold oneN;rw [if_neg (by omega),if_pos h1,if_neg hg]
theorem one_ins0 {L : Lst} {e : Edt} (h1 : e.1 ≠ 1) (h2 : e.1 ≠ 2) (hg : e.2.1 = 0 ∨ ¬ atE L.1 e.2.1 < 0) (hc : (chkR e.2.2).2 = 0) : oneN L e = if 400 ≤ L.2.2 then 11 else 0:=by
  unfold oneN;rw [if_neg h1,if_neg h2,if_neg (fun h=>hg.elim h.2 fun g=>g h.1),if_neg (fun h=>h hc)]
def repA (a : List Edt) (id : Int) : Bool:=a.any fun x=>decide (x.1 = 1) && decide (x.2.1 = id)
def delA (a : List Edt) (id : Int) : Bool:=a.any fun x=>decide (x.1 = 2) && decide (x.2.1 = id)
def tchA (a : List Edt) (id : Int) : Bool:=repA a id || delA a id
def insA : List Edt → Nat
  | []=>0
  | x :: r=>(if x.1 = 3 then 1 else 0) + insA r
def clsh (a : List Edt) (x : Edt) : Bool:=if x.1 = 1 then tchA a x.2.1 else if x.1 = 2 then tchA a x.2.1 && !delA a x.2.1 else if x.1 = 3 then delA a x.2.1 else false
def reb1 (next k : Int) (a : List Edt) (x : Edt) : List Edt:=if next ≤ x.2.1 then [(x.1,x.2.1 + k,x.2.2)] else if x.1 = 2 ∧ delA a x.2.1 = true then [] else [x]
def rebB (next : Int) (a b : List Edt) : List Edt:=b.flatMap (reb1 next (insA a) a)
def takes (L : Lst) : List Edt → Prop
  | []=>True
  | x :: r=>oneN L x = 0 ∧ takes (doL L x) r
def runL (L : Lst) (s : List Edt) : Lst:=s.foldl doL L
def kindsOk (s : List Edt) : Prop:=∀ x ∈ s,x.1 = 1 ∨ x.1 = 2 ∨ x.1 = 3
theorem takes_to : ∀ (s : List Edt) (L : Lst),takes L s → ∀ j,j < s.length → oneN (xC L s j) (s.getD j ((0 : Int),(0 : Int),([] : List Fld))) = 0
  | _ :: _,_,h,0,_=>h.1
  | x :: r,L,h,j + 1,hj=>takes_to r (doL L x) h.2 j (by simpa using hj)
theorem run_plays (L : Lst) (s : List Edt) : xC L s s.length = runL L s:=by unfold xC runL;rw [List.take_length]
theorem run_ok {c : Nat} {L : Lst} : ∀ {s : List Edt},LOk c L → (∀ e ∈ s,yA e.2.2) → LOk (c + s.length) (runL L s)
  | s,h,hf=>by rw [← run_plays];exact plays_ok h hf s.length (Nat.le_refl _)
structure Ran (L : Lst) (a : List Edt) (P : Lst) : Prop where
  next : P.2.1 = L.2.1 + (insA a : Int)
  unt : ∀ id,id < L.2.1 → tchA a id = false → getF P id = getF L id
  gone : ∀ id,id < L.2.1 → getF L id = none → getF P id = none
  del : ∀ id,id < L.2.1 → delA a id = true → getF P id = none
  keep : ∀ id,id < L.2.1 → getF L id ≠ none → delA a id = false → getF P id ≠ none
structure Sim (L P : Lst) (a : List Edt) (k : Int) (Q Y : Lst) (sk : Int) : Prop where
  old : ∀ id,id < L.2.1 → getF Y id = if tchA a id = true then getF P id else getF Q id
  mid : ∀ id,L.2.1 ≤ id → id < P.2.1 → getF Y id = getF P id
  new : ∀ id,L.2.1 ≤ id → getF Y (id + k) = getF Q id
  next : Y.2.1 = Q.2.1 + k
  mono : L.2.1 ≤ Q.2.1
  keep : ∀ id,id < L.2.1 → getF Q id ≠ none → getF L id ≠ none
  many : Y.2.2 - P.2.2 = Q.2.2 - L.2.2 + sk
end Q
end Ab
end Go.Proofs.YtpfkncffaanjcaaGreatDoor
namespace Go.Proofs.YtpfkncffaanjcaaGreatDoor.As
open Go.RowKit Go.Extern.Stop Go.Stop Go.Extern
theorem valueOf27 (t : Addr) (w : World) : (ReflectliteValue.unpack (.iface 193 (.pointer (some t)))).run Tryz.prog w
    = .ok (.agg #[.pointer (some ⟨4,193,none⟩),.pointer (some ⟨w.heap.size,0,none⟩),.int .u64 150]) (w.alloc (.cells #[.pointer (some t)] 193)):=by kernel_rfl
theorem type27 (a : Addr) (w : World) : (ReflectliteValue.methodAny (ReflectliteValue.valueError "reflectlite.Value.Type" 0) (fun t _ _ _ => ReflectliteType.toType t) #[.agg #[.pointer (some ⟨4, 193, none⟩), .pointer (some a), .int .u64 150]]).run Tryz.prog w
    = .ok (.iface 239 (.agg #[.pointer (some ⟨4,193,none⟩)])) w:=by kernel_rfl
theorem methodKind (h : Value) (w : World) : (Go.method 409 239 (.agg #[h]) "Kind").run Tryz.prog w = .ok (223, h) w := by kernel_rfl
theorem kind27 (w : World) : ((ReflectliteType.abiMethod fun t=>(fun a : Nat=>Value.int IntKind.u8 (a : Int)) <$> Rtype.kind t) #[.pointer (some ⟨4,193,none⟩)]).run Tryz.prog w = .ok (.int .u8 22) w:=by kernel_rfl
theorem kind25 (w : World) : ((ReflectliteType.abiMethod fun t=>(fun a : Nat=>Value.int IntKind.u8 (a : Int)) <$> Rtype.kind t) #[.pointer (some ⟨4,93,none⟩)]).run Tryz.prog w = .ok (.int .u8 22) w:=by kernel_rfl
theorem rlm (z : Sem Value) (f : TypeId → Addr → Nat → Nat → Sem Value) (v : Value) :
    ReflectliteValue.method z f #[v] = (do match ← ReflectliteValue.parts v with|none=>z|some (t,a,fl)=>f t a fl (fl % 32)):=rfl
theorem parts27 (a : Addr) (w : World) : (ReflectliteValue.parts (.agg #[.pointer (some ⟨4,193,none⟩),.pointer (some a),.int .u64 150])).run Tryz.prog w = .ok (some (193,a,150)) w:=by kernel_rfl
theorem isNil27 (a p : Addr) (W : World) (ha : W.cell? a = some (.pointer (some p))) :
    (ReflectliteValue.method (ReflectliteValue.valueError "reflectlite.Value.IsNil" 0) ReflectliteValue.isNil #[.agg #[.pointer (some ⟨4, 193, none⟩), .pointer (some a), .int .u64 150]]).run Tryz.prog W = .ok (.bool false) W := by
  rw [rlm];simp only [Sem.run_bind,parts27,Result.andThen];simp [ReflectliteValue.isNil,loadVar,isAgg,underlying,Tryz.underlying193,ha,Result.andThen]
theorem methodElem (h : Value) (w : World) : (Go.method 409 239 (.agg #[h]) "Elem").run Tryz.prog w = .ok (236, .agg #[h]) w := by kernel_rfl
theorem methodImplements (h : Value) (w : World) : (Go.method 409 239 (.agg #[h]) "Implements").run Tryz.prog w = .ok (237, .agg #[h]) w := by kernel_rfl
theorem methodAssignableTo (h : Value) (w : World) : (Go.method 409 239 (.agg #[h]) "AssignableTo").run Tryz.prog w = .ok (234, .agg #[h]) w := by kernel_rfl
theorem elem27 (w : World) : (ReflectliteType.method ReflectliteType.elem #[.agg #[.pointer (some ⟨4,193,none⟩)]]).run Tryz.prog w = .ok (.iface 239 (.agg #[.pointer (some ⟨4,93,none⟩)])) w:=by kernel_rfl
theorem implements25 (w : World) : (ReflectliteType.relation "Implements" ReflectliteType.implements_ #[.agg #[.pointer (some ⟨4, 93, none⟩)], .iface 239 (.agg #[.pointer (some ⟨4, 34, none⟩)])]).run Tryz.prog w = .ok (.bool true) w := by kernel_rfl
theorem typeOf25 (v : Value) (w : World) : (ReflectliteType.typeOf #[.iface 93 v]).run Tryz.prog w = .ok (.iface 239 (.agg #[.pointer (some ⟨4,93,none⟩)])) w:=by kernel_rfl
theorem assignable25 (w : World) : (ReflectliteType.relation "AssignableTo" ReflectliteType.assignableTo #[.agg #[.pointer (some ⟨4, 93, none⟩)], .iface 239 (.agg #[.pointer (some ⟨4, 93, none⟩)])]).run Tryz.prog w = .ok (.bool true) w := by kernel_rfl
theorem valueOf25 (e : Addr) (w : World) : (ReflectliteValue.unpack (.iface 93 (.pointer (some e)))).run Tryz.prog w
    = .ok (.agg #[.pointer (some ⟨4,93,none⟩),.pointer (some ⟨w.heap.size,0,none⟩),.int .u64 150]) (w.alloc (.cells #[.pointer (some e)] 93)):=by kernel_rfl
theorem elemOf27 (w : World) : (Rtype.elem? 193).run Tryz.prog w = .ok (some 93) w:=by kernel_rfl
theorem mk25 (p : Addr) (w : World) : (ReflectliteValue.mk 93 p ReflectliteValue.flagAddr).run Tryz.prog w = .ok (.agg #[.pointer (some ⟨4,93,none⟩),.pointer (some p),.int .u64 406]) w:=by kernel_rfl
theorem elemV27 (a p : Addr) (W : World) (ha : W.cell? a = some (.pointer (some p))) :
    (ReflectliteValue.method (ReflectliteValue.valueError "reflectlite.Value.Elem" 0) ReflectliteValue.elem #[.agg #[.pointer (some ⟨4, 193, none⟩), .pointer (some a), .int .u64 150]]).run Tryz.prog W
      = .ok (.agg #[.pointer (some ⟨4,93,none⟩),.pointer (some p),.int .u64 406]) W:=by
  rw [rlm];simp only [Sem.run_bind,parts27,Result.andThen];simp [ReflectliteValue.elem,loadVar,isAgg,underlying,Tryz.underlying193,ha,Result.andThen,elemOf27,mk25]
theorem rls (v x : Value) : ReflectliteValue.set #[v,x] = (do
    let (some (dst,a,fl),some (src,b,_)):=(← ReflectliteValue.parts v,← ReflectliteValue.parts x)
      | unsupported (.noEntry "extern/(internal/reflectlite.Value).Set.zeroValue")
    if fl / ReflectliteValue.flagAddr % 2 == 0 then unsupported (.noEntry "extern/(internal/reflectlite.Value).Set.unaddressable")
    let val ← loadVar src b
    if ← Rtype.directlyAssignable dst src then storeVar dst a val
    else if ← Rtype.implements dst src then
      if (← Rtype.kind src) == 20 then
        match val with
        | .nilIface => unsupported (.noEntry "extern/reflectlite: a nil value of one interface type handed on as a value of another")
        | _=>storeVar dst a val
      else storeVar dst a (.iface src val)
    else panicString ("reflectlite.Set: value of type " ++ (← Rtype.spelt src) ++ " is not assignable to type " ++ (← Rtype.spelt dst))
    pure (.tuple #[])):=rfl
theorem parts25a (a : Addr) (w : World) : (ReflectliteValue.parts (.agg #[.pointer (some ⟨4,93,none⟩),.pointer (some a),.int .u64 406])).run Tryz.prog w = .ok (some (93,a,406)) w:=by kernel_rfl
theorem parts25 (a : Addr) (w : World) : (ReflectliteValue.parts (.agg #[.pointer (some ⟨4,93,none⟩),.pointer (some a),.int .u64 150])).run Tryz.prog w = .ok (some (93,a,150)) w:=by kernel_rfl
theorem direct25 (w : World) : (Rtype.directlyAssignable 93 93).run Tryz.prog w = .ok true w:=by kernel_rfl
theorem set25 (ta b e : Addr) (old : Value) (W : World) (hb : W.cell? b = some (.pointer (some e))) (ht : W.cell? ta = some old) (hf : W.frozen? ta = false) :
    (ReflectliteValue.set #[.agg #[.pointer (some ⟨4,93,none⟩),.pointer (some ta),.int .u64 406],.agg #[.pointer (some ⟨4,93,none⟩),.pointer (some b),.int .u64 150]]).run Tryz.prog W
      = .ok (.tuple #[]) (W.setCell ta (.pointer (some e))):=by
  rw [rls];simp only [Sem.run_bind,parts25a,parts25,Result.andThen];simp [ReflectliteValue.flagAddr,loadVar,isAgg,underlying,Tryz.underlying93,hb,Result.andThen,direct25,storeVar,Value.cells,storeCells,Addr.add];rw [run_store Tryz.prog W ta _ _ (by rfl)];simp [ht,hf]
theorem typeOfN (v : Value) (w : World) : (ReflectliteType.typeOf #[.iface 59 v]).run Tryz.prog w = .ok (.iface 239 (.agg #[.pointer (some ⟨4,59,none⟩)])) w:=by kernel_rfl
theorem assignableN (w : World) : (ReflectliteType.relation "AssignableTo" ReflectliteType.assignableTo #[.agg #[.pointer (some ⟨4, 59, none⟩)], .iface 239 (.agg #[.pointer (some ⟨4, 93, none⟩)])]).run Tryz.prog w = .ok (.bool false) w := by kernel_rfl
theorem noAs (v : Value) (xT : TypeId) (w : World) : (Instr.typeAssert (.iface 59 v) xT 244 true).run Tryz.prog w = .ok (.tuple #[.nilIface,.bool false]) w:=run_typeAssert_lacksB Tryz.underlying244 (by kernel_rfl) (by kernel_rfl) v xT w
theorem noUnwrap (v : Value) (xT : TypeId) (w : World) : (Instr.typeAssert (.iface 59 v) xT 247 true).run Tryz.prog w = .ok (.tuple #[.nilIface,.bool false]) w:=run_typeAssert_lacksB Tryz.underlying247 (by kernel_rfl) (by kernel_rfl) v xT w
theorem noUnwraps (v : Value) (xT : TypeId) (w : World) : (Instr.typeAssert (.iface 59 v) xT 248 true).run Tryz.prog w = .ok (.tuple #[.nilIface,.bool false]) w:=run_typeAssert_lacksB Tryz.underlying248 (by kernel_rfl) (by kernel_rfl) v xT w
set_option maxHeartbeats 4000000 in
theorem as_hit (e t : Addr) (old : Value) (w : World) (hg : w.cell? ⟨0,0,none⟩ = some (.iface 239 (.agg #[.pointer (some ⟨4,34,none⟩)]))) (ht0 : w.cell? t = some old) (hf0 : w.frozen? t = false) :
    Calls Tryz.prog 121 #[.iface 93 (.pointer (some e)),.iface 193 (.pointer (some t))] w fun ev w'=>ev = .returned (.bool true) ∧ w' = ((((w.alloc (.cells #[.pointer (some t)] 193)).alloc (.cells #[.pointer (some ⟨4,193,none⟩),.pointer (some ⟨w.heap.size,0,none⟩),.int .u64 150] 222)).alloc (.cells #[.pointer (some ⟨4,193,none⟩),.pointer (some ⟨w.heap.size,0,none⟩),.int .u64 150] 222)).alloc (.cells #[.pointer (some e)] 93)).setCell t (.pointer (some e)):=by
  have h6 := @run_callFunc_extern Tryz.prog 150 _ (fun args => ReflectliteValue.unpack (args.getD 0 (.tuple #[]))) Tryz.func150 (by kernel_rfl) (by kernel_rfl) (by kernel_rfl) (by kernel_rfl);have h7 := @run_callFunc_extern Tryz.prog 151 _ (ReflectliteValue.methodAny (ReflectliteValue.valueError "reflectlite.Value.Type" 0) (fun t _ _ _ => ReflectliteType.toType t)) Tryz.func151 (by kernel_rfl) (by kernel_rfl) (by kernel_rfl) (by kernel_rfl);have h8 := @run_callFunc_extern Tryz.prog 152 _ (ReflectliteValue.method (ReflectliteValue.valueError "reflectlite.Value.IsNil" 0) ReflectliteValue.isNil) Tryz.func152 (by kernel_rfl) (by kernel_rfl) (by kernel_rfl) (by kernel_rfl);have h27 := @run_callFunc_extern Tryz.prog 223 _ (ReflectliteType.abiMethod fun t => do pure (.int .u8 (← Rtype.kind t))) Tryz.func223 (by kernel_rfl) (by kernel_rfl) (by kernel_rfl) (by kernel_rfl);have h37 := @run_callFunc_extern Tryz.prog 236 _ (ReflectliteType.method ReflectliteType.elem) Tryz.func236 (by kernel_rfl) (by kernel_rfl) (by kernel_rfl) (by kernel_rfl);have h38 := @run_callFunc_extern Tryz.prog 237 _ (ReflectliteType.relation "Implements" ReflectliteType.implements_) Tryz.func237 (by kernel_rfl) (by kernel_rfl) (by kernel_rfl) (by kernel_rfl);have h10 := @run_callFunc_extern Tryz.prog 166 _ ReflectliteType.typeOf Tryz.func166 (by kernel_rfl) (by kernel_rfl) (by kernel_rfl) (by kernel_rfl);have h35 := @run_callFunc_extern Tryz.prog 234 _ (ReflectliteType.relation "AssignableTo" ReflectliteType.assignableTo) Tryz.func234 (by kernel_rfl) (by kernel_rfl) (by kernel_rfl) (by kernel_rfl);have h11 := @run_callFunc_extern Tryz.prog 167 _ (ReflectliteValue.method (ReflectliteValue.valueError "reflectlite.Value.Elem" 0) ReflectliteValue.elem) Tryz.func167 (by kernel_rfl) (by kernel_rfl) (by kernel_rfl) (by kernel_rfl);have h12 := @run_callFunc_extern Tryz.prog 168 _ ReflectliteValue.set Tryz.func168 (by kernel_rfl) (by kernel_rfl) (by kernel_rfl) (by kernel_rfl);have tO := typeOf25;have mA := methodAssignableTo;have a25 := assignable25;have v25 := valueOf25;have f6 := valueOf27;have f7 := type27;have mK := methodKind;have mE := methodElem;have mI := methodImplements;have k27 := kind27;have k25 := kind25;have e27 := elem27;have i25 := implements25;have n8 := isNil27 ⟨w.heap.size, 0, none⟩ t ((w.alloc (.cells #[.pointer (some t)] 193)).alloc (.cells #[.pointer (some ⟨4, 193, none⟩), .pointer (some ⟨w.heap.size, 0, none⟩), .int .u64 150] 222)) (by simp);have hlt : 0 < w.heap.size := by
    rcases Nat.lt_or_ge 0 w.heap.size with h|h
    · exact h
    · simp [World.cell?,Array.getElem?_eq_none h] at hg
  have hg2 : ((w.alloc (.cells #[.pointer (some t)] 193)).alloc (.cells #[.pointer (some ⟨4,193,none⟩),.pointer (some ⟨w.heap.size,0,none⟩),.int .u64 150] 222)).cell? ⟨0,0,none⟩ = some (.iface 239 (.agg #[.pointer (some ⟨4,34,none⟩)])):=by
    rw [World.cell?_alloc_lt _ _ ⟨0,0,none⟩ (by simp),World.cell?_alloc_lt _ _ ⟨0,0,none⟩ hlt];exact hg
  have htl : t.block < w.heap.size:=by
    rcases Nat.lt_or_ge t.block w.heap.size with h|h
    · exact h
    · simp [World.cell?,Array.getElem?_eq_none h] at ht0
  have el:=elemV27 ⟨w.heap.size,0,none⟩ t (((w.alloc (.cells #[.pointer (some t)] 193)).alloc (.cells #[.pointer (some ⟨4,193,none⟩),.pointer (some ⟨w.heap.size,0,none⟩),.int .u64 150] 222)).alloc (.cells #[.pointer (some ⟨4,193,none⟩),.pointer (some ⟨w.heap.size,0,none⟩),.int .u64 150] 222)) (by rw [World.cell?_alloc_lt _ _ ⟨w.heap.size,0,none⟩ (by simp;omega)];simp);have st:=set25 t ⟨w.heap.size + 1 + 1 + 1,0,none⟩ e old ((((w.alloc (.cells #[.pointer (some t)] 193)).alloc (.cells #[.pointer (some ⟨4,193,none⟩),.pointer (some ⟨w.heap.size,0,none⟩),.int .u64 150] 222)).alloc (.cells #[.pointer (some ⟨4,193,none⟩),.pointer (some ⟨w.heap.size,0,none⟩),.int .u64 150] 222)).alloc (.cells #[.pointer (some e)] 93))
    (by rw [World.cell?_alloc_at _ _ _ _ (by simp)];rfl)
    (by rw [World.cell?_alloc_lt _ _ t (by simp;omega),World.cell?_alloc_lt _ _ t (by simp;omega),World.cell?_alloc_lt _ _ t (by simp;omega),World.cell?_alloc_lt _ _ t htl];exact ht0)
    (by rw [World.frozen?_alloc_old _ _ t (by simp;omega),World.frozen?_alloc_old _ _ t (by simp;omega),World.frozen?_alloc_old _ _ t (by simp;omega),World.frozen?_alloc_old _ _ t (Nat.ne_of_lt htl)];exact hf0)
  go_enter Tryz.func121,Tryz.ntmps121
  go_wp2
  refine wp_loop_rounds 1 ?_;rw [rounds_succ]
  go_wp2
  go_ret
  exact ⟨rfl,rfl⟩
set_option maxHeartbeats 4000000 in
theorem as_miss (v : Value) (t : Addr) (old : Value) (w : World) (hg : w.cell? ⟨0,0,none⟩ = some (.iface 239 (.agg #[.pointer (some ⟨4,34,none⟩)]))) (ht0 : w.cell? t = some old) (_ : w.frozen? t = false) :
    Calls Tryz.prog 121 #[.iface 59 v,.iface 193 (.pointer (some t))] w fun ev w'=>ev = .returned (.bool false) ∧ w' = ((w.alloc (.cells #[.pointer (some t)] 193)).alloc (.cells #[.pointer (some ⟨4,193,none⟩),.pointer (some ⟨w.heap.size,0,none⟩),.int .u64 150] 222)).alloc (.cells #[.pointer (some ⟨4,193,none⟩),.pointer (some ⟨w.heap.size,0,none⟩),.int .u64 150] 222):=by
  have h6 := @run_callFunc_extern Tryz.prog 150 _ (fun args => ReflectliteValue.unpack (args.getD 0 (.tuple #[]))) Tryz.func150 (by kernel_rfl) (by kernel_rfl) (by kernel_rfl) (by kernel_rfl);have h7 := @run_callFunc_extern Tryz.prog 151 _ (ReflectliteValue.methodAny (ReflectliteValue.valueError "reflectlite.Value.Type" 0) (fun t _ _ _ => ReflectliteType.toType t)) Tryz.func151 (by kernel_rfl) (by kernel_rfl) (by kernel_rfl) (by kernel_rfl);have h8 := @run_callFunc_extern Tryz.prog 152 _ (ReflectliteValue.method (ReflectliteValue.valueError "reflectlite.Value.IsNil" 0) ReflectliteValue.isNil) Tryz.func152 (by kernel_rfl) (by kernel_rfl) (by kernel_rfl) (by kernel_rfl);have h27 := @run_callFunc_extern Tryz.prog 223 _ (ReflectliteType.abiMethod fun t => do pure (.int .u8 (← Rtype.kind t))) Tryz.func223 (by kernel_rfl) (by kernel_rfl) (by kernel_rfl) (by kernel_rfl);have h37 := @run_callFunc_extern Tryz.prog 236 _ (ReflectliteType.method ReflectliteType.elem) Tryz.func236 (by kernel_rfl) (by kernel_rfl) (by kernel_rfl) (by kernel_rfl);have h38 := @run_callFunc_extern Tryz.prog 237 _ (ReflectliteType.relation "Implements" ReflectliteType.implements_) Tryz.func237 (by kernel_rfl) (by kernel_rfl) (by kernel_rfl) (by kernel_rfl);have h10 := @run_callFunc_extern Tryz.prog 166 _ ReflectliteType.typeOf Tryz.func166 (by kernel_rfl) (by kernel_rfl) (by kernel_rfl) (by kernel_rfl);have h35 := @run_callFunc_extern Tryz.prog 234 _ (ReflectliteType.relation "AssignableTo" ReflectliteType.assignableTo) Tryz.func234 (by kernel_rfl) (by kernel_rfl) (by kernel_rfl) (by kernel_rfl);have h11 := @run_callFunc_extern Tryz.prog 167 _ (ReflectliteValue.method (ReflectliteValue.valueError "reflectlite.Value.Elem" 0) ReflectliteValue.elem) Tryz.func167 (by kernel_rfl) (by kernel_rfl) (by kernel_rfl) (by kernel_rfl);have h12 := @run_callFunc_extern Tryz.prog 168 _ ReflectliteValue.set Tryz.func168 (by kernel_rfl) (by kernel_rfl) (by kernel_rfl) (by kernel_rfl);have tO := typeOfN;have q1 := noAs;have q2 := noUnwrap;have q3 := noUnwraps;have mA := methodAssignableTo;have a25 := assignableN;have v25 := valueOf25;have f6 := valueOf27;have f7 := type27;have mK := methodKind;have mE := methodElem;have mI := methodImplements;have k27 := kind27;have k25 := kind25;have e27 := elem27;have i25 := implements25;have n8 := isNil27 ⟨w.heap.size, 0, none⟩ t ((w.alloc (.cells #[.pointer (some t)] 193)).alloc (.cells #[.pointer (some ⟨4, 193, none⟩), .pointer (some ⟨w.heap.size, 0, none⟩), .int .u64 150] 222)) (by simp);have hlt : 0 < w.heap.size := by
    rcases Nat.lt_or_ge 0 w.heap.size with h|h
    · exact h
    · simp [World.cell?,Array.getElem?_eq_none h] at hg
  have hg2 : ((w.alloc (.cells #[.pointer (some t)] 193)).alloc (.cells #[.pointer (some ⟨4,193,none⟩),.pointer (some ⟨w.heap.size,0,none⟩),.int .u64 150] 222)).cell? ⟨0,0,none⟩ = some (.iface 239 (.agg #[.pointer (some ⟨4,34,none⟩)])):=by
    rw [World.cell?_alloc_lt _ _ ⟨0,0,none⟩ (by simp),World.cell?_alloc_lt _ _ ⟨0,0,none⟩ hlt];exact hg
  have htl : t.block < w.heap.size:=by
    rcases Nat.lt_or_ge t.block w.heap.size with h|h
    · exact h
    · simp [World.cell?,Array.getElem?_eq_none h] at ht0
  have el:=elemV27 ⟨w.heap.size,0,none⟩ t (((w.alloc (.cells #[.pointer (some t)] 193)).alloc (.cells #[.pointer (some ⟨4,193,none⟩),.pointer (some ⟨w.heap.size,0,none⟩),.int .u64 150] 222)).alloc (.cells #[.pointer (some ⟨4,193,none⟩),.pointer (some ⟨w.heap.size,0,none⟩),.int .u64 150] 222)) (by rw [World.cell?_alloc_lt _ _ ⟨w.heap.size,0,none⟩ (by simp;omega)];simp)
  go_enter Tryz.func121,Tryz.ntmps121
  go_wp2
  refine wp_loop_rounds 1 ?_;rw [rounds_succ]
  go_wp2
  go_ret
  exact ⟨rfl,rfl⟩
end Go.Proofs.YtpfkncffaanjcaaGreatDoor.As
