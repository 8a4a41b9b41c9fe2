/-
  The texts of this proof, joined: abstract values, the library, the functions of the program and what they compute (part 5). No condition.
-/
import Derived.Shelf.Vars
import Derived.KernelRfl
import Derived.Test.YtlbainbjlibfiaaDoorK1
import Derived.Test.YtlbainbjlibfiaaDoorK2
import Derived.Test.YtlbainbjlibfiaaDoorK3
import Derived.Test.YtlbainbjlibfiaaDoorK4
namespace Go.Proofs.YtlbainbjlibfiaaDoor
open Go.RowKit
namespace Ab
set_option maxRecDepth 100000
namespace Q
theorem begin_c (p : PSt) (l : Lne) (_hb : PB p 1000000) : ACallO Tryd.prog 55 [.one (.own 0 0), .agg (toL rLne l)] (psO p) 5 (.tup []) (psO (beginS p l)) 5 := by
  refine acallo_of (rs := []) Tryd.func55 rfl rfl rfl teOk (by decide) rfl ?_
  refine acode_seq ?_
  refine acode_region ?_
  refine acode_seq ?_
  refine acode_region ?_
  intro l1_4
  try simp only [Int.toNat_natCast, dflt_sl, dflt_st, dflt_str, dflt_int, dflt_bool] at l1_4
  refine And.intro (fun h => trivial) ?_
  refine And.intro (fun h => ⟨⟨h, trivial⟩, trivial⟩) ?_
  refine And.intro (fun h => ⟨⟨h, trivial⟩, trivial⟩) ?_
  refine And.intro (fun h => ⟨⟨h, trivial⟩, trivial⟩) ?_
  refine And.intro (fun h => ⟨⟨h, trivial⟩, trivial⟩) ?_
  refine And.intro (fun h => ⟨⟨h, trivial⟩, trivial⟩) ?_
  refine And.intro (fun h => ⟨⟨h, trivial⟩, trivial⟩) ?_
  refine And.intro (fun h => trivial) ?_
  refine And.intro (fun h => ⟨⟨h, trivial⟩, trivial⟩) ?_
  refine And.intro (fun h => ⟨⟨h, trivial⟩, trivial⟩) ?_
  refine And.intro (fun h => ⟨⟨h, trivial⟩, trivial⟩) ?_
  refine And.intro (fun h => ⟨⟨h, trivial⟩, trivial⟩) ?_
  refine And.intro (fun h => ⟨⟨⟨h, trivial⟩, trivial⟩, by first | exact fun h2 => h2 | (intro h2; rw [h, h2]; rfl) | (intro h2; cases h2) | (intro h2; simp_all [gq])⟩) ?_
  refine And.intro (by first | (intro h; rw [h]; rfl) | (intro h; cases h)) ?_
  refine acode_mend 1 6 ?_
  refine acode_region ?_
  exact ⟨rfl, rfl, rfl, ⟨rfl, rfl, rfl, rfl, rfl⟩, rfl⟩
theorem ahead_none {p : PSt} (l : Lne) (h : p.lns = []) : ACallO Tryd.prog 53 [.one (.own 0 0), .agg (toL rLne l), ii .i64 3] (psO p) 5 (.one (errF l.1 2)) [] 5 := by
  refine acallo_of (rs := [6]) Tryd.func53 rfl rfl rfl teOk (by decide) rfl ?_
  refine acode_seq ?_
  refine acode_region ?_
  refine acode_seq ?_
  refine acode_seq ?_
  refine acode_region ?_
  refine acode_block ?_
  refine acode_seq ?_
  refine acode_region ?_
  refine acode_cond rfl (fun h8 => ?_) (fun h8 => ?_)
  ·try simp only [decide_eq_true_eq] at h8
   try simp only [Int.toNat_natCast, dflt_sl, dflt_st, dflt_str, dflt_int, dflt_bool] at h8
   refine acode_seq ?_
   refine acode_seq ?_
   refine acode_region ?_
   intro l3_5
   try simp only [Int.toNat_natCast, dflt_sl, dflt_st, dflt_str, dflt_int, dflt_bool] at l3_5
   refine acode_cond rfl (fun h16 => ?_) (fun h16 => ?_)
   ·try simp only [decide_eq_true_eq] at h16
    try simp only [Int.toNat_natCast, dflt_sl, dflt_st, dflt_str, dflt_int, dflt_bool] at h16
    refine acode_seq ?_
    refine acode_region ?_
    refine Or.inl ?_
    refine And.intro (rfl) ?_
    refine Exists.intro _ (And.intro (fault_c l.1 2) ?_)
    refine acode_ret ?_
    exact ⟨rfl, trivial, rfl⟩
   ·try simp only [decide_eq_false_iff_not] at h16
    try simp only [Int.toNat_natCast, dflt_sl, dflt_st, dflt_str, dflt_int, dflt_bool] at h16
    exact absurd (by rw [h]; rfl) h16
  ·try simp only [decide_eq_false_iff_not] at h8
   try simp only [Int.toNat_natCast, dflt_sl, dflt_st, dflt_str, dflt_int, dflt_bool] at h8
   exact absurd trivial h8
theorem ahead_more {p : PSt} {l : Lne} (h : p.lns ≠ []) (he : l.2.2.2 = true) (hb : PB p 1000000) : ACallO Tryd.prog 53 [.one (.own 0 0), .agg (toL rLne l), ii .i64 3] (psO p) 5 (.one (.lit .nilIface)) (psO { p with lns := p.lns ++ [l.2.2.1] }) 5 := by
  have hl := hb.lns
  refine acallo_of (rs := [6]) Tryd.func53 rfl rfl rfl teOk (by decide) rfl ?_
  refine acode_seq ?_
  refine acode_region ?_
  refine acode_seq ?_
  refine acode_seq ?_
  refine acode_region ?_
  refine acode_block ?_
  refine acode_seq ?_
  refine acode_region ?_
  refine acode_cond rfl (fun h8 => ?_) (fun h8 => ?_)
  ·try simp only [decide_eq_true_eq] at h8
   try simp only [Int.toNat_natCast, dflt_sl, dflt_st, dflt_str, dflt_int, dflt_bool] at h8
   refine acode_seq ?_
   refine acode_seq ?_
   refine acode_region ?_
   intro l3_5
   try simp only [Int.toNat_natCast, dflt_sl, dflt_st, dflt_str, dflt_int, dflt_bool] at l3_5
   refine acode_cond rfl (fun h16 => ?_) (fun h16 => ?_)
   ·try simp only [decide_eq_true_eq] at h16
    try simp only [Int.toNat_natCast, dflt_sl, dflt_st, dflt_str, dflt_int, dflt_bool] at h16
    exact absurd (List.eq_nil_of_length_eq_zero (by omega)) h
   ·try simp only [decide_eq_false_iff_not] at h16
    try simp only [Int.toNat_natCast, dflt_sl, dflt_st, dflt_str, dflt_int, dflt_bool] at h16
    refine acode_skip ?_
    refine acode_seq ?_
    refine acode_ord rfl ?_
    refine aord_light 0 rfl rfl rfl (by kernel_rfl) ?_
    refine aord_light 1 rfl rfl rfl (by kernel_rfl) ?_
    refine aord_light 2 rfl rfl rfl (by kernel_rfl) ?_
    refine aord_light 3 rfl rfl rfl (by kernel_rfl) ?_
    refine aord_light 4 rfl rfl rfl (by kernel_rfl) ?_
    refine aord_light 6 rfl rfl rfl (by kernel_rfl) ?_
    refine aord_all [5, 7] (by kernel_rfl) rfl ?_
    refine And.intro ?_ ?_
    ·refine aord_all [7] (by kernel_rfl) rfl ?_
     refine aord_all [8] (by kernel_rfl) rfl ?_
     refine aord_all [9] (by kernel_rfl) rfl ?_
     refine And.intro (by first | exact app_le (by first | omega | (simp only [List.length_cons, List.length_nil]; omega) | (simp; omega)) (by decide) | omega | assumption | decide | (simp only [Int.toNat_natCast, dflt_sl, dflt_st, dflt_str, dflt_int, dflt_bool]; omega) | (simp <;> omega)) ?_
     refine aord_light 10 rfl rfl rfl (by kernel_rfl) ?_
     refine aord_light 11 rfl rfl rfl (by kernel_rfl) ?_
     refine aord_light 12 rfl rfl rfl (by kernel_rfl) ?_
     refine aord_all [13] (by kernel_rfl) rfl ?_
     refine aord_done (by kernel_rfl) ?_
     refine acode_seq ?_
     refine acode_seq ?_
     refine acode_region ?_
     refine acode_cond rfl (fun h35 => ?_) (fun h35 => ?_)
     ·try simp only [decide_eq_true_eq, decide_eq_false_iff_not, Bool.and_eq_true, Bool.not_eq_true', Bool.not_eq_false', Bool.or_eq_false_iff, Bool.or_eq_true, Bool.and_eq_false_iff, Int.not_lt, Int.not_le] at h35
      try simp only [Int.toNat_natCast, dflt_sl, dflt_st, dflt_str, dflt_int, dflt_bool] at h35
      refine acode_seq ?_
      refine acode_region ?_
      refine acode_ret ?_
      exact ⟨rfl, ⟨rfl, rfl, rfl, rfl, rfl⟩, rfl⟩
     ·try simp only [decide_eq_true_eq, decide_eq_false_iff_not, Bool.and_eq_true, Bool.not_eq_true', Bool.not_eq_false', Bool.or_eq_false_iff, Bool.or_eq_true, Bool.and_eq_false_iff, Int.not_lt, Int.not_le] at h35
      try simp only [Int.toNat_natCast, dflt_sl, dflt_st, dflt_str, dflt_int, dflt_bool] at h35
      exact absurd h35 (by rw [he]; decide)
    ·refine aord_all [5, 8] (by kernel_rfl) rfl ?_
     refine And.intro ?_ ?_
     ·refine aord_all [8] (by kernel_rfl) rfl ?_
      refine aord_all [9] (by kernel_rfl) rfl ?_
      refine And.intro (by first | exact app_le (by first | omega | (simp only [List.length_cons, List.length_nil]; omega) | (simp; omega)) (by decide) | omega | assumption | decide | (simp only [Int.toNat_natCast, dflt_sl, dflt_st, dflt_str, dflt_int, dflt_bool]; omega) | (simp <;> omega)) ?_
      refine aord_light 10 rfl rfl rfl (by kernel_rfl) ?_
      refine aord_light 11 rfl rfl rfl (by kernel_rfl) ?_
      refine aord_light 12 rfl rfl rfl (by kernel_rfl) ?_
      refine aord_all [13] (by kernel_rfl) rfl ?_
      refine aord_done (by kernel_rfl) ?_
      refine acode_seq ?_
      refine acode_seq ?_
      refine acode_region ?_
      refine acode_cond rfl (fun h35 => ?_) (fun h35 => ?_)
      ·try simp only [decide_eq_true_eq, decide_eq_false_iff_not, Bool.and_eq_true, Bool.not_eq_true', Bool.not_eq_false', Bool.or_eq_false_iff, Bool.or_eq_true, Bool.and_eq_false_iff, Int.not_lt, Int.not_le] at h35
       try simp only [Int.toNat_natCast, dflt_sl, dflt_st, dflt_str, dflt_int, dflt_bool] at h35
       refine acode_seq ?_
       refine acode_region ?_
       refine acode_ret ?_
       exact ⟨rfl, ⟨rfl, rfl, rfl, rfl, rfl⟩, rfl⟩
      ·try simp only [decide_eq_true_eq, decide_eq_false_iff_not, Bool.and_eq_true, Bool.not_eq_true', Bool.not_eq_false', Bool.or_eq_false_iff, Bool.or_eq_true, Bool.and_eq_false_iff, Int.not_lt, Int.not_le] at h35
       try simp only [Int.toNat_natCast, dflt_sl, dflt_st, dflt_str, dflt_int, dflt_bool] at h35
       exact absurd h35 (by rw [he]; decide)
     ·refine aord_all [5] (by kernel_rfl) rfl ?_
      refine aord_all [9] (by kernel_rfl) rfl ?_
      refine And.intro (by first | exact app_le (by first | omega | (simp only [List.length_cons, List.length_nil]; omega) | (simp; omega)) (by decide) | omega | assumption | decide | (simp only [Int.toNat_natCast, dflt_sl, dflt_st, dflt_str, dflt_int, dflt_bool]; omega) | (simp <;> omega)) ?_
      refine aord_light 10 rfl rfl rfl (by kernel_rfl) ?_
      refine aord_light 11 rfl rfl rfl (by kernel_rfl) ?_
      refine aord_light 12 rfl rfl rfl (by kernel_rfl) ?_
      refine aord_all [13] (by kernel_rfl) rfl ?_
      refine aord_done (by kernel_rfl) ?_
      refine acode_seq ?_
      refine acode_seq ?_
      refine acode_region ?_
      refine acode_cond rfl (fun h35 => ?_) (fun h35 => ?_)
      ·try simp only [decide_eq_true_eq, decide_eq_false_iff_not, Bool.and_eq_true, Bool.not_eq_true', Bool.not_eq_false', Bool.or_eq_false_iff, Bool.or_eq_true, Bool.and_eq_false_iff, Int.not_lt, Int.not_le] at h35
       try simp only [Int.toNat_natCast, dflt_sl, dflt_st, dflt_str, dflt_int, dflt_bool] at h35
       refine acode_seq ?_
       refine acode_region ?_
       refine acode_ret ?_
       exact ⟨rfl, ⟨rfl, rfl, rfl, rfl, rfl⟩, rfl⟩
      ·try simp only [decide_eq_true_eq, decide_eq_false_iff_not, Bool.and_eq_true, Bool.not_eq_true', Bool.not_eq_false', Bool.or_eq_false_iff, Bool.or_eq_true, Bool.and_eq_false_iff, Int.not_lt, Int.not_le] at h35
       try simp only [Int.toNat_natCast, dflt_sl, dflt_st, dflt_str, dflt_int, dflt_bool] at h35
       exact absurd h35 (by rw [he]; decide)
  ·try simp only [decide_eq_false_iff_not] at h8
   try simp only [Int.toNat_natCast, dflt_sl, dflt_st, dflt_str, dflt_int, dflt_bool] at h8
   exact absurd trivial h8
theorem ahead_last {p q : PSt} {l : Lne} (h : p.lns ≠ []) (he : l.2.2.2 = false) (hb : PB p 900000) (hs : l.2.2.1.size ≤ 90000) (hf : flushS { p with lns := p.lns ++ [l.2.2.1] } = .inr q) : ACallO Tryd.prog 53 [.one (.own 0 0), .agg (toL rLne l), ii .i64 3] (psO p) 5 (.one (.lit .nilIface)) (psO q) 5 := by
  have hl := hb.lns
  refine acallo_of (rs := [6]) Tryd.func53 rfl rfl rfl teOk (by decide) rfl ?_
  refine acode_seq ?_
  refine acode_region ?_
  refine acode_seq ?_
  refine acode_seq ?_
  refine acode_region ?_
  refine acode_block ?_
  refine acode_seq ?_
  refine acode_region ?_
  refine acode_cond rfl (fun h8 => ?_) (fun h8 => ?_)
  ·try simp only [decide_eq_true_eq] at h8
   try simp only [Int.toNat_natCast, dflt_sl, dflt_st, dflt_str, dflt_int, dflt_bool] at h8
   refine acode_seq ?_
   refine acode_seq ?_
   refine acode_region ?_
   intro l3_5
   try simp only [Int.toNat_natCast, dflt_sl, dflt_st, dflt_str, dflt_int, dflt_bool] at l3_5
   refine acode_cond rfl (fun h16 => ?_) (fun h16 => ?_)
   ·try simp only [decide_eq_true_eq] at h16
    try simp only [Int.toNat_natCast, dflt_sl, dflt_st, dflt_str, dflt_int, dflt_bool] at h16
    exact absurd (List.eq_nil_of_length_eq_zero (by omega)) h
   ·try simp only [decide_eq_false_iff_not] at h16
    try simp only [Int.toNat_natCast, dflt_sl, dflt_st, dflt_str, dflt_int, dflt_bool] at h16
    refine acode_skip ?_
    refine acode_seq ?_
    refine acode_ord rfl ?_
    refine aord_light 0 rfl rfl rfl (by kernel_rfl) ?_
    refine aord_light 1 rfl rfl rfl (by kernel_rfl) ?_
    refine aord_light 2 rfl rfl rfl (by kernel_rfl) ?_
    refine aord_light 3 rfl rfl rfl (by kernel_rfl) ?_
    refine aord_light 4 rfl rfl rfl (by kernel_rfl) ?_
    refine aord_light 6 rfl rfl rfl (by kernel_rfl) ?_
    refine aord_all [5, 7] (by kernel_rfl) rfl ?_
    refine And.intro ?_ ?_
    ·refine aord_all [7] (by kernel_rfl) rfl ?_
     refine aord_all [8] (by kernel_rfl) rfl ?_
     refine aord_all [9] (by kernel_rfl) rfl ?_
     refine And.intro (by first | exact app_le (by first | omega | (simp only [List.length_cons, List.length_nil]; omega) | (simp; omega)) (by decide) | omega | assumption | decide | (simp only [Int.toNat_natCast, dflt_sl, dflt_st, dflt_str, dflt_int, dflt_bool]; omega) | (simp <;> omega)) ?_
     refine aord_light 10 rfl rfl rfl (by kernel_rfl) ?_
     refine aord_light 11 rfl rfl rfl (by kernel_rfl) ?_
     refine aord_light 12 rfl rfl rfl (by kernel_rfl) ?_
     refine aord_all [13] (by kernel_rfl) rfl ?_
     refine aord_done (by kernel_rfl) ?_
     refine acode_seq ?_
     refine acode_seq ?_
     refine acode_region ?_
     refine acode_cond rfl (fun h35 => ?_) (fun h35 => ?_)
     ·try simp only [decide_eq_true_eq, decide_eq_false_iff_not, Bool.and_eq_true, Bool.not_eq_true', Bool.not_eq_false', Bool.or_eq_false_iff, Bool.or_eq_true, Bool.and_eq_false_iff, Int.not_lt, Int.not_le] at h35
      try simp only [Int.toNat_natCast, dflt_sl, dflt_st, dflt_str, dflt_int, dflt_bool] at h35
      exact absurd h35 (by rw [he]; decide)
     ·try simp only [decide_eq_true_eq, decide_eq_false_iff_not, Bool.and_eq_true, Bool.not_eq_true', Bool.not_eq_false', Bool.or_eq_false_iff, Bool.or_eq_true, Bool.and_eq_false_iff, Int.not_lt, Int.not_le] at h35
      try simp only [Int.toNat_natCast, dflt_sl, dflt_st, dflt_str, dflt_int, dflt_bool] at h35
      refine acode_skip ?_
      refine acode_seq ?_
      refine acode_region ?_
      refine Or.inr (Or.inl (Exists.intro [] (Exists.intro [0, 1, 2, 3, 4] (Exists.intro _ (Exists.intro _ (Exists.intro _ (Exists.intro _ (Exists.intro _ (And.intro (flush_ok hf ((more_B _ hb).mono (by omega))) (And.intro rfl (And.intro (And.intro (And.intro rfl rfl) (And.intro (And.intro rfl rfl) (And.intro (And.intro rfl rfl) (And.intro (And.intro rfl rfl) (And.intro (And.intro rfl rfl) True.intro))))) (And.intro rfl ?_))))))))))))
      refine acode_ret ?_
      exact ⟨rfl, ⟨rfl, rfl, rfl, rfl, rfl⟩, rfl⟩
    ·refine aord_all [5, 8] (by kernel_rfl) rfl ?_
     refine And.intro ?_ ?_
     ·refine aord_all [8] (by kernel_rfl) rfl ?_
      refine aord_all [9] (by kernel_rfl) rfl ?_
      refine And.intro (by first | exact app_le (by first | omega | (simp only [List.length_cons, List.length_nil]; omega) | (simp; omega)) (by decide) | omega | assumption | decide | (simp only [Int.toNat_natCast, dflt_sl, dflt_st, dflt_str, dflt_int, dflt_bool]; omega) | (simp <;> omega)) ?_
      refine aord_light 10 rfl rfl rfl (by kernel_rfl) ?_
      refine aord_light 11 rfl rfl rfl (by kernel_rfl) ?_
      refine aord_light 12 rfl rfl rfl (by kernel_rfl) ?_
      refine aord_all [13] (by kernel_rfl) rfl ?_
      refine aord_done (by kernel_rfl) ?_
      refine acode_seq ?_
      refine acode_seq ?_
      refine acode_region ?_
      refine acode_cond rfl (fun h35 => ?_) (fun h35 => ?_)
      ·try simp only [decide_eq_true_eq, decide_eq_false_iff_not, Bool.and_eq_true, Bool.not_eq_true', Bool.not_eq_false', Bool.or_eq_false_iff, Bool.or_eq_true, Bool.and_eq_false_iff, Int.not_lt, Int.not_le] at h35
       try simp only [Int.toNat_natCast, dflt_sl, dflt_st, dflt_str, dflt_int, dflt_bool] at h35
       exact absurd h35 (by rw [he]; decide)
      ·try simp only [decide_eq_true_eq, decide_eq_false_iff_not, Bool.and_eq_true, Bool.not_eq_true', Bool.not_eq_false', Bool.or_eq_false_iff, Bool.or_eq_true, Bool.and_eq_false_iff, Int.not_lt, Int.not_le] at h35
       try simp only [Int.toNat_natCast, dflt_sl, dflt_st, dflt_str, dflt_int, dflt_bool] at h35
       refine acode_skip ?_
       refine acode_seq ?_
       refine acode_region ?_
       refine Or.inr (Or.inl (Exists.intro [] (Exists.intro [0, 1, 2, 3, 4] (Exists.intro _ (Exists.intro _ (Exists.intro _ (Exists.intro _ (Exists.intro _ (And.intro (flush_ok hf ((more_B _ hb).mono (by omega))) (And.intro rfl (And.intro (And.intro (And.intro rfl rfl) (And.intro (And.intro rfl rfl) (And.intro (And.intro rfl rfl) (And.intro (And.intro rfl rfl) (And.intro (And.intro rfl rfl) True.intro))))) (And.intro rfl ?_))))))))))))
       refine acode_ret ?_
       exact ⟨rfl, ⟨rfl, rfl, rfl, rfl, rfl⟩, rfl⟩
     ·refine aord_all [5] (by kernel_rfl) rfl ?_
      refine aord_all [9] (by kernel_rfl) rfl ?_
      refine And.intro (by first | exact app_le (by first | omega | (simp only [List.length_cons, List.length_nil]; omega) | (simp; omega)) (by decide) | omega | assumption | decide | (simp only [Int.toNat_natCast, dflt_sl, dflt_st, dflt_str, dflt_int, dflt_bool]; omega) | (simp <;> omega)) ?_
      refine aord_light 10 rfl rfl rfl (by kernel_rfl) ?_
      refine aord_light 11 rfl rfl rfl (by kernel_rfl) ?_
      refine aord_light 12 rfl rfl rfl (by kernel_rfl) ?_
      refine aord_all [13] (by kernel_rfl) rfl ?_
      refine aord_done (by kernel_rfl) ?_
      refine acode_seq ?_
      refine acode_seq ?_
      refine acode_region ?_
      refine acode_cond rfl (fun h35 => ?_) (fun h35 => ?_)
      ·try simp only [decide_eq_true_eq, decide_eq_false_iff_not, Bool.and_eq_true, Bool.not_eq_true', Bool.not_eq_false', Bool.or_eq_false_iff, Bool.or_eq_true, Bool.and_eq_false_iff, Int.not_lt, Int.not_le] at h35
       try simp only [Int.toNat_natCast, dflt_sl, dflt_st, dflt_str, dflt_int, dflt_bool] at h35
       exact absurd h35 (by rw [he]; decide)
      ·try simp only [decide_eq_true_eq, decide_eq_false_iff_not, Bool.and_eq_true, Bool.not_eq_true', Bool.not_eq_false', Bool.or_eq_false_iff, Bool.or_eq_true, Bool.and_eq_false_iff, Int.not_lt, Int.not_le] at h35
       try simp only [Int.toNat_natCast, dflt_sl, dflt_st, dflt_str, dflt_int, dflt_bool] at h35
       refine acode_skip ?_
       refine acode_seq ?_
       refine acode_region ?_
       refine Or.inr (Or.inl (Exists.intro [] (Exists.intro [0, 1, 2, 3, 4] (Exists.intro _ (Exists.intro _ (Exists.intro _ (Exists.intro _ (Exists.intro _ (And.intro (flush_ok hf ((more_B _ hb).mono (by omega))) (And.intro rfl (And.intro (And.intro (And.intro rfl rfl) (And.intro (And.intro rfl rfl) (And.intro (And.intro rfl rfl) (And.intro (And.intro rfl rfl) (And.intro (And.intro rfl rfl) True.intro))))) (And.intro rfl ?_))))))))))))
       refine acode_ret ?_
       exact ⟨rfl, ⟨rfl, rfl, rfl, rfl, rfl⟩, rfl⟩
  ·try simp only [decide_eq_false_iff_not] at h8
   try simp only [Int.toNat_natCast, dflt_sl, dflt_st, dflt_str, dflt_int, dflt_bool] at h8
   exact absurd trivial h8
theorem ahead_fail {p : PSt} {l : Lne} {at_ n : Int} (h : p.lns ≠ []) (he : l.2.2.2 = false) (hb : PB p 900000) (hs : l.2.2.1.size ≤ 90000) (hf : flushS { p with lns := p.lns ++ [l.2.2.1] } = .inl (at_, n)) : ACallO Tryd.prog 53 [.one (.own 0 0), .agg (toL rLne l), ii .i64 3] (psO p) 5 (.one (errF at_ n)) [] 5 := by
  have hl := hb.lns
  refine acallo_of (rs := [6]) Tryd.func53 rfl rfl rfl teOk (by decide) rfl ?_
  refine acode_seq ?_
  refine acode_region ?_
  refine acode_seq ?_
  refine acode_seq ?_
  refine acode_region ?_
  refine acode_block ?_
  refine acode_seq ?_
  refine acode_region ?_
  refine acode_cond rfl (fun h8 => ?_) (fun h8 => ?_)
  ·try simp only [decide_eq_true_eq] at h8
   try simp only [Int.toNat_natCast, dflt_sl, dflt_st, dflt_str, dflt_int, dflt_bool] at h8
   refine acode_seq ?_
   refine acode_seq ?_
   refine acode_region ?_
   intro l3_5
   try simp only [Int.toNat_natCast, dflt_sl, dflt_st, dflt_str, dflt_int, dflt_bool] at l3_5
   refine acode_cond rfl (fun h16 => ?_) (fun h16 => ?_)
   ·try simp only [decide_eq_true_eq] at h16
    try simp only [Int.toNat_natCast, dflt_sl, dflt_st, dflt_str, dflt_int, dflt_bool] at h16
    exact absurd (List.eq_nil_of_length_eq_zero (by omega)) h
   ·try simp only [decide_eq_false_iff_not] at h16
    try simp only [Int.toNat_natCast, dflt_sl, dflt_st, dflt_str, dflt_int, dflt_bool] at h16
    refine acode_skip ?_
    refine acode_seq ?_
    refine acode_ord rfl ?_
    refine aord_light 0 rfl rfl rfl (by kernel_rfl) ?_
    refine aord_light 1 rfl rfl rfl (by kernel_rfl) ?_
    refine aord_light 2 rfl rfl rfl (by kernel_rfl) ?_
    refine aord_light 3 rfl rfl rfl (by kernel_rfl) ?_
    refine aord_light 4 rfl rfl rfl (by kernel_rfl) ?_
    refine aord_light 6 rfl rfl rfl (by kernel_rfl) ?_
    refine aord_all [5, 7] (by kernel_rfl) rfl ?_
    refine And.intro ?_ ?_
    ·refine aord_all [7] (by kernel_rfl) rfl ?_
     refine aord_all [8] (by kernel_rfl) rfl ?_
     refine aord_all [9] (by kernel_rfl) rfl ?_
     refine And.intro (by first | exact app_le (by first | omega | (simp only [List.length_cons, List.length_nil]; omega) | (simp; omega)) (by decide) | omega | assumption | decide | (simp only [Int.toNat_natCast, dflt_sl, dflt_st, dflt_str, dflt_int, dflt_bool]; omega) | (simp <;> omega)) ?_
     refine aord_light 10 rfl rfl rfl (by kernel_rfl) ?_
     refine aord_light 11 rfl rfl rfl (by kernel_rfl) ?_
     refine aord_light 12 rfl rfl rfl (by kernel_rfl) ?_
     refine aord_all [13] (by kernel_rfl) rfl ?_
     refine aord_done (by kernel_rfl) ?_
     refine acode_seq ?_
     refine acode_seq ?_
     refine acode_region ?_
     refine acode_cond rfl (fun h35 => ?_) (fun h35 => ?_)
     ·try simp only [decide_eq_true_eq, decide_eq_false_iff_not, Bool.and_eq_true, Bool.not_eq_true', Bool.not_eq_false', Bool.or_eq_false_iff, Bool.or_eq_true, Bool.and_eq_false_iff, Int.not_lt, Int.not_le] at h35
      try simp only [Int.toNat_natCast, dflt_sl, dflt_st, dflt_str, dflt_int, dflt_bool] at h35
      exact absurd h35 (by rw [he]; decide)
     ·try simp only [decide_eq_true_eq, decide_eq_false_iff_not, Bool.and_eq_true, Bool.not_eq_true', Bool.not_eq_false', Bool.or_eq_false_iff, Bool.or_eq_true, Bool.and_eq_false_iff, Int.not_lt, Int.not_le] at h35
      try simp only [Int.toNat_natCast, dflt_sl, dflt_st, dflt_str, dflt_int, dflt_bool] at h35
      refine acode_skip ?_
      refine acode_seq ?_
      refine acode_region ?_
      refine Or.inr (Or.inl (Exists.intro [] (Exists.intro [0, 1, 2, 3, 4] (Exists.intro _ (Exists.intro _ (Exists.intro _ (Exists.intro _ (Exists.intro _ (And.intro (flush_err hf ((more_B _ hb).mono (by omega))) (And.intro rfl (And.intro (And.intro (And.intro rfl rfl) (And.intro (And.intro rfl rfl) (And.intro (And.intro rfl rfl) (And.intro (And.intro rfl rfl) (And.intro (And.intro rfl rfl) True.intro))))) (And.intro rfl ?_))))))))))))
      refine acode_ret ?_
      exact ⟨rfl, trivial, rfl⟩
    ·refine aord_all [5, 8] (by kernel_rfl) rfl ?_
     refine And.intro ?_ ?_
     ·refine aord_all [8] (by kernel_rfl) rfl ?_
      refine aord_all [9] (by kernel_rfl) rfl ?_
      refine And.intro (by first | exact app_le (by first | omega | (simp only [List.length_cons, List.length_nil]; omega) | (simp; omega)) (by decide) | omega | assumption | decide | (simp only [Int.toNat_natCast, dflt_sl, dflt_st, dflt_str, dflt_int, dflt_bool]; omega) | (simp <;> omega)) ?_
      refine aord_light 10 rfl rfl rfl (by kernel_rfl) ?_
      refine aord_light 11 rfl rfl rfl (by kernel_rfl) ?_
      refine aord_light 12 rfl rfl rfl (by kernel_rfl) ?_
      refine aord_all [13] (by kernel_rfl) rfl ?_
      refine aord_done (by kernel_rfl) ?_
      refine acode_seq ?_
      refine acode_seq ?_
      refine acode_region ?_
      refine acode_cond rfl (fun h35 => ?_) (fun h35 => ?_)
      ·try simp only [decide_eq_true_eq, decide_eq_false_iff_not, Bool.and_eq_true, Bool.not_eq_true', Bool.not_eq_false', Bool.or_eq_false_iff, Bool.or_eq_true, Bool.and_eq_false_iff, Int.not_lt, Int.not_le] at h35
       try simp only [Int.toNat_natCast, dflt_sl, dflt_st, dflt_str, dflt_int, dflt_bool] at h35
       exact absurd h35 (by rw [he]; decide)
      ·try simp only [decide_eq_true_eq, decide_eq_false_iff_not, Bool.and_eq_true, Bool.not_eq_true', Bool.not_eq_false', Bool.or_eq_false_iff, Bool.or_eq_true, Bool.and_eq_false_iff, Int.not_lt, Int.not_le] at h35
       try simp only [Int.toNat_natCast, dflt_sl, dflt_st, dflt_str, dflt_int, dflt_bool] at h35
       refine acode_skip ?_
       refine acode_seq ?_
       refine acode_region ?_
       refine Or.inr (Or.inl (Exists.intro [] (Exists.intro [0, 1, 2, 3, 4] (Exists.intro _ (Exists.intro _ (Exists.intro _ (Exists.intro _ (Exists.intro _ (And.intro (flush_err hf ((more_B _ hb).mono (by omega))) (And.intro rfl (And.intro (And.intro (And.intro rfl rfl) (And.intro (And.intro rfl rfl) (And.intro (And.intro rfl rfl) (And.intro (And.intro rfl rfl) (And.intro (And.intro rfl rfl) True.intro))))) (And.intro rfl ?_))))))))))))
       refine acode_ret ?_
       exact ⟨rfl, trivial, rfl⟩
     ·refine aord_all [5] (by kernel_rfl) rfl ?_
      refine aord_all [9] (by kernel_rfl) rfl ?_
      refine And.intro (by first | exact app_le (by first | omega | (simp only [List.length_cons, List.length_nil]; omega) | (simp; omega)) (by decide) | omega | assumption | decide | (simp only [Int.toNat_natCast, dflt_sl, dflt_st, dflt_str, dflt_int, dflt_bool]; omega) | (simp <;> omega)) ?_
      refine aord_light 10 rfl rfl rfl (by kernel_rfl) ?_
      refine aord_light 11 rfl rfl rfl (by kernel_rfl) ?_
      refine aord_light 12 rfl rfl rfl (by kernel_rfl) ?_
      refine aord_all [13] (by kernel_rfl) rfl ?_
      refine aord_done (by kernel_rfl) ?_
      refine acode_seq ?_
      refine acode_seq ?_
      refine acode_region ?_
      refine acode_cond rfl (fun h35 => ?_) (fun h35 => ?_)
      ·try simp only [decide_eq_true_eq, decide_eq_false_iff_not, Bool.and_eq_true, Bool.not_eq_true', Bool.not_eq_false', Bool.or_eq_false_iff, Bool.or_eq_true, Bool.and_eq_false_iff, Int.not_lt, Int.not_le] at h35
       try simp only [Int.toNat_natCast, dflt_sl, dflt_st, dflt_str, dflt_int, dflt_bool] at h35
       exact absurd h35 (by rw [he]; decide)
      ·try simp only [decide_eq_true_eq, decide_eq_false_iff_not, Bool.and_eq_true, Bool.not_eq_true', Bool.not_eq_false', Bool.or_eq_false_iff, Bool.or_eq_true, Bool.and_eq_false_iff, Int.not_lt, Int.not_le] at h35
       try simp only [Int.toNat_natCast, dflt_sl, dflt_st, dflt_str, dflt_int, dflt_bool] at h35
       refine acode_skip ?_
       refine acode_seq ?_
       refine acode_region ?_
       refine Or.inr (Or.inl (Exists.intro [] (Exists.intro [0, 1, 2, 3, 4] (Exists.intro _ (Exists.intro _ (Exists.intro _ (Exists.intro _ (Exists.intro _ (And.intro (flush_err hf ((more_B _ hb).mono (by omega))) (And.intro rfl (And.intro (And.intro (And.intro rfl rfl) (And.intro (And.intro rfl rfl) (And.intro (And.intro rfl rfl) (And.intro (And.intro rfl rfl) (And.intro (And.intro rfl rfl) True.intro))))) (And.intro rfl ?_))))))))))))
       refine acode_ret ?_
       exact ⟨rfl, trivial, rfl⟩
  ·try simp only [decide_eq_false_iff_not] at h8
   try simp only [Int.toNat_natCast, dflt_sl, dflt_st, dflt_str, dflt_int, dflt_bool] at h8
   exact absurd trivial h8
theorem ahead_end {p q : PSt} {l : Lne} (hb : PB p 900000) (hf : endS p = .inr q) : ACallO Tryd.prog 53 [.one (.own 0 0), .agg (toL rLne l), ii .i64 1] (psO p) 5 (.one (.lit .nilIface)) (psO q) 5 := by
  refine acallo_of (rs := [6]) Tryd.func53 rfl rfl rfl teOk (by decide) rfl ?_
  refine acode_seq ?_
  refine acode_region ?_
  refine acode_seq ?_
  refine acode_seq ?_
  refine acode_region ?_
  refine acode_block ?_
  refine acode_seq ?_
  refine acode_region ?_
  refine acode_cond rfl (fun h8 => ?_) (fun h8 => ?_)
  ·try simp only [decide_eq_true_eq] at h8
   try simp only [Int.toNat_natCast, dflt_sl, dflt_st, dflt_str, dflt_int, dflt_bool] at h8
   exact absurd h8 (by decide)
  ·try simp only [decide_eq_false_iff_not] at h8
   try simp only [Int.toNat_natCast, dflt_sl, dflt_st, dflt_str, dflt_int, dflt_bool] at h8
   refine acode_seq ?_
   refine acode_region ?_
   refine acode_cond rfl (fun h38 => ?_) (fun h38 => ?_)
   ·try simp only [decide_eq_true_eq] at h38
    try simp only [Int.toNat_natCast, dflt_sl, dflt_st, dflt_str, dflt_int, dflt_bool] at h38
    refine acode_seq ?_
    refine acode_region ?_
    refine Or.inr (Or.inl (Exists.intro [] (Exists.intro [0, 1, 2, 3, 4] (Exists.intro _ (Exists.intro _ (Exists.intro _ (Exists.intro _ (Exists.intro _ (And.intro (end_ok hf (hb.mono (by decide))) (And.intro rfl (And.intro (And.intro (And.intro rfl rfl) (And.intro (And.intro rfl rfl) (And.intro (And.intro rfl rfl) (And.intro (And.intro rfl rfl) (And.intro (And.intro rfl rfl) True.intro))))) (And.intro rfl ?_))))))))))))
    refine acode_ret ?_
    exact ⟨rfl, ⟨rfl, rfl, rfl, rfl, rfl⟩, rfl⟩
   ·try simp only [decide_eq_false_iff_not] at h38
    try simp only [Int.toNat_natCast, dflt_sl, dflt_st, dflt_str, dflt_int, dflt_bool] at h38
    exact absurd trivial h38
theorem ahead_endf {p : PSt} {l : Lne} {at_ n : Int} (hb : PB p 900000) (hf : endS p = .inl (at_, n)) : ACallO Tryd.prog 53 [.one (.own 0 0), .agg (toL rLne l), ii .i64 1] (psO p) 5 (.one (errF at_ n)) [] 5 := by
  refine acallo_of (rs := [6]) Tryd.func53 rfl rfl rfl teOk (by decide) rfl ?_
  refine acode_seq ?_
  refine acode_region ?_
  refine acode_seq ?_
  refine acode_seq ?_
  refine acode_region ?_
  refine acode_block ?_
  refine acode_seq ?_
  refine acode_region ?_
  refine acode_cond rfl (fun h8 => ?_) (fun h8 => ?_)
  ·try simp only [decide_eq_true_eq] at h8
   try simp only [Int.toNat_natCast, dflt_sl, dflt_st, dflt_str, dflt_int, dflt_bool] at h8
   exact absurd h8 (by decide)
  ·try simp only [decide_eq_false_iff_not] at h8
   try simp only [Int.toNat_natCast, dflt_sl, dflt_st, dflt_str, dflt_int, dflt_bool] at h8
   refine acode_seq ?_
   refine acode_region ?_
   refine acode_cond rfl (fun h38 => ?_) (fun h38 => ?_)
   ·try simp only [decide_eq_true_eq] at h38
    try simp only [Int.toNat_natCast, dflt_sl, dflt_st, dflt_str, dflt_int, dflt_bool] at h38
    refine acode_seq ?_
    refine acode_region ?_
    refine Or.inr (Or.inl (Exists.intro [] (Exists.intro [0, 1, 2, 3, 4] (Exists.intro _ (Exists.intro _ (Exists.intro _ (Exists.intro _ (Exists.intro _ (And.intro (end_err hf (hb.mono (by decide))) (And.intro rfl (And.intro (And.intro (And.intro rfl rfl) (And.intro (And.intro rfl rfl) (And.intro (And.intro rfl rfl) (And.intro (And.intro rfl rfl) (And.intro (And.intro rfl rfl) True.intro))))) (And.intro rfl ?_))))))))))))
    refine acode_ret ?_
    exact ⟨rfl, trivial, rfl⟩
   ·try simp only [decide_eq_false_iff_not] at h38
    try simp only [Int.toNat_natCast, dflt_sl, dflt_st, dflt_str, dflt_int, dflt_bool] at h38
    exact absurd trivial h38
theorem ahead_flush {p q : PSt} {l : Lne} {k : Int} (h3 : k ≠ 3) (h1 : k ≠ 1) (hb : PB p 900000) (hf : flushS p = .inr q) : ACallO Tryd.prog 53 [.one (.own 0 0), .agg (toL rLne l), ii .i64 k] (psO p) 5 (.one (.lit .nilIface)) (psO q) 5 := by
  refine acallo_of (rs := [6]) Tryd.func53 rfl rfl rfl teOk (by decide) rfl ?_
  refine acode_seq ?_
  refine acode_region ?_
  refine acode_seq ?_
  refine acode_seq ?_
  refine acode_region ?_
  refine acode_block ?_
  refine acode_seq ?_
  refine acode_region ?_
  refine acode_cond rfl (fun h8 => ?_) (fun h8 => ?_)
  ·try simp only [decide_eq_true_eq] at h8
   try simp only [Int.toNat_natCast, dflt_sl, dflt_st, dflt_str, dflt_int, dflt_bool] at h8
   exact absurd h8 h3
  ·try simp only [decide_eq_false_iff_not] at h8
   try simp only [Int.toNat_natCast, dflt_sl, dflt_st, dflt_str, dflt_int, dflt_bool] at h8
   refine acode_seq ?_
   refine acode_region ?_
   refine acode_cond rfl (fun h38 => ?_) (fun h38 => ?_)
   ·try simp only [decide_eq_true_eq] at h38
    try simp only [Int.toNat_natCast, dflt_sl, dflt_st, dflt_str, dflt_int, dflt_bool] at h38
    exact absurd h38 h1
   ·try simp only [decide_eq_false_iff_not] at h38
    try simp only [Int.toNat_natCast, dflt_sl, dflt_st, dflt_str, dflt_int, dflt_bool] at h38
    refine acode_skip ?_
    refine acode_seq ?_
    refine acode_region ?_
    refine Or.inr (Or.inl (Exists.intro [] (Exists.intro [0, 1, 2, 3, 4] (Exists.intro _ (Exists.intro _ (Exists.intro _ (Exists.intro _ (Exists.intro _ (And.intro (flush_ok hf (hb.mono (by decide))) (And.intro rfl (And.intro (And.intro (And.intro rfl rfl) (And.intro (And.intro rfl rfl) (And.intro (And.intro rfl rfl) (And.intro (And.intro rfl rfl) (And.intro (And.intro rfl rfl) True.intro))))) (And.intro rfl ?_))))))))))))
    refine acode_ret ?_
    exact ⟨rfl, ⟨rfl, rfl, rfl, rfl, rfl⟩, rfl⟩
theorem ahead_flushf {p : PSt} {l : Lne} {k at_ n : Int} (h3 : k ≠ 3) (h1 : k ≠ 1) (hb : PB p 900000) (hf : flushS p = .inl (at_, n)) : ACallO Tryd.prog 53 [.one (.own 0 0), .agg (toL rLne l), ii .i64 k] (psO p) 5 (.one (errF at_ n)) [] 5 := by
  refine acallo_of (rs := [6]) Tryd.func53 rfl rfl rfl teOk (by decide) rfl ?_
  refine acode_seq ?_
  refine acode_region ?_
  refine acode_seq ?_
  refine acode_seq ?_
  refine acode_region ?_
  refine acode_block ?_
  refine acode_seq ?_
  refine acode_region ?_
  refine acode_cond rfl (fun h8 => ?_) (fun h8 => ?_)
  ·try simp only [decide_eq_true_eq] at h8
   try simp only [Int.toNat_natCast, dflt_sl, dflt_st, dflt_str, dflt_int, dflt_bool] at h8
   exact absurd h8 h3
  ·try simp only [decide_eq_false_iff_not] at h8
   try simp only [Int.toNat_natCast, dflt_sl, dflt_st, dflt_str, dflt_int, dflt_bool] at h8
   refine acode_seq ?_
   refine acode_region ?_
   refine acode_cond rfl (fun h38 => ?_) (fun h38 => ?_)
   ·try simp only [decide_eq_true_eq] at h38
    try simp only [Int.toNat_natCast, dflt_sl, dflt_st, dflt_str, dflt_int, dflt_bool] at h38
    exact absurd h38 h1
   ·try simp only [decide_eq_false_iff_not] at h38
    try simp only [Int.toNat_natCast, dflt_sl, dflt_st, dflt_str, dflt_int, dflt_bool] at h38
    refine acode_skip ?_
    refine acode_seq ?_
    refine acode_region ?_
    refine Or.inr (Or.inl (Exists.intro [] (Exists.intro [0, 1, 2, 3, 4] (Exists.intro _ (Exists.intro _ (Exists.intro _ (Exists.intro _ (Exists.intro _ (And.intro (flush_err hf (hb.mono (by decide))) (And.intro rfl (And.intro (And.intro (And.intro rfl rfl) (And.intro (And.intro rfl rfl) (And.intro (And.intro rfl rfl) (And.intro (And.intro rfl rfl) (And.intro (And.intro rfl rfl) True.intro))))) (And.intro rfl ?_))))))))))))
    refine acode_ret ?_
    exact ⟨rfl, trivial, rfl⟩
theorem ahead_ok {p q : PSt} {l : Lne} {k : Int} (h : aheadS p l k = .inr q) (hb : PB p 900000) (hs : l.2.2.1.size ≤ 90000) : ACallO Tryd.prog 53 [.one (.own 0 0), .agg (toL rLne l), ii .i64 k] (psO p) 5 (.one (.lit .nilIface)) (psO q) 5 := by
  unfold aheadS at h
  split at h
  · rename_i e
    subst e
    split at h
    · cases h
    · rename_i h0
      split at h
      · rename_i he; cases h; exact ahead_more h0 he (hb.mono (by decide))
      · rename_i he; exact ahead_last h0 (by simpa using he) hb hs h
  · rename_i h3
    split at h
    · rename_i e; subst e; exact ahead_end hb h
    · rename_i h1; exact ahead_flush h3 h1 hb h
theorem ahead_err {p : PSt} {l : Lne} {k at_ n : Int} (h : aheadS p l k = .inl (at_, n)) (hb : PB p 900000) (hs : l.2.2.1.size ≤ 90000) : ACallO Tryd.prog 53 [.one (.own 0 0), .agg (toL rLne l), ii .i64 k] (psO p) 5 (.one (errF at_ n)) [] 5 := by
  unfold aheadS at h
  split at h
  · rename_i e
    subst e
    split at h
    · rename_i h0; cases h; exact ahead_none l h0
    · rename_i h0
      split at h
      · cases h
      · rename_i he; exact ahead_fail h0 (by simpa using he) hb hs h
  · rename_i h3
    split at h
    · rename_i e; subst e; exact ahead_endf hb h
    · rename_i h1; exact ahead_flushf h3 h1 hb h
theorem take_err1 {p : PSt} {l : Lne} {at_ n : Int} (h : aheadS p l (kindL (ls l.2.2.1)) = .inl (at_, n)) (hb : PB p 900000) (hs : l.2.2.1.size ≤ 90000) : ACallO Tryd.prog 42 [.one (.own 0 0), .agg (toL rLne l)] (psO p) 5 (.one (errF at_ n)) [] 5 := by
  refine acallo_of (rs := [4]) Tryd.func42 rfl rfl rfl teOk (by decide) rfl ?_
  refine acode_seq ?_
  refine acode_region ?_
  refine acode_seq ?_
  refine acode_region ?_
  refine Or.inl ?_
  refine And.intro (rfl) ?_
  refine Exists.intro _ (And.intro (kind_c l.2.2.1 (Nat.le_trans hs (by decide))) ?_)
  refine acode_seq ?_
  refine acode_seq ?_
  refine acode_region ?_
  refine Or.inr (Or.inl (Exists.intro [] (Exists.intro [0, 1, 2, 3, 4] (Exists.intro _ (Exists.intro _ (Exists.intro _ (Exists.intro _ (Exists.intro _ (And.intro (ahead_err h hb hs) (And.intro rfl (And.intro (And.intro (And.intro rfl rfl) (And.intro (And.intro rfl rfl) (And.intro (And.intro rfl rfl) (And.intro (And.intro rfl rfl) (And.intro (And.intro rfl rfl) True.intro))))) (And.intro rfl ?_))))))))))))
  refine acode_seq ?_
  refine acode_region ?_
  refine acode_cond rfl (fun h15 => ?_) (fun h15 => ?_)
  ·skip
   refine acode_seq ?_
   refine acode_region ?_
   refine acode_ret ?_
   exact ⟨rfl, trivial, rfl⟩
  ·try simp only [decide_eq_true_eq, decide_eq_false_iff_not, Bool.and_eq_true, Bool.not_eq_true', Bool.not_eq_false', Bool.or_eq_false_iff, Bool.or_eq_true, Bool.and_eq_false_iff, Int.not_lt, Int.not_le] at h15
   try simp only [Int.toNat_natCast, dflt_sl, dflt_st, dflt_str, dflt_int, dflt_bool] at h15
   cases h15
theorem take_odd {p q : PSt} {l : Lne} (h : aheadS p l (kindL (ls l.2.2.1)) = .inr q) (hk : kindL (ls l.2.2.1) = 5 ∨ l.2.2.2 = false) (hb : PB p 900000) (hs : l.2.2.1.size ≤ 90000) : ACallO Tryd.prog 42 [.one (.own 0 0), .agg (toL rLne l)] (psO p) 5 (.one (errF l.1 2)) [] 5 := by
  refine acallo_of (rs := [4]) Tryd.func42 rfl rfl rfl teOk (by decide) rfl ?_
  refine acode_seq ?_
  refine acode_region ?_
  refine acode_seq ?_
  refine acode_region ?_
  refine Or.inl ?_
  refine And.intro (rfl) ?_
  refine Exists.intro _ (And.intro (kind_c l.2.2.1 (Nat.le_trans hs (by decide))) ?_)
  refine acode_seq ?_
  refine acode_seq ?_
  refine acode_region ?_
  refine Or.inr (Or.inl (Exists.intro [] (Exists.intro [0, 1, 2, 3, 4] (Exists.intro _ (Exists.intro _ (Exists.intro _ (Exists.intro _ (Exists.intro _ (And.intro (ahead_ok h hb hs) (And.intro rfl (And.intro (And.intro (And.intro rfl rfl) (And.intro (And.intro rfl rfl) (And.intro (And.intro rfl rfl) (And.intro (And.intro rfl rfl) (And.intro (And.intro rfl rfl) True.intro))))) (And.intro rfl ?_))))))))))))
  refine acode_seq ?_
  refine acode_region ?_
  refine acode_cond rfl (fun h15 => ?_) (fun h15 => ?_)
  ·try simp only [Bool.not_eq_true'] at h15
   try simp only [Int.toNat_natCast, dflt_sl, dflt_st, dflt_str, dflt_int, dflt_bool] at h15
   cases h15
  ·try simp only [Bool.not_eq_false'] at h15
   try simp only [Int.toNat_natCast, dflt_sl, dflt_st, dflt_str, dflt_int, dflt_bool] at h15
   refine acode_skip ?_
   refine acode_seq ?_
   refine acode_block ?_
   refine acode_seq ?_
   refine acode_region ?_
   refine And.intro (fun h => trivial) ?_
   refine And.intro (fun h => ⟨⟨h, trivial⟩, trivial⟩) ?_
   refine And.intro (fun h => ⟨⟨h, trivial⟩, trivial⟩) ?_
   refine And.intro (by first | (intro h; rw [h]; rfl) | (intro h; cases h)) ?_
   refine acode_cond rfl (fun h17 => ?_) (fun h17 => ?_)
   ·try simp only [decide_eq_true_eq, Bool.not_eq_true', Bool.or_eq_true] at h17
    try simp only [Int.toNat_natCast, dflt_sl, dflt_st, dflt_str, dflt_int, dflt_bool] at h17
    refine acode_seq ?_
    refine acode_region ?_
    refine Or.inl ?_
    refine And.intro (rfl) ?_
    refine Exists.intro _ (And.intro (fault_c l.1 2) ?_)
    refine acode_ret ?_
    exact ⟨rfl, trivial, rfl⟩
   ·try simp only [decide_eq_false_iff_not, Bool.not_eq_false', Bool.or_eq_false_iff] at h17
    try simp only [Int.toNat_natCast, dflt_sl, dflt_st, dflt_str, dflt_int, dflt_bool] at h17
    exact absurd h17 (by rcases hk with hk | hk <;> simp [hk])
theorem take_blank {p q : PSt} {l : Lne} (h : aheadS p l (kindL (ls l.2.2.1)) = .inr q) (hk : kindL (ls l.2.2.1) = 1) (he : l.2.2.2 = true) (hb : PB p 900000) (hq : PB q 2000000) (hs : l.2.2.1.size ≤ 90000) : ACallO Tryd.prog 42 [.one (.own 0 0), .agg (toL rLne l)] (psO p) 5 (.one (.lit .nilIface)) (psO { q with its := q.its ++ [(1, l.2.2.1 ++ ⟨#[10]⟩, [])] }) 5 := by
  have hi := hq.its
  refine acallo_of (rs := [4]) Tryd.func42 rfl rfl rfl teOk (by decide) rfl ?_
  refine acode_seq ?_
  refine acode_region ?_
  refine acode_seq ?_
  refine acode_region ?_
  refine Or.inl ?_
  refine And.intro (rfl) ?_
  refine Exists.intro _ (And.intro (kind_c l.2.2.1 (Nat.le_trans hs (by decide))) ?_)
  refine acode_seq ?_
  refine acode_seq ?_
  refine acode_region ?_
  refine Or.inr (Or.inl (Exists.intro [] (Exists.intro [0, 1, 2, 3, 4] (Exists.intro _ (Exists.intro _ (Exists.intro _ (Exists.intro _ (Exists.intro _ (And.intro (ahead_ok h hb hs) (And.intro rfl (And.intro (And.intro (And.intro rfl rfl) (And.intro (And.intro rfl rfl) (And.intro (And.intro rfl rfl) (And.intro (And.intro rfl rfl) (And.intro (And.intro rfl rfl) True.intro))))) (And.intro rfl ?_))))))))))))
  refine acode_seq ?_
  refine acode_region ?_
  refine acode_cond rfl (fun h15 => ?_) (fun h15 => ?_)
  ·try simp only [Bool.not_eq_true'] at h15
   try simp only [Int.toNat_natCast, dflt_sl, dflt_st, dflt_str, dflt_int, dflt_bool] at h15
   cases h15
  ·try simp only [Bool.not_eq_false'] at h15
   try simp only [Int.toNat_natCast, dflt_sl, dflt_st, dflt_str, dflt_int, dflt_bool] at h15
   refine acode_skip ?_
   refine acode_seq ?_
   refine acode_block ?_
   refine acode_seq ?_
   refine acode_region ?_
   refine And.intro (fun h => trivial) ?_
   refine And.intro (fun h => ⟨⟨h, trivial⟩, trivial⟩) ?_
   refine And.intro (fun h => ⟨⟨h, trivial⟩, trivial⟩) ?_
   refine And.intro (by first | (intro h; rw [h]; rfl) | (intro h; cases h)) ?_
   refine acode_cond rfl (fun h17 => ?_) (fun h17 => ?_)
   ·try simp only [decide_eq_true_eq, Bool.not_eq_true', Bool.or_eq_true] at h17
    try simp only [Int.toNat_natCast, dflt_sl, dflt_st, dflt_str, dflt_int, dflt_bool] at h17
    exact absurd h17 (by simp [hk, he])
   ·try simp only [decide_eq_false_iff_not, Bool.not_eq_false', Bool.or_eq_false_iff] at h17
    try simp only [Int.toNat_natCast, dflt_sl, dflt_st, dflt_str, dflt_int, dflt_bool] at h17
    refine acode_seq ?_
    refine acode_region ?_
    refine acode_cond rfl (fun h29 => ?_) (fun h29 => ?_)
    ·try simp only [decide_eq_true_eq] at h29
     try simp only [Int.toNat_natCast, dflt_sl, dflt_st, dflt_str, dflt_int, dflt_bool] at h29
     refine acode_seq ?_
     refine acode_ord rfl ?_
     refine aord_light 0 rfl rfl rfl (by kernel_rfl) ?_
     refine aord_light 1 rfl rfl rfl (by kernel_rfl) ?_
     refine aord_light 2 rfl rfl rfl (by kernel_rfl) ?_
     refine aord_light 3 rfl rfl rfl (by kernel_rfl) ?_
     refine aord_light 5 rfl rfl rfl (by kernel_rfl) ?_
     refine aord_all [4, 6] (by kernel_rfl) rfl ?_
     refine And.intro ?_ ?_
     ·refine aord_all [6] (by kernel_rfl) rfl ?_
      refine aord_light 7 rfl rfl rfl (by kernel_rfl) ?_
      refine And.intro (by (have hk0 : ByteArray.size { data := #[10] } = 1 := rfl; first | (unfold maxLen; omega) | (simp only [ByteArray.size_append]; omega) | (unfold maxLen; (try simp only [ByteArray.size_append]); omega))) ?_
      refine aord_all [8] (by kernel_rfl) rfl ?_
      refine aord_all [9] (by kernel_rfl) rfl ?_
      refine aord_all [10] (by kernel_rfl) rfl ?_
      refine And.intro (by first | exact app_le (by first | omega | (simp only [List.length_cons, List.length_nil]; omega) | (simp; omega)) (by decide) | omega | assumption | decide | (simp only [Int.toNat_natCast, dflt_sl, dflt_st, dflt_str, dflt_int, dflt_bool]; omega) | (simp <;> omega)) ?_
      refine aord_light 11 rfl rfl rfl (by kernel_rfl) ?_
      refine aord_light 12 rfl rfl rfl (by kernel_rfl) ?_
      refine aord_all [13] (by kernel_rfl) rfl ?_
      refine aord_done (by kernel_rfl) ?_
      refine acode_seq ?_
      refine acode_region ?_
      refine acode_ret ?_
      exact ⟨rfl, ⟨rfl, rfl, rfl, rfl, rfl⟩, rfl⟩
     ·refine aord_light 7 rfl rfl rfl (by kernel_rfl) ?_
      refine And.intro (by (have hk0 : ByteArray.size { data := #[10] } = 1 := rfl; first | (unfold maxLen; omega) | (simp only [ByteArray.size_append]; omega) | (unfold maxLen; (try simp only [ByteArray.size_append]); omega))) ?_
      refine aord_all [4, 8] (by kernel_rfl) rfl ?_
      refine And.intro ?_ ?_
      ·refine aord_all [8] (by kernel_rfl) rfl ?_
       refine aord_all [9] (by kernel_rfl) rfl ?_
       refine aord_all [10] (by kernel_rfl) rfl ?_
       refine And.intro (by first | exact app_le (by first | omega | (simp only [List.length_cons, List.length_nil]; omega) | (simp; omega)) (by decide) | omega | assumption | decide | (simp only [Int.toNat_natCast, dflt_sl, dflt_st, dflt_str, dflt_int, dflt_bool]; omega) | (simp <;> omega)) ?_
       refine aord_light 11 rfl rfl rfl (by kernel_rfl) ?_
       refine aord_light 12 rfl rfl rfl (by kernel_rfl) ?_
       refine aord_all [13] (by kernel_rfl) rfl ?_
       refine aord_done (by kernel_rfl) ?_
       refine acode_seq ?_
       refine acode_region ?_
       refine acode_ret ?_
       exact ⟨rfl, ⟨rfl, rfl, rfl, rfl, rfl⟩, rfl⟩
      ·refine aord_all [4, 9] (by kernel_rfl) rfl ?_
       refine And.intro ?_ ?_
       ·refine aord_all [9] (by kernel_rfl) rfl ?_
        refine aord_all [10] (by kernel_rfl) rfl ?_
        refine And.intro (by first | exact app_le (by first | omega | (simp only [List.length_cons, List.length_nil]; omega) | (simp; omega)) (by decide) | omega | assumption | decide | (simp only [Int.toNat_natCast, dflt_sl, dflt_st, dflt_str, dflt_int, dflt_bool]; omega) | (simp <;> omega)) ?_
        refine aord_light 11 rfl rfl rfl (by kernel_rfl) ?_
        refine aord_light 12 rfl rfl rfl (by kernel_rfl) ?_
        refine aord_all [13] (by kernel_rfl) rfl ?_
        refine aord_done (by kernel_rfl) ?_
        refine acode_seq ?_
        refine acode_region ?_
        refine acode_ret ?_
        exact ⟨rfl, ⟨rfl, rfl, rfl, rfl, rfl⟩, rfl⟩
       ·refine aord_all [4] (by kernel_rfl) rfl ?_
        refine aord_all [10] (by kernel_rfl) rfl ?_
        refine And.intro (by first | exact app_le (by first | omega | (simp only [List.length_cons, List.length_nil]; omega) | (simp; omega)) (by decide) | omega | assumption | decide | (simp only [Int.toNat_natCast, dflt_sl, dflt_st, dflt_str, dflt_int, dflt_bool]; omega) | (simp <;> omega)) ?_
        refine aord_light 11 rfl rfl rfl (by kernel_rfl) ?_
        refine aord_light 12 rfl rfl rfl (by kernel_rfl) ?_
        refine aord_all [13] (by kernel_rfl) rfl ?_
        refine aord_done (by kernel_rfl) ?_
        refine acode_seq ?_
        refine acode_region ?_
        refine acode_ret ?_
        exact ⟨rfl, ⟨rfl, rfl, rfl, rfl, rfl⟩, rfl⟩
    ·try simp only [decide_eq_false_iff_not] at h29
     try simp only [Int.toNat_natCast, dflt_sl, dflt_st, dflt_str, dflt_int, dflt_bool] at h29
     exact absurd hk h29
theorem take_pair {p q : PSt} {l : Lne} (h : aheadS p l (kindL (ls l.2.2.1)) = .inr q) (hk : kindL (ls l.2.2.1) = 4) (he : l.2.2.2 = true) (hb : PB p 900000) (hq : PB q 1000000) (hs : l.2.2.1.size ≤ 90000) : ACallO Tryd.prog 42 [.one (.own 0 0), .agg (toL rLne l)] (psO p) 5 (.one (.lit .nilIface)) (psO { beginS q l with blk := q.blk ++ [l.2.2.1] }) 5 := by
  have hi : (beginS q l).blk.length ≤ 1000000 := hq.blk
  refine acallo_of (rs := [4]) Tryd.func42 rfl rfl rfl teOk (by decide) rfl ?_
  refine acode_seq ?_
  refine acode_region ?_
  refine acode_seq ?_
  refine acode_region ?_
  refine Or.inl ?_
  refine And.intro (rfl) ?_
  refine Exists.intro _ (And.intro (kind_c l.2.2.1 (Nat.le_trans hs (by decide))) ?_)
  refine acode_seq ?_
  refine acode_seq ?_
  refine acode_region ?_
  refine Or.inr (Or.inl (Exists.intro [] (Exists.intro [0, 1, 2, 3, 4] (Exists.intro _ (Exists.intro _ (Exists.intro _ (Exists.intro _ (Exists.intro _ (And.intro (ahead_ok h hb hs) (And.intro rfl (And.intro (And.intro (And.intro rfl rfl) (And.intro (And.intro rfl rfl) (And.intro (And.intro rfl rfl) (And.intro (And.intro rfl rfl) (And.intro (And.intro rfl rfl) True.intro))))) (And.intro rfl ?_))))))))))))
  refine acode_seq ?_
  refine acode_region ?_
  refine acode_cond rfl (fun h15 => ?_) (fun h15 => ?_)
  ·try simp only [Bool.not_eq_true'] at h15
   try simp only [Int.toNat_natCast, dflt_sl, dflt_st, dflt_str, dflt_int, dflt_bool] at h15
   cases h15
  ·try simp only [Bool.not_eq_false'] at h15
   try simp only [Int.toNat_natCast, dflt_sl, dflt_st, dflt_str, dflt_int, dflt_bool] at h15
   refine acode_skip ?_
   refine acode_seq ?_
   refine acode_block ?_
   refine acode_seq ?_
   refine acode_region ?_
   refine And.intro (fun h => trivial) ?_
   refine And.intro (fun h => ⟨⟨h, trivial⟩, trivial⟩) ?_
   refine And.intro (fun h => ⟨⟨h, trivial⟩, trivial⟩) ?_
   refine And.intro (by first | (intro h; rw [h]; rfl) | (intro h; cases h)) ?_
   refine acode_cond rfl (fun h17 => ?_) (fun h17 => ?_)
   ·try simp only [decide_eq_true_eq, Bool.not_eq_true', Bool.or_eq_true] at h17
    try simp only [Int.toNat_natCast, dflt_sl, dflt_st, dflt_str, dflt_int, dflt_bool] at h17
    exact absurd h17 (by simp [hk, he])
   ·try simp only [decide_eq_false_iff_not, Bool.not_eq_false', Bool.or_eq_false_iff] at h17
    try simp only [Int.toNat_natCast, dflt_sl, dflt_st, dflt_str, dflt_int, dflt_bool] at h17
    refine acode_seq ?_
    refine acode_region ?_
    refine acode_cond rfl (fun h29 => ?_) (fun h29 => ?_)
    ·try simp only [decide_eq_true_eq] at h29
     try simp only [Int.toNat_natCast, dflt_sl, dflt_st, dflt_str, dflt_int, dflt_bool] at h29
     exact absurd h29 (by rw [hk]; decide)
    ·try simp only [decide_eq_false_iff_not] at h29
     try simp only [Int.toNat_natCast, dflt_sl, dflt_st, dflt_str, dflt_int, dflt_bool] at h29
     refine acode_seq ?_
     refine acode_region ?_
     refine acode_cond rfl (fun h45 => ?_) (fun h45 => ?_)
     ·try simp only [decide_eq_true_eq] at h45
      try simp only [Int.toNat_natCast, dflt_sl, dflt_st, dflt_str, dflt_int, dflt_bool] at h45
      refine acode_region ?_
      refine Or.inr (Or.inl (Exists.intro [] (Exists.intro [0, 1, 2, 3, 4] (Exists.intro _ (Exists.intro _ (Exists.intro _ (Exists.intro _ (Exists.intro _ (And.intro (begin_c q l hq) (And.intro rfl (And.intro (And.intro (And.intro rfl rfl) (And.intro (And.intro rfl rfl) (And.intro (And.intro rfl rfl) (And.intro (And.intro rfl rfl) (And.intro (And.intro rfl rfl) True.intro))))) (And.intro rfl ?_))))))))))))
      refine acode_seq ?_
      refine acode_ord rfl ?_
      refine aord_light 0 rfl rfl rfl (by kernel_rfl) ?_
      refine aord_light 1 rfl rfl rfl (by kernel_rfl) ?_
      refine aord_light 2 rfl rfl rfl (by kernel_rfl) ?_
      refine aord_light 3 rfl rfl rfl (by kernel_rfl) ?_
      refine aord_light 5 rfl rfl rfl (by kernel_rfl) ?_
      refine aord_all [4, 6] (by kernel_rfl) rfl ?_
      refine And.intro ?_ ?_
      ·refine aord_all [6] (by kernel_rfl) rfl ?_
       refine aord_all [7] (by kernel_rfl) rfl ?_
       refine aord_all [8] (by kernel_rfl) rfl ?_
       refine And.intro (by first | exact app_le (by first | omega | (simp only [List.length_cons, List.length_nil]; omega) | (simp; omega)) (by decide) | omega | assumption | decide | (simp only [Int.toNat_natCast, dflt_sl, dflt_st, dflt_str, dflt_int, dflt_bool]; omega) | (simp <;> omega)) ?_
       refine aord_light 9 rfl rfl rfl (by kernel_rfl) ?_
       refine aord_light 10 rfl rfl rfl (by kernel_rfl) ?_
       refine aord_all [11] (by kernel_rfl) rfl ?_
       refine aord_done (by kernel_rfl) ?_
       refine acode_seq ?_
       refine acode_region ?_
       refine acode_ret ?_
       exact ⟨rfl, ⟨rfl, rfl, rfl, rfl, rfl⟩, rfl⟩
      ·refine aord_all [4, 7] (by kernel_rfl) rfl ?_
       refine And.intro ?_ ?_
       ·refine aord_all [7] (by kernel_rfl) rfl ?_
        refine aord_all [8] (by kernel_rfl) rfl ?_
        refine And.intro (by first | exact app_le (by first | omega | (simp only [List.length_cons, List.length_nil]; omega) | (simp; omega)) (by decide) | omega | assumption | decide | (simp only [Int.toNat_natCast, dflt_sl, dflt_st, dflt_str, dflt_int, dflt_bool]; omega) | (simp <;> omega)) ?_
        refine aord_light 9 rfl rfl rfl (by kernel_rfl) ?_
        refine aord_light 10 rfl rfl rfl (by kernel_rfl) ?_
        refine aord_all [11] (by kernel_rfl) rfl ?_
        refine aord_done (by kernel_rfl) ?_
        refine acode_seq ?_
        refine acode_region ?_
        refine acode_ret ?_
        exact ⟨rfl, ⟨rfl, rfl, rfl, rfl, rfl⟩, rfl⟩
       ·refine aord_all [4] (by kernel_rfl) rfl ?_
        refine aord_all [8] (by kernel_rfl) rfl ?_
        refine And.intro (by first | exact app_le (by first | omega | (simp only [List.length_cons, List.length_nil]; omega) | (simp; omega)) (by decide) | omega | assumption | decide | (simp only [Int.toNat_natCast, dflt_sl, dflt_st, dflt_str, dflt_int, dflt_bool]; omega) | (simp <;> omega)) ?_
        refine aord_light 9 rfl rfl rfl (by kernel_rfl) ?_
        refine aord_light 10 rfl rfl rfl (by kernel_rfl) ?_
        refine aord_all [11] (by kernel_rfl) rfl ?_
        refine aord_done (by kernel_rfl) ?_
        refine acode_seq ?_
        refine acode_region ?_
        refine acode_ret ?_
        exact ⟨rfl, ⟨rfl, rfl, rfl, rfl, rfl⟩, rfl⟩
     ·try simp only [decide_eq_false_iff_not] at h45
      try simp only [Int.toNat_natCast, dflt_sl, dflt_st, dflt_str, dflt_int, dflt_bool] at h45
      exact absurd hk h45
theorem take_more {p q : PSt} {l : Lne} (h : aheadS p l (kindL (ls l.2.2.1)) = .inr q) (h5 : kindL (ls l.2.2.1) ≠ 5) (h1 : kindL (ls l.2.2.1) ≠ 1) (h4 : kindL (ls l.2.2.1) ≠ 4) (he : l.2.2.2 = true) (hb : PB p 900000) (hq : PB q 1000000) (hs : l.2.2.1.size ≤ 90000) : ACallO Tryd.prog 42 [.one (.own 0 0), .agg (toL rLne l)] (psO p) 5 (.one (.lit .nilIface)) (psO { q with blk := q.blk ++ [l.2.2.1] }) 5 := by
  have hi := hq.blk
  refine acallo_of (rs := [4]) Tryd.func42 rfl rfl rfl teOk (by decide) rfl ?_
  refine acode_seq ?_
  refine acode_region ?_
  refine acode_seq ?_
  refine acode_region ?_
  refine Or.inl ?_
  refine And.intro (rfl) ?_
  refine Exists.intro _ (And.intro (kind_c l.2.2.1 (Nat.le_trans hs (by decide))) ?_)
  refine acode_seq ?_
  refine acode_seq ?_
  refine acode_region ?_
  refine Or.inr (Or.inl (Exists.intro [] (Exists.intro [0, 1, 2, 3, 4] (Exists.intro _ (Exists.intro _ (Exists.intro _ (Exists.intro _ (Exists.intro _ (And.intro (ahead_ok h hb hs) (And.intro rfl (And.intro (And.intro (And.intro rfl rfl) (And.intro (And.intro rfl rfl) (And.intro (And.intro rfl rfl) (And.intro (And.intro rfl rfl) (And.intro (And.intro rfl rfl) True.intro))))) (And.intro rfl ?_))))))))))))
  refine acode_seq ?_
  refine acode_region ?_
  refine acode_cond rfl (fun h15 => ?_) (fun h15 => ?_)
  ·try simp only [Bool.not_eq_true'] at h15
   try simp only [Int.toNat_natCast, dflt_sl, dflt_st, dflt_str, dflt_int, dflt_bool] at h15
   cases h15
  ·try simp only [Bool.not_eq_false'] at h15
   try simp only [Int.toNat_natCast, dflt_sl, dflt_st, dflt_str, dflt_int, dflt_bool] at h15
   refine acode_skip ?_
   refine acode_seq ?_
   refine acode_block ?_
   refine acode_seq ?_
   refine acode_region ?_
   refine And.intro (fun h => trivial) ?_
   refine And.intro (fun h => ⟨⟨h, trivial⟩, trivial⟩) ?_
   refine And.intro (fun h => ⟨⟨h, trivial⟩, trivial⟩) ?_
   refine And.intro (by first | (intro h; rw [h]; rfl) | (intro h; cases h)) ?_
   refine acode_cond rfl (fun h17 => ?_) (fun h17 => ?_)
   ·try simp only [decide_eq_true_eq, Bool.not_eq_true', Bool.or_eq_true] at h17
    try simp only [Int.toNat_natCast, dflt_sl, dflt_st, dflt_str, dflt_int, dflt_bool] at h17
    exact absurd h17 (by simp [h5, he])
   ·try simp only [decide_eq_false_iff_not, Bool.not_eq_false', Bool.or_eq_false_iff] at h17
    try simp only [Int.toNat_natCast, dflt_sl, dflt_st, dflt_str, dflt_int, dflt_bool] at h17
    refine acode_seq ?_
    refine acode_region ?_
    refine acode_cond rfl (fun h29 => ?_) (fun h29 => ?_)
    ·try simp only [decide_eq_true_eq] at h29
     try simp only [Int.toNat_natCast, dflt_sl, dflt_st, dflt_str, dflt_int, dflt_bool] at h29
     exact absurd h29 h1
    ·try simp only [decide_eq_false_iff_not] at h29
     try simp only [Int.toNat_natCast, dflt_sl, dflt_st, dflt_str, dflt_int, dflt_bool] at h29
     refine acode_seq ?_
     refine acode_region ?_
     refine acode_cond rfl (fun h45 => ?_) (fun h45 => ?_)
     ·try simp only [decide_eq_true_eq] at h45
      try simp only [Int.toNat_natCast, dflt_sl, dflt_st, dflt_str, dflt_int, dflt_bool] at h45
      exact absurd h45 h4
     ·try simp only [decide_eq_false_iff_not] at h45
      try simp only [Int.toNat_natCast, dflt_sl, dflt_st, dflt_str, dflt_int, dflt_bool] at h45
      refine acode_skip ?_
      refine acode_seq ?_
      refine acode_ord rfl ?_
      refine aord_light 0 rfl rfl rfl (by kernel_rfl) ?_
      refine aord_light 1 rfl rfl rfl (by kernel_rfl) ?_
      refine aord_light 2 rfl rfl rfl (by kernel_rfl) ?_
      refine aord_light 3 rfl rfl rfl (by kernel_rfl) ?_
      refine aord_light 5 rfl rfl rfl (by kernel_rfl) ?_
      refine aord_all [4, 6] (by kernel_rfl) rfl ?_
      refine And.intro ?_ ?_
      ·refine aord_all [6] (by kernel_rfl) rfl ?_
       refine aord_all [7] (by kernel_rfl) rfl ?_
       refine aord_all [8] (by kernel_rfl) rfl ?_
       refine And.intro (by first | exact app_le (by first | omega | (simp only [List.length_cons, List.length_nil]; omega) | (simp; omega)) (by decide) | omega | assumption | decide | (simp only [Int.toNat_natCast, dflt_sl, dflt_st, dflt_str, dflt_int, dflt_bool]; omega) | (simp <;> omega)) ?_
       refine aord_light 9 rfl rfl rfl (by kernel_rfl) ?_
       refine aord_light 10 rfl rfl rfl (by kernel_rfl) ?_
       refine aord_all [11] (by kernel_rfl) rfl ?_
       refine aord_done (by kernel_rfl) ?_
       refine acode_seq ?_
       refine acode_region ?_
       refine acode_ret ?_
       exact ⟨rfl, ⟨rfl, rfl, rfl, rfl, rfl⟩, rfl⟩
      ·refine aord_all [4, 7] (by kernel_rfl) rfl ?_
       refine And.intro ?_ ?_
       ·refine aord_all [7] (by kernel_rfl) rfl ?_
        refine aord_all [8] (by kernel_rfl) rfl ?_
        refine And.intro (by first | exact app_le (by first | omega | (simp only [List.length_cons, List.length_nil]; omega) | (simp; omega)) (by decide) | omega | assumption | decide | (simp only [Int.toNat_natCast, dflt_sl, dflt_st, dflt_str, dflt_int, dflt_bool]; omega) | (simp <;> omega)) ?_
        refine aord_light 9 rfl rfl rfl (by kernel_rfl) ?_
        refine aord_light 10 rfl rfl rfl (by kernel_rfl) ?_
        refine aord_all [11] (by kernel_rfl) rfl ?_
        refine aord_done (by kernel_rfl) ?_
        refine acode_seq ?_
        refine acode_region ?_
        refine acode_ret ?_
        exact ⟨rfl, ⟨rfl, rfl, rfl, rfl, rfl⟩, rfl⟩
       ·refine aord_all [4] (by kernel_rfl) rfl ?_
        refine aord_all [8] (by kernel_rfl) rfl ?_
        refine And.intro (by first | exact app_le (by first | omega | (simp only [List.length_cons, List.length_nil]; omega) | (simp; omega)) (by decide) | omega | assumption | decide | (simp only [Int.toNat_natCast, dflt_sl, dflt_st, dflt_str, dflt_int, dflt_bool]; omega) | (simp <;> omega)) ?_
        refine aord_light 9 rfl rfl rfl (by kernel_rfl) ?_
        refine aord_light 10 rfl rfl rfl (by kernel_rfl) ?_
        refine aord_all [11] (by kernel_rfl) rfl ?_
        refine aord_done (by kernel_rfl) ?_
        refine acode_seq ?_
        refine acode_region ?_
        refine acode_ret ?_
        exact ⟨rfl, ⟨rfl, rfl, rfl, rfl, rfl⟩, rfl⟩
theorem take_ok {p q : PSt} {l : Lne} (h : takeS p l = .inr q) (hb : PB p 800000) (hs : l.2.2.1.size ≤ 90000) : ACallO Tryd.prog 42 [.one (.own 0 0), .agg (toL rLne l)] (psO p) 5 (.one (.lit .nilIface)) (psO q) 5 := by
  unfold takeS at h
  split at h
  · cases h
  · rename_i r e
    have hb' : PB p 900000 := hb.mono (by decide)
    have hr : PB r 1000000 := (aheadS_B hb e).mono (by omega)
    unfold lineS at h
    split at h
    · cases h
    · rename_i h0
      have h5 : kindL (ls l.2.2.1) ≠ 5 := fun e => h0 (.inl e)
      have he : l.2.2.2 = true := by
        cases e : l.2.2.2
        · exact absurd (.inr e) h0
        · rfl
      split at h
      · rename_i h1; cases h; exact take_blank e h1 he hb' (hr.mono (by decide)) hs
      · rename_i h1
        split at h
        · rename_i h4; cases h; exact take_pair e h4 he hb' hr hs
        · rename_i h4; cases h; exact take_more e h5 h1 h4 he hb' hr hs
theorem take_err {p : PSt} {l : Lne} {at_ n : Int} (h : takeS p l = .inl (at_, n)) (hb : PB p 800000) (hs : l.2.2.1.size ≤ 90000) : ACallO Tryd.prog 42 [.one (.own 0 0), .agg (toL rLne l)] (psO p) 5 (.one (errF at_ n)) [] 5 := by
  unfold takeS at h
  split at h
  · rename_i e; cases h; exact take_err1 e (hb.mono (by decide)) hs
  · rename_i r e
    unfold lineS at h
    split at h
    · rename_i h0; cases h; exact take_odd e h0 (hb.mono (by decide)) hs
    · split at h
      · cases h
      · split at h
        · cases h
        · cases h
end Q
end Ab
end Go.Proofs.YtlbainbjlibfiaaDoor
namespace Go.Proofs.YtlbainbjlibfiaaDoor
open Go.RowKit
namespace Ab
set_option maxRecDepth 100000
namespace Q
def linesR : Nat → Int → Int → List UInt8 → List Lne
  | 0, _, _, _ => []
  | f + 1, tot, no, s => match s with
    | [] => []
    | s => (no, tot - s.length, bytes (Lib.cut s [10]).1, (Lib.cut s [10]).2.2) :: linesR f tot (no + 1) (Lib.cut s [10]).2.1
def linesT (s : ByteArray) : List Lne := linesR s.size s.size 0 (ls s)
def itLs (s : ByteArray) : List (List A) := (linesT s).map fun l => [A.agg (toL rLne l)]
theorem cut_less {r : List UInt8} {c : UInt8} (h : r ≠ []) : (Lib.cut r [c]).2.1.length < r.length := by
  by_cases hm : c ∈ r
  · obtain ⟨a, b, rfl, hn⟩ := List.eq_append_cons_of_mem hm
    rw [cut_at hn, List.length_append, List.length_cons]
    show b.length < _
    omega
  · rw [cut_none hm]
    exact List.length_pos_iff.2 h
theorem le_refl {nx0 : Nat} {tm : Tm} {ob : Obs} {nx : Nat} : Le nx0 tm ob nx tm ob nx := ⟨fun _ _ ρ _ _ hs => ⟨ρ, hs⟩⟩
theorem split_iter (s : ByteArray) (hs : s.size ≤ 1000000) : AIter Tryd.prog 50 [.one (.addr .str s)] (itLs s) := by
  refine aiter_of Tryd.func50 rfl rfl rfl teOk rfl ?_
  intro l ι Pr J U n0 hU hab hy
  refine acodeY_seq ?_
  refine acodeY_seg hab hU rfl ?_
  refine acode_region ?_
  refine ⟨_, _, _, le_refl, ?_⟩
  refine acodeY_seq ?_
  refine acodeY_seg hab hU rfl ?_
  refine acode_region ?_
  refine ⟨_, _, _, le_refl, ?_⟩
  refine acodeY_block ?_
  refine acodeY_loop (κ := Nat × Nat × List UInt8 × ByteArray × Bool) (fun i => i.2.2.1.length ≤ i.1 ∧ i.2.1 + i.1 ≤ s.size ∧ i.2.1 ≤ (linesT s).length ∧ (linesT s).drop i.2.1 = linesR i.1 s.size i.2.1 i.2.2.1) (fun i => i.2.1) (fun i => [(0, .one (.lit (.func (.yield l) #[] #[]))), (1, .one (.addr .str s)), (3, .one (.own 0 0)), (4, is (bytes i.2.2.1))]) (fun i => [(0, .box 85 [.lit (.int .i64 i.2.1), .lit (.int .i64 (s.size - i.2.2.1.length)), .lit (.string i.2.2.2.1), .lit (.bool i.2.2.2.2)])]) 1 (fun i => i.1) (s.size, 0, ls s, ByteArray.empty, false) ⟨by rw [show (ls s).length = s.size from (size_list s).symm]; exact Nat.le_refl _, by simp, Nat.zero_le _, rfl⟩ hab hU (le_of ⟨rfl, rfl, rfl, by rw [bytes_ls]; rfl⟩ ?_ rfl) rfl ?_
  ·show leO _ [(0, Ob.box 85 [_, C.lit (.int .i64 ((s.size : Int) - ((ls s).length : Nat))), _, _])]
   rw [show (ls s).length = s.size from (size_list s).symm, Int.sub_self]
   exact rfl
  intro i hi
  obtain ⟨f, k, r, t0, e0⟩ := i
  obtain ⟨h1, h2, h3, h4⟩ := hi
  simp only at h1 h2 h3 h4
  have hrs : r.length ≤ s.size := Nat.le_trans h1 (by omega)
  refine acodeY_seq ?_
  refine acodeY_seq ?_
  refine acodeY_seg hab hU rfl ?_
  refine acode_region ?_
  refine ⟨_, _, _, le_refl, ?_⟩
  refine acodeY_cond rfl (fun hc => ?_) (fun hc => ?_)
  ·simp only at hc
   have hne : r ≠ [] := fun e => by
    have e' : bytes r = ⟨#[]⟩ := by rw [e]; rfl
    rw [e'] at hc
    simp at hc
   obtain ⟨f', hf⟩ : ∃ f', f = f' + 1 := ⟨f - 1, by have := List.length_pos_iff.2 hne; omega⟩
   subst hf
   have hd : (linesT s).drop k = ((k : Int), (s.size : Int) - r.length, bytes (Lib.cut r [10]).1, (Lib.cut r [10]).2.2) :: linesR f' s.size (k + 1 : Nat) (Lib.cut r [10]).2.1 := by
    rw [h4]
    cases r with
    | nil => exact absurd rfl hne
    | cons a r => rfl
   have hk : k < (linesT s).length := by
    rcases Nat.lt_or_ge k (linesT s).length with h | h
    ·exact h
    ·rw [List.drop_eq_nil_of_le h] at hd; cases hd
   have hget : (linesT s)[k] = ((k : Int), (s.size : Int) - r.length, bytes (Lib.cut r [10]).1, (Lib.cut r [10]).2.2) := by
    rw [List.drop_eq_getElem_cons hk] at hd
    exact (List.cons.inj hd).1
   have hdrop : (linesT s).drop (k + 1) = linesR f' s.size (k + 1 : Nat) (Lib.cut r [10]).2.1 := by
    rw [List.drop_eq_getElem_cons hk] at hd
    exact (List.cons.inj hd).2
   have hkx : k < (itLs s).length := by unfold itLs; rw [List.length_map]; exact hk
   have hx : (itLs s)[k] = [A.agg (toL rLne ((k : Int), (s.size : Int) - r.length, bytes (Lib.cut r [10]).1, (Lib.cut r [10]).2.2))] := by
    simp only [itLs, List.getElem_map, hget]
   have hcl : (Lib.cut r [10]).2.1.length < r.length := cut_less hne
   have hcc : ACall Tryd.prog 51 [is (bytes r), is ⟨#[10]⟩] (.tup [(false, [.lit (.string (bytes (Lib.cut r [10]).1))]), (false, [.lit (.string (bytes (Lib.cut r [10]).2.1))]), (false, [.lit (.bool (Lib.cut r [10]).2.2)])]) := by
    have := cut_c (bytes r) ⟨#[10]⟩ (by rw [bytes_size]; omega)
    rw [bytes_list] at this
    exact this
   generalize Lib.cut r [10] = c at *
   refine acodeY_skip ?_
   refine acodeY_block ?_
   refine acodeY_seq ?_
   refine acodeY_seg hab hU rfl ?_
   refine acode_region ?_
   refine Or.inl ?_
   refine And.intro (rfl) ?_
   refine Exists.intro _ (And.intro hcc ?_)
   refine ⟨_, _, _, le_refl, ?_⟩
   refine acodeY_seq ?_
   refine acodeY_seq ?_
   refine acodeY_yield (pre := [_, _]) (post := [_]) _ rfl rfl rfl hab hU hy hkx ?_
   refine ⟨_, _, _, le_refl, rfl, ?_, by rw [hx]; rfl, ?_⟩
   ·rw [hx]
    rfl
   ·intro st
    refine ⟨_, _, _, le_refl, ?_⟩
    refine acodeY_cond rfl (fun ht => ?_) (fun ht => ?_)
    ·refine acodeY_ret ?_
     rw [Bool.not_not] at ht
     subst ht
     exact ⟨.inl rfl, fun e => by cases e⟩
    ·rw [Bool.not_not] at ht
     subst ht
     refine acodeY_skip ?_
     refine acodeY_seq ?_
     refine acodeY_seg hab hU rfl ?_
     refine acode_region ?_
     refine And.intro (by simp only; omega) ?_
     refine ⟨_, _, _, le_refl, ?_⟩
     refine acodeY_seg hab hU rfl ?_
     refine acode_region ?_
     refine And.intro (by rw [bytes_size]; omega) ?_
     refine ⟨_, _, _, ?_, ⟨(f', k + 1, c.2.1, bytes c.1, c.2.2), ⟨by simp only; omega, by simp only; omega, hk, hdrop⟩, Nat.lt_succ_self _, rfl, rfl, rfl, rfl, rfl⟩⟩
     refine le_of ⟨rfl, rfl, rfl, rfl⟩ ?_ rfl
     show leO _ [(0, Ob.box 85 [C.lit (.int .i64 ((k + 1 : Nat) : Int)), C.lit (.int .i64 ((s.size : Int) - (c.2.1.length : Nat))), C.lit (.string (bytes c.1)), C.lit (.bool c.2.2)])]
     rw [← bytes_size c.2.1]
     exact rfl
  ·have hr : r = [] := by
    simp only at hc
    have : bytes r = ⟨#[]⟩ := by simpa using hc
    have := congrArg (fun b => b.data.toList) this
    simpa [bytes_list] using this
   refine acodeY_exit ?_
   rw [hr] at h4
   have h5 : (linesT s).drop k = [] := by rw [h4]; cases f <;> rfl
   have h6 := List.drop_eq_nil_iff.1 h5
   exact ⟨.inr rfl, fun _ => by simp only [itLs, List.length_map]; omega⟩
end Q
end Ab
end Go.Proofs.YtlbainbjlibfiaaDoor
namespace Go.Proofs.YtlbainbjlibfiaaDoor
open Go.RowKit
namespace Ab
set_option maxRecDepth 100000
namespace Q
theorem split_c (s : ByteArray) : ACall Tryd.prog 41 [is s] (.one (.clo 50 (.addr .str s))) := by
  refine acall_of (rs := [2]) Tryd.func41 rfl rfl rfl teOk rfl ?_
  refine acode_seq ?_
  refine acode_region ?_
  refine acode_seq ?_
  refine acode_region ?_
  refine acode_frz [0] ?_
  refine acode_ret ?_
  rfl
def runS (p : PSt) : List Lne → (Int × Int) ⊕ PSt
  | [] => .inr p
  | l :: r => match takeS p l with
    | .inl e => .inl e
    | .inr q => runS q r
def parseS (s : ByteArray) : (Int × Int) ⊕ List Itm := match runS pst0 (linesT s) with
  | .inl e => .inl e
  | .inr p => match endS p with
    | .inl e => .inl e
    | .inr q => .inr q.its
def resP : (Int × Int) ⊕ List Itm → A
  | .inl e => .tup [(false, [.sl rItm []]), (false, [errF e.1 e.2])]
  | .inr l => .tup [(false, [.sl rItm l]), (false, [.lit .nilIface])]
theorem linesR_len : ∀ (f : Nat) (tot no : Int) (s : List UInt8), (linesR f tot no s).length ≤ s.length ∧ ((linesR f tot no s).map (·.2.2.1.size)).sum ≤ s.length
  | 0, _, _, _ => by simp [linesR]
  | f + 1, tot, no, [] => by simp [linesR]
  | f + 1, tot, no, a :: r => by
    obtain ⟨h1, h2⟩ := linesR_len f tot (no + 1) (Lib.cut (a :: r) [10]).2.1
    have h3 : (Lib.cut (a :: r) [10]).2.1.length < (a :: r).length := cut_less (by simp)
    have h4 : (Lib.cut (a :: r) [10]).1.length + (Lib.cut (a :: r) [10]).2.1.length ≤ (a :: r).length := by
      by_cases hm : (10 : UInt8) ∈ a :: r
      · obtain ⟨x, b, e, hn⟩ := List.eq_append_cons_of_mem hm
        rw [e, cut_at hn, List.length_append, List.length_cons]
        show x.length + b.length ≤ _
        omega
      · rw [cut_none hm]
        exact Nat.le_refl _
    unfold linesR
    simp only [List.length_cons, List.map_cons, List.sum_cons, bytes_size] at h3 h4 ⊢
    exact ⟨by omega, by omega⟩
theorem linesT_len (s : ByteArray) : (linesT s).length ≤ s.size ∧ ((linesT s).map (·.2.2.1.size)).sum ≤ s.size := by
  have := linesR_len s.size s.size 0 (ls s)
  rw [show (ls s).length = s.size from (size_list s).symm] at this
  exact this
def prP (L : List Lne) : Bool → Nat → PSt ⊕ (Int × Int) → Prop
  | false, k, .inl p => runS pst0 L = runS p (L.drop k) ∧ ∃ B, PB p B ∧ B + 3 * (L.drop k).length + 2 * ((L.drop k).map (·.2.2.1.size)).sum ≤ 600000
  | true, _, .inr e => runS pst0 L = .inl e
  | _, _, _ => False
def obP : PSt ⊕ (Int × Int) → Obs
  | .inl p => [(0, .box 22 [.lit (.slice none 0 0)]), (1, .box 41 [.lit .nilIface]), (2, .box 80 [.vec 4, .lit (.int .i64 p.frm), .lit (.bool p.full), .vec 5, .vec 6, .vec 7, .lit (.int .i64 p.recs)]), (3, .box 75 [.own 2 0]), (4, .vec 9 .str p.lns), (5, .vec 26 rItm p.its), (6, .vec 9 .str p.blk), (7, .vec 57 rFld p.flds)]
  | .inr e => [(0, .box 22 [.lit (.slice none 0 0)]), (1, .box 41 [errF e.1 e.2])]
theorem prP_next {L : List Lne} {k : Nat} {p q : PSt} {l : Lne} (hk : k < L.length) (hl : L[k] = l) (h : prP L false k (.inl p)) (ht : takeS p l = .inr q) : prP L false (k + 1) (.inl q) := by
  obtain ⟨h1, B, h2, h3⟩ := h
  rw [List.drop_eq_getElem_cons hk, hl] at h1 h3
  simp only [runS, ht] at h1
  simp only [List.length_cons, List.map_cons, List.sum_cons] at h3
  exact ⟨h1, _, takeS_B h2 ht, by omega⟩
theorem prP_stop {L : List Lne} {k : Nat} {p : PSt} {e : Int × Int} {l : Lne} (hk : k < L.length) (hl : L[k] = l) (h : prP L false k (.inl p)) (ht : takeS p l = .inl e) : prP L true (k + 1) (.inr e) := by
  obtain ⟨h1, B, h2, h3⟩ := h
  rw [List.drop_eq_getElem_cons hk, hl] at h1
  simp only [runS, ht] at h1
  exact h1
theorem prP_B {L : List Lne} {k : Nat} {p : PSt} {l : Lne} (hk : k < L.length) (hl : L[k] = l) (h : prP L false k (.inl p)) : PB p 800000 ∧ l.2.2.1.size ≤ 300000 := by
  obtain ⟨h1, B, h2, h3⟩ := h
  rw [List.drop_eq_getElem_cons hk, hl] at h3
  simp only [List.length_cons, List.map_cons, List.sum_cons] at h3
  exact ⟨h2.mono (by omega), by omega⟩
theorem prP_end {L : List Lne} {p : PSt} (h : prP L false L.length (.inl p)) : runS pst0 L = .inr p ∧ PB p 1000000 := by
  obtain ⟨h1, B, h2, h3⟩ := h
  rw [List.drop_length] at h1
  exact ⟨h1, h2.mono (by omega)⟩
theorem linesT_sz {s : ByteArray} {k : Nat} (hk : k < (linesT s).length) : ((linesT s)[k]).2.2.1.size ≤ s.size := by
  have h := (linesT_len s).2
  have h1 : (linesT s) = (linesT s).take k ++ (linesT s)[k] :: (linesT s).drop (k + 1) := by rw [← List.drop_eq_getElem_cons hk, List.take_append_drop]
  rw [h1, List.map_append, List.sum_append, List.map_cons, List.sum_cons] at h
  omega
theorem parse_a (s : ByteArray) (hs : s.size ≤ 60000) : ACall Tryd.prog 31 [is s] (resP (parseS s)) := by
  have hlen := linesT_len s
  refine acall_ofc (rs := [.cell 2 22, .cell 3 41]) Tryd.func31 rfl rfl rfl teOk rfl ?_
  refine acode_seq ?_
  refine acode_region ?_
  refine acode_seq ?_
  refine acode_seq ?_
  refine acode_region ?_
  refine acode_cond rfl (fun h10 => ?_) (fun h10 => ?_)
  ·try simp only [decide_eq_true_eq] at h10
   try simp only [Int.toNat_natCast, dflt_sl, dflt_st, dflt_str, dflt_int, dflt_bool] at h10
   omega
  ·try simp only [decide_eq_false_iff_not, Int.not_lt] at h10
   try simp only [Int.toNat_natCast, dflt_sl, dflt_st, dflt_str, dflt_int, dflt_bool] at h10
   refine acode_skip ?_
   refine acode_seq ?_
   refine acode_region ?_
   refine acode_seq ?_
   refine acode_seq ?_
   refine acode_nilcell 2 0 9 .str rfl rfl rfl ?_
   refine acode_nilcell 2 3 26 rItm rfl rfl rfl ?_
   refine acode_nilcell 2 4 9 .str rfl rfl rfl ?_
   refine acode_nilcell 2 5 57 rFld rfl rfl rfl ?_
   refine acode_region ?_
   refine Or.inl ?_
   refine And.intro (rfl) ?_
   refine Exists.intro _ (And.intro (split_c s) ?_)
   refine acode_block ?_
   refine acode_range (caps := [.one (.addr .str s)]) (xs := itLs s) [(2, .one (.own 0 0)), (3, .one (.own 1 0)), (4, .one (.own 3 0)), (15, .one (.clo 50 (.addr .str s)))] 8 (prP (linesT s)) obP (fun _ => .ret) (.inl pst0) rfl rfl (split_iter s (by omega)) (le_of ⟨rfl, rfl, rfl, rfl⟩ ⟨rfl, rfl, rfl, rfl, rfl, rfl, rfl, rfl⟩ rfl) ⟨rfl, 0, ⟨Nat.le_refl _, Nat.le_refl _, Nat.le_refl _, Nat.le_refl _, Nat.le_refl _, Nat.le_refl _, Int.le_refl _, Int.le_refl _⟩, by rw [List.drop_zero]; omega⟩ (fun k hk => by simp [itLs]) rfl rfl rfl (fun k i h => by cases i with | inl p => rfl | inr e => exact h.elim) rfl ?_ ?_ ?_
   ·intro k i hk hp
    have hk2 : k < (linesT s).length := (by have := hk; unfold itLs at this; rwa [List.length_map] at this)
    rw [show (itLs s)[k] = [A.agg (toL rLne ((linesT s)[k]))] from by simp [itLs]]
    obtain ⟨l, hl⟩ : ∃ l, (linesT s)[k] = l := ⟨_, rfl⟩
    rw [hl]
    cases i with | inr e => exact hp.elim | inl p => ?_
    obtain ⟨hB, hz⟩ := prP_B hk2 hl hp
    have hz2 : l.2.2.1.size ≤ 90000 := (by have h1 := linesT_sz hk2; rw [hl] at h1; omega)
    refine acode_region ?_
    refine acode_block ?_
    refine acode_seq ?_
    rcases ht : takeS p l with ⟨at_, n⟩ | q
    ·refine acode_region ?_
     refine Or.inr (Or.inl (Exists.intro [] (Exists.intro [2, 4, 5, 6, 7] (Exists.intro _ (Exists.intro _ (Exists.intro _ (Exists.intro _ (Exists.intro _ (And.intro (take_err ht hB hz2) (And.intro rfl (And.intro (And.intro (And.intro rfl rfl) (And.intro (And.intro rfl rfl) (And.intro (And.intro rfl rfl) (And.intro (And.intro rfl rfl) (And.intro (And.intro rfl rfl) True.intro))))) (And.intro rfl ?_))))))))))))
     refine acode_seq ?_
     refine acode_region ?_
     refine acode_cond rfl (fun h21 => ?_) (fun h21 => ?_)
     ·skip
      refine acode_seq ?_
      refine acode_region ?_
      refine acode_ret ?_
      exact ⟨.inr (at_, n), prP_stop hk2 hl hp ht, rfl, le_of trivial ⟨rfl, rfl⟩ rfl⟩
     ·try simp only [decide_eq_true_eq, decide_eq_false_iff_not, Bool.and_eq_true, Bool.not_eq_true', Bool.not_eq_false', Bool.or_eq_false_iff, Bool.or_eq_true, Bool.and_eq_false_iff, Int.not_lt, Int.not_le] at h21
      try simp only [Int.toNat_natCast, dflt_sl, dflt_st, dflt_str, dflt_int, dflt_bool] at h21
      cases h21
    ·refine acode_region ?_
     refine Or.inr (Or.inl (Exists.intro [] (Exists.intro [2, 4, 5, 6, 7] (Exists.intro _ (Exists.intro _ (Exists.intro _ (Exists.intro _ (Exists.intro _ (And.intro (take_ok ht hB hz2) (And.intro rfl (And.intro (And.intro (And.intro rfl rfl) (And.intro (And.intro rfl rfl) (And.intro (And.intro rfl rfl) (And.intro (And.intro rfl rfl) (And.intro (And.intro rfl rfl) True.intro))))) (And.intro rfl ?_))))))))))))
     refine acode_seq ?_
     refine acode_region ?_
     refine acode_cond rfl (fun h21 => ?_) (fun h21 => ?_)
     ·try simp only [Bool.not_eq_true'] at h21
      try simp only [Int.toNat_natCast, dflt_sl, dflt_st, dflt_str, dflt_int, dflt_bool] at h21
      cases h21
     ·try simp only [Bool.not_eq_false'] at h21
      try simp only [Int.toNat_natCast, dflt_sl, dflt_st, dflt_str, dflt_int, dflt_bool] at h21
      refine acode_skip ?_
      exact ⟨.inl q, prP_next hk2 hl hp ht, le_of trivial ⟨rfl, rfl, rfl, rfl, rfl, rfl, rfl, rfl⟩ rfl⟩
   ·intro i hp
    cases i with | inr e => exact hp.elim | inl p => ?_
    rw [show (itLs s).length = (linesT s).length from by simp [itLs]] at hp
    obtain ⟨hr, hB⟩ := prP_end hp
    refine acode_seq ?_
    refine acode_seq ?_
    rcases he : endS p with ⟨at_, n⟩ | q
    ·refine acode_region ?_
     refine Or.inr (Or.inl (Exists.intro [] (Exists.intro [2, 4, 5, 6, 7] (Exists.intro _ (Exists.intro _ (Exists.intro _ (Exists.intro _ (Exists.intro _ (And.intro (end_err he hB) (And.intro rfl (And.intro (And.intro (And.intro rfl rfl) (And.intro (And.intro rfl rfl) (And.intro (And.intro rfl rfl) (And.intro (And.intro rfl rfl) (And.intro (And.intro rfl rfl) True.intro))))) (And.intro rfl ?_))))))))))))
     refine acode_seq ?_
     refine acode_region ?_
     refine acode_cond rfl (fun h26 => ?_) (fun h26 => ?_)
     ·skip
      refine acode_seq ?_
      refine acode_region ?_
      refine acode_nilcell 0 0 26 rItm rfl rfl rfl ?_
      refine acode_ret ?_
      rw [show parseS s = .inl (at_, n) from by unfold parseS; rw [hr]; simp only [he]]
      exact rfl
     ·try simp only [decide_eq_true_eq, decide_eq_false_iff_not, Bool.and_eq_true, Bool.not_eq_true', Bool.not_eq_false', Bool.or_eq_false_iff, Bool.or_eq_true, Bool.and_eq_false_iff, Int.not_lt, Int.not_le] at h26
      try simp only [Int.toNat_natCast, dflt_sl, dflt_st, dflt_str, dflt_int, dflt_bool] at h26
      cases h26
    ·refine acode_region ?_
     refine Or.inr (Or.inl (Exists.intro [] (Exists.intro [2, 4, 5, 6, 7] (Exists.intro _ (Exists.intro _ (Exists.intro _ (Exists.intro _ (Exists.intro _ (And.intro (end_ok he hB) (And.intro rfl (And.intro (And.intro (And.intro rfl rfl) (And.intro (And.intro rfl rfl) (And.intro (And.intro rfl rfl) (And.intro (And.intro rfl rfl) (And.intro (And.intro rfl rfl) True.intro))))) (And.intro rfl ?_))))))))))))
     refine acode_seq ?_
     refine acode_region ?_
     refine acode_cond rfl (fun h26 => ?_) (fun h26 => ?_)
     ·try simp only [Bool.not_eq_true'] at h26
      try simp only [Int.toNat_natCast, dflt_sl, dflt_st, dflt_str, dflt_int, dflt_bool] at h26
      cases h26
     ·try simp only [Bool.not_eq_false'] at h26
      try simp only [Int.toNat_natCast, dflt_sl, dflt_st, dflt_str, dflt_int, dflt_bool] at h26
      refine acode_skip ?_
      refine acode_seq ?_
      refine acode_region ?_
      refine acode_ret ?_
      rw [show parseS s = .inr q.its from by unfold parseS; rw [hr]; simp only [he]]
      exact rfl
   ·intro k i hp
    cases i with | inl p => exact hp.elim | inr e => ?_
    have hp : runS pst0 (linesT s) = .inl e := hp
    refine acode_nilcell 0 0 26 rItm rfl rfl rfl ?_
    refine acode_ret ?_
    rw [show parseS s = .inl e from by unfold parseS; rw [hp]]
    exact rfl
end Q
end Ab
end Go.Proofs.YtlbainbjlibfiaaDoor
namespace Go.Proofs.YtlbainbjlibfiaaDoor
open Go.RowKit
namespace Ab
set_option maxRecDepth 100000
namespace Q
end Q
end Ab
end Go.Proofs.YtlbainbjlibfiaaDoor
namespace Go.Proofs.YtlbainbjlibfiaaDoor
open Go.RowKit
namespace Ab
set_option maxRecDepth 100000
namespace Q
theorem items_c (a b : List Itm) : ACall Tryd.prog 9 [.one (.sl rItm a), .one (.sl rItm b)] (ib (decide (a = b))) := by
  refine acall_of (rs := [4]) Tryd.func9 rfl rfl rfl teOk rfl ?_
  refine acode_seq ?_
  refine acode_region ?_
  refine acode_seq ?_
  refine acode_seq ?_
  refine acode_region ?_
  intro l1_1
  try simp only [Int.toNat_natCast, dflt_sl, dflt_st, dflt_str, dflt_int, dflt_bool] at l1_1
  intro l1_3
  try simp only [Int.toNat_natCast, dflt_sl, dflt_st, dflt_str, dflt_int, dflt_bool] at l1_3
  refine acode_cond rfl (fun h10 => ?_) (fun h10 => ?_)
  ·try simp only [decide_eq_false_iff_not, Bool.not_eq_true'] at h10
   try simp only [Int.toNat_natCast, dflt_sl, dflt_st, dflt_str, dflt_int, dflt_bool] at h10
   refine acode_seq ?_
   refine acode_region ?_
   refine acode_ret ?_
   exact ib_eq (decide_eq_false (fun e => by rw [e] at h10; omega)).symm
  ·try simp only [decide_eq_true_eq, Bool.not_eq_false'] at h10
   try simp only [Int.toNat_natCast, dflt_sl, dflt_st, dflt_str, dflt_int, dflt_bool] at h10
   refine acode_skip ?_
   refine acode_seq ?_
   refine acode_seq ?_
   refine acode_region ?_
   intro l3_1
   try simp only [Int.toNat_natCast, dflt_sl, dflt_st, dflt_str, dflt_int, dflt_bool] at l3_1
   refine acode_block ?_
   refine acode_loopP (fun (i : Nat) => i ≤ a.length ∧ a.take i = b.take i) (fun (i : Nat) => [(0, .one (.sl rItm a)), (1, .one (.sl rItm b)), (12, ii .i64 a.length), (13, ii .i64 i)]) (fun (i : Nat) => []) 0 (fun (i : Nat) => a.length - i) 0 (⟨Nat.zero_le _, by simp⟩) (le_of ⟨rfl, rfl, rfl, rfl⟩ trivial rfl) ?_
   intro i hI0
   obtain ⟨hi, ht⟩ := hI0
   refine acode_seq ?_
   refine acode_region ?_
   refine acode_seq ?_
   refine acode_cond rfl (fun h14 => ?_) (fun h14 => ?_)
   ·try simp only [decide_eq_true_eq] at h14
    try simp only [Int.toNat_natCast, dflt_sl, dflt_st, dflt_str, dflt_int, dflt_bool] at h14
    have hla : i < a.length := by omega
    have hlb : i < b.length := by omega
    refine acode_skip ?_
    refine acode_seq ?_
    refine acode_block ?_
    refine acode_seq ?_
    refine acode_region ?_
    refine acode_seq ?_
    refine acode_draw rfl (by kernel_rfl) ?_
    refine And.intro (by first | omega | assumption | decide | (simp only [Int.toNat_natCast, dflt_sl, dflt_st, dflt_str, dflt_int, dflt_bool]; omega) | (simp <;> omega)) ?_
    refine And.intro (by first | omega | assumption | decide | (simp only [Int.toNat_natCast, dflt_sl, dflt_st, dflt_str, dflt_int, dflt_bool]; omega) | (simp <;> omega)) ?_
    refine And.intro (fun h => trivial) ?_
    refine And.intro (fun h => trivial) ?_
    refine And.intro (fun h => ⟨⟨⟨h, trivial⟩, ⟨h, trivial⟩, trivial⟩, by first | omega | decide | (simp only [Int.toNat_natCast, dflt_sl, dflt_st, dflt_str, dflt_int, dflt_bool]; omega) | (have h9 := of_decide_eq_true h; omega) | (simp [gq] at h; omega)⟩) ?_
    refine And.intro (fun h => ⟨⟨h, trivial⟩, trivial⟩) ?_
    refine And.intro (fun h => ⟨⟨h, trivial⟩, trivial⟩) ?_
    refine And.intro (fun h => trivial) ?_
    refine And.intro (fun h => trivial) ?_
    refine And.intro (fun h => ⟨⟨⟨h, trivial⟩, ⟨h, trivial⟩, trivial⟩, by first | omega | decide | (simp only [Int.toNat_natCast, dflt_sl, dflt_st, dflt_str, dflt_int, dflt_bool]; omega) | (have h9 := of_decide_eq_true h; omega) | (simp [gq] at h; omega)⟩) ?_
    refine And.intro (fun h => ⟨⟨h, trivial⟩, trivial⟩) ?_
    refine And.intro (fun h => ⟨⟨h, trivial⟩, trivial⟩) ?_
    refine And.intro (fun h => ⟨⟨h, trivial⟩, ⟨h, trivial⟩, trivial⟩) ?_
    refine And.intro (by first | (intro h; rw [h]; rfl) | (intro h; cases h)) ?_
    refine And.intro (fun h => trivial) ?_
    refine And.intro (fun h => trivial) ?_
    refine And.intro (fun h => ⟨⟨⟨h, trivial⟩, ⟨h, trivial⟩, trivial⟩, by first | omega | decide | (simp only [Int.toNat_natCast, dflt_sl, dflt_st, dflt_str, dflt_int, dflt_bool]; omega) | (have h9 := of_decide_eq_true h; omega) | (simp [gq] at h; omega)⟩) ?_
    refine And.intro (fun h => ⟨⟨h, trivial⟩, trivial⟩) ?_
    refine And.intro (fun h => ⟨⟨h, trivial⟩, trivial⟩) ?_
    refine And.intro (fun h => trivial) ?_
    refine And.intro (fun h => trivial) ?_
    refine And.intro (fun h => ⟨⟨⟨h, trivial⟩, ⟨h, trivial⟩, trivial⟩, by first | omega | decide | (simp only [Int.toNat_natCast, dflt_sl, dflt_st, dflt_str, dflt_int, dflt_bool]; omega) | (have h9 := of_decide_eq_true h; omega) | (simp [gq] at h; omega)⟩) ?_
    refine And.intro (fun h => ⟨⟨h, trivial⟩, trivial⟩) ?_
    refine And.intro (fun h => ⟨⟨h, trivial⟩, trivial⟩) ?_
    refine And.intro (rfl) ?_
    refine Exists.intro _ (And.intro (fun h => ⟨⟨⟨h, trivial⟩, ⟨h, trivial⟩, trivial⟩, fields_c (a.getD i ((0 : Int), ByteArray.empty, ([] : List Fld))).2.2 (b.getD i ((0 : Int), ByteArray.empty, ([] : List Fld))).2.2⟩) ?_)
    refine And.intro (fun h => ⟨⟨h, trivial⟩, trivial⟩) ?_
    refine And.intro (by first | (intro h; rw [h]; rfl) | (intro h; cases h)) ?_
    refine acode_cond rfl (fun h53 => ?_) (fun h53 => ?_)
    ·try simp only [decide_eq_false_iff_not, Bool.not_eq_true', Bool.or_eq_true] at h53
     try simp only [Int.toNat_natCast, dflt_sl, dflt_st, dflt_str, dflt_int] at h53
     refine acode_seq ?_
     refine acode_region ?_
     refine acode_ret ?_
     exact ib_eq (decide_eq_false (ne_at (i := i) ((0 : Int), ByteArray.empty, ([] : List Fld)) (fun e => h53.elim (fun h => h.elim (fun h => h (congrArg Prod.fst e)) (fun h => h (congrArg (·.2.1) e))) (fun h => h (congrArg (·.2.2) e))))).symm
    ·try simp only [decide_eq_true_eq, Bool.not_eq_false', Bool.or_eq_false_iff] at h53
     try simp only [Int.toNat_natCast, dflt_sl, dflt_st, dflt_str, dflt_int] at h53
     refine acode_skip ?_
     refine acode_region ?_
     refine And.intro (by first | omega | assumption | decide | (simp only [Int.toNat_natCast, dflt_sl, dflt_st, dflt_str, dflt_int, dflt_bool]; omega) | (simp <;> omega)) ?_
     exact ⟨i + 1, ⟨by omega, list_ext_take ((0 : Int), ByteArray.empty, ([] : List Fld)) hla hlb ht (Prod.ext h53.1.1 (Prod.ext h53.1.2 h53.2))⟩, by first | omega | (simp <;> omega), le_of ⟨rfl, rfl, rfl, (ii_eq (by omega))⟩ trivial rfl⟩
   ·try simp only [decide_eq_false_iff_not, Int.not_lt] at h14
    try simp only [Int.toNat_natCast, dflt_sl, dflt_st, dflt_str, dflt_int, dflt_bool] at h14
    refine acode_exit ?_
    refine acode_seq ?_
    refine acode_region ?_
    refine acode_ret ?_
    exact ib_eq (decide_eq_true (by rw [List.take_of_length_le (by omega), List.take_of_length_le (by omega)] at ht; exact ht)).symm
theorem alive_parse : parseS ⟨#[65, 58, 32, 49, 10, 35, 32, 120, 10, 10]⟩ = .inr [(3, ⟨#[65, 58, 32, 49, 10, 35, 32, 120, 10]⟩, [(⟨#[65]⟩, ⟨#[49]⟩)]), (1, ⟨#[10]⟩, [])] := by
  decide +kernel
theorem alive_c : ACall Tryd.prog 17 [] (ib true) := by
  have hp := parse_a ⟨#[65, 58, 32, 49, 10, 35, 32, 120, 10, 10]⟩ (by decide)
  rw [alive_parse] at hp
  refine acall_of (rs := [0]) Tryd.func17 rfl rfl rfl teOk rfl ?_
  refine acode_seq ?_
  refine acode_region ?_
  refine acode_seq ?_
  refine acode_region ?_
  refine Or.inl ?_
  refine And.intro (rfl) ?_
  refine Exists.intro _ (And.intro (hp) ?_)
  refine acode_seq ?_
  refine acode_region ?_
  refine And.intro (fun h => trivial) ?_
  refine And.intro (fun h => ⟨⟨h, trivial⟩, trivial⟩) ?_
  refine And.intro (fun h => ⟨⟨h, trivial⟩, trivial⟩) ?_
  refine And.intro (by exact fun h => h) ?_
  refine And.intro (fun h => trivial) ?_
  refine And.intro (fun h => ⟨⟨⟨h, trivial⟩, trivial⟩, by first | omega | decide | (simp only [Int.toNat_natCast, dflt_sl, dflt_st, dflt_str, dflt_int, dflt_bool]; omega) | (have h9 := of_decide_eq_true h; omega) | (simp [gq] at h; omega)⟩) ?_
  refine And.intro (fun h => ⟨⟨h, trivial⟩, trivial⟩) ?_
  refine And.intro (fun h => ⟨⟨h, trivial⟩, trivial⟩) ?_
  refine And.intro (fun h => ⟨⟨h, trivial⟩, trivial⟩) ?_
  refine And.intro (by exact fun h => h) ?_
  refine And.intro (fun h => trivial) ?_
  refine And.intro (fun h => ⟨⟨⟨h, trivial⟩, trivial⟩, by first | omega | decide | (simp only [Int.toNat_natCast, dflt_sl, dflt_st, dflt_str, dflt_int, dflt_bool]; omega) | (have h9 := of_decide_eq_true h; omega) | (simp [gq] at h; omega)⟩) ?_
  refine And.intro (fun h => ⟨⟨h, trivial⟩, trivial⟩) ?_
  refine And.intro (fun h => ⟨⟨h, trivial⟩, trivial⟩) ?_
  refine And.intro (fun h => ⟨⟨h, trivial⟩, trivial⟩) ?_
  refine And.intro (by exact fun h => h) ?_
  refine And.intro (fun h => trivial) ?_
  refine And.intro (fun h => ⟨⟨⟨h, trivial⟩, trivial⟩, by first | omega | decide | (simp only [Int.toNat_natCast, dflt_sl, dflt_st, dflt_str, dflt_int, dflt_bool]; omega) | (have h9 := of_decide_eq_true h; omega) | (simp [gq] at h; omega)⟩) ?_
  refine And.intro (fun h => ⟨⟨h, trivial⟩, trivial⟩) ?_
  refine And.intro (fun h => ⟨⟨h, trivial⟩, trivial⟩) ?_
  refine And.intro (fun h => ⟨⟨h, trivial⟩, trivial⟩) ?_
  refine And.intro (fun h => ⟨⟨h, trivial⟩, trivial⟩) ?_
  refine And.intro (by exact fun h => h) ?_
  refine And.intro (fun h => trivial) ?_
  refine And.intro (fun h => ⟨⟨⟨h, trivial⟩, trivial⟩, by first | omega | decide | (simp only [Int.toNat_natCast, dflt_sl, dflt_st, dflt_str, dflt_int, dflt_bool]; omega) | (have h9 := of_decide_eq_true h; omega) | (simp [gq] at h; omega)⟩) ?_
  refine And.intro (fun h => ⟨⟨h, trivial⟩, trivial⟩) ?_
  refine And.intro (fun h => ⟨⟨h, trivial⟩, trivial⟩) ?_
  refine And.intro (fun h => ⟨⟨h, trivial⟩, trivial⟩) ?_
  refine And.intro (by exact fun h => h) ?_
  refine acode_ret ?_
  rfl
end Q
end Ab
end Go.Proofs.YtlbainbjlibfiaaDoor
namespace Go.Proofs.YtlbainbjlibfiaaDoor
open Go.RowKit
namespace Ab
set_option maxRecDepth 100000
namespace Q
def oneL (k : Nat) : List UInt8 := (List.replicate k [65, 58, 10]).flatten
def manyL (k : Nat) : List UInt8 := (List.replicate k [65, 58, 10, 10]).flatten
def PClean (p : PSt) (r : Int) : Prop := p.lns = [] ∧ p.blk = [] ∧ p.flds = [] ∧ p.recs = r
end Q
end Ab
end Go.Proofs.YtlbainbjlibfiaaDoor
namespace Go.Proofs.YtlbainbjlibfiaaDoor
open Go.RowKit
namespace Ab
set_option maxRecDepth 100000
namespace Q
def linesB : Nat → List UInt8 → List (ByteArray × Bool)
  | 0, _ => []
  | f + 1, s => match s with
    | [] => []
    | s => (bytes (Lib.cut s [10]).1, (Lib.cut s [10]).2.2) :: linesB f (Lib.cut s [10]).2.1
def glue : List (ByteArray × Bool) → List UInt8
  | [] => []
  | l :: r => ls l.1 ++ ((if l.2 then [10] else []) ++ glue r)
structure Rel (I : List Itm) (c : Int) (p q : PSt) : Prop where
  lns : p.lns = q.lns
  full : q.full = true → p.full = true
  its : p.its = I ++ q.its
  blk : p.blk = q.blk
  flds : p.flds = q.flds
  recs : p.recs = q.recs + c
  c0 : 0 ≤ c
  r4 : p.recs ≤ 400
  rf : p.flds ≠ [] → p.recs < 400
  rl : p.lns ≠ [] → p.full = false → p.recs < 400
section
variable {I : List Itm} {c : Int} {p q p1 : PSt}
end
end Q
end Ab
end Go.Proofs.YtlbainbjlibfiaaDoor
namespace Go.Proofs.YtlbainbjlibfiaaDoor
open Go.RowKit
namespace Ab
set_option maxRecDepth 100000
namespace Q
def szI (l : List Itm) : Nat := (l.map (·.2.1.size)).sum
def szB (l : List ByteArray) : Nat := (l.map (fun b => b.size + 1)).sum
def rawN (p : PSt) : Nat := szI p.its + szB p.blk
def Idle (p : PSt) : Prop := p.lns = [] ∧ p.blk = [] ∧ p.flds = []
theorem szI_app (a b : List Itm) : szI (a ++ b) = szI a + szI b := by simp [szI]
def szL (L : List Lne) : Nat := (L.map (fun l => l.2.2.1.size + 1)).sum
end Q
end Ab
end Go.Proofs.YtlbainbjlibfiaaDoor
namespace Go.Proofs.YtlbainbjlibfiaaDoor
open Go.RowKit
namespace Ab
set_option maxRecDepth 100000
namespace Q
def mkL (t : ByteArray) : Lne := (0, 0, t, true)
def Ready (p : PSt) (F : List Fld) : Prop := ∃ q, flushS p = .inr q ∧ q.lns = [] ∧ q.flds = F ∧ q.its = p.its ∧ q.recs = p.recs ∧ q.blk = p.blk
def foldsL (a b : List Fld) (n : List UInt8) : List ByteArray := bytes (35 :: n) :: ((a.flatMap fun f => lineB f.1 f.2) ++ (⟨#[]⟩ :: ((b.flatMap fun f => lineB f.1 f.2) ++ [bytes (35 :: n)])))
end Q
end Ab
end Go.Proofs.YtlbainbjlibfiaaDoor
namespace Go.Proofs.YtlbainbjlibfiaaDoor
open Go.RowKit
namespace Ab
set_option maxRecDepth 100000
namespace Q
def recsT (l : List Itm) : List (List Fld) := (l.filter fun x => decide (x.1 = 3)).map (·.2.2)
def fldL (a : List Fld) : List ByteArray := a.flatMap fun f => lineB f.1 f.2
def textT : List (List Fld) → List ByteArray
  | [] => []
  | [a] => fldL a
  | a :: b :: r => fldL a ++ (⟨#[]⟩ :: textT (b :: r))
def GoodS (a : List Fld) : Prop := a ≠ [] ∧ a.length ≤ 40 ∧ ∀ f ∈ a, checkF f = 0
end Q
end Ab
end Go.Proofs.YtlbainbjlibfiaaDoor
namespace Go.Proofs.YtlbainbjlibfiaaDoor
open Go.RowKit
namespace Ab
set_option maxRecDepth 100000
namespace Q
def more (l : Lne) : Bool := decide (kindL (ls l.2.2.1) = 3)
def saidL (l : Lne) (r : List Lne) : List ByteArray := l.2.2.1 :: (r.takeWhile more).map (·.2.2.1)
def wrongL (bh : Bool) (l : Lne) (r : List Lne) (fields recs : Int) : Int :=
  if kindL (ls l.2.2.1) = 5 ∨ (kindL (ls l.2.2.1) = 3 ∧ bh = false) ∨ l.2.2.2 = false then 2
  else if kindL (ls l.2.2.1) ≠ 4 then 0
  else if (unfoldL ((saidL l r).map ls)).2 ≠ 0 then (unfoldL ((saidL l r).map ls)).2
  else if 40 ≤ fields ∨ (fields = 0 ∧ 400 ≤ recs) then 11
  else 0
structure RSt where
  kind : Int
  raw : ByteArray
  flds : List Fld
  out : List Itm
  recs : Int
def fldOf (L : List ByteArray) : Fld := (bytes (unfoldL (L.map ls)).1.1, bytes (unfoldL (L.map ls)).1.2)
def stepR (t : RSt) (l : Lne) (r : List Lne) : RSt :=
  if kindL (ls l.2.2.1) = 1 then ⟨2, ByteArray.empty, [], (if t.raw = ByteArray.empty then t.out else t.out ++ [(t.kind, t.raw, t.flds)]) ++ [(1, l.2.2.1 ++ ⟨#[10]⟩, [])], t.recs⟩
  else if kindL (ls l.2.2.1) = 4 then ⟨3, t.raw ++ l.2.2.1 ++ ⟨#[10]⟩, t.flds ++ [fldOf (saidL l r)], t.out, if t.kind = 2 then t.recs + 1 else t.recs⟩
  else { t with raw := t.raw ++ l.2.2.1 ++ ⟨#[10]⟩ }
def runR (bh : Bool) (t : RSt) : List Lne → (Int × Int) ⊕ List Itm
  | [] => .inr (if t.raw = ByteArray.empty then t.out else t.out ++ [(t.kind, t.raw, t.flds)])
  | l :: r => if wrongL bh l r t.flds.length t.recs ≠ 0 then .inl (l.1, wrongL bh l r t.flds.length t.recs)
    else runR (decide (kindL (ls l.2.2.1) = 4) || decide (kindL (ls l.2.2.1) = 3)) (stepR t l r) r
def rst0 : RSt := ⟨2, ByteArray.empty, [], [], 0⟩
def outP (p : PSt) (L : List Lne) : (Int × Int) ⊕ List Itm := match runS p L with
  | .inl e => .inl e
  | .inr q => match endS q with
    | .inl e => .inl e
    | .inr q => .inr q.its
def Ends : List Lne → Prop
  | [] => True
  | l :: r => (l.2.2.2 = false → r = []) ∧ Ends r
def rawC (b : List ByteArray) : ByteArray := bytes (endL (b.map ls))
structure Alike (p : PSt) (t : RSt) (bh : Bool) (L : List Lne) : Prop where
  its : t.out = p.its
  raw : t.raw = rawC p.blk
  bh : bh = true ↔ p.lns ≠ []
  flds : t.flds = p.flds ++ (if p.lns = [] then [] else [fldOf (p.lns ++ (L.takeWhile more).map (·.2.2.1))])
  kind : t.kind = if t.flds = [] then 2 else 3
  recs : t.recs = p.recs + (if t.flds = [] then 0 else 1)
  pend : p.lns ≠ [] → p.full = false ∧ (unfoldL ((p.lns ++ (L.takeWhile more).map (·.2.2.1)).map ls)).2 = 0
  blk0 : p.blk = [] → t.flds = []
  r4 : p.recs ≤ 400
  rf : t.flds ≠ [] → p.recs < 400
  f40 : t.flds.length ≤ 40
section
variable {p : PSt} {t : RSt} {bh : Bool} {L : List Lne}
end
end Q
end Ab
end Go.Proofs.YtlbainbjlibfiaaDoor
namespace Go.Proofs.YtlbainbjlibfiaaDoor
open Go.RowKit
namespace Ab
set_option maxRecDepth 100000
namespace Q
end Q
end Ab
end Go.Proofs.YtlbainbjlibfiaaDoor
namespace Go.Proofs.YtlbainbjlibfiaaDoor
open Go.RowKit
namespace Ab
set_option maxRecDepth 100000
namespace Q
end Q
end Ab
end Go.Proofs.YtlbainbjlibfiaaDoor
namespace Go.Proofs.YtlbainbjlibfiaaDoor
open Go.RowKit
namespace Ab
set_option maxRecDepth 100000
namespace Q
theorem szI_succ {l : List Itm} {i : Nat} (h : i < l.length) : szI (l.take (i + 1)) = szI (l.take i) + (l.getD i ((0 : Int), ByteArray.empty, ([] : List Fld))).2.1.size := by
  rw [List.take_succ_eq_append_getElem h, szI_app]
  simp [szI, List.getD, h]
theorem szI_le (l : List Itm) (i : Nat) : szI (l.take i) ≤ szI l := by
  conv => rhs; rw [← List.take_append_drop i l]
  rw [szI_app]
  omega
end Q
end Ab
end Go.Proofs.YtlbainbjlibfiaaDoor
namespace Go.Proofs.YtlbainbjlibfiaaDoor
open Go.RowKit
namespace Ab
set_option maxRecDepth 100000
namespace Q
structure SpI (s : ByteArray) (i at_ : Nat) (out : List Lne) : Prop where
  ai : at_ ≤ i
  is : i ≤ s.size
  no : (10 : UInt8) ∉ ((ls s).drop at_).take (i - at_)
  ol : out.length ≤ at_
  eq : ∃ f, ((ls s).drop at_).length ≤ f ∧ out ++ linesR f s.size out.length ((ls s).drop at_) = linesT s
def rawsL (l : List Itm) : List UInt8 := l.flatMap fun x => ls x.2.1
theorem raws_len (l : List Itm) : (rawsL l).length = szI l := by
  induction l with
  | nil => rfl
  | cons a r ih =>
    unfold rawsL szI at *
    simp only [List.flatMap_cons, List.length_append, List.map_cons, List.sum_cons, ih]
    rw [size_list]
theorem raws_snoc (l : List Itm) (i : Nat) (h : i < l.length) : rawsL (l.take (i + 1)) = rawsL (l.take i) ++ ls (l.getD i ((0 : Int), ByteArray.empty, ([] : List Fld))).2.1 := by
  unfold rawsL
  rw [List.take_succ_eq_append_getElem h, List.flatMap_append]
  simp [List.getD, h]
theorem szI_mem (l : List Itm) (i : Nat) (h : i < l.length) : szI (l.take i) + (l.getD i ((0 : Int), ByteArray.empty, ([] : List Fld))).2.1.size ≤ szI l := by
  rw [← szI_succ h]
  exact szI_le l (i + 1)
theorem joinI_c (l : List Itm) (hl : l.length ≤ 1000000) (hs : szI l ≤ 100000000) : ACall Tryd.prog 20 [.one (.sl rItm l)] (is (bytes (rawsL l))) := by
  refine acall_of (rs := [2]) Tryd.func20 rfl rfl rfl teOk rfl ?_
  refine acode_seq ?_
  refine acode_region ?_
  refine acode_seq ?_
  refine acode_region ?_
  refine acode_seq ?_
  refine acode_seq ?_
  refine acode_bld 0 5 (.int .u8) rfl ?_
  refine acode_region ?_
  intro l2_1
  try simp only [Int.toNat_natCast, dflt_sl, dflt_st, dflt_str, dflt_int, dflt_bool] at l2_1
  refine acode_block ?_
  refine acode_loopP (fun (x : Nat × Bool) => x.1 ≤ l.length) (fun (x : Nat × Bool) => [(3, .one (.own 0 0)), (6, .one (.sl rItm l)), (7, ii .i64 l.length), (8, ii .i64 x.1)]) (fun (x : Nat × Bool) => [(0, .box 63 [.nself x.2 0, .vec 1]), (1, .vec 5 (.int .u8) (intsOf (bytes (rawsL (l.take x.1)))))]) 2 (fun (x : Nat × Bool) => l.length - x.1) (0, false) (Nat.zero_le _) (le_of ⟨rfl, rfl, rfl, rfl⟩ ⟨rfl, rfl⟩ rfl) ?_
  intro ⟨i, u⟩ hI0
  simp only at hI0 ⊢
  refine acode_seq ?_
  refine acode_region ?_
  refine acode_seq ?_
  refine acode_cond rfl (fun h9 => ?_) (fun h9 => ?_)
  ·try simp only [decide_eq_true_eq] at h9
   try simp only [Int.toNat_natCast, dflt_sl, dflt_st, dflt_str, dflt_int, dflt_bool] at h9
   have hlt : i < l.length := (by omega)
   have hm := szI_mem l i hlt
   have hr := raws_len (l.take i)
   refine acode_skip ?_
   refine acode_seq ?_
   refine acode_block ?_
   refine acode_seq ?_
   refine acode_region ?_
   refine And.intro (by first | omega | assumption | decide | (simp only [Int.toNat_natCast, dflt_sl, dflt_st, dflt_str, dflt_int, dflt_bool]; omega) | (simp <;> omega)) ?_
   refine acode_region ?_
   refine Or.inr (Or.inl (Exists.intro [] (Exists.intro [0, 1] (Exists.intro _ (Exists.intro _ (Exists.intro _ (Exists.intro _ (Exists.intro _ (And.intro (writeString_o _ _ _ (by rw [ints_len, hr]; show _ + (l.getD i ((0 : Int), ByteArray.empty, ([] : List Fld))).2.1.size ≤ _; omega)) (And.intro rfl (And.intro (And.intro (And.intro rfl rfl) (And.intro (And.intro rfl rfl) True.intro)) (And.intro rfl ?_))))))))))))
   refine acode_region ?_
   refine And.intro (by first | omega | assumption | decide | (simp only [Int.toNat_natCast, dflt_sl, dflt_st, dflt_str, dflt_int, dflt_bool]; omega) | (simp <;> omega)) ?_
   exact ⟨(i + 1, true), (by simp only; omega), by first | omega | (simp <;> omega), le_of ⟨rfl, rfl, rfl, (ii_eq (by simp only; omega))⟩ ⟨rfl, (vec_eq (by simp only; rw [raws_snoc l i hlt]; exact ints_add _ _ _ (bytes_ls _).symm))⟩ rfl⟩
  ·try simp only [decide_eq_false_iff_not, Int.not_lt] at h9
   try simp only [Int.toNat_natCast, dflt_sl, dflt_st, dflt_str, dflt_int, dflt_bool] at h9
   refine acode_exit ?_
   refine acode_seq ?_
   refine acode_region ?_
   refine Or.inr (Or.inl (Exists.intro [] (Exists.intro [0, 1] (Exists.intro _ (Exists.intro _ (Exists.intro _ (Exists.intro _ (Exists.intro _ (And.intro (string_o _ _) (And.intro rfl (And.intro (And.intro (And.intro rfl rfl) (And.intro (And.intro rfl rfl) True.intro)) (And.intro rfl ?_))))))))))))
   refine acode_ret ?_
   rw [List.take_of_length_le (by omega)]
   rfl
theorem getD_get {α : Type} {l : List α} {i : Nat} (h : i < l.length) (d : α) : l[i] = l.getD i d := by
  rw [List.getD_eq_getElem?_getD, List.getElem?_eq_getElem h]
  rfl
end Q
end Ab
end Go.Proofs.YtlbainbjlibfiaaDoor
namespace Go.Proofs.YtlbainbjlibfiaaDoor
open Go.RowKit
namespace Ab
set_option maxRecDepth 100000
namespace Q
def bhI (k : List Int) (i : Nat) : Bool := decide (0 < i) && (decide (k.getD (i - 1) 0 = 4) || decide (k.getD (i - 1) 0 = 3))
structure RI (L : List Lne) (k : List Int) (i : Nat) (t : RSt) : Prop where
  il : i ≤ L.length
  eq : runR false rst0 L = runR (bhI k i) t (L.drop i)
  r0 : 0 ≤ t.recs
  ri : t.recs ≤ i
  oi : t.out.length ≤ 2 * i
  fi : t.flds.length ≤ i
  rw_ : t.raw.size ≤ ((L.take i).map (fun l => l.2.2.1.size + 1)).sum
  rd : t.raw = ByteArray.empty ↔ t.raw.size = 0
def resR : (Int × Int) ⊕ List Itm → A
  | .inl e => .tup [(false, [.sl rItm []]), (false, [.lit (.int .i64 e.1)]), (false, [.lit (.int .i64 e.2)])]
  | .inr l => .tup [(false, [.sl rItm l]), (false, [.lit (.int .i64 (-9))]), (false, [.lit (.int .i64 0)])]
end Q
end Ab
end Go.Proofs.YtlbainbjlibfiaaDoor
namespace Go.Proofs.YtlbainbjlibfiaaDoor
open Go.RowKit
namespace Ab
set_option maxRecDepth 100000
namespace Q
abbrev rRow : Rd (List Fld) := .sl rFld
def recsL (l : List Itm) : List (List Fld) := (l.filter fun x => decide (x.1 = 3)).map (·.2.2)
theorem recs_snoc (l : List Itm) (i : Nat) (h : i < l.length) : recsL (l.take (i + 1)) = if (l.getD i ((0 : Int), ByteArray.empty, ([] : List Fld))).1 = 3 then recsL (l.take i) ++ [(l.getD i ((0 : Int), ByteArray.empty, ([] : List Fld))).2.2] else recsL (l.take i) := by
  unfold recsL
  rw [List.take_succ_eq_append_getElem h, List.filter_append, List.map_append, getD_get h ((0 : Int), ByteArray.empty, ([] : List Fld))]
  by_cases h3 : (l.getD i ((0 : Int), ByteArray.empty, ([] : List Fld))).1 = 3
  · rw [if_pos h3, List.filter_cons_of_pos (by simpa using h3)]; rfl
  · rw [if_neg h3, List.filter_cons_of_neg (by simpa using h3)]; simp
theorem recs_le (l : List Itm) (i : Nat) : (recsL (l.take i)).length ≤ l.length := by
  unfold recsL
  rw [List.length_map]
  refine Nat.le_trans (List.length_filter_le _ _) ?_
  rw [List.length_take]
  omega
theorem refStanzas_c (l : List Itm) (hl : l.length ≤ 1000000) : ACall Tryd.prog 19 [.one (.sl rItm l)] (.one (.sl rRow (recsL l))) := by
  refine acall_of (rs := [2]) Tryd.func19 rfl rfl rfl teOk rfl ?_
  refine acode_seq ?_
  refine acode_region ?_
  refine acode_seq ?_
  refine acode_region ?_
  refine acode_seq ?_
  refine acode_seq ?_
  refine acode_nilvec 3 24 rRow rfl ?_
  refine acode_region ?_
  refine acode_block ?_
  refine acode_loopP (fun (i : Nat) => i ≤ l.length) (fun (i : Nat) => [(0, .one (.sl rItm l)), (3, .one (.vec 0)), (4, ii .i64 i)]) (fun (i : Nat) => [(0, .vec 24 rRow (recsL (l.take i)))]) 1 (fun (i : Nat) => l.length - i) 0 (Nat.zero_le _) (le_of ⟨rfl, rfl, rfl⟩ rfl rfl) ?_
  intro i hI0
  refine acode_seq ?_
  refine acode_seq ?_
  refine acode_region ?_
  intro l3_2
  try simp only [Int.toNat_natCast, dflt_sl, dflt_st, dflt_str, dflt_int, dflt_bool] at l3_2
  refine acode_cond rfl (fun h8 => ?_) (fun h8 => ?_)
  ·try simp only [decide_eq_true_eq] at h8
   try simp only [Int.toNat_natCast, dflt_sl, dflt_st, dflt_str, dflt_int, dflt_bool] at h8
   have hil : i < l.length := (by omega)
   have hrs := recs_snoc l i hil
   have hrl := recs_le l i
   refine acode_skip ?_
   refine acode_seq ?_
   refine acode_block ?_
   refine acode_seq ?_
   refine acode_region ?_
   refine And.intro (by first | omega | assumption | decide | (simp only [Int.toNat_natCast, dflt_sl, dflt_st, dflt_str, dflt_int, dflt_bool]; omega) | (simp <;> omega)) ?_
   refine acode_cond rfl (fun h16 => ?_) (fun h16 => ?_)
   ·try simp only [decide_eq_true_eq] at h16
    try simp only [Int.toNat_natCast, dflt_sl, dflt_st, dflt_str, dflt_int] at h16
    rw [if_pos h16] at hrs
    refine acode_region ?_
    refine And.intro (by first | omega | assumption | decide | (simp only [Int.toNat_natCast, dflt_sl, dflt_st, dflt_str, dflt_int, dflt_bool]; omega) | (simp <;> omega)) ?_
    refine And.intro (by first | exact app_le (by first | omega | (simp only [List.length_cons, List.length_nil]; omega) | (simp; omega)) (by decide) | omega | assumption | decide | (simp only [Int.toNat_natCast, dflt_sl, dflt_st, dflt_str, dflt_int, dflt_bool]; omega) | (simp <;> omega)) ?_
    refine acode_region ?_
    refine And.intro (by first | omega | assumption | decide | (simp only [Int.toNat_natCast, dflt_sl, dflt_st, dflt_str, dflt_int, dflt_bool]; omega) | (simp <;> omega)) ?_
    exact ⟨i + 1, by omega, by first | omega | (simp <;> omega), le_of ⟨rfl, rfl, (ii_eq (by omega))⟩ (vec_eq (by rw [hrs]; try rfl)) rfl⟩
   ·try simp only [decide_eq_false_iff_not] at h16
    try simp only [Int.toNat_natCast, dflt_sl, dflt_st, dflt_str, dflt_int] at h16
    rw [if_neg h16] at hrs
    refine acode_skip ?_
    refine acode_region ?_
    refine And.intro (by first | omega | assumption | decide | (simp only [Int.toNat_natCast, dflt_sl, dflt_st, dflt_str, dflt_int, dflt_bool]; omega) | (simp <;> omega)) ?_
    exact ⟨i + 1, by omega, by first | omega | (simp <;> omega), le_of ⟨rfl, rfl, (ii_eq (by omega))⟩ (vec_eq (by rw [hrs]; try rfl)) rfl⟩
  ·try simp only [decide_eq_false_iff_not, Int.not_lt] at h8
   try simp only [Int.toNat_natCast, dflt_sl, dflt_st, dflt_str, dflt_int, dflt_bool] at h8
   refine acode_exit ?_
   refine acode_seq ?_
   refine acode_region ?_
   refine acode_ret ?_
   rw [List.take_of_length_le (by omega)]
   rfl
def contP (p : PSt) : List UInt8 := rawsL p.its ++ endL (p.blk.map ls)
end Q
end Ab
end Go.Proofs.YtlbainbjlibfiaaDoor
namespace Go.Proofs.YtlbainbjlibfiaaDoor
open Go.RowKit
namespace Ab
set_option maxRecDepth 100000
namespace Q
def badAt : Int → List Fld → Int × Int
  | _, [] => (-9, 0)
  | i, f :: r => if checkF f ≠ 0 then (i, checkF f) else badAt (i + 1) r
def chkR (l : List Fld) : Int × Int := if l = [] then (-9, 2) else if 40 < l.length then (-9, 11) else badAt 0 l
def chkA (l : List Fld) : C := if (chkR l).2 = 0 then .lit .nilIface else if (chkR l).1 = -9 then errN (chkR l).2 else errF (chkR l).1 (chkR l).2
end Q
end Ab
end Go.Proofs.YtlbainbjlibfiaaDoor
namespace Go.Proofs.YtlbainbjlibfiaaDoor
open Go.RowKit
namespace Ab
set_option maxRecDepth 100000
namespace Q
def apartK (k : Int) : List Itm → List Itm
  | [] => []
  | x :: r => if k ≠ 1 ∧ x.1 ≠ 1 then (1, ⟨#[10]⟩, []) :: x :: apartK x.1 r else x :: apartK x.1 r
def apartL (l : List Itm) : List Itm := apartK 1 l
def altK (k : Int) : List Itm → Prop
  | [] => True
  | x :: r => (k = 1 ∨ x.1 = 1) ∧ altK x.1 r
def lastK (k : Int) : List Itm → Int
  | [] => k
  | x :: r => lastK x.1 r
def AltP (p : PSt) : Prop := altK 1 p.its ∧ lastK 1 p.its = 1
end Q
end Ab
end Go.Proofs.YtlbainbjlibfiaaDoor
namespace Go.Proofs.YtlbainbjlibfiaaDoor
open Go.RowKit
namespace Ab
set_option maxRecDepth 100000
namespace Q
def al6 : List (List Fld) := [[(⟨#[65]⟩, ⟨#[49]⟩)], [(⟨#[66]⟩, ⟨#[50]⟩)]]
end Q
end Ab
end Go.Proofs.YtlbainbjlibfiaaDoor
namespace Go.Proofs.YtlbainbjlibfiaaDoor
open Go.RowKit
namespace Ab
set_option maxRecDepth 100000
abbrev rItm3 : Rd Itm := rItm.kd 3
namespace Q
theorem spoil7_c : ASpoil Tryd.prog 16 := by
  refine aspoil_of Tryd.func16 rfl rfl rfl teOk rfl (fun xs => ?_)
  refine acode_seq ?_
  refine acode_region ?_
  intro l0_1
  try simp only [Int.toNat_natCast, dflt_sl, dflt_st, dflt_str, dflt_int, dflt_bool] at l0_1
  refine acode_block ?_
  refine acode_loopP (fun (i : Nat) => i ≤ xs.length) (fun (i : Nat) => [(0, .one (.slk 7 rUnk2 xs)), (4, ii .i64 xs.length), (5, ii .i64 i)]) (fun (i : Nat) => []) 1000000 (fun (i : Nat) => xs.length - i) 0 (Nat.zero_le _) (le_of ⟨rfl, rfl, rfl⟩ trivial rfl) ?_
  intro i hI0
  refine acode_seq ?_
  refine acode_region ?_
  refine acode_seq ?_
  refine acode_cond rfl (fun h6 => ?_) (fun h6 => ?_)
  · try simp only [decide_eq_true_eq] at h6
    try simp only [Int.toNat_natCast, dflt_sl, dflt_st, dflt_str, dflt_int, dflt_bool] at h6
    refine acode_skip ?_
    refine acode_seq ?_
    refine acode_block ?_
    refine acode_seq ?_
    refine acode_region ?_
    show ACode _ _ _ _ _ _ _ _ _
    refine acode_store7 4 rfl rfl rfl (by rfl) ?_
    refine And.intro (by first | omega | assumption | decide | (simp only [Int.toNat_natCast, dflt_sl, dflt_st, dflt_str, dflt_int, dflt_bool]; omega) | (simp <;> omega)) ?_
    refine Exists.intro _ (Exists.intro _ (Exists.intro _ (Exists.intro _ (Exists.intro _ (And.intro rfl (And.intro rfl (And.intro rfl (And.intro rfl ?_))))))))
    refine acode_region ?_
    refine And.intro (by first | omega | assumption | decide | (simp only [Int.toNat_natCast, dflt_sl, dflt_st, dflt_str, dflt_int, dflt_bool]; omega) | (simp <;> omega)) ?_
    exact ⟨i + 1, by omega, by first | omega | (simp <;> omega), le_of ⟨rfl, rfl, (ii_eq (by omega))⟩ trivial rfl⟩
  · try simp only [decide_eq_false_iff_not, Int.not_lt] at h6
    try simp only [Int.toNat_natCast, dflt_sl, dflt_st, dflt_str, dflt_int, dflt_bool] at h6
    refine acode_exit ?_
    exact Or.inr rfl
end Q
end Ab
end Go.Proofs.YtlbainbjlibfiaaDoor
namespace Go.Proofs.YtlbainbjlibfiaaDoor
open Go.RowKit
namespace Ab
set_option maxRecDepth 100000
namespace Q
theorem stanzas3_o (l : List Itm) (hl : l.length ≤ 1000000) (hf : ∀ x ∈ l, x.2.2.length ≤ 1000000) : ACallO Tryd.prog 18 [.one (.sl rItm l)] [] 0 (.one (.vec 0)) [(0, .vec 24 (.slk 3 rFld) (recsL l))] 1 := by
  refine acallo_of (rs := [2]) Tryd.func18 rfl rfl rfl (mapTe_ok (q := 3) teOk) (by decide) rfl ?_
  refine acode_seq ?_
  refine acode_region ?_
  refine acode_seq ?_
  refine acode_region ?_
  refine acode_seq ?_
  refine acode_seq ?_
  refine acode_nilvec 3 24 (.slk 3 rFld) rfl ?_
  refine acode_region ?_
  intro l2_1
  try simp only [Int.toNat_natCast, dflt_sl, dflt_st, dflt_str, dflt_int, dflt_bool] at l2_1
  refine acode_block ?_
  refine acode_loopP (fun (i : Nat) => i ≤ l.length) (fun (i : Nat) => [(3, .one (.vec 0)), (6, .one (.sl rItm l)), (7, ii .i64 l.length), (8, ii .i64 i)]) (fun (i : Nat) => [(0, .vec 24 (.slk 3 rFld) (recsL (l.take i)))]) 1 (fun (i : Nat) => l.length - i) 0 (Nat.zero_le _) (le_of ⟨rfl, rfl, rfl, rfl⟩ rfl rfl) ?_
  intro i hI0
  refine acode_seq ?_
  refine acode_region ?_
  refine acode_seq ?_
  refine acode_cond rfl (fun h9 => ?_) (fun h9 => ?_)
  ·try simp only [decide_eq_true_eq] at h9
   try simp only [Int.toNat_natCast, dflt_sl, dflt_st, dflt_str, dflt_int, dflt_bool] at h9
   have hil : i < l.length := (by omega)
   have hrs := recs_snoc l i hil
   have hrl := recs_le l i
   have hfl := hf _ (getD_mem hil ((0 : Int), ByteArray.empty, ([] : List Fld)))
   refine acode_skip ?_
   refine acode_seq ?_
   refine acode_block ?_
   refine acode_seq ?_
   refine acode_region ?_
   refine And.intro (by first | omega | assumption | decide | (simp only [Int.toNat_natCast, dflt_sl, dflt_st, dflt_str, dflt_int, dflt_bool]; omega) | (simp <;> omega)) ?_
   refine acode_seq ?_
   refine acode_region ?_
   refine acode_cond rfl (fun h14 => ?_) (fun h14 => ?_)
   ·try simp only [decide_eq_true_eq] at h14
    try simp only [Int.toNat_natCast, dflt_sl, dflt_st, dflt_str, dflt_int] at h14
    rw [if_pos h14] at hrs
    show ACode _ _ _ _ _ _ _ _ _
    refine acode_frzat 5 2 3 ?_
    refine And.intro (by first | exact app_le (show (l.getD i ((0 : Int), ByteArray.empty, ([] : List Fld))).2.2.length ≤ 1000000000 by omega) (by decide) | exact app_le (show 0 + (l.getD i ((0 : Int), ByteArray.empty, ([] : List Fld))).2.2.length ≤ 1000000000 by omega) (by decide)) ?_
    refine Exists.intro _ (Exists.intro _ (Exists.intro _ (Exists.intro _ (And.intro rfl ?_))))
    refine And.intro (by first | exact app_le (by first | omega | (simp only [List.length_cons, List.length_nil]; omega) | (simp; omega)) (by decide) | omega | assumption | decide | (simp only [Int.toNat_natCast, dflt_sl, dflt_st, dflt_str, dflt_int, dflt_bool]; omega) | (simp <;> omega)) ?_
    refine acode_region ?_
    refine And.intro (by first | omega | assumption | decide | (simp only [Int.toNat_natCast, dflt_sl, dflt_st, dflt_str, dflt_int, dflt_bool]; omega) | (simp <;> omega)) ?_
    exact ⟨i + 1, by omega, by first | omega | (simp <;> omega), le_of ⟨rfl, rfl, rfl, (ii_eq (by omega))⟩ (vec_eq (by rw [hrs]; try rfl)) rfl⟩
   ·try simp only [decide_eq_false_iff_not] at h14
    try simp only [Int.toNat_natCast, dflt_sl, dflt_st, dflt_str, dflt_int] at h14
    rw [if_neg h14] at hrs
    refine acode_skip ?_
    refine acode_region ?_
    refine And.intro (by first | omega | assumption | decide | (simp only [Int.toNat_natCast, dflt_sl, dflt_st, dflt_str, dflt_int, dflt_bool]; omega) | (simp <;> omega)) ?_
    exact ⟨i + 1, by omega, by first | omega | (simp <;> omega), le_of ⟨rfl, rfl, rfl, (ii_eq (by omega))⟩ (vec_eq (by rw [hrs]; try rfl)) rfl⟩
  ·try simp only [decide_eq_false_iff_not, Int.not_lt] at h9
   try simp only [Int.toNat_natCast, dflt_sl, dflt_st, dflt_str, dflt_int, dflt_bool] at h9
   refine acode_exit ?_
   refine acode_seq ?_
   refine acode_region ?_
   refine acode_ret ?_
   rw [List.take_of_length_le (by omega)]
   exact ⟨rfl, rfl, rfl⟩
theorem fields7_c {κ : Nat} (a b : List Fld) : ACall Tryd.prog 29 [.one (.slk κ rFld a), .one (.sl rFld b)] (ib (decide (a = b))) := by
  refine acall_of (rs := [4]) Tryd.func29 rfl rfl rfl teOk rfl ?_
  refine acode_seq ?_
  refine acode_region ?_
  refine acode_seq ?_
  refine acode_seq ?_
  refine acode_region ?_
  intro l1_1
  try simp only [Int.toNat_natCast, dflt_sl, dflt_st, dflt_str, dflt_int, dflt_bool] at l1_1
  intro l1_3
  try simp only [Int.toNat_natCast, dflt_sl, dflt_st, dflt_str, dflt_int, dflt_bool] at l1_3
  refine acode_cond rfl (fun h10 => ?_) (fun h10 => ?_)
  ·try simp only [decide_eq_false_iff_not, Bool.not_eq_true'] at h10
   try simp only [Int.toNat_natCast, dflt_sl, dflt_st, dflt_str, dflt_int, dflt_bool] at h10
   refine acode_seq ?_
   refine acode_region ?_
   refine acode_ret ?_
   exact ib_eq (decide_eq_false (fun e => by rw [e] at h10; omega)).symm
  ·try simp only [decide_eq_true_eq, Bool.not_eq_false'] at h10
   try simp only [Int.toNat_natCast, dflt_sl, dflt_st, dflt_str, dflt_int, dflt_bool] at h10
   refine acode_skip ?_
   refine acode_seq ?_
   refine acode_seq ?_
   refine acode_region ?_
   intro l3_1
   try simp only [Int.toNat_natCast, dflt_sl, dflt_st, dflt_str, dflt_int, dflt_bool] at l3_1
   refine acode_block ?_
   refine acode_loopP (fun (i : Nat) => i ≤ a.length ∧ a.take i = b.take i) (fun (i : Nat) => [(0, .one (.slk κ rFld a)), (1, .one (.sl rFld b)), (12, ii .i64 a.length), (13, ii .i64 i)]) (fun (i : Nat) => []) 0 (fun (i : Nat) => a.length - i) 0 (⟨Nat.zero_le _, by simp⟩) (le_of ⟨rfl, rfl, rfl, rfl⟩ trivial rfl) ?_
   intro i hI0
   obtain ⟨hi, ht⟩ := hI0
   refine acode_seq ?_
   refine acode_region ?_
   refine acode_seq ?_
   refine acode_cond rfl (fun h14 => ?_) (fun h14 => ?_)
   ·try simp only [decide_eq_true_eq] at h14
    try simp only [Int.toNat_natCast, dflt_sl, dflt_st, dflt_str, dflt_int, dflt_bool] at h14
    have hla : i < a.length := by omega
    have hlb : i < b.length := by omega
    refine acode_skip ?_
    refine acode_seq ?_
    refine acode_block ?_
    refine acode_seq ?_
    refine acode_region ?_
    refine acode_seq ?_
    refine acode_draw rfl (by kernel_rfl) ?_
    refine And.intro (by first | omega | assumption | decide | (simp only [Int.toNat_natCast, dflt_sl, dflt_st, dflt_str, dflt_int, dflt_bool]; omega) | (simp <;> omega)) ?_
    refine And.intro (by first | omega | assumption | decide | (simp only [Int.toNat_natCast, dflt_sl, dflt_st, dflt_str, dflt_int, dflt_bool]; omega) | (simp <;> omega)) ?_
    refine And.intro (by rfl) ?_
    refine acode_cond rfl (fun h24 => ?_) (fun h24 => ?_)
    ·try simp only [decide_eq_false_iff_not, Bool.not_eq_true', Bool.and_eq_false_iff] at h24
     try simp only [Int.toNat_natCast, dflt_st, dflt_str] at h24
     refine acode_seq ?_
     refine acode_region ?_
     refine acode_ret ?_
     exact ib_eq (decide_eq_false (ne_at (i := i) (ByteArray.empty, ByteArray.empty) (fun e => h24.elim (fun h => h (congrArg Prod.fst e)) (fun h => h (congrArg Prod.snd e))))).symm
    ·try simp only [decide_eq_true_eq, Bool.and_eq_true, Bool.not_eq_false'] at h24
     try simp only [Int.toNat_natCast, dflt_st, dflt_str] at h24
     refine acode_skip ?_
     refine acode_region ?_
     refine And.intro (by first | omega | assumption | decide | (simp only [Int.toNat_natCast, dflt_sl, dflt_st, dflt_str, dflt_int, dflt_bool]; omega) | (simp <;> omega)) ?_
     exact ⟨i + 1, ⟨by omega, list_ext_take (ByteArray.empty, ByteArray.empty) hla hlb ht (Prod.ext h24.1 h24.2)⟩, by first | omega | (simp <;> omega), le_of ⟨rfl, rfl, rfl, (ii_eq (by omega))⟩ trivial rfl⟩
   ·try simp only [decide_eq_false_iff_not, Int.not_lt] at h14
    try simp only [Int.toNat_natCast, dflt_sl, dflt_st, dflt_str, dflt_int, dflt_bool] at h14
    refine acode_exit ?_
    refine acode_seq ?_
    refine acode_region ?_
    refine acode_ret ?_
    exact ib_eq (decide_eq_true (by rw [List.take_of_length_le (by omega), List.take_of_length_le (by omega)] at ht; exact ht)).symm
theorem rows57_c {κ κ' : Nat} (a b : List (List Fld)) : ACall Tryd.prog 22 [.one (.slk κ (.slk κ' rFld) a), .one (.sl rRow b)] (ib (decide (a = b))) := by
  refine acall_of (rs := [4]) Tryd.func22 rfl rfl rfl teOk rfl ?_
  refine acode_seq ?_
  refine acode_region ?_
  refine acode_seq ?_
  refine acode_seq ?_
  refine acode_region ?_
  intro l1_1
  try simp only [Int.toNat_natCast, dflt_sl, dflt_st, dflt_str, dflt_int, dflt_bool] at l1_1
  intro l1_3
  try simp only [Int.toNat_natCast, dflt_sl, dflt_st, dflt_str, dflt_int, dflt_bool] at l1_3
  refine acode_cond rfl (fun h10 => ?_) (fun h10 => ?_)
  ·try simp only [decide_eq_false_iff_not, Bool.not_eq_true'] at h10
   try simp only [Int.toNat_natCast, dflt_sl, dflt_st, dflt_str, dflt_int, dflt_bool] at h10
   refine acode_seq ?_
   refine acode_region ?_
   refine acode_ret ?_
   exact ib_eq (decide_eq_false (fun e => by rw [e] at h10; omega)).symm
  ·try simp only [decide_eq_true_eq, Bool.not_eq_false'] at h10
   try simp only [Int.toNat_natCast, dflt_sl, dflt_st, dflt_str, dflt_int, dflt_bool] at h10
   refine acode_skip ?_
   refine acode_seq ?_
   refine acode_seq ?_
   refine acode_region ?_
   intro l3_1
   try simp only [Int.toNat_natCast, dflt_sl, dflt_st, dflt_str, dflt_int, dflt_bool] at l3_1
   refine acode_block ?_
   refine acode_loopP (fun (i : Nat) => i ≤ a.length ∧ a.take i = b.take i) (fun (i : Nat) => [(0, .one (.slk κ (.slk κ' rFld) a)), (1, .one (.sl rRow b)), (12, ii .i64 a.length), (13, ii .i64 i)]) (fun (i : Nat) => []) 0 (fun (i : Nat) => a.length - i) 0 (⟨Nat.zero_le _, by simp⟩) (le_of ⟨rfl, rfl, rfl, rfl⟩ trivial rfl) ?_
   intro i hI0
   obtain ⟨hi, ht⟩ := hI0
   refine acode_seq ?_
   refine acode_region ?_
   refine acode_seq ?_
   refine acode_cond rfl (fun h14 => ?_) (fun h14 => ?_)
   ·try simp only [decide_eq_true_eq] at h14
    try simp only [Int.toNat_natCast, dflt_sl, dflt_st, dflt_str, dflt_int, dflt_bool] at h14
    have hla : i < a.length := by omega
    have hlb : i < b.length := by omega
    refine acode_skip ?_
    refine acode_seq ?_
    refine acode_block ?_
    refine acode_seq ?_
    refine acode_region ?_
    refine acode_seq ?_
    refine acode_draw rfl (by kernel_rfl) ?_
    refine And.intro (by first | omega | assumption | decide | (simp only [Int.toNat_natCast, dflt_sl, dflt_st, dflt_str, dflt_int, dflt_bool]; omega) | (simp <;> omega)) ?_
    refine And.intro (by first | omega | assumption | decide | (simp only [Int.toNat_natCast, dflt_sl, dflt_st, dflt_str, dflt_int, dflt_bool]; omega) | (simp <;> omega)) ?_
    refine And.intro (rfl) ?_
    refine Exists.intro _ (And.intro (fields7_c (κ := κ') (a.getD i ([] : List Fld)) (b.getD i ([] : List Fld))) ?_)
    refine acode_cond rfl (fun h25 => ?_) (fun h25 => ?_)
    ·try simp only [decide_eq_false_iff_not, Bool.not_eq_true'] at h25
     try simp only [Int.toNat_natCast, dflt_sl, dflt_st, dflt_str, dflt_int, dflt_bool] at h25
     refine acode_seq ?_
     refine acode_region ?_
     refine acode_ret ?_
     exact ib_eq (decide_eq_false (ne_at (i := i) ([] : List Fld) h25)).symm
    ·try simp only [decide_eq_true_eq, Bool.not_eq_false'] at h25
     try simp only [Int.toNat_natCast, dflt_sl, dflt_st, dflt_str, dflt_int, dflt_bool] at h25
     refine acode_skip ?_
     refine acode_region ?_
     refine And.intro (by first | omega | assumption | decide | (simp only [Int.toNat_natCast, dflt_sl, dflt_st, dflt_str, dflt_int, dflt_bool]; omega) | (simp <;> omega)) ?_
     exact ⟨i + 1, ⟨by omega, list_ext_take ([] : List Fld) hla hlb ht h25⟩, by first | omega | (simp <;> omega), le_of ⟨rfl, rfl, rfl, (ii_eq (by omega))⟩ trivial rfl⟩
   ·try simp only [decide_eq_false_iff_not, Int.not_lt] at h14
    try simp only [Int.toNat_natCast, dflt_sl, dflt_st, dflt_str, dflt_int, dflt_bool] at h14
    refine acode_exit ?_
    refine acode_seq ?_
    refine acode_region ?_
    refine acode_ret ?_
    exact ib_eq (decide_eq_true (by rw [List.take_of_length_le (by omega), List.take_of_length_le (by omega)] at ht; exact ht)).symm
theorem refJoin5_c (l : List Itm) (hs : szI l ≤ 100000000) : ACall Tryd.prog 21 [.one (.sl rItm l)] (is (bytes (rawsL l))) := by
  refine acall_of (rs := [2]) Tryd.func21 rfl rfl rfl teOk rfl ?_
  refine acode_seq ?_
  refine acode_region ?_
  refine acode_seq ?_
  refine acode_region ?_
  refine acode_seq ?_
  refine acode_seq ?_
  refine acode_region ?_
  refine acode_block ?_
  refine acode_loopP (fun (i : Nat) => i ≤ l.length) (fun (i : Nat) => [(0, .one (.sl rItm l)), (3, is (bytes (rawsL (l.take i)))), (4, ii .i64 i)]) (fun (i : Nat) => []) 0 (fun (i : Nat) => l.length - i) 0 (Nat.zero_le _) (le_of ⟨rfl, rfl, rfl⟩ trivial rfl) ?_
  intro i hI0
  refine acode_seq ?_
  refine acode_seq ?_
  refine acode_region ?_
  intro l3_2
  try simp only [Int.toNat_natCast, dflt_sl, dflt_st, dflt_str, dflt_int, dflt_bool] at l3_2
  refine acode_cond rfl (fun h8 => ?_) (fun h8 => ?_)
  ·try simp only [decide_eq_true_eq] at h8
   try simp only [Int.toNat_natCast, dflt_sl, dflt_st, dflt_str, dflt_int, dflt_bool] at h8
   have hil : i < l.length := (by omega)
   have hm := szI_mem l i hil
   have hsn := raws_snoc l i hil
   have hsz : (bytes (rawsL (l.take i))).size = szI (l.take i) := by rw [bytes_size, raws_len]
   refine acode_skip ?_
   refine acode_seq ?_
   refine acode_block ?_
   refine acode_region ?_
   refine And.intro (by first | omega | assumption | decide | (simp only [Int.toNat_natCast, dflt_sl, dflt_st, dflt_str, dflt_int, dflt_bool]; omega) | (simp <;> omega)) ?_
   refine And.intro (by show (bytes (rawsL (l.take i))).size + (l.getD i ((0 : Int), ByteArray.empty, ([] : List Fld))).2.1.size ≤ maxLen; rw [hsz]; unfold maxLen; omega) ?_
   refine acode_region ?_
   refine And.intro (by first | omega | assumption | decide | (simp only [Int.toNat_natCast, dflt_sl, dflt_st, dflt_str, dflt_int, dflt_bool]; omega) | (simp <;> omega)) ?_
   exact ⟨i + 1, by omega, by first | omega | (simp <;> omega), le_of ⟨rfl, (is_eq (by rw [hsn, bytes_app, show bytes (ls (l.getD i ((0 : Int), ByteArray.empty, ([] : List Fld))).2.1) = (l.getD i ((0 : Int), ByteArray.empty, ([] : List Fld))).2.1 from bytes_ls _]; rfl)), (ii_eq (by omega))⟩ trivial rfl⟩
  ·try simp only [decide_eq_false_iff_not, Int.not_lt] at h8
   try simp only [Int.toNat_natCast, dflt_sl, dflt_st, dflt_str, dflt_int, dflt_bool] at h8
   refine acode_exit ?_
   refine acode_seq ?_
   refine acode_region ?_
   refine acode_ret ?_
   rw [List.take_of_length_le (by omega)]
   rfl
def unkR (l : List (List Fld)) : List (List (Unit × Unit)) := l.map fun r => r.map fun _ => ((), ())
theorem fld_unk {ok : Oks} {w : World} {cs : List Value} {f : Fld} (h : rFld.is ok w cs f) : rUnk2.is ok w cs ((), ()) :=
  unks_is rUnk2 rfl (rFld.len h) (rFld.ones h)
theorem row_unk {ok : Oks} {w : World} {cs : List Value} {r : List Fld} (h : (Rd.slk 7 rFld).is ok w cs r) : (Rd.slk 7 rUnk2).is ok w cs (r.map fun _ => ((), ())) := by
  obtain ⟨v, e, a, cap, h1, h2, h3, h4⟩ := h
  refine ⟨v, e, a, cap, by rw [List.length_map]; exact h1, by rw [List.length_map]; exact h2, h3, fun i hi => ?_⟩
  rw [List.length_map] at hi
  obtain ⟨b, off, cs, h5, h6, h7, h8, h9⟩ := h4 i hi
  exact ⟨b, off, cs, h5, h6, h7, h8, fld_unk h9⟩
theorem much_len {l : List Fld} (h : muchB l = false) : l.length ≤ 61 := by
  unfold muchB at h
  simp only [Bool.or_eq_false_iff, decide_eq_false_iff_not] at h
  omega
theorem szI_bound {l : List Itm} (h : ∀ x ∈ l, x.2.1.size ≤ 1000) : szI l ≤ 1000 * l.length := by
  induction l with
  | nil => exact Nat.le_refl _
  | cons x r ih =>
    have h1 := h x (by simp)
    have h2 := ih fun y hy => h y (by simp [hy])
    simp only [szI, List.map_cons, List.sum_cons, List.length_cons] at h2 ⊢
    omega
theorem StanzaJoins_c (l : List Itm) : ACall Tryd.prog 4 [.one (.sl rItm l)] (ib true) := by
  refine acall_of (rs := [2]) Tryd.func4 rfl rfl rfl teOk rfl ?_
  refine acode_seq ?_
  refine acode_region ?_
  refine acode_seq ?_
  refine acode_seq ?_
  refine acode_region ?_
  refine Or.inl ?_
  refine And.intro (rfl) ?_
  refine Exists.intro _ (And.intro (alive_c) ?_)
  refine acode_cond rfl (fun h11 => ?_) (fun h11 => ?_)
  ·try simp only [Bool.not_eq_true'] at h11
   try simp only [Int.toNat_natCast, dflt_sl, dflt_st, dflt_str, dflt_int, dflt_bool] at h11
   simp at h11
  ·try simp only [Bool.not_eq_false'] at h11
   try simp only [Int.toNat_natCast, dflt_sl, dflt_st, dflt_str, dflt_int, dflt_bool] at h11
   refine acode_skip ?_
   refine acode_seq ?_
   refine acode_seq ?_
   refine acode_region ?_
   intro l3_1
   try simp only [Int.toNat_natCast, dflt_sl, dflt_st, dflt_str, dflt_int, dflt_bool] at l3_1
   refine acode_cond rfl (fun h14 => ?_) (fun h14 => ?_)
   ·try simp only [decide_eq_true_eq] at h14
    try simp only [Int.toNat_natCast, dflt_sl, dflt_st, dflt_str, dflt_int, dflt_bool] at h14
    refine acode_seq ?_
    refine acode_region ?_
    refine acode_ret ?_
    first | rfl | exact ib_eq (by rw [hie, List.take_length]; simp)
   ·try simp only [decide_eq_false_iff_not, Int.not_lt] at h14
    try simp only [Int.toNat_natCast, dflt_sl, dflt_st, dflt_str, dflt_int, dflt_bool] at h14
    refine acode_skip ?_
    refine acode_seq ?_
    refine acode_region ?_
    refine acode_seq ?_
    refine acode_seq ?_
    refine acode_region ?_
    intro l6_1
    try simp only [Int.toNat_natCast, dflt_sl, dflt_st, dflt_str, dflt_int, dflt_bool] at l6_1
    refine acode_block ?_
    refine acode_loopP (fun (i : Nat) => i ≤ l.length ∧ ∀ x ∈ l.take i, x.2.1.size ≤ 1000 ∧ x.2.2.length ≤ 61) (fun (i : Nat) => [(0, .one (.sl rItm l)), (3, .one (.vec 0)), (16, .one (.sl rItm l)), (17, ii .i64 l.length), (18, ii .i64 i)]) (fun (i : Nat) => [(0, .vec 26 rItm (l.take i))]) 1 (fun (i : Nat) => l.length - i) 0 (⟨Nat.zero_le _, fun x h => by cases h⟩) (le_of ⟨rfl, rfl, rfl, rfl, rfl⟩ rfl rfl) ?_
    intro i hI0
    obtain ⟨hi, hb⟩ := hI0
    refine acode_seq ?_
    refine acode_region ?_
    refine acode_seq ?_
    refine acode_cond rfl (fun h19 => ?_) (fun h19 => ?_)
    ·try simp only [decide_eq_true_eq] at h19
     try simp only [Int.toNat_natCast, dflt_sl, dflt_st, dflt_str, dflt_int, dflt_bool] at h19
     have hil : i < l.length := by omega
     refine acode_skip ?_
     refine acode_seq ?_
     refine acode_block ?_
     refine acode_seq ?_
     refine acode_region ?_
     refine And.intro (by first | omega | assumption | decide | (simp only [Int.toNat_natCast, dflt_sl, dflt_st, dflt_str, dflt_int, dflt_bool]; omega) | (simp <;> omega)) ?_
     refine acode_seq ?_
     refine acode_seq ?_
     refine acode_region ?_
     refine And.intro (fun h => trivial) ?_
     refine And.intro (fun h => ⟨⟨h, trivial⟩, trivial⟩) ?_
     refine Or.inl ?_
     refine And.intro (rfl) ?_
     refine Exists.intro _ (And.intro (fun h => ⟨⟨⟨h, trivial⟩, trivial⟩, much_c _⟩) ?_)
     refine And.intro (by first | (intro h; rw [h]; rfl) | (intro h; cases h)) ?_
     refine acode_cond rfl (fun h30 => ?_) (fun h30 => ?_)
     ·try simp only [decide_eq_true_eq, Bool.or_eq_true] at h30
      try simp only [Int.toNat_natCast, dflt_sl, dflt_st, dflt_str, dflt_int] at h30
      refine acode_seq ?_
      refine acode_region ?_
      refine acode_ret ?_
      first | rfl | exact ib_eq (by rw [hie, List.take_length]; simp)
     ·try simp only [decide_eq_false_iff_not, Bool.or_eq_false_iff, Int.not_lt] at h30
      try simp only [Int.toNat_natCast, dflt_sl, dflt_st, dflt_str, dflt_int] at h30
      refine acode_skip ?_
      refine acode_seq ?_
      refine acode_region ?_
      refine Or.inl ?_
      refine And.intro (rfl) ?_
      refine Exists.intro _ (And.intro (copies_c _ (by show (l.getD i ((0 : Int), ByteArray.empty, ([] : List Fld))).2.2.length ≤ 1000; have := much_len h30.2; omega)) ?_)
      refine acode_region ?_
      refine And.intro (by first | exact app_le (by first | omega | (simp only [List.length_cons, List.length_nil, List.length_take]; omega) | (simp; omega)) (by decide) | omega | assumption | decide | (simp only [Int.toNat_natCast, dflt_sl, dflt_st, dflt_str, dflt_int, dflt_bool]; omega) | (simp <;> omega)) ?_
      refine acode_region ?_
      refine And.intro (by first | omega | assumption | decide | (simp only [Int.toNat_natCast, dflt_sl, dflt_st, dflt_str, dflt_int, dflt_bool]; omega) | (simp <;> omega)) ?_
      exact ⟨i + 1, ⟨by omega, fun x hx => by rw [← take_snoc ((0 : Int), ByteArray.empty, ([] : List Fld)) hil] at hx; rcases List.mem_append.1 hx with h|h; exact hb x h; rw [List.mem_singleton.1 h]; exact ⟨by omega, much_len h30.2⟩⟩, by first | omega | (simp <;> omega), le_of ⟨rfl, rfl, rfl, rfl, (ii_eq (by omega))⟩ (vec_eq (take_snoc ((0 : Int), ByteArray.empty, ([] : List Fld)) hil)) rfl⟩
    ·try simp only [decide_eq_false_iff_not, Int.not_lt] at h19
     try simp only [Int.toNat_natCast, dflt_sl, dflt_st, dflt_str, dflt_int, dflt_bool] at h19
     have hie : i = l.length := by omega
     rw [hie, List.take_length] at hb
     have hsz := szI_bound fun x hx => (hb x hx).1
     refine acode_exit ?_
     refine acode_frz [0] ?_
     show ACode _ _ _ _ _ _ _ _ _
     refine acode_bag [2] [] 1 rfl rfl rfl rfl (by kernel_rfl) ?_
     refine Exists.intro _ (Exists.intro _ (Exists.intro _ (And.intro (stanzas3_o (l.take i) (by rw [List.length_take]; omega) (fun x hx => by have := (hb x (List.mem_of_mem_take hx)).2; omega)) (And.intro rfl ?_))))
     refine acode_seq ?_
     refine acode_region ?_
     refine Or.inl ?_
     refine And.intro (rfl) ?_
     refine Exists.intro _ (And.intro (refStanzas_c l (by omega)) ?_)
     refine acode_seq ?_
     refine acode_seq ?_
     refine acode_region ?_
     refine Or.inl ?_
     refine And.intro (rfl) ?_
     refine Exists.intro _ (And.intro (joinI_c (l.take i) (by rw [List.length_take]; omega) (by rw [hie, List.take_length]; omega)) ?_)
     refine Or.inl ?_
     refine And.intro (rfl) ?_
     refine Exists.intro _ (And.intro (refJoin5_c l (by omega)) ?_)
     refine And.intro (fun h => trivial) ?_
     refine And.intro (fun h => trivial) ?_
     refine Or.inl ?_
     refine And.intro (rfl) ?_
     refine Exists.intro _ (And.intro (fun h => ⟨⟨⟨h, trivial⟩, ⟨h, trivial⟩, trivial⟩, rows57_c (κ := 1) (κ' := 7) _ _⟩) ?_)
     refine And.intro (fun h => ⟨⟨h, trivial⟩, trivial⟩) ?_
     refine And.intro (by first | (intro h; rw [h]; rfl) | (intro h; cases h)) ?_
     refine acode_cond rfl (fun h54 => ?_) (fun h54 => ?_)
     ·try simp only [decide_eq_false_iff_not, Bool.not_eq_true', Bool.or_eq_true] at h54
      try simp only [Int.toNat_natCast, dflt_sl, dflt_st, dflt_str, dflt_int, dflt_bool] at h54
      rw [hie, List.take_length] at h54
      simp at h54
     ·try simp only [decide_eq_true_eq, Bool.not_eq_false', Bool.or_eq_false_iff] at h54
      try simp only [Int.toNat_natCast, dflt_sl, dflt_st, dflt_str, dflt_int, dflt_bool] at h54
      refine acode_skip ?_
      refine acode_seq ?_
      refine acode_seq ?_
      refine acode_restate 1 (S := .slk 7 rUnk2) (ys := unkR (recsL (l.take i))) rfl rfl (by simp [unkR]) (fun ok w cs j hj hj' h => by rw [show (unkR (recsL (l.take i)))[j] = ((recsL (l.take i))[j]).map (fun _ => ((), ())) from List.getElem_map ..]; exact row_unk h) ?_
      refine acode_region ?_
      intro l18_1
      try simp only [Int.toNat_natCast, dflt_sl, dflt_st, dflt_str, dflt_int, dflt_bool] at l18_1
      refine acode_block ?_
      refine acode_loopP (fun (j : Nat) => j ≤ (unkR (recsL (l.take i))).length) (fun (j : Nat) => [(0, .one (.sl rItm l)), (3, .one (.sl rItm (l.take i))), (55, .one (.vec 1)), (56, ii .i64 (unkR (recsL (l.take i))).length), (57, ii .i64 j)]) (fun (j : Nat) => [(1, .vec 24 (.slk 7 rUnk2) (unkR (recsL (l.take i))))]) 1000002 (fun (j : Nat) => (unkR (recsL (l.take i))).length - j) 0 (Nat.zero_le _) (le_of ⟨rfl, rfl, rfl, rfl, rfl⟩ rfl rfl) ?_
      intro j hI2
      refine acode_seq ?_
      refine acode_region ?_
      refine acode_seq ?_
      refine acode_cond rfl (fun h58 => ?_) (fun h58 => ?_)
      ·try simp only [decide_eq_true_eq] at h58
       try simp only [Int.toNat_natCast, dflt_sl, dflt_st, dflt_str, dflt_int, dflt_bool] at h58
       refine acode_skip ?_
       refine acode_seq ?_
       refine acode_block ?_
       refine acode_seq ?_
       refine acode_region ?_
       refine And.intro (by first | omega | assumption | decide | (simp only [Int.toNat_natCast, dflt_sl, dflt_st, dflt_str, dflt_int, dflt_bool]; omega) | (simp <;> omega)) ?_
       refine And.intro (by omega) ?_
       show ACode _ _ _ _ _ _ _ _ _
       refine acode_spoil 1 rfl rfl rfl (by rfl) ?_
       refine Exists.intro _ (Exists.intro _ (And.intro rfl (And.intro (spoil7_c) (And.intro rfl (And.intro rfl (And.intro rfl ?_))))))
       refine acode_region ?_
       refine And.intro (by first | omega | assumption | decide | (simp only [Int.toNat_natCast, dflt_sl, dflt_st, dflt_str, dflt_int, dflt_bool]; omega) | (simp <;> omega)) ?_
       exact ⟨j + 1, by omega, by first | omega | (simp <;> omega), le_of ⟨rfl, rfl, rfl, rfl, (ii_eq (by omega))⟩ rfl rfl⟩
      ·try simp only [decide_eq_false_iff_not, Int.not_lt] at h58
       try simp only [Int.toNat_natCast, dflt_sl, dflt_st, dflt_str, dflt_int, dflt_bool] at h58
       refine acode_exit ?_
       refine acode_seq ?_
       refine acode_region ?_
       refine Or.inl ?_
       refine And.intro (rfl) ?_
       refine Exists.intro _ (And.intro (items_c (l.take i) l) ?_)
       refine acode_ret ?_
       first | rfl | exact ib_eq (by rw [hie, List.take_length]; simp)
end Q
end Ab
end Go.Proofs.YtlbainbjlibfiaaDoor
namespace Go.Proofs.YtlbainbjlibfiaaDoor
open Go.RowKit
namespace Ab
set_option maxRecDepth 100000
theorem o_str : Opens Tryd.prog 9 .str := opens_str Tryd.underlying9 (by kernel_rfl)
theorem o_int : Opens Tryd.prog 3 (.int .i64) := opens_int Tryd.underlying3 (by kernel_rfl)
theorem o_field : Opens Tryd.prog 57 (.st .str .str) := opens_st Tryd.underlying57 (by kernel_rfl) (.cons rfl o_str (.one rfl o_str))
theorem o_fields : Opens Tryd.prog 24 (.sl (.st .str .str)) := opens_sl (by decide) Tryd.underlying24 (by kernel_rfl) o_field
theorem globAt {W : World} (h : W.ShapedOpen Tryd.prog) : GlobAt AllOk W := by
  have hc : GlobCell W := cell_of_shapedOpen_int (g := 0) (t := 3) (zero := #[.int .i64 0]) h (of_decide_eq_true (by kernel_rfl)) (by kernel_rfl) rfl (by kernel_rfl) (by kernel_rfl) Tryd.underlying3
  refine ⟨trivial, ?_, hc⟩
  obtain ⟨m, hm⟩ := hc
  rcases Nat.lt_or_ge 0 W.heap.size with h1 | h1
  · exact h1
  · exfalso
    simp only [World.cell?, Array.getElem?_eq_none h1] at hm
    cases hm
end Ab
end Go.Proofs.YtlbainbjlibfiaaDoor
namespace Go.Proofs.YtlbainbjlibfiaaDoor
open Go.RowKit
namespace Ab
set_option maxRecDepth 100000
theorem o_item : Opens Tryd.prog 26 (.st (.int .i64) (.st .str (.sl (.st .str .str)))) := opens_st Tryd.underlying26 (by kernel_rfl) (.cons rfl o_int (.cons rfl o_str (.one rfl o_fields)))
theorem o_items : Opens Tryd.prog 22 (.sl (.st (.int .i64) (.st .str (.sl (.st .str .str))))) := opens_sl (by decide) Tryd.underlying22 (by kernel_rfl) o_item
theorem open_items {H : Type} {enc : TypeId × Value → H} {W : World} {base : Nat} {v : Value} {d : DataW H} {p : List MemPlace} (hv : Value.okWide Tryd.prog W .any base 22 v) (h : DataW.Trod enc Tryd.prog W 0 (fun _ => true) true 22 v d p) :
    ∃ xs, (C.sl (.st (.int .i64) (.st .str (.sl (.st .str .str)))) xs).rep AllOk noNames W v := open_sl Tryd.underlying22 o_items hv h
end Ab
end Go.Proofs.YtlbainbjlibfiaaDoor
