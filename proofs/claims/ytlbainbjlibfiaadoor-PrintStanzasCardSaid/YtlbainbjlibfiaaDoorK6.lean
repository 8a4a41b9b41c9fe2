/-
  The texts of this proof, joined: abstract values, the library, the functions of the program and what they compute (part 6). No condition.
-/
import Derived.Shelf.Vars
import Derived.KernelRfl
import Derived.Test.YtlbainbjlibfiaaDoorK1
import Derived.Test.YtlbainbjlibfiaaDoorK2
import Derived.Test.YtlbainbjlibfiaaDoorK3
import Derived.Test.YtlbainbjlibfiaaDoorK4
import Derived.Test.YtlbainbjlibfiaaDoorK5
namespace Go.Proofs.YtlbainbjlibfiaaDoor
open Go.RowKit
namespace Ab
set_option maxRecDepth 100000
namespace Q
theorem pitem3_ok {l : List Fld} (hl : FldsOk l) (h : (chkR l).2 = 0) : ACallO Tryd.prog 24 [.one (.sl rFld l)] [] 0 (.tup [(true, toL rItm3 (3, bytes (foldL l), l)), (false, [.lit .nilIface])]) [] 0 := by
  refine acallo_ofc (t := 2) (ty := 26) (u := 3) Tryd.func24 rfl rfl rfl teOk rfl rfl ?_
  refine acode_seq ?_
  refine acode_region ?_
  refine acode_seq ?_
  refine acode_region ?_
  refine Or.inl ?_
  refine And.intro (rfl) ?_
  refine Exists.intro _ (And.intro (pstanza_ok hl h) ?_)
  refine acode_seq ?_
  refine acode_seq ?_
  refine acode_region ?_
  refine acode_cond rfl (fun h12 => ?_) (fun h12 => ?_)
  ·try simp only [Bool.not_eq_true'] at h12
   try simp only [Int.toNat_natCast, dflt_sl, dflt_st, dflt_str, dflt_int, dflt_bool] at h12
   cases h12
  ·try simp only [Bool.not_eq_false'] at h12
   try simp only [Int.toNat_natCast, dflt_sl, dflt_st, dflt_str, dflt_int, dflt_bool] at h12
   refine acode_skip ?_
   refine acode_seq ?_
   refine acode_region ?_
   refine Or.inr (Or.inl (Exists.intro [] (Exists.intro [] (Exists.intro _ (Exists.intro _ (Exists.intro _ (Exists.intro _ (Exists.intro _ (And.intro (clone3_o l (Nat.le_trans hl.1 (by decide))) (And.intro rfl (And.intro True.intro (And.intro rfl ?_))))))))))))
   refine acode_ret ?_
   exact ⟨rfl, trivial, rfl⟩
theorem refItem6_c {l : List Fld} (hl : FldsOk l) (h : (chkR l).2 = 0) : ACall Tryd.prog 30 [.one (.sl rFld l)] (.agg (toL rItm (3, bytes (foldL l), l))) := by
  obtain ⟨hg, hb, _⟩ := chk_good h
  refine acall_ofc (rs := [.cell 2 26]) Tryd.func30 rfl rfl rfl teOk rfl ?_
  refine acode_seq ?_
  refine acode_region ?_
  refine acode_seq ?_
  refine acode_region ?_
  refine Or.inl ?_
  refine And.intro (rfl) ?_
  refine Exists.intro _ (And.intro (refFold_c l hg.2.2 hl.1) ?_)
  refine acode_ret ?_
  rfl
theorem parse_one {f : List Fld} (hc : (chkR f).2 = 0) : parseS (bytes (foldL f)) = .inr [(3, bytes (foldL f), f)] := by
  obtain ⟨⟨g1, g2, g3⟩, _, _⟩ := chk_good hc
  obtain ⟨q, e1, e2, e3, e4, e5⟩ := fields_run f pst0 [] g3 (ready_idle rfl rfl) (by simpa using g2) (by decide) g1
  obtain ⟨r, q2, f1, f2, f3, f4⟩ := end_run e2 (by simpa using g1) e5
  have hno : ∀ t ∈ (f.flatMap fun f => lineB f.1 f.2), (10 : UInt8) ∉ ls t := fun t ht => by
    obtain ⟨y, hy, ht⟩ := List.mem_flatMap.1 ht
    exact lines_no (v := y.2.data.toList) (check_ok (g3 y hy)).1 (ls t) (by rw [← lineB_map2]; exact List.mem_map_of_mem ht)
  have hL : ∀ l ∈ (f.flatMap fun f => lineB f.1 f.2).map mkL, l.2.2.2 = true ∧ (10 : UInt8) ∉ ls l.2.2.1 := fun l hl => by
    obtain ⟨t, ht, rfl⟩ := List.mem_map.1 hl
    exact ⟨rfl, hno t ht⟩
  have hgl : glue (((f.flatMap fun f => lineB f.1 f.2).map mkL).map (·.2.2)) = foldL f := by rw [glue_mk, endL_flat]
  rw [List.nil_append] at f3
  have e3' : q.its = [] := e3
  rw [e3', List.nil_append] at f3
  have hp := parse_of (lines_of hL) e1 f1
  rw [hgl, f3] at hp
  have hr := raws_text hp
  have hrr : r = bytes (foldL f) := by
    have h1 : rawsL [((3 : Int), r, f)] = foldL f := by
      have := congrArg (fun b : ByteArray => b.data.toList) hr
      simpa [bytes] using this
    have h2 : ls r = foldL f := by simpa [rawsL] using h1
    exact ls_inj h2
  rw [hp, hrr]
theorem chk_zero {l : List Fld} (h : (chkR l).2 = 0) : chkR l = (-9, 0) := by
  obtain ⟨⟨g1, g2, g3⟩, _, _⟩ := chk_good h
  unfold chkR
  rw [if_neg g1, if_neg (by omega)]
  exact badAt_no l 0 g3
theorem PrintStanzas_no (l : List Fld) (hm : muchB l = false) (hc : (chkR l).2 ≠ 0) : ACall Tryd.prog 5 [.one (.sl rFld l)] (ib true) := by
  have hl := much_ok hm
  have hk := refChk_c l hl
  have h1 := pstanza_err (κ := 0) hl hc
  have h2 := pitem_err (κ := 0) hl hc
  have h3 := pcheck_c (κ := 0) l hl
  have hmuch := much_c l
  rw [hm] at hmuch
  obtain ⟨e, he, hs⟩ := chk_bad hc
  rw [he] at h1 h2 h3
  rcases hs with ⟨n, hn, rfl, hr⟩ | ⟨i, n, hn, rfl, hr⟩
  · rw [hr] at hk
    refine acall_of (rs := [2]) Tryd.func5 rfl rfl rfl teOk rfl ?_
    refine acode_seq ?_
    refine acode_region ?_
    refine acode_seq ?_
    refine acode_seq ?_
    refine acode_region ?_
    refine Or.inl ?_
    refine And.intro (rfl) ?_
    refine Exists.intro _ (And.intro (alive6_c) ?_)
    refine acode_cond rfl (fun h16 => ?_) (fun h16 => ?_)
    ·try simp only [Bool.not_eq_true'] at h16
     try simp only [Int.toNat_natCast, dflt_sl, dflt_st, dflt_str, dflt_int, dflt_bool] at h16
     simp at h16
    ·try simp only [Bool.not_eq_false'] at h16
     try simp only [Int.toNat_natCast, dflt_sl, dflt_st, dflt_str, dflt_int, dflt_bool] at h16
     refine acode_skip ?_
     refine acode_seq ?_
     refine acode_seq ?_
     refine acode_region ?_
     refine Or.inl ?_
     refine And.intro (rfl) ?_
     refine Exists.intro _ (And.intro (hmuch) ?_)
     refine acode_cond rfl (fun h18 => ?_) (fun h18 => ?_)
     ·try simp only [decide_eq_true_eq, decide_eq_false_iff_not, Bool.and_eq_true, Bool.not_eq_true', Bool.not_eq_false', Bool.or_eq_false_iff, Bool.or_eq_true, Bool.and_eq_false_iff, Int.not_lt, Int.not_le] at h18
      try simp only [Int.toNat_natCast, dflt_sl, dflt_st, dflt_str, dflt_int, dflt_bool] at h18
      cases h18
     ·skip
      refine acode_skip ?_
      refine acode_seq ?_
      refine acode_region ?_
      refine Or.inl ?_
      refine And.intro (rfl) ?_
      refine Exists.intro _ (And.intro (copies_c l hl.1) ?_)
      refine acode_seq ?_
      refine acode_region ?_
      refine Or.inl ?_
      refine And.intro (rfl) ?_
      refine Exists.intro _ (And.intro (h1) ?_)
      refine acode_seq ?_
      refine acode_region ?_
      refine Or.inl ?_
      refine And.intro (rfl) ?_
      refine Exists.intro _ (And.intro (h2) ?_)
      refine acode_seq ?_
      refine acode_region ?_
      refine Or.inl ?_
      refine And.intro (rfl) ?_
      refine Exists.intro _ (And.intro (h3) ?_)
      refine acode_seq ?_
      refine acode_region ?_
      refine Or.inl ?_
      refine And.intro (rfl) ?_
      refine Exists.intro _ (And.intro (hk) ?_)
      refine acode_seq ?_
      refine acode_seq ?_
      refine acode_region ?_
      intro l10_4
      try simp only [Int.toNat_natCast, dflt_sl, dflt_st, dflt_str, dflt_int, dflt_bool] at l10_4
      refine acode_block ?_
      refine acode_loopP (fun (j : Nat) => j ≤ 3) (fun (j : Nat) => [(0, .one (.sl rFld l)), (3, .one (.sl rFld l)), (4, is ⟨#[]⟩), (6, .one (.own 0 0)), (9, ii .i64 (-9)), (10, ii .i64 n), (41, .one (.vec 1)), (42, ii .i64 3), (43, ii .i64 j)]) (fun (j : Nat) => [(0, .box 26 [.lit (.int .i64 0), .lit (.string ⟨#[]⟩), .lit (.slice none 0 0)]), (1, .vec 41 (.raw) [.iface 67 (.int .i64 n), .iface 67 (.int .i64 n), .iface 67 (.int .i64 n)])]) 2 (fun (j : Nat) => 3 - j) 0 (Nat.zero_le _) (le_of ⟨rfl, rfl, rfl, rfl, rfl, rfl, rfl, rfl, rfl⟩ ⟨rfl, rfl⟩ rfl) ?_
      intro j hI0
      refine acode_seq ?_
      refine acode_region ?_
      refine acode_seq ?_
      refine acode_cond rfl (fun h44 => ?_) (fun h44 => ?_)
      ·try simp only [decide_eq_true_eq] at h44
       try simp only [Int.toNat_natCast, dflt_sl, dflt_st, dflt_str, dflt_int, dflt_bool] at h44
       have hj3 : j < 3 := by omega
       refine acode_skip ?_
       refine acode_seq ?_
       refine acode_block ?_
       refine acode_seq ?_
       obtain rfl | rfl | rfl : j = 0 ∨ j = 1 ∨ j = 2 := by omega
       ·refine acode_region ?_
        refine And.intro (by simp) ?_
        refine And.intro (by simp) ?_
        refine acode_seq ?_
        refine acode_region ?_
        refine Or.inl ?_
        refine And.intro (rfl) ?_
        refine Exists.intro _ (And.intro (num_errno n hn) ?_)
        refine And.intro (fun h => trivial) ?_
        refine Or.inl ?_
        refine And.intro (rfl) ?_
        refine Exists.intro _ (And.intro (fun h => ⟨⟨⟨h, trivial⟩, trivial⟩, at_errno n⟩) ?_)
        refine And.intro (fun h => trivial) ?_
        refine And.intro (fun h => ⟨⟨h, trivial⟩, ⟨h, trivial⟩, trivial⟩) ?_
        refine And.intro (by first | (intro h; rw [h]; rfl) | (intro h; cases h)) ?_
        refine acode_cond rfl (fun h56 => ?_) (fun h56 => ?_)
        ·try simp only [decide_eq_false_iff_not, Bool.not_eq_true', Bool.or_eq_true] at h56
         try simp only [Int.toNat_natCast, dflt_sl, dflt_st, dflt_str, dflt_int, dflt_bool] at h56
         simp at h56
        ·try simp only [decide_eq_true_eq, Bool.not_eq_false', Bool.or_eq_false_iff] at h56
         try simp only [Int.toNat_natCast, dflt_sl, dflt_st, dflt_str, dflt_int, dflt_bool] at h56
         refine acode_skip ?_
         refine acode_region ?_
         refine And.intro (by first | omega | assumption | decide | (simp only [Int.toNat_natCast, dflt_sl, dflt_st, dflt_str, dflt_int, dflt_bool]; omega) | (simp <;> omega)) ?_
         exact ⟨1, by omega, by first | omega | (simp <;> omega), le_of ⟨rfl, rfl, rfl, rfl, rfl, rfl, rfl, rfl, rfl⟩ ⟨rfl, rfl⟩ rfl⟩
       ·refine acode_region ?_
        refine And.intro (by simp) ?_
        refine And.intro (by simp) ?_
        refine acode_seq ?_
        refine acode_region ?_
        refine Or.inl ?_
        refine And.intro (rfl) ?_
        refine Exists.intro _ (And.intro (num_errno n hn) ?_)
        refine And.intro (fun h => trivial) ?_
        refine Or.inl ?_
        refine And.intro (rfl) ?_
        refine Exists.intro _ (And.intro (fun h => ⟨⟨⟨h, trivial⟩, trivial⟩, at_errno n⟩) ?_)
        refine And.intro (fun h => trivial) ?_
        refine And.intro (fun h => ⟨⟨h, trivial⟩, ⟨h, trivial⟩, trivial⟩) ?_
        refine And.intro (by first | (intro h; rw [h]; rfl) | (intro h; cases h)) ?_
        refine acode_cond rfl (fun h56 => ?_) (fun h56 => ?_)
        ·try simp only [decide_eq_false_iff_not, Bool.not_eq_true', Bool.or_eq_true] at h56
         try simp only [Int.toNat_natCast, dflt_sl, dflt_st, dflt_str, dflt_int, dflt_bool] at h56
         simp at h56
        ·try simp only [decide_eq_true_eq, Bool.not_eq_false', Bool.or_eq_false_iff] at h56
         try simp only [Int.toNat_natCast, dflt_sl, dflt_st, dflt_str, dflt_int, dflt_bool] at h56
         refine acode_skip ?_
         refine acode_region ?_
         refine And.intro (by first | omega | assumption | decide | (simp only [Int.toNat_natCast, dflt_sl, dflt_st, dflt_str, dflt_int, dflt_bool]; omega) | (simp <;> omega)) ?_
         exact ⟨2, by omega, by first | omega | (simp <;> omega), le_of ⟨rfl, rfl, rfl, rfl, rfl, rfl, rfl, rfl, rfl⟩ ⟨rfl, rfl⟩ rfl⟩
       ·refine acode_region ?_
        refine And.intro (by simp) ?_
        refine And.intro (by simp) ?_
        refine acode_seq ?_
        refine acode_region ?_
        refine Or.inl ?_
        refine And.intro (rfl) ?_
        refine Exists.intro _ (And.intro (num_errno n hn) ?_)
        refine And.intro (fun h => trivial) ?_
        refine Or.inl ?_
        refine And.intro (rfl) ?_
        refine Exists.intro _ (And.intro (fun h => ⟨⟨⟨h, trivial⟩, trivial⟩, at_errno n⟩) ?_)
        refine And.intro (fun h => trivial) ?_
        refine And.intro (fun h => ⟨⟨h, trivial⟩, ⟨h, trivial⟩, trivial⟩) ?_
        refine And.intro (by first | (intro h; rw [h]; rfl) | (intro h; cases h)) ?_
        refine acode_cond rfl (fun h56 => ?_) (fun h56 => ?_)
        ·try simp only [decide_eq_false_iff_not, Bool.not_eq_true', Bool.or_eq_true] at h56
         try simp only [Int.toNat_natCast, dflt_sl, dflt_st, dflt_str, dflt_int, dflt_bool] at h56
         simp at h56
        ·try simp only [decide_eq_true_eq, Bool.not_eq_false', Bool.or_eq_false_iff] at h56
         try simp only [Int.toNat_natCast, dflt_sl, dflt_st, dflt_str, dflt_int, dflt_bool] at h56
         refine acode_skip ?_
         refine acode_region ?_
         refine And.intro (by first | omega | assumption | decide | (simp only [Int.toNat_natCast, dflt_sl, dflt_st, dflt_str, dflt_int, dflt_bool]; omega) | (simp <;> omega)) ?_
         exact ⟨3, by omega, by first | omega | (simp <;> omega), le_of ⟨rfl, rfl, rfl, rfl, rfl, rfl, rfl, rfl, rfl⟩ ⟨rfl, rfl⟩ rfl⟩
      ·try simp only [decide_eq_false_iff_not, Int.not_lt] at h44
       try simp only [Int.toNat_natCast, dflt_sl, dflt_st, dflt_str, dflt_int, dflt_bool] at h44
       refine acode_exit ?_
       refine acode_seq ?_
       refine acode_seq ?_
       refine acode_region ?_
       refine Or.inl ?_
       refine And.intro (rfl) ?_
       refine Exists.intro _ (And.intro (fields_c l l) ?_)
       refine acode_cond rfl (fun h61 => ?_) (fun h61 => ?_)
       ·try simp only [decide_eq_false_iff_not, Bool.not_eq_true'] at h61
        try simp only [Int.toNat_natCast, dflt_sl, dflt_st, dflt_str, dflt_int, dflt_bool] at h61
        simp at h61
       ·try simp only [decide_eq_true_eq, Bool.not_eq_false'] at h61
        try simp only [Int.toNat_natCast, dflt_sl, dflt_st, dflt_str, dflt_int, dflt_bool] at h61
        refine acode_skip ?_
        refine acode_seq ?_
        refine acode_seq ?_
        refine acode_region ?_
        refine acode_cond rfl (fun h63 => ?_) (fun h63 => ?_)
        ·try simp only [decide_eq_false_iff_not, Bool.not_eq_true'] at h63
         try simp only [Int.toNat_natCast, dflt_sl, dflt_st, dflt_str, dflt_int, dflt_bool] at h63
         refine acode_seq ?_
         refine acode_region ?_
         refine And.intro (fun h => trivial) ?_
         refine And.intro (fun h => ⟨⟨h, trivial⟩, trivial⟩) ?_
         refine And.intro (fun h => ⟨⟨h, trivial⟩, trivial⟩) ?_
         refine And.intro (by exact fun h => h) ?_
         refine And.intro (fun h => trivial) ?_
         refine And.intro (fun h => ⟨⟨h, trivial⟩, trivial⟩) ?_
         refine And.intro (fun h => ⟨⟨h, trivial⟩, trivial⟩) ?_
         refine And.intro (by exact fun h => h) ?_
         refine And.intro (fun h => trivial) ?_
         refine And.intro (fun h => ⟨⟨h, trivial⟩, trivial⟩) ?_
         refine And.intro (fun h => ⟨⟨h, trivial⟩, trivial⟩) ?_
         refine And.intro (fun h => ⟨⟨h, trivial⟩, trivial⟩) ?_
         refine And.intro (by exact fun h => h) ?_
         refine acode_ret ?_
         rfl
        ·try simp only [decide_eq_true_eq, Bool.not_eq_false'] at h63
         try simp only [Int.toNat_natCast, dflt_sl, dflt_st, dflt_str, dflt_int, dflt_bool] at h63
         exact absurd h63 hn
  · rw [hr] at hk
    refine acall_of (rs := [2]) Tryd.func5 rfl rfl rfl teOk rfl ?_
    refine acode_seq ?_
    refine acode_region ?_
    refine acode_seq ?_
    refine acode_seq ?_
    refine acode_region ?_
    refine Or.inl ?_
    refine And.intro (rfl) ?_
    refine Exists.intro _ (And.intro (alive6_c) ?_)
    refine acode_cond rfl (fun h16 => ?_) (fun h16 => ?_)
    ·try simp only [Bool.not_eq_true'] at h16
     try simp only [Int.toNat_natCast, dflt_sl, dflt_st, dflt_str, dflt_int, dflt_bool] at h16
     simp at h16
    ·try simp only [Bool.not_eq_false'] at h16
     try simp only [Int.toNat_natCast, dflt_sl, dflt_st, dflt_str, dflt_int, dflt_bool] at h16
     refine acode_skip ?_
     refine acode_seq ?_
     refine acode_seq ?_
     refine acode_region ?_
     refine Or.inl ?_
     refine And.intro (rfl) ?_
     refine Exists.intro _ (And.intro (hmuch) ?_)
     refine acode_cond rfl (fun h18 => ?_) (fun h18 => ?_)
     ·try simp only [decide_eq_true_eq, decide_eq_false_iff_not, Bool.and_eq_true, Bool.not_eq_true', Bool.not_eq_false', Bool.or_eq_false_iff, Bool.or_eq_true, Bool.and_eq_false_iff, Int.not_lt, Int.not_le] at h18
      try simp only [Int.toNat_natCast, dflt_sl, dflt_st, dflt_str, dflt_int, dflt_bool] at h18
      cases h18
     ·skip
      refine acode_skip ?_
      refine acode_seq ?_
      refine acode_region ?_
      refine Or.inl ?_
      refine And.intro (rfl) ?_
      refine Exists.intro _ (And.intro (copies_c l hl.1) ?_)
      refine acode_seq ?_
      refine acode_region ?_
      refine Or.inl ?_
      refine And.intro (rfl) ?_
      refine Exists.intro _ (And.intro (h1) ?_)
      refine acode_seq ?_
      refine acode_region ?_
      refine Or.inl ?_
      refine And.intro (rfl) ?_
      refine Exists.intro _ (And.intro (h2) ?_)
      refine acode_seq ?_
      refine acode_region ?_
      refine Or.inl ?_
      refine And.intro (rfl) ?_
      refine Exists.intro _ (And.intro (h3) ?_)
      refine acode_seq ?_
      refine acode_region ?_
      refine Or.inl ?_
      refine And.intro (rfl) ?_
      refine Exists.intro _ (And.intro (hk) ?_)
      refine acode_seq ?_
      refine acode_seq ?_
      refine acode_region ?_
      intro l10_4
      refine acode_block ?_
      refine acode_loopP (fun (j : Nat) => j ≤ 3) (fun (j : Nat) => [(0, .one (.sl rFld l)), (3, .one (.sl rFld l)), (4, is ⟨#[]⟩), (6, .one (.own 0 0)), (9, ii .i64 (i)), (10, ii .i64 n), (41, .one (.vec 1)), (42, ii .i64 3), (43, ii .i64 j)]) (fun (j : Nat) => [(0, .box 26 [.lit (.int .i64 0), .lit (.string ⟨#[]⟩), .lit (.slice none 0 0)]), (1, .vec 41 (.ifc 69 (.ptk 0 rFault)) [(i, .iface 67 (.int .i64 n)), (i, .iface 67 (.int .i64 n)), (i, .iface 67 (.int .i64 n))])]) 2 (fun (j : Nat) => 3 - j) 0 (Nat.zero_le _) (le_of ⟨rfl, rfl, rfl, rfl, rfl, rfl, rfl, rfl, rfl⟩ ⟨rfl, rfl⟩ rfl) ?_
      intro j hI0
      refine acode_seq ?_
      refine acode_region ?_
      refine acode_seq ?_
      refine acode_cond rfl (fun h44 => ?_) (fun h44 => ?_)
      ·try simp only [decide_eq_true_eq] at h44
       try simp only [Int.toNat_natCast, dflt_sl, dflt_st, dflt_str, dflt_int, dflt_bool] at h44
       have hj3 : j < 3 := by omega
       refine acode_skip ?_
       refine acode_seq ?_
       refine acode_block ?_
       refine acode_seq ?_
       obtain rfl | rfl | rfl : j = 0 ∨ j = 1 ∨ j = 2 := by omega
       ·refine acode_region ?_
        refine And.intro (by simp) ?_
        refine And.intro (by simp) ?_
        refine acode_seq ?_
        refine acode_region ?_
        refine Or.inl ?_
        refine And.intro (rfl) ?_
        refine Exists.intro _ (And.intro (num_fault i n hn) ?_)
        refine And.intro (fun h => trivial) ?_
        refine Or.inl ?_
        refine And.intro (rfl) ?_
        refine Exists.intro _ (And.intro (fun h => ⟨⟨⟨h, trivial⟩, trivial⟩, at_fault i n⟩) ?_)
        refine And.intro (fun h => trivial) ?_
        refine And.intro (fun h => ⟨⟨h, trivial⟩, ⟨h, trivial⟩, trivial⟩) ?_
        refine And.intro (by first | (intro h; rw [h]; rfl) | (intro h; cases h)) ?_
        refine acode_cond rfl (fun h56 => ?_) (fun h56 => ?_)
        ·try simp only [decide_eq_false_iff_not, Bool.not_eq_true', Bool.or_eq_true] at h56
         try simp only [Int.toNat_natCast, dflt_sl, dflt_st, dflt_str, dflt_int, dflt_bool] at h56
         simp at h56
        ·try simp only [decide_eq_true_eq, Bool.not_eq_false', Bool.or_eq_false_iff] at h56
         try simp only [Int.toNat_natCast, dflt_sl, dflt_st, dflt_str, dflt_int, dflt_bool] at h56
         refine acode_skip ?_
         refine acode_region ?_
         refine And.intro (by first | omega | assumption | decide | (simp only [Int.toNat_natCast, dflt_sl, dflt_st, dflt_str, dflt_int, dflt_bool]; omega) | (simp <;> omega)) ?_
         exact ⟨1, by omega, by first | omega | (simp <;> omega), le_of ⟨rfl, rfl, rfl, rfl, rfl, rfl, rfl, rfl, rfl⟩ ⟨rfl, rfl⟩ rfl⟩
       ·refine acode_region ?_
        refine And.intro (by simp) ?_
        refine And.intro (by simp) ?_
        refine acode_seq ?_
        refine acode_region ?_
        refine Or.inl ?_
        refine And.intro (rfl) ?_
        refine Exists.intro _ (And.intro (num_fault i n hn) ?_)
        refine And.intro (fun h => trivial) ?_
        refine Or.inl ?_
        refine And.intro (rfl) ?_
        refine Exists.intro _ (And.intro (fun h => ⟨⟨⟨h, trivial⟩, trivial⟩, at_fault i n⟩) ?_)
        refine And.intro (fun h => trivial) ?_
        refine And.intro (fun h => ⟨⟨h, trivial⟩, ⟨h, trivial⟩, trivial⟩) ?_
        refine And.intro (by first | (intro h; rw [h]; rfl) | (intro h; cases h)) ?_
        refine acode_cond rfl (fun h56 => ?_) (fun h56 => ?_)
        ·try simp only [decide_eq_false_iff_not, Bool.not_eq_true', Bool.or_eq_true] at h56
         try simp only [Int.toNat_natCast, dflt_sl, dflt_st, dflt_str, dflt_int, dflt_bool] at h56
         simp at h56
        ·try simp only [decide_eq_true_eq, Bool.not_eq_false', Bool.or_eq_false_iff] at h56
         try simp only [Int.toNat_natCast, dflt_sl, dflt_st, dflt_str, dflt_int, dflt_bool] at h56
         refine acode_skip ?_
         refine acode_region ?_
         refine And.intro (by first | omega | assumption | decide | (simp only [Int.toNat_natCast, dflt_sl, dflt_st, dflt_str, dflt_int, dflt_bool]; omega) | (simp <;> omega)) ?_
         exact ⟨2, by omega, by first | omega | (simp <;> omega), le_of ⟨rfl, rfl, rfl, rfl, rfl, rfl, rfl, rfl, rfl⟩ ⟨rfl, rfl⟩ rfl⟩
       ·refine acode_region ?_
        refine And.intro (by simp) ?_
        refine And.intro (by simp) ?_
        refine acode_seq ?_
        refine acode_region ?_
        refine Or.inl ?_
        refine And.intro (rfl) ?_
        refine Exists.intro _ (And.intro (num_fault i n hn) ?_)
        refine And.intro (fun h => trivial) ?_
        refine Or.inl ?_
        refine And.intro (rfl) ?_
        refine Exists.intro _ (And.intro (fun h => ⟨⟨⟨h, trivial⟩, trivial⟩, at_fault i n⟩) ?_)
        refine And.intro (fun h => trivial) ?_
        refine And.intro (fun h => ⟨⟨h, trivial⟩, ⟨h, trivial⟩, trivial⟩) ?_
        refine And.intro (by first | (intro h; rw [h]; rfl) | (intro h; cases h)) ?_
        refine acode_cond rfl (fun h56 => ?_) (fun h56 => ?_)
        ·try simp only [decide_eq_false_iff_not, Bool.not_eq_true', Bool.or_eq_true] at h56
         try simp only [Int.toNat_natCast, dflt_sl, dflt_st, dflt_str, dflt_int, dflt_bool] at h56
         simp at h56
        ·try simp only [decide_eq_true_eq, Bool.not_eq_false', Bool.or_eq_false_iff] at h56
         try simp only [Int.toNat_natCast, dflt_sl, dflt_st, dflt_str, dflt_int, dflt_bool] at h56
         refine acode_skip ?_
         refine acode_region ?_
         refine And.intro (by first | omega | assumption | decide | (simp only [Int.toNat_natCast, dflt_sl, dflt_st, dflt_str, dflt_int, dflt_bool]; omega) | (simp <;> omega)) ?_
         exact ⟨3, by omega, by first | omega | (simp <;> omega), le_of ⟨rfl, rfl, rfl, rfl, rfl, rfl, rfl, rfl, rfl⟩ ⟨rfl, rfl⟩ rfl⟩
      ·try simp only [decide_eq_false_iff_not, Int.not_lt] at h44
       try simp only [Int.toNat_natCast, dflt_sl, dflt_st, dflt_str, dflt_int, dflt_bool] at h44
       refine acode_exit ?_
       refine acode_seq ?_
       refine acode_seq ?_
       refine acode_region ?_
       refine Or.inl ?_
       refine And.intro (rfl) ?_
       refine Exists.intro _ (And.intro (fields_c l l) ?_)
       refine acode_cond rfl (fun h61 => ?_) (fun h61 => ?_)
       ·try simp only [decide_eq_false_iff_not, Bool.not_eq_true'] at h61
        try simp only [Int.toNat_natCast, dflt_sl, dflt_st, dflt_str, dflt_int, dflt_bool] at h61
        simp at h61
       ·try simp only [decide_eq_true_eq, Bool.not_eq_false'] at h61
        try simp only [Int.toNat_natCast, dflt_sl, dflt_st, dflt_str, dflt_int, dflt_bool] at h61
        refine acode_skip ?_
        refine acode_seq ?_
        refine acode_seq ?_
        refine acode_region ?_
        refine acode_cond rfl (fun h63 => ?_) (fun h63 => ?_)
        ·try simp only [decide_eq_false_iff_not, Bool.not_eq_true'] at h63
         try simp only [Int.toNat_natCast, dflt_sl, dflt_st, dflt_str, dflt_int, dflt_bool] at h63
         refine acode_seq ?_
         refine acode_region ?_
         refine And.intro (fun h => trivial) ?_
         refine And.intro (fun h => ⟨⟨h, trivial⟩, trivial⟩) ?_
         refine And.intro (fun h => ⟨⟨h, trivial⟩, trivial⟩) ?_
         refine And.intro (by exact fun h => h) ?_
         refine And.intro (fun h => trivial) ?_
         refine And.intro (fun h => ⟨⟨h, trivial⟩, trivial⟩) ?_
         refine And.intro (fun h => ⟨⟨h, trivial⟩, trivial⟩) ?_
         refine And.intro (by exact fun h => h) ?_
         refine And.intro (fun h => trivial) ?_
         refine And.intro (fun h => ⟨⟨h, trivial⟩, trivial⟩) ?_
         refine And.intro (fun h => ⟨⟨h, trivial⟩, trivial⟩) ?_
         refine And.intro (fun h => ⟨⟨h, trivial⟩, trivial⟩) ?_
         refine And.intro (by exact fun h => h) ?_
         refine acode_ret ?_
         rfl
        ·try simp only [decide_eq_true_eq, Bool.not_eq_false'] at h63
         try simp only [Int.toNat_natCast, dflt_sl, dflt_st, dflt_str, dflt_int, dflt_bool] at h63
         exact absurd h63 hn
theorem itemsS_c (a b : List Itm) : ACall Tryd.prog 9 [.one (.sl rItm a), .one (.full rItm b)] (ib (decide (a = b))) :=
  acall_arg (fun ok ρ w vs h => by obtain ⟨v, t, rfl, hv, u, s, rfl, hu, hs⟩ := h; exact ⟨v, _, rfl, hv, u, s, rfl, hu.1, hs⟩) (items_c a b)
theorem items7F_c (a b : List Itm) : ACall Tryd.prog 9 [.one (.full (rItm.kd 7) a), .one (.sl rItm b)] (ib (decide (a = b))) :=
  acall_arg (fun ok ρ w vs h => by obtain ⟨v, t, rfl, hv, ht⟩ := h; exact ⟨v, t, rfl, hv.1, ht⟩) (items7_c (κ := 0) (κ' := 7) a b)
theorem pplain7_c (x : Itm) (hf : FldsOk x.2.2) (hc : (chkR x.2.2).2 = 0) : ACall Tryd.prog 13 [.agg (toL (rItm.kd 7) x)] (ib (plainI x)) := by
  refine acall_of (rs := [2]) Tryd.func13 rfl rfl rfl teOk rfl ?_
  refine acode_seq ?_
  refine acode_region ?_
  refine acode_seq ?_
  refine acode_region ?_
  refine Or.inl ?_
  refine And.intro (rfl) ?_
  refine Exists.intro _ (And.intro (pstanza_ok (κ := 7) hf hc) ?_)
  refine acode_seq ?_
  refine acode_region ?_
  refine And.intro (fun h => trivial) ?_
  refine And.intro (fun h => ⟨⟨h, trivial⟩, trivial⟩) ?_
  refine And.intro (fun h => ⟨⟨h, trivial⟩, trivial⟩) ?_
  refine And.intro (by exact fun h => h) ?_
  refine And.intro (fun h => trivial) ?_
  refine And.intro (fun h => trivial) ?_
  refine And.intro (fun h => ⟨⟨h, trivial⟩, trivial⟩) ?_
  refine And.intro (fun h => ⟨⟨h, trivial⟩, ⟨h, trivial⟩, trivial⟩) ?_
  refine And.intro (by exact fun h => h) ?_
  refine acode_ret ?_
  exact ib_eq (by unfold plainI; simp [hc])
theorem slk_unk {ok : Oks} {ρ : Nat → Option Value} {w : World} {v : Value} {l : List Fld} (h : (C.slk 7 rFld l).rep ok ρ w v) : (C.slk 7 rUnk2 (l.map fun _ => ((), ()))).rep ok ρ w v := by
  obtain ⟨u, e, h1⟩ := row_unk (ok := ok) (w := w) (cs := [v]) ⟨v, rfl, h⟩
  cases e
  exact h1
theorem PrintStanzas_ok (l : List Fld) (hm : muchB l = false) (hc : (chkR l).2 = 0) : ACall Tryd.prog 5 [.one (.sl rFld l)] (ib true) := by
  have hl := much_ok hm
  obtain ⟨hg, hb, hA⟩ := chk_good hc
  have hk := refChk_c l hl
  rw [chk_zero hc] at hk
  have h1 := pstanza_ok (κ := 0) hl hc
  have h3 := pcheck_c (κ := 0) l hl
  rw [hA] at h3
  have hmuch := much_c l
  rw [hm] at hmuch
  have hsz := foldB_size hm hb hg.2.1
  have hpp := parse_a (bytes (foldL l)) (by omega)
  rw [parse_one hc] at hpp
  refine acall_of (rs := [2]) Tryd.func5 rfl rfl rfl teOk rfl ?_
  refine acode_seq ?_
  refine acode_region ?_
  refine acode_seq ?_
  refine acode_seq ?_
  refine acode_region ?_
  refine Or.inl ?_
  refine And.intro (rfl) ?_
  refine Exists.intro _ (And.intro (alive6_c) ?_)
  refine acode_cond rfl (fun h16 => ?_) (fun h16 => ?_)
  ·try simp only [Bool.not_eq_true'] at h16
   try simp only [Int.toNat_natCast, dflt_sl, dflt_st, dflt_str, dflt_int, dflt_bool] at h16
   simp at h16
  ·try simp only [Bool.not_eq_false'] at h16
   try simp only [Int.toNat_natCast, dflt_sl, dflt_st, dflt_str, dflt_int, dflt_bool] at h16
   refine acode_skip ?_
   refine acode_seq ?_
   refine acode_seq ?_
   refine acode_region ?_
   refine Or.inl ?_
   refine And.intro (rfl) ?_
   refine Exists.intro _ (And.intro (hmuch) ?_)
   refine acode_cond rfl (fun h18 => ?_) (fun h18 => ?_)
   ·try simp only [decide_eq_true_eq, decide_eq_false_iff_not, Bool.and_eq_true, Bool.not_eq_true', Bool.not_eq_false', Bool.or_eq_false_iff, Bool.or_eq_true, Bool.and_eq_false_iff, Int.not_lt, Int.not_le] at h18
    try simp only [Int.toNat_natCast, dflt_sl, dflt_st, dflt_str, dflt_int, dflt_bool] at h18
    cases h18
   ·skip
    refine acode_skip ?_
    refine acode_seq ?_
    refine acode_region ?_
    refine Or.inl ?_
    refine And.intro (rfl) ?_
    refine Exists.intro _ (And.intro (copies_c l hl.1) ?_)
    refine acode_seq ?_
    refine acode_region ?_
    refine Or.inl ?_
    refine And.intro (rfl) ?_
    refine Exists.intro _ (And.intro (h1) ?_)
    show ACode _ _ _ _ _ _ _ _ _
    refine acode_bag [2] [] 1 rfl rfl rfl rfl (by kernel_rfl) ?_
    refine Exists.intro _ (Exists.intro _ (Exists.intro _ (And.intro (pitem3_ok hl hc) (And.intro rfl ?_))))
    refine acode_seq ?_
    refine acode_region ?_
    refine Or.inl ?_
    refine And.intro (rfl) ?_
    refine Exists.intro _ (And.intro (h3) ?_)
    refine acode_seq ?_
    refine acode_region ?_
    refine Or.inl ?_
    refine And.intro (rfl) ?_
    refine Exists.intro _ (And.intro (hk) ?_)
    refine acode_seq ?_
    refine acode_seq ?_
    refine acode_region ?_
    intro l10_4
    try simp only [Int.toNat_natCast, dflt_sl, dflt_st, dflt_str, dflt_int, dflt_bool] at l10_4
    refine acode_block ?_
    refine acode_loopP (fun (j : Nat) => j ≤ 3) (fun (j : Nat) => [(0, .one (.sl rFld l)), (3, .one (.sl rFld l)), (4, is (bytes (foldL l))), (6, .one (.own 1000000 0)), (9, ii .i64 (-9)), (10, ii .i64 0), (41, .one (.vec 1000001)), (42, ii .i64 3), (43, ii .i64 j)]) (fun (j : Nat) => [(1000000, .box 26 [.lit (.int .i64 3), .lit (.string (bytes (foldL l))), .slk 7 rFld l]), (1000001, .vec 41 .raw [.nilIface, .nilIface, .nilIface])]) 1000002 (fun (j : Nat) => 3 - j) 0 (Nat.zero_le _) (le_of ⟨rfl, rfl, rfl, rfl, rfl, rfl, rfl, rfl, rfl⟩ ⟨rfl, rfl⟩ rfl) ?_
    intro j hI0
    refine acode_seq ?_
    refine acode_region ?_
    refine acode_seq ?_
    refine acode_cond rfl (fun h44 => ?_) (fun h44 => ?_)
    ·try simp only [decide_eq_true_eq] at h44
     try simp only [Int.toNat_natCast, dflt_sl, dflt_st, dflt_str, dflt_int, dflt_bool] at h44
     have hj3 : j < 3 := by omega
     refine acode_skip ?_
     refine acode_seq ?_
     refine acode_block ?_
     refine acode_seq ?_
     obtain rfl | rfl | rfl : j = 0 ∨ j = 1 ∨ j = 2 := by omega
     ·refine acode_region ?_
      refine And.intro (by simp) ?_
      refine And.intro (by simp) ?_
      refine acode_seq ?_
      refine acode_region ?_
      refine Or.inl ?_
      refine And.intro (rfl) ?_
      refine Exists.intro _ (And.intro (num_nil) ?_)
      refine And.intro (fun h => trivial) ?_
      refine Or.inl ?_
      refine And.intro (rfl) ?_
      refine Exists.intro _ (And.intro (fun h => ⟨⟨⟨h, trivial⟩, trivial⟩, at_nil⟩) ?_)
      refine And.intro (fun h => trivial) ?_
      refine And.intro (fun h => ⟨⟨h, trivial⟩, ⟨h, trivial⟩, trivial⟩) ?_
      refine And.intro (by first | (intro h; rw [h]; rfl) | (intro h; cases h)) ?_
      refine acode_cond rfl (fun h56 => ?_) (fun h56 => ?_)
      ·try simp only [decide_eq_false_iff_not, Bool.not_eq_true', Bool.or_eq_true] at h56
       try simp only [Int.toNat_natCast, dflt_sl, dflt_st, dflt_str, dflt_int, dflt_bool] at h56
       simp at h56
      ·try simp only [decide_eq_true_eq, Bool.not_eq_false', Bool.or_eq_false_iff] at h56
       try simp only [Int.toNat_natCast, dflt_sl, dflt_st, dflt_str, dflt_int, dflt_bool] at h56
       refine acode_skip ?_
       refine acode_region ?_
       refine And.intro (by first | omega | assumption | decide | (simp only [Int.toNat_natCast, dflt_sl, dflt_st, dflt_str, dflt_int, dflt_bool]; omega) | (simp <;> omega)) ?_
       exact ⟨1, by omega, by first | omega | (simp <;> omega), le_of ⟨rfl, rfl, rfl, rfl, rfl, rfl, rfl, rfl, rfl⟩ ⟨rfl, rfl⟩ rfl⟩
     ·refine acode_region ?_
      refine And.intro (by simp) ?_
      refine And.intro (by simp) ?_
      refine acode_seq ?_
      refine acode_region ?_
      refine Or.inl ?_
      refine And.intro (rfl) ?_
      refine Exists.intro _ (And.intro (num_nil) ?_)
      refine And.intro (fun h => trivial) ?_
      refine Or.inl ?_
      refine And.intro (rfl) ?_
      refine Exists.intro _ (And.intro (fun h => ⟨⟨⟨h, trivial⟩, trivial⟩, at_nil⟩) ?_)
      refine And.intro (fun h => trivial) ?_
      refine And.intro (fun h => ⟨⟨h, trivial⟩, ⟨h, trivial⟩, trivial⟩) ?_
      refine And.intro (by first | (intro h; rw [h]; rfl) | (intro h; cases h)) ?_
      refine acode_cond rfl (fun h56 => ?_) (fun h56 => ?_)
      ·try simp only [decide_eq_false_iff_not, Bool.not_eq_true', Bool.or_eq_true] at h56
       try simp only [Int.toNat_natCast, dflt_sl, dflt_st, dflt_str, dflt_int, dflt_bool] at h56
       simp at h56
      ·try simp only [decide_eq_true_eq, Bool.not_eq_false', Bool.or_eq_false_iff] at h56
       try simp only [Int.toNat_natCast, dflt_sl, dflt_st, dflt_str, dflt_int, dflt_bool] at h56
       refine acode_skip ?_
       refine acode_region ?_
       refine And.intro (by first | omega | assumption | decide | (simp only [Int.toNat_natCast, dflt_sl, dflt_st, dflt_str, dflt_int, dflt_bool]; omega) | (simp <;> omega)) ?_
       exact ⟨2, by omega, by first | omega | (simp <;> omega), le_of ⟨rfl, rfl, rfl, rfl, rfl, rfl, rfl, rfl, rfl⟩ ⟨rfl, rfl⟩ rfl⟩
     ·refine acode_region ?_
      refine And.intro (by simp) ?_
      refine And.intro (by simp) ?_
      refine acode_seq ?_
      refine acode_region ?_
      refine Or.inl ?_
      refine And.intro (rfl) ?_
      refine Exists.intro _ (And.intro (num_nil) ?_)
      refine And.intro (fun h => trivial) ?_
      refine Or.inl ?_
      refine And.intro (rfl) ?_
      refine Exists.intro _ (And.intro (fun h => ⟨⟨⟨h, trivial⟩, trivial⟩, at_nil⟩) ?_)
      refine And.intro (fun h => trivial) ?_
      refine And.intro (fun h => ⟨⟨h, trivial⟩, ⟨h, trivial⟩, trivial⟩) ?_
      refine And.intro (by first | (intro h; rw [h]; rfl) | (intro h; cases h)) ?_
      refine acode_cond rfl (fun h56 => ?_) (fun h56 => ?_)
      ·try simp only [decide_eq_false_iff_not, Bool.not_eq_true', Bool.or_eq_true] at h56
       try simp only [Int.toNat_natCast, dflt_sl, dflt_st, dflt_str, dflt_int, dflt_bool] at h56
       simp at h56
      ·try simp only [decide_eq_true_eq, Bool.not_eq_false', Bool.or_eq_false_iff] at h56
       try simp only [Int.toNat_natCast, dflt_sl, dflt_st, dflt_str, dflt_int, dflt_bool] at h56
       refine acode_skip ?_
       refine acode_region ?_
       refine And.intro (by first | omega | assumption | decide | (simp only [Int.toNat_natCast, dflt_sl, dflt_st, dflt_str, dflt_int, dflt_bool]; omega) | (simp <;> omega)) ?_
       exact ⟨3, by omega, by first | omega | (simp <;> omega), le_of ⟨rfl, rfl, rfl, rfl, rfl, rfl, rfl, rfl, rfl⟩ ⟨rfl, rfl⟩ rfl⟩
    ·try simp only [decide_eq_false_iff_not, Int.not_lt] at h44
     try simp only [Int.toNat_natCast, dflt_sl, dflt_st, dflt_str, dflt_int, dflt_bool] at h44
     refine acode_exit ?_
     refine acode_seq ?_
     refine acode_seq ?_
     refine acode_region ?_
     refine Or.inl ?_
     refine And.intro (rfl) ?_
     refine Exists.intro _ (And.intro (fields_c l l) ?_)
     refine acode_cond rfl (fun h61 => ?_) (fun h61 => ?_)
     ·try simp only [decide_eq_false_iff_not, Bool.not_eq_true'] at h61
      try simp only [Int.toNat_natCast, dflt_sl, dflt_st, dflt_str, dflt_int, dflt_bool] at h61
      simp at h61
     ·try simp only [decide_eq_true_eq, Bool.not_eq_false'] at h61
      try simp only [Int.toNat_natCast, dflt_sl, dflt_st, dflt_str, dflt_int, dflt_bool] at h61
      refine acode_skip ?_
      refine acode_seq ?_
      refine acode_seq ?_
      refine acode_region ?_
      refine acode_cond rfl (fun h63 => ?_) (fun h63 => ?_)
      ·try simp only [decide_eq_false_iff_not, Bool.not_eq_true'] at h63
       try simp only [Int.toNat_natCast, dflt_sl, dflt_st, dflt_str, dflt_int, dflt_bool] at h63
       simp at h63
      ·try simp only [decide_eq_true_eq, Bool.not_eq_false'] at h63
       try simp only [Int.toNat_natCast, dflt_sl, dflt_st, dflt_str, dflt_int, dflt_bool] at h63
       refine acode_skip ?_
       refine acode_seq ?_
       refine acode_region ?_
       refine Or.inl ?_
       refine And.intro (rfl) ?_
       refine Exists.intro _ (And.intro (refItem6_c hl hc) ?_)
       refine acode_seq ?_
       refine acode_region ?_
       refine Or.inl ?_
       refine And.intro (rfl) ?_
       refine Exists.intro _ (And.intro (hpp) ?_)
       refine acode_seq ?_
       refine acode_seq ?_
       refine acode_region ?_
       refine And.intro (fun h => trivial) ?_
       refine And.intro (fun h => ⟨⟨h, trivial⟩, trivial⟩) ?_
       refine And.intro (fun h => ⟨⟨h, trivial⟩, trivial⟩) ?_
       refine And.intro (by first | (intro h; rw [h]; rfl) | (intro h; cases h)) ?_
       refine And.intro (fun h => trivial) ?_
       refine And.intro (fun h => trivial) ?_
       refine And.intro (fun h => ⟨⟨h, trivial⟩, trivial⟩) ?_
       refine And.intro (fun h => ⟨⟨h, trivial⟩, ⟨h, trivial⟩, trivial⟩) ?_
       refine And.intro (by first | (intro h; rw [h]; rfl) | (intro h; cases h)) ?_
       refine And.intro (fun h => trivial) ?_
       refine And.intro (fun h => trivial) ?_
       refine And.intro (fun h => ⟨⟨h, trivial⟩, trivial⟩) ?_
       refine Or.inl ?_
       refine And.intro (rfl) ?_
       refine Exists.intro _ (And.intro (fun h => ⟨⟨⟨h, trivial⟩, ⟨h, trivial⟩, trivial⟩, itemsS_c [(3, bytes (foldL l), l)] [(3, bytes (foldL l), l)]⟩) ?_)
       refine And.intro (fun h => ⟨⟨h, trivial⟩, trivial⟩) ?_
       refine And.intro (by first | (intro h; rw [h]; rfl) | (intro h; cases h)) ?_
       refine And.intro (fun h => trivial) ?_
       refine And.intro (fun h => ⟨⟨h, trivial⟩, trivial⟩) ?_
       refine And.intro (fun h => trivial) ?_
       refine Or.inl ?_
       refine And.intro (rfl) ?_
       refine Exists.intro _ (And.intro (fun h => ⟨⟨⟨h, trivial⟩, ⟨h, trivial⟩, trivial⟩, items7F_c [(3, bytes (foldL l), l)] [(3, bytes (foldL l), l)]⟩) ?_)
       refine And.intro (fun h => ⟨⟨h, trivial⟩, trivial⟩) ?_
       refine And.intro (by first | (intro h; rw [h]; rfl) | (intro h; cases h)) ?_
       refine And.intro (fun h => trivial) ?_
       refine Or.inl ?_
       refine And.intro (rfl) ?_
       refine Exists.intro _ (And.intro (fun h => ⟨⟨⟨h, trivial⟩, trivial⟩, pplain7_c (3, bytes (foldL l), l) hl hc⟩) ?_)
       refine And.intro (fun h => ⟨⟨h, trivial⟩, trivial⟩) ?_
       refine And.intro (by first | (intro h; rw [h]; rfl) | (intro h; cases h)) ?_
       refine acode_cond rfl (fun h120 => ?_) (fun h120 => ?_)
       ·try simp only [decide_eq_false_iff_not, Bool.not_eq_true', Bool.or_eq_true] at h120
        try simp only [Int.toNat_natCast, dflt_sl, dflt_st, dflt_str, dflt_int, dflt_bool] at h120
        simp [plainI, hc] at h120
       ·try simp only [decide_eq_true_eq, Bool.not_eq_false', Bool.or_eq_false_iff] at h120
        try simp only [Int.toNat_natCast, dflt_sl, dflt_st, dflt_str, dflt_int, dflt_bool] at h120
        refine acode_skip ?_
        refine acode_seq ?_
        refine acode_weak (le_of (tm' := [(0, .one (.sl rFld l)), (3, .one (.sl rFld l)), (6, .one (.own 1000000 0))]) (ob' := [(1000000, .box 26 [.lit (.int .i64 3), .lit (.string (bytes (foldL l))), .slk 7 rFld l])]) (nx' := 1000001) ⟨rfl, rfl, rfl⟩ rfl rfl) ?_
        refine acode_restateB 1000000 (ds := [.lit (.int .i64 3), .lit (.string (bytes (foldL l))), .slk 7 rUnk2 (l.map fun _ => ((), ()))]) rfl (fun ok ρ w vs h => by obtain ⟨v1, r1, e1, g1, v2, r2, e2, g2, v3, r3, e3, g3, g4⟩ := h; exact ⟨v1, r1, e1, g1, v2, r2, e2, g2, v3, r3, e3, slk_unk g3, g4⟩) ?_
        show ACode _ _ _ _ _ _ _ _ _
        refine acode_spoil 2 rfl rfl rfl (by rfl) ?_
        refine Exists.intro _ (Exists.intro _ (And.intro rfl (And.intro (spoil7_c) (And.intro rfl (And.intro rfl (And.intro rfl ?_))))))
        refine acode_seq ?_
        refine acode_region ?_
        refine Or.inl ?_
        refine And.intro (rfl) ?_
        refine Exists.intro _ (And.intro (fields_c l l) ?_)
        refine acode_ret ?_
        first | rfl | exact ib_eq (by simp)
theorem PrintStanzas_c (l : List Fld) : ACall Tryd.prog 5 [.one (.sl rFld l)] (ib true) := by
  cases hm : muchB l with
  | false =>
    by_cases hc : (chkR l).2 = 0
    · exact PrintStanzas_ok l hm hc
    · exact PrintStanzas_no l hm hc
  | true =>
    have hmuch := much_c l
    rw [hm] at hmuch
    refine acall_of (rs := [2]) Tryd.func5 rfl rfl rfl teOk rfl ?_
    refine acode_seq ?_
    refine acode_region ?_
    refine acode_seq ?_
    refine acode_seq ?_
    refine acode_region ?_
    refine Or.inl ?_
    refine And.intro (rfl) ?_
    refine Exists.intro _ (And.intro (alive6_c) ?_)
    refine acode_cond rfl (fun h16 => ?_) (fun h16 => ?_)
    ·try simp only [Bool.not_eq_true'] at h16
     try simp only [Int.toNat_natCast, dflt_sl, dflt_st, dflt_str, dflt_int, dflt_bool] at h16
     simp at h16
    ·try simp only [Bool.not_eq_false'] at h16
     try simp only [Int.toNat_natCast, dflt_sl, dflt_st, dflt_str, dflt_int, dflt_bool] at h16
     refine acode_skip ?_
     refine acode_seq ?_
     refine acode_seq ?_
     refine acode_region ?_
     refine Or.inl ?_
     refine And.intro (rfl) ?_
     refine Exists.intro _ (And.intro (hmuch) ?_)
     refine acode_cond rfl (fun h18 => ?_) (fun h18 => ?_)
     ·skip
      refine acode_seq ?_
      refine acode_region ?_
      refine acode_ret ?_
      rfl
     ·try simp only [decide_eq_true_eq, decide_eq_false_iff_not, Bool.and_eq_true, Bool.not_eq_true', Bool.not_eq_false', Bool.or_eq_false_iff, Bool.or_eq_true, Bool.and_eq_false_iff, Int.not_lt, Int.not_le] at h18
      try simp only [Int.toNat_natCast, dflt_sl, dflt_st, dflt_str, dflt_int, dflt_bool] at h18
      cases h18
end Q
end Ab
end Go.Proofs.YtlbainbjlibfiaaDoor
namespace Go.Proofs.YtlbainbjlibfiaaDoor
open Go.RowKit
namespace Ab
set_option maxRecDepth 100000
theorem o_str : Opens Tryd.prog 9 .str := opens_str Tryd.underlying9 (by kernel_rfl)
theorem o_field : Opens Tryd.prog 57 (.st .str .str) := opens_st Tryd.underlying57 (by kernel_rfl) (.cons rfl o_str (.one rfl o_str))
theorem o_fields : Opens Tryd.prog 24 (.sl (.st .str .str)) := opens_sl (by decide) Tryd.underlying24 (by kernel_rfl) o_field
theorem open_fields {H : Type} {enc : TypeId × Value → H} {W : World} {base : Nat} {v : Value} {d : DataW H} {p : List MemPlace} (hv : Value.okWide Tryd.prog W .any base 24 v) (h : DataW.Trod enc Tryd.prog W 0 (fun _ => true) true 24 v d p) :
    ∃ xs, (C.sl (.st .str .str) xs).rep AllOk noNames W v := open_sl Tryd.underlying24 o_fields hv h
theorem globAt {W : World} (h : W.ShapedOpen Tryd.prog) : GlobAt AllOk W := by
  have hc : GlobCell W := cell_of_shapedOpen_int (g := 0) (t := 3) (zero := #[.int .i64 0]) h (of_decide_eq_true (by kernel_rfl)) (by kernel_rfl) rfl (by kernel_rfl) (by kernel_rfl) Tryd.underlying3
  refine ⟨trivial, ?_, hc⟩
  obtain ⟨m, hm⟩ := hc
  rcases Nat.lt_or_ge 0 W.heap.size with h1 | h1
  · exact h1
  · exfalso
    simp only [World.cell?, Array.getElem?_eq_none h1] at hm
    cases hm
end Ab
end Go.Proofs.YtlbainbjlibfiaaDoor
namespace Go.Proofs.YtlbainbjlibfiaaDoor
open Go.RowKit
namespace Ab
set_option maxRecDepth 100000
end Ab
end Go.Proofs.YtlbainbjlibfiaaDoor
