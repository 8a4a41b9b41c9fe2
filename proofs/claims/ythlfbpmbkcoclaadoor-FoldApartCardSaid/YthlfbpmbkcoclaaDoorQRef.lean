/-
  The document's answer to which stanzas a selector holds of: what its functions compute.
-/
import Derived.Test.YthlfbpmbkcoclaaDoorAbBldS
namespace Go.Proofs.YthlfbpmbkcoclaaDoor
open Go.RowKit
namespace Ab
set_option maxRecDepth 100000
abbrev Fld := ByteArray × ByteArray
abbrev rFld : Rd Fld := .st .str .str
abbrev Term := Bool × ByteArray × Int × ByteArray
abbrev rTerm : Rd Term := .st .bool (.st .str (.st (.int .i64) .str))
namespace Q
def begins (s w : ByteArray) (n : Nat) : Bool := decide (n + w.size ≤ s.size) && decide (s.extract n (n + w.size) = w)
theorem begins_c (s w : ByteArray) (n : Nat) (h1 : s.size ≤ 1000000000) (h2 : w.size ≤ 1000000000) (h3 : n ≤ 1000000000) : ACall Tryd.prog 77 [is s, is w, ii .i64 n] (ib (begins s w n)) := by
  refine acall_of (rs := [6]) Tryd.func77 rfl rfl rfl teOk rfl ?_
  refine acode_seq ?_
  refine acode_region ?_
  refine acode_seq ?_
  refine acode_region ?_
  refine And.intro (by first | omega | assumption | decide | (simp only [Int.toNat_natCast, dflt_sl, dflt_st, dflt_str, dflt_int, dflt_bool]; omega) | (simp; omega)) ?_
  refine And.intro (fun h => trivial) ?_
  refine And.intro (fun h => trivial) ?_
  refine And.intro (fun h => trivial) ?_
  refine And.intro (fun h => trivial) ?_
  refine And.intro (fun h => ⟨⟨h, trivial⟩, trivial⟩) ?_
  refine And.intro (fun h => ⟨⟨⟨h, trivial⟩, ⟨h, trivial⟩, trivial⟩, by first | omega | decide | (simp only [Int.toNat_natCast, dflt_sl, dflt_st, dflt_str, dflt_int, dflt_bool]; omega) | (have h9 := of_decide_eq_true h; omega) | (simp [gq] at h; omega)⟩) ?_
  refine And.intro (fun h => ⟨⟨⟨h, trivial⟩, ⟨h, trivial⟩, ⟨h, trivial⟩, trivial⟩, by first | omega | decide | (simp only [Int.toNat_natCast, dflt_sl, dflt_st, dflt_str, dflt_int, dflt_bool]; omega) | (have h9 := of_decide_eq_true h; omega) | (simp [gq] at h; omega)⟩) ?_
  refine And.intro (fun h => trivial) ?_
  refine And.intro (fun h => ⟨⟨h, trivial⟩, ⟨h, trivial⟩, trivial⟩) ?_
  refine And.intro (by exact fun h => h) ?_
  refine acode_ret ?_
  refine ib_eq ?_
  unfold begins
  congr 1
  exact decide_eq_decide.2 (by omega)

/-- Does a value hold, but for 'holds'? -/
def ok0 (t : Term) (v : ByteArray) : Bool := ((decide (t.2.2.1 = 1) || (decide (t.2.2.1 = 2) && decide (v = t.2.2.2))) || (decide (t.2.2.1 = 3) && begins v t.2.2.2 0)) || (decide (t.2.2.1 = 5) && Op.bytesLess v.toList t.2.2.2.toList)
def okV (t : Term) (v : ByteArray) : Bool := ok0 t v || (decide (t.2.2.1 = 4) && (List.range (v.size + 1)).any (begins v t.2.2.2))
def okF (t : Term) (f : Fld) : Bool := decide (f.1 = t.2.1) && okV t f.2
def bad (t : Term) : Bool := decide (t.2.2.1 < 1) || decide (5 < t.2.2.1)
def refMatches (t : Term) (l : List Fld) : Bool := !bad t && !decide (l.any (okF t) = t.1)
theorem matches_c (t : Term) (l : List Fld) (hl : ∀ f ∈ l, f.2.size ≤ 1000000000) (ht : t.2.2.2.size ≤ 1000000000) : ACall Tryd.prog 28 [.agg (toL rTerm t), .one (.sl rFld l)] (ib (refMatches t l)) := by
  refine acall_of (rs := [4]) Tryd.func28 rfl rfl rfl teOk rfl ?_
  refine acode_seq ?_
  refine acode_region ?_
  refine acode_seq ?_
  refine acode_seq ?_
  refine acode_region ?_
  refine And.intro (fun h => trivial) ?_
  refine And.intro (fun h => ⟨⟨h, trivial⟩, trivial⟩) ?_
  refine And.intro (fun h => ⟨⟨h, trivial⟩, trivial⟩) ?_
  refine And.intro (by intro h; rw [h]; rfl) ?_
  refine acode_cond rfl (fun h17 => ?_) (fun h17 => ?_)
  · try simp only [decide_eq_true_eq, Bool.or_eq_true] at h17
    try simp only [Int.toNat_natCast, dflt_sl, dflt_st, dflt_str, dflt_int, dflt_bool] at h17
    refine acode_seq ?_
    refine acode_region ?_
    refine acode_ret ?_
    refine ib_eq ?_
    unfold refMatches bad
    rcases h17 with h | h <;> simp [h]
  · try simp only [decide_eq_false_iff_not, Bool.or_eq_false_iff, Int.not_lt] at h17
    try simp only [Int.toNat_natCast, dflt_sl, dflt_st, dflt_str, dflt_int, dflt_bool] at h17
    refine acode_skip ?_
    refine acode_seq ?_
    refine acode_region ?_
    refine acode_seq ?_
    refine acode_seq ?_
    refine acode_region ?_
    refine acode_block ?_
    refine acode_loopP (fun (i : Nat) => i ≤ l.length) (fun (i : Nat) => [(1, .one (.sl rFld l)), (2, .one (.own 0 0)), (5, ib ((l.take i).any (okF t))), (6, ii .i64 i)]) (fun (i : Nat) => [(0, .box 49 (toL rTerm t))]) 1 (fun (i : Nat) => l.length - i) 0 (Nat.zero_le _) (le_of ⟨rfl, rfl, rfl, rfl⟩ rfl rfl) ?_
    intro i hI0
    refine acode_seq ?_
    refine acode_seq ?_
    refine acode_region ?_
    intro l5_2
    try simp only [Int.toNat_natCast, dflt_sl, dflt_st, dflt_str, dflt_int, dflt_bool] at l5_2
    refine acode_cond rfl (fun h21 => ?_) (fun h21 => ?_)
    · try simp only [decide_eq_true_eq] at h21
      try simp only [Int.toNat_natCast, dflt_sl, dflt_st, dflt_str, dflt_int, dflt_bool] at h21
      have hv : (l.getD i ⟨.empty, .empty⟩).2.size ≤ 1000000000 := by (have hi : i < l.length := by omega); rw [List.getD_eq_getElem?_getD, List.getElem?_eq_getElem hi]; exact hl _ (List.getElem_mem hi)
      refine acode_skip ?_
      refine acode_seq ?_
      refine acode_block ?_
      refine acode_seq ?_
      refine acode_region ?_
      refine And.intro (by first | omega | assumption | decide | (simp only [Int.toNat_natCast, dflt_sl, dflt_st, dflt_str, dflt_int, dflt_bool]; omega) | (simp; omega)) ?_
      refine acode_seq ?_
      refine acode_region ?_
      refine And.intro (fun h => trivial) ?_
      refine And.intro (fun h => ⟨⟨h, trivial⟩, trivial⟩) ?_
      refine And.intro (fun h => ⟨⟨h, trivial⟩, trivial⟩) ?_
      refine And.intro (fun h => ⟨⟨h, trivial⟩, trivial⟩) ?_
      refine And.intro (fun h => trivial) ?_
      refine And.intro (fun h => trivial) ?_
      refine And.intro (fun h => ⟨⟨h, trivial⟩, trivial⟩) ?_
      refine And.intro (fun h => ⟨⟨h, trivial⟩, ⟨h, trivial⟩, trivial⟩) ?_
      refine And.intro (fun h => ⟨⟨⟨h, trivial⟩, trivial⟩, by first | exact fun h2 => h2 | (intro h2; rw [h, h2]; rfl) | (intro h2; simp_all [gq])⟩) ?_
      refine And.intro (by intro h; rw [h]; rfl) ?_
      refine And.intro (fun h => trivial) ?_
      refine And.intro (fun h => ⟨⟨h, trivial⟩, trivial⟩) ?_
      refine And.intro (fun h => ⟨⟨h, trivial⟩, trivial⟩) ?_
      refine And.intro (fun h => ⟨⟨h, trivial⟩, trivial⟩) ?_
      refine And.intro (fun h => trivial) ?_
      refine And.intro (fun h => trivial) ?_
      refine And.intro (fun h => ⟨⟨h, trivial⟩, trivial⟩) ?_
      refine And.intro (rfl) ?_
      refine Exists.intro _ (And.intro (fun h => ⟨⟨⟨h, trivial⟩, ⟨h, trivial⟩, trivial⟩, begins_c _ _ 0 hv ht (by omega)⟩) ?_)
      refine And.intro (fun h => ⟨⟨⟨h, trivial⟩, trivial⟩, by first | exact fun h2 => h2 | (intro h2; rw [h, h2]; rfl) | (intro h2; simp_all [gq])⟩) ?_
      refine And.intro (by intro h; rw [h]; rfl) ?_
      refine And.intro (fun h => trivial) ?_
      refine And.intro (fun h => ⟨⟨h, trivial⟩, trivial⟩) ?_
      refine And.intro (fun h => ⟨⟨h, trivial⟩, trivial⟩) ?_
      refine And.intro (fun h => ⟨⟨h, trivial⟩, trivial⟩) ?_
      refine And.intro (fun h => trivial) ?_
      refine And.intro (fun h => trivial) ?_
      refine And.intro (fun h => ⟨⟨h, trivial⟩, trivial⟩) ?_
      refine And.intro (fun h => ⟨⟨h, trivial⟩, ⟨h, trivial⟩, trivial⟩) ?_
      refine And.intro (fun h => ⟨⟨⟨h, trivial⟩, trivial⟩, by first | exact fun h2 => h2 | (intro h2; rw [h, h2]; rfl) | (intro h2; simp_all [gq])⟩) ?_
      refine And.intro (by intro h; rw [h]; rfl) ?_
      refine acode_seq ?_
      refine acode_seq ?_
      refine acode_region ?_
      refine acode_block ?_
      refine acode_loopP (fun (j : Nat) => j ≤ (l.getD i ⟨.empty, .empty⟩).2.size + 1) (fun (j : Nat) => [(1, .one (.sl rFld l)), (2, .one (.own 0 0)), (5, ib ((l.take i).any (okF t))), (6, ii .i64 i), (7, is (l.getD i ⟨.empty, .empty⟩).2), (8, ib (ok0 t (l.getD i ⟨.empty, .empty⟩).2 || (decide (t.2.2.1 = 4) && (List.range j).any (begins (l.getD i ⟨.empty, .empty⟩).2 t.2.2.2)))), (9, ii .i64 j)]) (fun (j : Nat) => [(0, .box 49 (toL rTerm t))]) 1 (fun (j : Nat) => (l.getD i ⟨.empty, .empty⟩).2.size + 1 - j) 0 (Nat.zero_le _) (le_of ⟨rfl, rfl, rfl, rfl, rfl, (ib_eq (by rw [show (List.range 0).any (begins (l.getD i (.empty, .empty)).2 t.2.2.2) = false from rfl, Bool.and_false, Bool.or_false]; rfl)), rfl⟩ rfl rfl) ?_
      intro j hI2
      refine acode_seq ?_
      refine acode_seq ?_
      refine acode_region ?_
      refine And.intro (fun h => trivial) ?_
      refine And.intro (fun h => ⟨⟨h, trivial⟩, trivial⟩) ?_
      refine And.intro (fun h => ⟨⟨h, trivial⟩, trivial⟩) ?_
      refine And.intro (by exact fun h => h) ?_
      refine acode_cond rfl (fun h73 => ?_) (fun h73 => ?_)
      · try simp only [decide_eq_true_eq, Bool.and_eq_true] at h73
        try simp only [Int.toNat_natCast, dflt_sl, dflt_st, dflt_str, dflt_int, dflt_bool] at h73
        refine acode_skip ?_
        refine acode_seq ?_
        refine acode_block ?_
        refine acode_region ?_
        refine And.intro (fun h => trivial) ?_
        refine And.intro (fun h => trivial) ?_
        refine And.intro (fun h => ⟨⟨h, trivial⟩, trivial⟩) ?_
        refine And.intro (fun h => trivial) ?_
        refine And.intro (rfl) ?_
        refine Exists.intro _ (And.intro (fun h => ⟨⟨⟨h, trivial⟩, ⟨h, trivial⟩, ⟨h, trivial⟩, trivial⟩, begins_c _ _ _ hv ht (by omega)⟩) ?_)
        refine And.intro (by intro h; rw [h]; rfl) ?_
        refine acode_region ?_
        refine And.intro (by first | omega | assumption | decide | (simp only [Int.toNat_natCast, dflt_sl, dflt_st, dflt_str, dflt_int, dflt_bool]; omega) | (simp; omega)) ?_
        exact ⟨j + 1, by omega, by first | omega | (simp; omega), le_of ⟨rfl, rfl, rfl, rfl, rfl, (ib_eq (by rw [range_any]; simp [h73.2, Bool.or_assoc])), rfl⟩ rfl rfl⟩
      · try simp only [decide_eq_false_iff_not, Bool.and_eq_false_iff, Int.not_le] at h73
        try simp only [Int.toNat_natCast, dflt_sl, dflt_st, dflt_str, dflt_int, dflt_bool] at h73
        refine acode_exit ?_
        have e2 : (ok0 t (l.getD i (.empty, .empty)).2 || (decide (t.2.2.1 = 4) && (List.range j).any (begins (l.getD i (.empty, .empty)).2 t.2.2.2))) = okV t (l.getD i (.empty, .empty)).2 := by (unfold okV; exact if h4 : t.2.2.1 = 4 then (by (have e3 : j = (l.getD i (.empty, .empty)).2.size + 1 := by (rcases h73 with h | h <;> omega)); rw [e3]) else (by rw [decide_eq_false h4, Bool.false_and, Bool.false_and]))
        refine acode_draw rfl (by kernel_rfl) ?_
        refine And.intro (fun h => trivial) ?_
        refine And.intro (fun h => trivial) ?_
        refine And.intro (fun h => ⟨⟨⟨h, trivial⟩, ⟨h, trivial⟩, trivial⟩, by first | omega | decide | (simp only [Int.toNat_natCast, dflt_sl, dflt_st, dflt_str, dflt_int, dflt_bool]; omega) | (have h9 := of_decide_eq_true h; omega) | (simp [gq] at h; omega)⟩) ?_
        refine And.intro (fun h => ⟨⟨h, trivial⟩, trivial⟩) ?_
        refine And.intro (fun h => ⟨⟨h, trivial⟩, trivial⟩) ?_
        refine And.intro (fun h => trivial) ?_
        refine And.intro (fun h => ⟨⟨h, trivial⟩, trivial⟩) ?_
        refine And.intro (fun h => ⟨⟨h, trivial⟩, ⟨h, trivial⟩, trivial⟩) ?_
        refine And.intro (fun h => ⟨⟨h, trivial⟩, trivial⟩) ?_
        refine And.intro (fun h => trivial) ?_
        refine And.intro (fun h => ⟨⟨⟨h, trivial⟩, trivial⟩, by first | exact fun h2 => h2 | (intro h2; rw [h, h2]; rfl) | (intro h2; simp_all [gq])⟩) ?_
        refine And.intro (by intro h; rw [h]; rfl) ?_
        refine acode_region ?_
        refine And.intro (by first | omega | assumption | decide | (simp only [Int.toNat_natCast, dflt_sl, dflt_st, dflt_str, dflt_int, dflt_bool]; omega) | (simp; omega)) ?_
        exact ⟨i + 1, by omega, by first | omega | (simp; omega), le_of ⟨rfl, rfl, (ib_eq (by rw [take_any l (okF t) (.empty, .empty) i (by omega)]; show _ = (_ || (decide _ && okV t (l.getD i (.empty, .empty)).2)); rw [← e2]; rfl)), rfl⟩ rfl rfl⟩
    · try simp only [decide_eq_false_iff_not, Int.not_lt] at h21
      try simp only [Int.toNat_natCast, dflt_sl, dflt_st, dflt_str, dflt_int, dflt_bool] at h21
      refine acode_exit ?_
      refine acode_seq ?_
      refine acode_region ?_
      refine acode_ret ?_
      refine ib_eq ?_
      have e : i = l.length := by omega
      subst e
      unfold refMatches bad
      rw [List.take_length, decide_eq_false (show ¬ t.2.2.1 < 1 by omega), decide_eq_false (show ¬ 5 < t.2.2.1 by omega)]
      rfl

def TermOk (t : Term) : Prop := t.2.1.size ≤ 100 ∧ t.2.2.2.size ≤ 500
def SelOk (s : List (List Term)) : Prop := s.length ≤ 1000 ∧ ∀ r ∈ s, r.length ≤ 1000 ∧ ∀ t ∈ r, TermOk t
def FldsOk (l : List Fld) : Prop := l.length ≤ 1000 ∧ ∀ f ∈ l, f.1.size ≤ 1000000 ∧ f.2.size ≤ 1000000
def refAll (s : List (List Term)) (l : List Fld) : Bool := s.any fun r => r.all fun t => refMatches t l
theorem all_c (s : List (List Term)) (l : List Fld) (hs : SelOk s) (hl : FldsOk l) : ACall Tryd.prog 30 [.one (.sl (.sl rTerm) s), .one (.sl rFld l)] (ib (refAll s l)) := by
  have hl' : ∀ f ∈ l, f.2.size ≤ 1000000000 := fun f hf => Nat.le_trans (hl.2 f hf).2 (by decide)
  refine acall_of (rs := [4]) Tryd.func30 rfl rfl rfl teOk rfl ?_
  refine acode_seq ?_
  refine acode_region ?_
  refine acode_seq ?_
  refine acode_seq ?_
  refine acode_region ?_
  refine acode_block ?_
  refine acode_loopP (fun (i : Nat) => i ≤ s.length ∧ (s.take i).any (fun r => r.all fun t => refMatches t l) = false) (fun (i : Nat) => [(0, .one (.sl (.sl rTerm) s)), (1, .one (.sl rFld l)), (5, ii .i64 i)]) (fun (i : Nat) => []) 0 (fun (i : Nat) => s.length - i) 0 (⟨Nat.zero_le _, rfl⟩) (le_of ⟨rfl, rfl, rfl⟩ trivial rfl) ?_
  intro i hI0
  obtain ⟨hi, hn⟩ := hI0
  refine acode_seq ?_
  refine acode_seq ?_
  refine acode_region ?_
  intro l2_2
  try simp only [Int.toNat_natCast, dflt_sl, dflt_st, dflt_str, dflt_int, dflt_bool] at l2_2
  refine acode_cond rfl (fun h11 => ?_) (fun h11 => ?_)
  · try simp only [decide_eq_true_eq] at h11
    try simp only [Int.toNat_natCast, dflt_sl, dflt_st, dflt_str, dflt_int, dflt_bool] at h11
    have hr := hs.2 _ (getD_mem (show i < s.length by omega) [])
    refine acode_skip ?_
    refine acode_seq ?_
    refine acode_block ?_
    refine acode_seq ?_
    refine acode_region ?_
    refine acode_seq ?_
    refine acode_seq ?_
    refine acode_region ?_
    refine acode_block ?_
    refine acode_loopP (fun (j : Nat) => j ≤ (s.getD i []).length) (fun (j : Nat) => [(0, .one (.sl (.sl rTerm) s)), (1, .one (.sl rFld l)), (5, ii .i64 i), (6, ib (((s.getD i []).take j).all fun t => refMatches t l)), (7, ii .i64 j)]) (fun (j : Nat) => []) 0 (fun (j : Nat) => (s.getD i []).length - j) 0 (Nat.zero_le _) (le_of ⟨rfl, rfl, rfl, rfl, rfl⟩ trivial rfl) ?_
    intro j hI2
    refine acode_seq ?_
    refine acode_seq ?_
    refine acode_region ?_
    refine And.intro (by first | omega | assumption | decide | (simp only [Int.toNat_natCast, dflt_sl, dflt_st, dflt_str, dflt_int, dflt_bool]; omega) | (simp; omega)) ?_
    intro l6_5
    try simp only [Int.toNat_natCast, dflt_sl] at l6_5
    refine acode_cond rfl (fun h20 => ?_) (fun h20 => ?_)
    · try simp only [decide_eq_true_eq] at h20
      try simp only [Int.toNat_natCast, dflt_sl] at h20
      refine acode_skip ?_
      refine acode_seq ?_
      refine acode_block ?_
      refine acode_region ?_
      refine And.intro (fun h => trivial) ?_
      refine And.intro (fun h => trivial) ?_
      refine And.intro (fun h => ⟨⟨⟨h, trivial⟩, ⟨h, trivial⟩, trivial⟩, by first | omega | decide | (simp only [Int.toNat_natCast, dflt_sl, dflt_st, dflt_str, dflt_int, dflt_bool]; omega) | (have h9 := of_decide_eq_true h; omega) | (simp [gq] at h; omega)⟩) ?_
      refine And.intro (fun h => ⟨⟨h, trivial⟩, trivial⟩) ?_
      refine And.intro (fun h => trivial) ?_
      refine And.intro (fun h => ⟨⟨⟨h, trivial⟩, ⟨h, trivial⟩, trivial⟩, by first | omega | decide | (simp only [Int.toNat_natCast, dflt_sl]; omega) | (have h9 := of_decide_eq_true h; omega) | (simp [gq] at h; omega)⟩) ?_
      refine And.intro (fun h => ⟨⟨h, trivial⟩, trivial⟩) ?_
      refine And.intro (fun h => trivial) ?_
      refine And.intro (rfl) ?_
      refine Exists.intro _ (And.intro (fun h => ⟨⟨⟨h, trivial⟩, ⟨h, trivial⟩, trivial⟩, matches_c _ _ hl' (Nat.le_trans (hr.2 _ (getD_mem (show j < (s.getD i []).length by omega) (false, ByteArray.empty, 0, ByteArray.empty))).2 (by decide))⟩) ?_)
      refine And.intro (by exact fun h => h) ?_
      refine acode_region ?_
      refine And.intro (by first | omega | assumption | decide | (simp only [Int.toNat_natCast, dflt_sl, dflt_st, dflt_str, dflt_int, dflt_bool]; omega) | (simp; omega)) ?_
      exact ⟨j + 1, by omega, by first | omega | (simp; omega), le_of ⟨rfl, rfl, rfl, (ib_eq (by rw [take_all _ _ (false, ByteArray.empty, 0, ByteArray.empty) j (by omega)]; rfl)), rfl⟩ trivial rfl⟩
    · try simp only [decide_eq_false_iff_not, Int.not_lt] at h20
      try simp only [Int.toNat_natCast, dflt_sl] at h20
      refine acode_exit ?_
      have e2 : j = (s.getD i []).length := by omega
      subst e2
      refine acode_seq ?_
      refine acode_region ?_
      refine acode_cond rfl (fun h35 => ?_) (fun h35 => ?_)
      · try simp only [decide_eq_true_eq, decide_eq_false_iff_not, Bool.and_eq_true, Bool.not_eq_true', Bool.not_eq_false', Bool.or_eq_false_iff, Bool.or_eq_true, Bool.and_eq_false_iff, Int.not_lt, Int.not_le] at h35
        try simp only [Int.toNat_natCast, dflt_sl, dflt_st, dflt_str, dflt_int, dflt_bool] at h35
        rw [List.take_length] at h35
        refine acode_seq ?_
        refine acode_region ?_
        refine acode_ret ?_
        refine ib_eq ?_
        exact (any_at (p := fun r => r.all fun t => refMatches t l) [] (by omega) h35).symm
      · try simp only [decide_eq_true_eq, decide_eq_false_iff_not, Bool.and_eq_true, Bool.not_eq_true', Bool.not_eq_false', Bool.or_eq_false_iff, Bool.or_eq_true, Bool.and_eq_false_iff, Int.not_lt, Int.not_le] at h35
        try simp only [Int.toNat_natCast, dflt_sl, dflt_st, dflt_str, dflt_int, dflt_bool] at h35
        rw [List.take_length] at h35
        refine acode_skip ?_
        refine acode_region ?_
        refine And.intro (by first | omega | assumption | decide | (simp only [Int.toNat_natCast, dflt_sl, dflt_st, dflt_str, dflt_int, dflt_bool]; omega) | (simp; omega)) ?_
        exact ⟨i + 1, ⟨by omega, by rw [take_any _ _ [] i (by omega), hn]; exact h35⟩, by first | omega | (simp; omega), le_of ⟨rfl, rfl, rfl⟩ trivial rfl⟩
  · try simp only [decide_eq_false_iff_not, Int.not_lt] at h11
    try simp only [Int.toNat_natCast, dflt_sl, dflt_st, dflt_str, dflt_int, dflt_bool] at h11
    refine acode_exit ?_
    refine acode_seq ?_
    refine acode_region ?_
    refine acode_ret ?_
    refine ib_eq ?_
    have e : i = s.length := by omega
    subst e
    rw [List.take_length] at hn
    exact hn.symm

theorem program_c (s : List (List Term)) (hs : SelOk s) : ACall Tryd.prog 17 [.one (.sl (.sl rTerm) s)] (.one (.sl (.sl rTerm) s)) := by
  refine acall_of (rs := [2]) Tryd.func17 rfl rfl rfl teOk rfl ?_
  refine acode_seq ?_
  refine acode_region ?_
  refine acode_seq ?_
  refine acode_region ?_
  refine acode_seq ?_
  refine acode_seq ?_
  refine acode_region ?_
  intro l2_1
  try simp only [Int.toNat_natCast, dflt_sl, dflt_st, dflt_str, dflt_int, dflt_bool] at l2_1
  refine acode_block ?_
  refine acode_loopP (fun (i : Nat) => i ≤ s.length) (fun (i : Nat) => [(3, .one (.vec 0)), (10, .one (.sl (.sl rTerm) s)), (11, ii .i64 s.length), (12, ii .i64 i)]) (fun (i : Nat) => [(0, .vec 44 (.sl rTerm) (s.take i))]) 1 (fun (i : Nat) => s.length - i) 0 (Nat.zero_le _) (le_of ⟨rfl, rfl, rfl, rfl⟩ rfl rfl) ?_
  intro i hI0
  refine acode_seq ?_
  refine acode_region ?_
  refine acode_seq ?_
  refine acode_cond rfl (fun h13 => ?_) (fun h13 => ?_)
  · try simp only [decide_eq_true_eq] at h13
    try simp only [Int.toNat_natCast, dflt_sl, dflt_st, dflt_str, dflt_int, dflt_bool] at h13
    have hr := hs.2 _ (getD_mem (show i < s.length by omega) [])
    have hs1 := hs.1
    refine acode_skip ?_
    refine acode_seq ?_
    refine acode_block ?_
    refine acode_seq ?_
    refine acode_region ?_
    refine And.intro (by first | omega | assumption | decide | (simp only [Int.toNat_natCast, dflt_sl, dflt_st, dflt_str, dflt_int, dflt_bool]; omega) | (simp; omega)) ?_
    refine acode_seq ?_
    refine acode_region ?_
    refine acode_seq ?_
    refine acode_seq ?_
    refine acode_region ?_
    intro l6_1
    try simp only [Int.toNat_natCast, dflt_sl] at l6_1
    refine acode_block ?_
    refine acode_loopP (fun (j : Nat) => j ≤ (s.getD i []).length) (fun (j : Nat) => [(3, .one (.vec 0)), (10, .one (.sl (.sl rTerm) s)), (11, ii .i64 s.length), (12, ii .i64 i), (6, .one (.vec 1)), (17, .one (.sl rTerm (s.getD i []))), (18, ii .i64 (s.getD i []).length), (19, ii .i64 j)]) (fun (j : Nat) => [(0, .vec 44 (.sl rTerm) (s.take i)), (1, .vec 46 rTerm ((s.getD i []).take j))]) 2 (fun (j : Nat) => (s.getD i []).length - j) 0 (Nat.zero_le _) (le_of ⟨rfl, rfl, rfl, rfl, rfl, rfl, rfl, rfl⟩ ⟨rfl, rfl⟩ rfl) ?_
    intro j hI2
    refine acode_seq ?_
    refine acode_region ?_
    refine acode_seq ?_
    refine acode_cond rfl (fun h20 => ?_) (fun h20 => ?_)
    · try simp only [decide_eq_true_eq] at h20
      try simp only [Int.toNat_natCast, dflt_sl, dflt_st, dflt_str, dflt_int, dflt_bool] at h20
      refine acode_skip ?_
      refine acode_seq ?_
      refine acode_block ?_
      refine acode_seq ?_
      refine acode_region ?_
      refine And.intro (by first | omega | assumption | decide | (simp only [Int.toNat_natCast, dflt_sl, dflt_st, dflt_str, dflt_int, dflt_bool]; omega) | (simp; omega)) ?_
      refine acode_region ?_
      refine And.intro (by show (((s.getD i []).take j).length + 1) * 48 ≤ 140737488355328; rw [List.length_take]; omega) ?_
      refine acode_region ?_
      refine And.intro (by first | omega | assumption | decide | (simp only [Int.toNat_natCast, dflt_sl, dflt_st, dflt_str, dflt_int, dflt_bool]; omega) | (simp; omega)) ?_
      exact ⟨j + 1, by omega, by first | omega | (simp; omega), le_of ⟨rfl, rfl, rfl, rfl, rfl, rfl, rfl, rfl⟩ ⟨rfl, (vec_eq (take_snoc (false, ByteArray.empty, 0, ByteArray.empty) (by omega)))⟩ rfl⟩
    · try simp only [decide_eq_false_iff_not, Int.not_lt] at h20
      try simp only [Int.toNat_natCast, dflt_sl, dflt_st, dflt_str, dflt_int, dflt_bool] at h20
      refine acode_exit ?_
      have e2 : j = (s.getD i []).length := by omega
      subst e2
      refine acode_region ?_
      refine And.intro (by show ((s.take i).length + 1) * 24 ≤ 140737488355328; rw [List.length_take]; omega) ?_
      refine acode_region ?_
      refine And.intro (by first | omega | assumption | decide | (simp only [Int.toNat_natCast, dflt_sl, dflt_st, dflt_str, dflt_int, dflt_bool]; omega) | (simp; omega)) ?_
      exact ⟨i + 1, by omega, by first | omega | (simp; omega), le_of ⟨rfl, rfl, rfl, rfl⟩ (vec_eq ((congrArg (s.take i ++ [·]) (List.take_length)).trans (take_snoc [] (by omega)))) rfl⟩
  · try simp only [decide_eq_false_iff_not, Int.not_lt] at h13
    try simp only [Int.toNat_natCast, dflt_sl, dflt_st, dflt_str, dflt_int, dflt_bool] at h13
    refine acode_exit ?_
    refine acode_seq ?_
    refine acode_region ?_
    refine acode_ret ?_
    refine sl_eq ?_
    have e : i = s.length := by omega
    subst e
    exact List.take_length

def bigT (t : Term) : Bool := decide (100 < t.2.1.size) || decide (500 < t.2.2.2.size)
def bigR (r : List Term) : Bool := decide (24 < r.length) || r.any bigT
def largeB (s : List (List Term)) : Bool := decide (25 < s.length) || s.any bigR
theorem large_c (s : List (List Term)) : ACall Tryd.prog 16 [.one (.sl (.sl rTerm) s)] (ib (largeB s)) := by
  refine acall_of (rs := [2]) Tryd.func16 rfl rfl rfl teOk rfl ?_
  refine acode_seq ?_
  refine acode_region ?_
  refine acode_seq ?_
  refine acode_seq ?_
  refine acode_region ?_
  intro l1_1
  try simp only [Int.toNat_natCast, dflt_sl, dflt_st, dflt_str, dflt_int, dflt_bool] at l1_1
  refine acode_block ?_
  refine acode_loopP (fun (i : Nat) => i ≤ s.length ∧ i ≤ 25 ∧ (s.take i).any bigR = false) (fun (i : Nat) => [(7, .one (.sl (.sl rTerm) s)), (8, ii .i64 s.length), (9, ii .i64 i)]) (fun (i : Nat) => []) 0 (fun (i : Nat) => s.length - i) 0 (⟨Nat.zero_le _, Nat.zero_le _, rfl⟩) (le_of ⟨rfl, rfl, rfl⟩ trivial rfl) ?_
  intro i hI0
  obtain ⟨hi, hi2, hn⟩ := hI0
  refine acode_seq ?_
  refine acode_region ?_
  refine acode_seq ?_
  refine acode_cond rfl (fun h10 => ?_) (fun h10 => ?_)
  · try simp only [decide_eq_true_eq] at h10
    try simp only [Int.toNat_natCast, dflt_sl, dflt_st, dflt_str, dflt_int, dflt_bool] at h10
    refine acode_skip ?_
    refine acode_seq ?_
    refine acode_block ?_
    refine acode_seq ?_
    refine acode_region ?_
    refine And.intro (by first | omega | assumption | decide | (simp only [Int.toNat_natCast, dflt_sl, dflt_st, dflt_str, dflt_int, dflt_bool]; omega) | (simp; omega)) ?_
    refine acode_seq ?_
    refine acode_seq ?_
    refine acode_region ?_
    refine And.intro (fun h => trivial) ?_
    refine And.intro (fun h => ⟨⟨h, trivial⟩, trivial⟩) ?_
    refine And.intro (fun h => ⟨⟨h, trivial⟩, trivial⟩) ?_
    refine And.intro (by intro h; rw [h]; rfl) ?_
    refine acode_cond rfl (fun h20 => ?_) (fun h20 => ?_)
    · try simp only [decide_eq_true_eq, Bool.or_eq_true] at h20
      try simp only [Int.toNat_natCast, dflt_sl] at h20
      refine acode_seq ?_
      refine acode_region ?_
      refine acode_ret ?_
      refine ib_eq ?_
      unfold largeB
      rcases h20 with h | h
      (rw [decide_eq_true (show 25 < s.length by omega)]; rfl)
      rw [any_at (p := bigR) [] (show i < s.length by omega) (by unfold bigR; rw [decide_eq_true (by omega)]; rfl), Bool.or_true]
    · try simp only [decide_eq_false_iff_not, Bool.or_eq_false_iff, Int.not_lt] at h20
      try simp only [Int.toNat_natCast, dflt_sl] at h20
      refine acode_skip ?_
      refine acode_seq ?_
      refine acode_region ?_
      intro l6_1
      try simp only [Int.toNat_natCast, dflt_sl] at l6_1
      refine acode_block ?_
      refine acode_loopP (fun (j : Nat) => j ≤ (s.getD i []).length ∧ ((s.getD i []).take j).any bigT = false) (fun (j : Nat) => [(7, .one (.sl (.sl rTerm) s)), (8, ii .i64 s.length), (9, ii .i64 i), (21, .one (.sl rTerm (s.getD i []))), (22, ii .i64 (s.getD i []).length), (23, ii .i64 j)]) (fun (j : Nat) => []) 0 (fun (j : Nat) => (s.getD i []).length - j) 0 (⟨Nat.zero_le _, rfl⟩) (le_of ⟨rfl, rfl, rfl, rfl, rfl, rfl⟩ trivial rfl) ?_
      intro j hI2
      obtain ⟨hj, hm⟩ := hI2
      refine acode_seq ?_
      refine acode_region ?_
      refine acode_seq ?_
      refine acode_cond rfl (fun h24 => ?_) (fun h24 => ?_)
      · try simp only [decide_eq_true_eq] at h24
        try simp only [Int.toNat_natCast, dflt_sl, dflt_st, dflt_str, dflt_int, dflt_bool] at h24
        refine acode_skip ?_
        refine acode_seq ?_
        refine acode_block ?_
        refine acode_seq ?_
        refine acode_region ?_
        refine And.intro (by first | omega | assumption | decide | (simp only [Int.toNat_natCast, dflt_sl, dflt_st, dflt_str, dflt_int, dflt_bool]; omega) | (simp; omega)) ?_
        refine acode_seq ?_
        refine acode_region ?_
        refine And.intro (fun h => trivial) ?_
        refine And.intro (fun h => ⟨⟨h, trivial⟩, trivial⟩) ?_
        refine And.intro (fun h => ⟨⟨h, trivial⟩, trivial⟩) ?_
        refine And.intro (fun h => ⟨⟨h, trivial⟩, trivial⟩) ?_
        refine And.intro (by intro h; rw [h]; rfl) ?_
        refine acode_cond rfl (fun h36 => ?_) (fun h36 => ?_)
        · try simp only [decide_eq_true_eq, Bool.or_eq_true] at h36
          try simp only [Int.toNat_natCast, dflt_st, dflt_str, dflt_int, dflt_bool] at h36
          refine acode_seq ?_
          refine acode_region ?_
          refine acode_ret ?_
          refine ib_eq ?_
          unfold largeB
          rw [any_at (p := bigR) [] (show i < s.length by omega) (by unfold bigR; rw [any_at (p := bigT) (false, ByteArray.empty, 0, ByteArray.empty) (show j < (s.getD i []).length by omega) (by unfold bigT; rcases h36 with h | h; (rw [decide_eq_true (by omega)]; rfl); (rw [decide_eq_true (show 500 < _ by omega), Bool.or_true])), Bool.or_true]), Bool.or_true]
        · try simp only [decide_eq_false_iff_not, Bool.or_eq_false_iff, Int.not_lt] at h36
          try simp only [Int.toNat_natCast, dflt_st, dflt_str, dflt_int, dflt_bool] at h36
          have h36' : bigT ((s.getD i []).getD j (false, ByteArray.empty, 0, ByteArray.empty)) = false := by (unfold bigT; rw [decide_eq_false (by omega), decide_eq_false (by omega)]; rfl)
          refine acode_skip ?_
          refine acode_region ?_
          refine And.intro (by first | omega | assumption | decide | (simp only [Int.toNat_natCast, dflt_sl, dflt_st, dflt_str, dflt_int, dflt_bool]; omega) | (simp; omega)) ?_
          exact ⟨j + 1, ⟨by omega, by rw [take_any _ _ (false, ByteArray.empty, 0, ByteArray.empty) j (by omega), hm, h36']; rfl⟩, by first | omega | (simp; omega), le_of ⟨rfl, rfl, rfl, rfl, rfl, rfl⟩ trivial rfl⟩
      · try simp only [decide_eq_false_iff_not, Int.not_lt] at h24
        try simp only [Int.toNat_natCast, dflt_sl, dflt_st, dflt_str, dflt_int, dflt_bool] at h24
        refine acode_exit ?_
        have e2 : j = (s.getD i []).length := by omega
        subst e2
        rw [List.take_length] at hm
        refine acode_region ?_
        refine And.intro (by first | omega | assumption | decide | (simp only [Int.toNat_natCast, dflt_sl, dflt_st, dflt_str, dflt_int, dflt_bool]; omega) | (simp; omega)) ?_
        exact ⟨i + 1, ⟨by omega, by omega, by rw [take_any _ _ [] i (by omega), hn, show bigR (s.getD i []) = false by (unfold bigR; rw [hm, decide_eq_false (by omega)]; rfl)]; rfl⟩, by first | omega | (simp; omega), le_of ⟨rfl, rfl, rfl⟩ trivial rfl⟩
  · try simp only [decide_eq_false_iff_not, Int.not_lt] at h10
    try simp only [Int.toNat_natCast, dflt_sl, dflt_st, dflt_str, dflt_int, dflt_bool] at h10
    refine acode_exit ?_
    refine acode_seq ?_
    refine acode_region ?_
    refine acode_ret ?_
    refine ib_eq ?_
    have e : i = s.length := by omega
    subst e
    rw [List.take_length] at hn
    unfold largeB
    rw [hn, decide_eq_false (by omega)]
    rfl

def sumF (l : List Fld) : Nat := (l.map fun f => min f.1.size 10000 + min f.2.size 10000).sum
def muchB (l : List Fld) : Bool := decide (61 < l.length) || decide (6000 < sumF l)
theorem sumF_take (l : List Fld) (i : Nat) (h : i < l.length) : sumF (l.take (i + 1)) = sumF (l.take i) + (min (l.getD i (ByteArray.empty, ByteArray.empty)).1.size 10000 + min (l.getD i (ByteArray.empty, ByteArray.empty)).2.size 10000) := by
  rw [List.take_succ_eq_append_getElem h, sumF, List.map_append, List.sum_append, List.getD_eq_getElem?_getD, List.getElem?_eq_getElem h]
  simp [sumF]
theorem sumF_le (l : List Fld) (i : Nat) : sumF (l.take i) ≤ sumF l := by
  conv => rhs; rw [← List.take_append_drop i l, sumF, List.map_append, List.sum_append]
  exact Nat.le_add_right _ _
theorem much_c (l : List Fld) : ACall Tryd.prog 26 [.one (.sl rFld l)] (ib (muchB l)) := by
  refine acall_of (rs := [2]) Tryd.func26 rfl rfl rfl teOk rfl ?_
  refine acode_seq ?_
  refine acode_region ?_
  refine acode_seq ?_
  refine acode_region ?_
  refine acode_seq ?_
  refine acode_seq ?_
  refine acode_region ?_
  intro l2_1
  try simp only [Int.toNat_natCast, dflt_sl, dflt_st, dflt_str, dflt_int, dflt_bool] at l2_1
  refine acode_block ?_
  refine acode_loopP (fun (i : Nat) => i ≤ l.length ∧ i ≤ 61 ∧ sumF (l.take i) ≤ 6000) (fun (i : Nat) => [(3, ii .i64 (sumF (l.take i))), (6, .one (.sl rFld l)), (7, ii .i64 l.length), (8, ii .i64 i)]) (fun (i : Nat) => []) 0 (fun (i : Nat) => l.length - i) 0 (⟨Nat.zero_le _, Nat.zero_le _, Nat.zero_le _⟩) (le_of ⟨rfl, rfl, rfl, rfl⟩ trivial rfl) ?_
  intro i hI0
  obtain ⟨hi, hi2, hn⟩ := hI0
  refine acode_seq ?_
  refine acode_region ?_
  refine acode_seq ?_
  refine acode_cond rfl (fun h9 => ?_) (fun h9 => ?_)
  · try simp only [decide_eq_true_eq] at h9
    try simp only [Int.toNat_natCast, dflt_sl, dflt_st, dflt_str, dflt_int, dflt_bool] at h9
    have hs := sumF_take l i (by omega)
    refine acode_skip ?_
    refine acode_seq ?_
    refine acode_block ?_
    refine acode_seq ?_
    refine acode_region ?_
    refine And.intro (by first | omega | assumption | decide | (simp only [Int.toNat_natCast, dflt_sl, dflt_st, dflt_str, dflt_int, dflt_bool]; omega) | (simp; omega)) ?_
    refine acode_seq ?_
    refine acode_region ?_
    refine And.intro (by first | omega | assumption | decide | (simp only [Int.toNat_natCast, dflt_sl, dflt_st, dflt_str, dflt_int, dflt_bool]; omega) | (simp; omega)) ?_
    refine And.intro (by first | omega | assumption | decide | (simp only [Int.toNat_natCast, dflt_sl, dflt_st, dflt_str, dflt_int, dflt_bool]; omega) | (simp; omega)) ?_
    refine acode_seq ?_
    refine acode_region ?_
    refine And.intro (fun h => trivial) ?_
    refine And.intro (fun h => ⟨⟨h, trivial⟩, trivial⟩) ?_
    refine And.intro (by intro h; rw [h]; rfl) ?_
    refine acode_cond rfl (fun h29 => ?_) (fun h29 => ?_)
    · try simp only [decide_eq_true_eq, Bool.or_eq_true] at h29
      try simp only [Int.toNat_natCast, dflt_st, dflt_str] at h29
      refine acode_seq ?_
      refine acode_region ?_
      refine acode_ret ?_
      refine ib_eq ?_
      unfold muchB
      have hz := sumF_le l (i + 1)
      rcases h29 with h | h
      (rw [decide_eq_true (show 61 < l.length by omega)]; rfl)
      rw [decide_eq_true (show 6000 < sumF l by omega), Bool.or_true]
    · try simp only [decide_eq_false_iff_not, Bool.or_eq_false_iff, Int.not_lt] at h29
      try simp only [Int.toNat_natCast, dflt_st, dflt_str] at h29
      refine acode_skip ?_
      refine acode_region ?_
      refine And.intro (by first | omega | assumption | decide | (simp only [Int.toNat_natCast, dflt_sl, dflt_st, dflt_str, dflt_int, dflt_bool]; omega) | (simp; omega)) ?_
      exact ⟨i + 1, ⟨by omega, by omega, by omega⟩, by first | omega | (simp; omega), le_of ⟨(ii_eq (by (simp only [Int.toNat_natCast, dflt_st, dflt_str]; omega))), rfl, rfl, rfl⟩ trivial rfl⟩
  · try simp only [decide_eq_false_iff_not, Int.not_lt] at h9
    try simp only [Int.toNat_natCast, dflt_sl, dflt_st, dflt_str, dflt_int, dflt_bool] at h9
    refine acode_exit ?_
    refine acode_seq ?_
    refine acode_region ?_
    refine acode_ret ?_
    refine ib_eq ?_
    have e : i = l.length := by omega
    subst e
    rw [List.take_length] at hn
    unfold muchB
    rw [decide_eq_false (by omega), decide_eq_false (by omega)]
    rfl

theorem getD_ext {α : Type} {a b : List α} (d : α) (hl : a.length = b.length) (h : ∀ k, k < a.length → a.getD k d = b.getD k d) : a = b := by
  refine List.ext_getElem hl fun k h1 h2 => ?_
  have := h k h1
  rw [List.getD_eq_getElem?_getD, List.getD_eq_getElem?_getD, List.getElem?_eq_getElem h1, List.getElem?_eq_getElem h2] at this
  exact this
theorem same_c (a b : List (List Term)) : ACall Tryd.prog 21 [.one (.sl (.sl rTerm) a), .one (.sl (.sl rTerm) b)] (ib (decide (a = b))) := by
  refine acall_of (rs := [4]) Tryd.func21 rfl rfl rfl teOk rfl ?_
  refine acode_seq ?_
  refine acode_region ?_
  refine acode_seq ?_
  refine acode_seq ?_
  refine acode_region ?_
  intro l1_1
  try simp only [Int.toNat_natCast, dflt_sl, dflt_st, dflt_str, dflt_int, dflt_bool] at l1_1
  intro l1_3
  try simp only [Int.toNat_natCast, dflt_sl, dflt_st, dflt_str, dflt_int, dflt_bool] at l1_3
  refine acode_cond rfl (fun h11 => ?_) (fun h11 => ?_)
  · try simp only [decide_eq_false_iff_not, Bool.not_eq_true'] at h11
    try simp only [Int.toNat_natCast, dflt_sl, dflt_st, dflt_str, dflt_int, dflt_bool] at h11
    refine acode_seq ?_
    refine acode_region ?_
    refine acode_ret ?_
    refine ib_eq ?_
    exact (decide_eq_false (fun e => by subst e; exact h11 rfl)).symm
  · try simp only [decide_eq_true_eq, Bool.not_eq_false'] at h11
    try simp only [Int.toNat_natCast, dflt_sl, dflt_st, dflt_str, dflt_int, dflt_bool] at h11
    refine acode_skip ?_
    refine acode_seq ?_
    refine acode_seq ?_
    refine acode_region ?_
    intro l3_1
    try simp only [Int.toNat_natCast, dflt_sl, dflt_st, dflt_str, dflt_int, dflt_bool] at l3_1
    refine acode_block ?_
    refine acode_loopP (fun (i : Nat) => i ≤ a.length ∧ ∀ k, k < i → a.getD k [] = b.getD k []) (fun (i : Nat) => [(0, .one (.sl (.sl rTerm) a)), (1, .one (.sl (.sl rTerm) b)), (13, ii .i64 a.length), (14, ii .i64 i)]) (fun (i : Nat) => []) 0 (fun (i : Nat) => a.length - i) 0 (⟨Nat.zero_le _, fun k h => absurd h (Nat.not_lt_zero _)⟩) (le_of ⟨rfl, rfl, rfl, rfl⟩ trivial rfl) ?_
    intro i hI0
    obtain ⟨hi, hn⟩ := hI0
    refine acode_seq ?_
    refine acode_region ?_
    refine acode_seq ?_
    refine acode_cond rfl (fun h15 => ?_) (fun h15 => ?_)
    · try simp only [decide_eq_true_eq] at h15
      try simp only [Int.toNat_natCast, dflt_sl, dflt_st, dflt_str, dflt_int, dflt_bool] at h15
      refine acode_skip ?_
      refine acode_seq ?_
      refine acode_block ?_
      refine acode_seq ?_
      refine acode_region ?_
      refine acode_seq ?_
      refine acode_seq ?_
      refine acode_draw rfl (by kernel_rfl) ?_
      refine And.intro (by first | omega | assumption | decide | (simp only [Int.toNat_natCast, dflt_sl, dflt_st, dflt_str, dflt_int, dflt_bool]; omega) | (simp; omega)) ?_
      refine And.intro (by first | omega | assumption | decide | (simp only [Int.toNat_natCast, dflt_sl, dflt_st, dflt_str, dflt_int, dflt_bool]; omega) | (simp; omega)) ?_
      refine acode_cond rfl (fun h27 => ?_) (fun h27 => ?_)
      · try simp only [decide_eq_false_iff_not, Bool.not_eq_true'] at h27
        try simp only [Int.toNat_natCast, dflt_sl] at h27
        refine acode_seq ?_
        refine acode_region ?_
        refine acode_ret ?_
        refine ib_eq ?_
        exact (decide_eq_false (fun e => by subst e; exact h27 rfl)).symm
      · try simp only [decide_eq_true_eq, Bool.not_eq_false'] at h27
        try simp only [Int.toNat_natCast, dflt_sl] at h27
        refine acode_skip ?_
        refine acode_seq ?_
        refine acode_region ?_
        refine And.intro (by first | omega | assumption | decide | (simp only [Int.toNat_natCast, dflt_sl, dflt_st, dflt_str, dflt_int, dflt_bool]; omega) | (simp; omega)) ?_
        intro l8_4
        try simp only [Int.toNat_natCast, dflt_sl] at l8_4
        refine acode_block ?_
        refine acode_loopP (fun (j : Nat) => j ≤ (a.getD i []).length ∧ ∀ k, k < j → (a.getD i []).getD k (false, ByteArray.empty, 0, ByteArray.empty) = (b.getD i []).getD k (false, ByteArray.empty, 0, ByteArray.empty)) (fun (j : Nat) => [(0, .one (.sl (.sl rTerm) a)), (1, .one (.sl (.sl rTerm) b)), (5, ii .i64 i), (13, ii .i64 a.length), (14, ii .i64 i), (32, ii .i64 (a.getD i []).length), (33, ii .i64 j)]) (fun (j : Nat) => []) 0 (fun (j : Nat) => (a.getD i []).length - j) 0 (⟨Nat.zero_le _, fun k h => absurd h (Nat.not_lt_zero _)⟩) (le_of ⟨rfl, rfl, rfl, rfl, rfl, rfl, rfl⟩ trivial rfl) ?_
        intro j hI2
        obtain ⟨hj, hm⟩ := hI2
        refine acode_seq ?_
        refine acode_region ?_
        refine acode_seq ?_
        refine acode_cond rfl (fun h34 => ?_) (fun h34 => ?_)
        · try simp only [decide_eq_true_eq] at h34
          try simp only [Int.toNat_natCast, dflt_sl, dflt_st, dflt_str, dflt_int, dflt_bool] at h34
          refine acode_skip ?_
          refine acode_seq ?_
          refine acode_block ?_
          refine acode_seq ?_
          refine acode_region ?_
          refine acode_seq ?_
          refine acode_draw rfl (by kernel_rfl) ?_
          refine And.intro (by first | omega | assumption | decide | (simp only [Int.toNat_natCast, dflt_sl, dflt_st, dflt_str, dflt_int, dflt_bool]; omega) | (simp; omega)) ?_
          refine And.intro (by first | omega | assumption | decide | (simp only [Int.toNat_natCast, dflt_sl]; omega) | (simp; omega)) ?_
          refine And.intro (by first | omega | assumption | decide | (simp only [Int.toNat_natCast, dflt_sl, dflt_st, dflt_str, dflt_int, dflt_bool]; omega) | (simp; omega)) ?_
          refine And.intro (by first | omega | assumption | decide | (simp only [Int.toNat_natCast, dflt_sl]; omega) | (simp; omega)) ?_
          refine And.intro (by rfl) ?_
          refine acode_cond rfl (fun h50 => ?_) (fun h50 => ?_)
          · try simp only [decide_eq_false_iff_not, Bool.not_eq_true', Bool.and_eq_false_iff] at h50
            try simp only [Int.toNat_natCast, dflt_sl, dflt_st, dflt_str, dflt_int, dflt_bool] at h50
            refine acode_seq ?_
            refine acode_region ?_
            refine acode_ret ?_
            refine ib_eq ?_
            refine (decide_eq_false (fun e => ?_)).symm
            subst e
            simp at h50
          · try simp only [decide_eq_true_eq, Bool.and_eq_true, Bool.not_eq_false'] at h50
            try simp only [Int.toNat_natCast, dflt_sl, dflt_st, dflt_str, dflt_int, dflt_bool] at h50
            refine acode_skip ?_
            refine acode_region ?_
            refine And.intro (by first | omega | assumption | decide | (simp only [Int.toNat_natCast, dflt_sl, dflt_st, dflt_str, dflt_int, dflt_bool]; omega) | (simp; omega)) ?_
            exact ⟨j + 1, ⟨by omega, fun k hk => by (rcases Nat.lt_or_eq_of_le (Nat.le_of_lt_succ hk) with h|h; exact hm k h; subst h; exact Prod.ext (beq_iff_eq.1 h50.1) (Prod.ext h50.2.1 (Prod.ext h50.2.2.1 h50.2.2.2)))⟩, by first | omega | (simp; omega), le_of ⟨rfl, rfl, rfl, rfl, rfl, rfl, rfl⟩ trivial rfl⟩
        · try simp only [decide_eq_false_iff_not, Int.not_lt] at h34
          try simp only [Int.toNat_natCast, dflt_sl, dflt_st, dflt_str, dflt_int, dflt_bool] at h34
          refine acode_exit ?_
          refine acode_region ?_
          refine And.intro (by first | omega | assumption | decide | (simp only [Int.toNat_natCast, dflt_sl, dflt_st, dflt_str, dflt_int, dflt_bool]; omega) | (simp; omega)) ?_
          exact ⟨i + 1, ⟨by omega, fun k hk => by (rcases Nat.lt_or_eq_of_le (Nat.le_of_lt_succ hk) with h|h; exact hn k h; subst h; exact getD_ext (false, ByteArray.empty, 0, ByteArray.empty) (by omega) (fun m hq => hm m (by omega)))⟩, by first | omega | (simp; omega), le_of ⟨rfl, rfl, rfl, rfl⟩ trivial rfl⟩
    · try simp only [decide_eq_false_iff_not, Int.not_lt] at h15
      try simp only [Int.toNat_natCast, dflt_sl, dflt_st, dflt_str, dflt_int, dflt_bool] at h15
      refine acode_exit ?_
      refine acode_seq ?_
      refine acode_region ?_
      refine acode_ret ?_
      refine ib_eq ?_
      exact (decide_eq_true (getD_ext [] (by omega) (fun k hk => hn k (by omega)))).symm
end Q
end Ab
end Go.Proofs.YthlfbpmbkcoclaaDoor
