/-
  Which selectors are good: the program's answer and the document's.
-/
import Derived.Test.YthlfbpmbkcoclaaDoorQKey
namespace Go.Proofs.YthlfbpmbkcoclaaDoor
open Go.RowKit
namespace Ab
set_option maxRecDepth 100000
namespace Q
theorem index_P (f : FuncId) (l : List (Term)) (p : Term → Bool) (hp : ∀ x ∈ l, ACall Tryd.prog f [.agg (toL rTerm x)] (ib (p x))) : ACall Tryd.prog 110 [.one (.sl rTerm l), .one (.lit (.func (.func f) #[] #[]))] (ii .i64 (ixOf p l)) := by
  refine acall_of (rs := [4]) Tryd.func110 rfl rfl rfl teOk rfl ?_
  refine acode_seq ?_
  refine acode_region ?_
  refine acode_seq ?_
  refine acode_seq ?_
  refine acode_region ?_
  intro l1_1
  try simp only [Int.toNat_natCast, dflt_sl, dflt_st, dflt_str, dflt_int, dflt_bool] at l1_1
  refine acode_block ?_
  refine acode_loopP (fun (i : Nat) => i ≤ l.length ∧ (l.take i).any p = false) (fun (i : Nat) => [(0, .one (.sl rTerm l)), (1, .one (.lit (.func (.func f) #[] #[]))), (7, ii .i64 l.length), (8, ii .i64 i)]) (fun (i : Nat) => []) 0 (fun (i : Nat) => l.length - i) 0 (⟨Nat.zero_le _, rfl⟩) (le_of ⟨rfl, rfl, rfl, rfl⟩ trivial rfl) ?_
  intro i hI0
  obtain ⟨hi, hn⟩ := hI0
  refine acode_seq ?_
  refine acode_region ?_
  refine acode_seq ?_
  refine acode_cond rfl (fun h9 => ?_) (fun h9 => ?_)
  · try simp only [decide_eq_true_eq] at h9
    try simp only [Int.toNat_natCast, dflt_sl, dflt_st, dflt_str, dflt_int, dflt_bool] at h9
    refine acode_skip ?_
    refine acode_seq ?_
    refine acode_block ?_
    refine acode_seq ?_
    refine acode_region ?_
    refine acode_seq ?_
    refine acode_region ?_
    refine And.intro (by first | omega | assumption | decide | (simp only [Int.toNat_natCast, dflt_sl, dflt_st, dflt_str, dflt_int, dflt_bool]; omega) | (simp; omega)) ?_
    refine Or.inl ?_
    refine And.intro (rfl) ?_
    refine Exists.intro _ (And.intro (hp _ (getD_mem (show i < l.length by omega) _)) ?_)
    refine acode_cond rfl (fun h16 => ?_) (fun h16 => ?_)
    · try simp only [decide_eq_true_eq, decide_eq_false_iff_not, Bool.and_eq_true, Bool.not_eq_true', Bool.not_eq_false', Bool.or_eq_false_iff, Bool.or_eq_true, Bool.and_eq_false_iff, Int.not_lt, Int.not_le] at h16
      try simp only [Int.toNat_natCast, dflt_st, dflt_str, dflt_int, dflt_bool] at h16
      refine acode_seq ?_
      refine acode_region ?_
      refine acode_ret ?_
      exact ii_eq (ixOf_at (rTerm).dflt (by omega) hn h16).symm
    · try simp only [decide_eq_true_eq, decide_eq_false_iff_not, Bool.and_eq_true, Bool.not_eq_true', Bool.not_eq_false', Bool.or_eq_false_iff, Bool.or_eq_true, Bool.and_eq_false_iff, Int.not_lt, Int.not_le] at h16
      try simp only [Int.toNat_natCast, dflt_st, dflt_str, dflt_int, dflt_bool] at h16
      refine acode_skip ?_
      refine acode_region ?_
      refine And.intro (by first | omega | assumption | decide | (simp only [Int.toNat_natCast, dflt_sl, dflt_st, dflt_str, dflt_int, dflt_bool]; omega) | (simp; omega)) ?_
      exact ⟨i + 1, ⟨by omega, by rw [take_any l p (rTerm).dflt i (by omega), hn]; exact h16⟩, by first | omega | (simp; omega), le_of ⟨rfl, rfl, rfl, rfl⟩ trivial rfl⟩
  · try simp only [decide_eq_false_iff_not, Int.not_lt] at h9
    try simp only [Int.toNat_natCast, dflt_sl, dflt_st, dflt_str, dflt_int, dflt_bool] at h9
    refine acode_exit ?_
    refine acode_seq ?_
    refine acode_region ?_
    refine acode_ret ?_
    have e : i = l.length := by omega
    subst e
    rw [List.take_length] at hn
    exact ii_eq (ixOf_none hn).symm
theorem contains_P (f : FuncId) (l : List (Term)) (p : Term → Bool) (hp : ∀ x ∈ l, ACall Tryd.prog f [.agg (toL rTerm x)] (ib (p x))) : ACall Tryd.prog 67 [.one (.sl rTerm l), .one (.lit (.func (.func f) #[] #[]))] (ib (l.any p)) := by
  refine acall_of (rs := [4]) Tryd.func67 rfl rfl rfl teOk rfl ?_
  refine acode_seq ?_
  refine acode_region ?_
  refine acode_seq ?_
  refine acode_region ?_
  refine Or.inl ?_
  refine And.intro (rfl) ?_
  refine Exists.intro _ (And.intro (index_P f l p hp) ?_)
  refine acode_ret ?_
  exact ib_eq (ixOf_ge p l)
def goodT (t : Term) : Bool := (((keyOk t.2.1.data.toList && decide (1 ≤ t.2.2.1)) && decide (t.2.2.1 ≤ 5)) && (!decide (t.2.2.1 = 1) || decide (t.2.2.2 = ⟨#[]⟩)))
def goodR (r : List Term) : Bool := decide (r.length ≤ 20) && r.all goodT
def goodS (s : List (List Term)) : Bool := decide (s.length ≤ 20) && s.all goodR
/-- No text is too large. -/
def TxtOk (t : Term) : Prop := t.2.1.size ≤ 1000000 ∧ t.2.2.2.size ≤ 1000000
def TxtsOk (s : List (List Term)) : Prop := ∀ r ∈ s, ∀ t ∈ r, TxtOk t
theorem good1_c (t : Term) (ht : TxtOk t) : ACall Tryd.prog 69 [.agg (toL rTerm t)] (ib (goodT t)) := by
  refine acall_of (rs := [2]) Tryd.func69 rfl rfl rfl teOk rfl ?_
  refine acode_seq ?_
  refine acode_region ?_
  refine acode_seq ?_
  refine acode_region ?_
  refine Or.inl ?_
  refine And.intro (rfl) ?_
  refine Exists.intro _ (And.intro (key_c _ (Nat.le_trans ht.1 (by decide))) ?_)
  refine And.intro (fun h => trivial) ?_
  refine And.intro (fun h => ⟨⟨h, trivial⟩, trivial⟩) ?_
  refine And.intro (fun h => ⟨⟨h, trivial⟩, trivial⟩) ?_
  refine And.intro (by exact fun h => h) ?_
  refine And.intro (fun h => trivial) ?_
  refine And.intro (fun h => ⟨⟨h, trivial⟩, trivial⟩) ?_
  refine And.intro (fun h => ⟨⟨h, trivial⟩, trivial⟩) ?_
  refine And.intro (by exact fun h => h) ?_
  refine And.intro (fun h => trivial) ?_
  refine And.intro (fun h => ⟨⟨h, trivial⟩, trivial⟩) ?_
  refine And.intro (fun h => ⟨⟨h, trivial⟩, trivial⟩) ?_
  refine And.intro (fun h => ⟨⟨h, trivial⟩, trivial⟩) ?_
  refine And.intro (fun h => trivial) ?_
  refine And.intro (fun h => ⟨⟨h, trivial⟩, trivial⟩) ?_
  refine And.intro (fun h => ⟨⟨h, trivial⟩, trivial⟩) ?_
  refine And.intro (fun h => ⟨⟨⟨h, trivial⟩, trivial⟩, by first | exact fun h2 => h2 | (intro h2; rw [h, h2]; rfl) | (intro h2; cases h2) | (intro h2; simp_all [gq])⟩) ?_
  refine And.intro (by exact fun h => h) ?_
  refine acode_ret ?_
  rfl
theorem goodF_c (t : Term) (ht : TxtOk t) : ACall Tryd.prog 68 [.agg (toL rTerm t)] (ib (!goodT t)) := by
  refine acall_of (rs := [2]) Tryd.func68 rfl rfl rfl teOk rfl ?_
  refine acode_seq ?_
  refine acode_region ?_
  refine acode_seq ?_
  refine acode_region ?_
  refine Or.inl ?_
  refine And.intro (rfl) ?_
  refine Exists.intro _ (And.intro (good1_c t ht) ?_)
  refine acode_ret ?_
  rfl
theorem all_take_succ {α : Type} (l : List α) (p : α → Bool) (d : α) (i : Nat) (h : i < l.length) : (l.take (i + 1)).all p = ((l.take i).all p && p (l.getD i d)) := by
  rw [← take_snoc d h, List.all_append]; simp
theorem all_not {α : Type} {l : List α} {p : α → Bool} {i : Nat} (d : α) (h : i < l.length) (hp : p (l.getD i d) = false) : l.all p = false := by
  rw [Bool.eq_false_iff]
  intro e
  have := List.all_eq_true.1 e _ (getD_mem h d)
  rw [hp] at this; cases this
theorem goodT_iff {t : Term} : goodT t = true ↔ ((keyOk t.2.1.data.toList = true ∧ 1 ≤ t.2.2.1) ∧ t.2.2.1 ≤ 5) ∧ (¬ t.2.2.1 = 1 ∨ t.2.2.2 = ⟨#[]⟩) := by
  unfold goodT
  simp only [Bool.and_eq_true, Bool.or_eq_true, decide_eq_true_eq, Bool.not_eq_true', decide_eq_false_iff_not]
theorem goodT_no {t : Term} (h : ((keyOk t.2.1.data.toList = false ∨ t.2.2.1 < 1) ∨ 5 < t.2.2.1) ∨ t.2.2.1 = 1 ∧ ¬ t.2.2.2 = ⟨#[]⟩) : goodT t = false := by
  refine Bool.eq_false_iff.2 fun e => ?_
  obtain ⟨⟨⟨h1, h2⟩, h3⟩, h4⟩ := goodT_iff.1 e
  rcases h with ((h | h) | h) | ⟨h, h5⟩
  · rw [h] at h1; cases h1
  · omega
  · omega
  · exact h4.elim (fun e => e h) h5
theorem any_not {r : List Term} : (r.any fun t => !goodT t) = !r.all goodT := by rw [List.not_all_eq_any_not]
theorem goodR_no {r : List Term} (h : 20 < (r.length : Int) ∨ (r.any fun t => !goodT t) = true) : goodR r = false := by
  unfold goodR
  rcases h with h | h
  · rw [decide_eq_false (by omega)]; rfl
  · rw [any_not] at h
    rw [show r.all goodT = false by simpa using h, Bool.and_false]
theorem goodR_yes {r : List Term} (h : (r.length : Int) ≤ 20 ∧ (r.any fun t => !goodT t) = false) : goodR r = true := by
  unfold goodR
  rw [any_not] at h
  rw [decide_eq_true (by omega), show r.all goodT = true by simpa using h.2]; rfl
theorem good_c (s : List (List Term)) (hs : TxtsOk s) : ACall Tryd.prog 20 [.one (.sl (.sl rTerm) s)] (ib (goodS s)) := by
  refine acall_of (rs := [2]) Tryd.func20 rfl rfl rfl teOk rfl ?_
  refine acode_seq ?_
  refine acode_region ?_
  refine acode_seq ?_
  refine acode_seq ?_
  refine acode_region ?_
  intro l1_1
  try simp only [Int.toNat_natCast, dflt_sl, dflt_st, dflt_str, dflt_int, dflt_bool] at l1_1
  refine acode_cond rfl (fun h7 => ?_) (fun h7 => ?_)
  · try simp only [decide_eq_true_eq] at h7
    try simp only [Int.toNat_natCast, dflt_sl, dflt_st, dflt_str, dflt_int, dflt_bool] at h7
    refine acode_seq ?_
    refine acode_region ?_
    refine acode_ret ?_
    refine ib_eq ?_
    unfold goodS
    rw [decide_eq_false (by omega)]
    rfl
  · try simp only [decide_eq_false_iff_not, Int.not_lt] at h7
    try simp only [Int.toNat_natCast, dflt_sl, dflt_st, dflt_str, dflt_int, dflt_bool] at h7
    refine acode_skip ?_
    refine acode_seq ?_
    refine acode_seq ?_
    refine acode_region ?_
    intro l3_1
    try simp only [Int.toNat_natCast, dflt_sl, dflt_st, dflt_str, dflt_int, dflt_bool] at l3_1
    refine acode_block ?_
    refine acode_loopP (fun (i : Nat) => i ≤ s.length ∧ (s.take i).all goodR = true) (fun (i : Nat) => [(8, .one (.sl (.sl rTerm) s)), (9, ii .i64 s.length), (10, ii .i64 i)]) (fun (i : Nat) => []) 0 (fun (i : Nat) => s.length - i) 0 (⟨Nat.zero_le _, rfl⟩) (le_of ⟨rfl, rfl, rfl⟩ trivial rfl) ?_
    intro i hI0
    obtain ⟨hi, hn⟩ := hI0
    refine acode_seq ?_
    refine acode_region ?_
    refine acode_seq ?_
    refine acode_cond rfl (fun h11 => ?_) (fun h11 => ?_)
    · try simp only [decide_eq_true_eq] at h11
      try simp only [Int.toNat_natCast, dflt_sl, dflt_st, dflt_str, dflt_int, dflt_bool] at h11
      have hm := getD_mem (show i < s.length by omega) []
      refine acode_skip ?_
      refine acode_seq ?_
      refine acode_block ?_
      refine acode_seq ?_
      refine acode_region ?_
      refine And.intro (by first | omega | assumption | decide | (simp only [Int.toNat_natCast, dflt_sl, dflt_st, dflt_str, dflt_int, dflt_bool]; omega) | (simp; omega)) ?_
      refine acode_seq ?_
      refine acode_region ?_
      intro l6_1
      try simp only [Int.toNat_natCast, dflt_sl] at l6_1
      refine And.intro (fun h => trivial) ?_
      refine And.intro (rfl) ?_
      refine Exists.intro _ (And.intro (fun h => ⟨⟨⟨h, trivial⟩, trivial⟩, contains_P _ _ (fun t => !goodT t) fun t ht => goodF_c t (hs _ hm t ht)⟩) ?_)
      refine And.intro (by first | (intro h; rw [h]; rfl) | (intro h; cases h)) ?_
      refine acode_cond rfl (fun h20 => ?_) (fun h20 => ?_)
      · try simp only [decide_eq_true_eq, Bool.or_eq_true] at h20
        try simp only [Int.toNat_natCast, dflt_sl] at h20
        have hg := goodR_no h20
        refine acode_seq ?_
        refine acode_region ?_
        refine acode_ret ?_
        refine ib_eq ?_
        unfold goodS
        rw [all_not [] (by omega) hg, Bool.and_false]
      · try simp only [decide_eq_false_iff_not, Bool.or_eq_false_iff, Int.not_lt] at h20
        try simp only [Int.toNat_natCast, dflt_sl] at h20
        have hg := goodR_yes h20
        refine acode_skip ?_
        refine acode_region ?_
        refine And.intro (by first | omega | assumption | decide | (simp only [Int.toNat_natCast, dflt_sl, dflt_st, dflt_str, dflt_int, dflt_bool]; omega) | (simp; omega)) ?_
        exact ⟨i + 1, ⟨by omega, by rw [all_take_succ s goodR [] i (by omega), hn, hg]; rfl⟩, by first | omega | (simp; omega), le_of ⟨rfl, rfl, rfl⟩ trivial rfl⟩
    · try simp only [decide_eq_false_iff_not, Int.not_lt] at h11
      try simp only [Int.toNat_natCast, dflt_sl, dflt_st, dflt_str, dflt_int, dflt_bool] at h11
      refine acode_exit ?_
      refine acode_seq ?_
      refine acode_region ?_
      refine acode_ret ?_
      refine ib_eq ?_
      unfold goodS
      rw [List.take_of_length_le (by omega)] at hn
      rw [hn, decide_eq_true (by omega)]
      rfl
theorem refGood_c (s : List (List Term)) (hs : TxtsOk s) : ACall Tryd.prog 19 [.one (.sl (.sl rTerm) s)] (ib (goodS s)) := by
  refine acall_of (rs := [2]) Tryd.func19 rfl rfl rfl teOk rfl ?_
  refine acode_seq ?_
  refine acode_region ?_
  refine acode_seq ?_
  refine acode_seq ?_
  refine acode_region ?_
  intro l1_1
  try simp only [Int.toNat_natCast, dflt_sl, dflt_st, dflt_str, dflt_int, dflt_bool] at l1_1
  refine acode_cond rfl (fun h8 => ?_) (fun h8 => ?_)
  · try simp only [decide_eq_true_eq] at h8
    try simp only [Int.toNat_natCast, dflt_sl, dflt_st, dflt_str, dflt_int, dflt_bool] at h8
    refine acode_seq ?_
    refine acode_region ?_
    refine acode_ret ?_
    refine ib_eq ?_
    unfold goodS
    rw [decide_eq_false (by omega)]
    rfl
  · try simp only [decide_eq_false_iff_not, Int.not_lt] at h8
    try simp only [Int.toNat_natCast, dflt_sl, dflt_st, dflt_str, dflt_int, dflt_bool] at h8
    refine acode_skip ?_
    refine acode_seq ?_
    refine acode_seq ?_
    refine acode_region ?_
    refine acode_block ?_
    refine acode_loopP (fun (i : Nat) => i ≤ s.length ∧ (s.take i).all goodR = true) (fun (i : Nat) => [(0, .one (.sl (.sl rTerm) s)), (3, ii .i64 i)]) (fun (i : Nat) => []) 0 (fun (i : Nat) => s.length - i) 0 (⟨Nat.zero_le _, rfl⟩) (le_of ⟨rfl, rfl⟩ trivial rfl) ?_
    intro i hI0
    obtain ⟨hi, hn⟩ := hI0
    refine acode_seq ?_
    refine acode_seq ?_
    refine acode_region ?_
    intro l4_2
    try simp only [Int.toNat_natCast, dflt_sl, dflt_st, dflt_str, dflt_int, dflt_bool] at l4_2
    refine acode_cond rfl (fun h12 => ?_) (fun h12 => ?_)
    · try simp only [decide_eq_true_eq] at h12
      try simp only [Int.toNat_natCast, dflt_sl, dflt_st, dflt_str, dflt_int, dflt_bool] at h12
      have hm := getD_mem (show i < s.length by omega) []
      refine acode_skip ?_
      refine acode_seq ?_
      refine acode_block ?_
      refine acode_seq ?_
      refine acode_seq ?_
      refine acode_region ?_
      refine And.intro (by first | omega | assumption | decide | (simp only [Int.toNat_natCast, dflt_sl, dflt_st, dflt_str, dflt_int, dflt_bool]; omega) | (simp; omega)) ?_
      intro l6_4
      try simp only [Int.toNat_natCast, dflt_sl] at l6_4
      refine acode_cond rfl (fun h20 => ?_) (fun h20 => ?_)
      · try simp only [decide_eq_true_eq] at h20
        try simp only [Int.toNat_natCast, dflt_sl] at h20
        refine acode_seq ?_
        refine acode_region ?_
        refine acode_ret ?_
        refine ib_eq ?_
        unfold goodS
        rw [all_not [] (show i < s.length by omega) (goodR_no (.inl h20)), Bool.and_false]
      · try simp only [decide_eq_false_iff_not, Int.not_lt] at h20
        try simp only [Int.toNat_natCast, dflt_sl] at h20
        refine acode_skip ?_
        refine acode_seq ?_
        refine acode_region ?_
        refine acode_block ?_
        refine acode_loopP (fun (k : Nat) => k ≤ (s.getD i []).length ∧ ((s.getD i []).take k).all goodT = true) (fun (k : Nat) => [(0, .one (.sl (.sl rTerm) s)), (3, ii .i64 i), (4, ii .i64 k)]) (fun (k : Nat) => []) 0 (fun (k : Nat) => (s.getD i []).length - k) 0 (⟨Nat.zero_le _, rfl⟩) (le_of ⟨rfl, rfl, rfl⟩ trivial rfl) ?_
        intro k hI2
        obtain ⟨hk, hn2⟩ := hI2
        refine acode_seq ?_
        refine acode_seq ?_
        refine acode_region ?_
        refine And.intro (by first | omega | assumption | decide | (simp only [Int.toNat_natCast, dflt_sl, dflt_st, dflt_str, dflt_int, dflt_bool]; omega) | (simp; omega)) ?_
        intro l9_5
        try simp only [Int.toNat_natCast, dflt_sl] at l9_5
        refine acode_cond rfl (fun h27 => ?_) (fun h27 => ?_)
        · try simp only [decide_eq_true_eq] at h27
          try simp only [Int.toNat_natCast, dflt_sl] at h27
          have hm2 := getD_mem (show k < (s.getD i []).length by omega) (false, ByteArray.empty, 0, ByteArray.empty)
          refine acode_skip ?_
          refine acode_seq ?_
          refine acode_block ?_
          refine acode_seq ?_
          refine acode_region ?_
          refine And.intro (by first | omega | assumption | decide | (simp only [Int.toNat_natCast, dflt_sl, dflt_st, dflt_str, dflt_int, dflt_bool]; omega) | (simp; omega)) ?_
          refine And.intro (by first | omega | assumption | decide | (simp only [Int.toNat_natCast, dflt_sl]; omega) | (simp; omega)) ?_
          refine acode_seq ?_
          refine acode_region ?_
          refine Or.inl ?_
          refine And.intro (rfl) ?_
          refine Exists.intro _ (And.intro (refKey_c _ (Nat.le_trans (hs _ hm _ hm2).1 (by decide))) ?_)
          refine And.intro (fun h => trivial) ?_
          refine And.intro (fun h => ⟨⟨h, trivial⟩, trivial⟩) ?_
          refine And.intro (fun h => ⟨⟨h, trivial⟩, trivial⟩) ?_
          refine And.intro (by first | (intro h; rw [h]; rfl) | (intro h; cases h)) ?_
          refine And.intro (fun h => trivial) ?_
          refine And.intro (fun h => ⟨⟨h, trivial⟩, trivial⟩) ?_
          refine And.intro (fun h => ⟨⟨h, trivial⟩, trivial⟩) ?_
          refine And.intro (by first | (intro h; rw [h]; rfl) | (intro h; cases h)) ?_
          refine And.intro (fun h => trivial) ?_
          refine And.intro (fun h => ⟨⟨h, trivial⟩, trivial⟩) ?_
          refine And.intro (fun h => ⟨⟨h, trivial⟩, trivial⟩) ?_
          refine And.intro (fun h => ⟨⟨h, trivial⟩, trivial⟩) ?_
          refine And.intro (fun h => trivial) ?_
          refine And.intro (fun h => ⟨⟨h, trivial⟩, trivial⟩) ?_
          refine And.intro (fun h => ⟨⟨h, trivial⟩, trivial⟩) ?_
          refine And.intro (fun h => ⟨⟨⟨h, trivial⟩, trivial⟩, by first | exact fun h2 => h2 | (intro h2; rw [h, h2]; rfl) | (intro h2; cases h2) | (intro h2; simp_all [gq])⟩) ?_
          refine And.intro (by first | (intro h; rw [h]; rfl) | (intro h; cases h)) ?_
          refine acode_cond rfl (fun h60 => ?_) (fun h60 => ?_)
          · try simp only [decide_eq_true_eq, decide_eq_false_iff_not, Bool.and_eq_true, Bool.not_eq_true', Bool.or_eq_true] at h60
            try simp only [Int.toNat_natCast, dflt_sl, dflt_st, dflt_str, dflt_int, dflt_bool] at h60
            have hg := goodT_no h60
            refine acode_seq ?_
            refine acode_region ?_
            refine acode_ret ?_
            refine ib_eq ?_
            unfold goodS
            rw [all_not [] (show i < s.length by omega) (by unfold goodR; rw [all_not (false, ByteArray.empty, 0, ByteArray.empty) (by omega) hg, Bool.and_false]), Bool.and_false]
          · try simp only [decide_eq_true_eq, decide_eq_false_iff_not, Bool.not_eq_false', Bool.or_eq_false_iff, Bool.and_eq_false_iff, Int.not_lt] at h60
            try simp only [Int.toNat_natCast, dflt_sl, dflt_st, dflt_str, dflt_int, dflt_bool] at h60
            have hg := goodT_iff.2 h60
            refine acode_skip ?_
            refine acode_region ?_
            refine And.intro (by first | omega | assumption | decide | (simp only [Int.toNat_natCast, dflt_sl, dflt_st, dflt_str, dflt_int, dflt_bool]; omega) | (simp; omega)) ?_
            exact ⟨k + 1, ⟨by omega, by rw [all_take_succ _ goodT (false, ByteArray.empty, 0, ByteArray.empty) k (by omega), hn2, hg]; rfl⟩, by first | omega | (simp; omega), le_of ⟨rfl, rfl, rfl⟩ trivial rfl⟩
        · try simp only [decide_eq_false_iff_not, Int.not_lt] at h27
          try simp only [Int.toNat_natCast, dflt_sl] at h27
          refine acode_exit ?_
          refine acode_region ?_
          refine And.intro (by first | omega | assumption | decide | (simp only [Int.toNat_natCast, dflt_sl, dflt_st, dflt_str, dflt_int, dflt_bool]; omega) | (simp; omega)) ?_
          exact ⟨i + 1, ⟨by omega, by rw [all_take_succ s goodR [] i (by omega), hn]; rw [List.take_of_length_le (by omega)] at hn2; unfold goodR; rw [hn2, decide_eq_true (show (s.getD i []).length ≤ 20 by omega)]; rfl⟩, by first | omega | (simp; omega), le_of ⟨rfl, rfl⟩ trivial rfl⟩
    · try simp only [decide_eq_false_iff_not, Int.not_lt] at h12
      try simp only [Int.toNat_natCast, dflt_sl, dflt_st, dflt_str, dflt_int, dflt_bool] at h12
      refine acode_exit ?_
      refine acode_seq ?_
      refine acode_region ?_
      refine acode_ret ?_
      refine ib_eq ?_
      unfold goodS
      rw [List.take_of_length_le (by omega)] at hn
      rw [hn, decide_eq_true (by omega)]
      rfl
end Q
end Ab
end Go.Proofs.YthlfbpmbkcoclaaDoor
