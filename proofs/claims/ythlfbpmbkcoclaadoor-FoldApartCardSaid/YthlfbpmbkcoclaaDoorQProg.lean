/-
  A query's terms: what the program's functions compute.
-/
import Derived.Test.YthlfbpmbkcoclaaDoorQRef
import Derived.Test.YthlfbpmbkcoclaaDoorAbShelf
namespace Go.Proofs.YthlfbpmbkcoclaaDoor
open Go.RowKit
namespace Ab
set_option maxRecDepth 100000
namespace Q
/-- Where the first one stands of which something holds; -1 if there is none. -/
def ixOf {α : Type} (p : α → Bool) (l : List α) : Int := if l.any p then (l.findIdx p : Int) else -1
theorem ixOf_none {α : Type} {p : α → Bool} {l : List α} (h : l.any p = false) : ixOf p l = -1 := by
  unfold ixOf; rw [h]; rfl
theorem ixOf_at {α : Type} {p : α → Bool} {l : List α} {i : Nat} (d : α) (hi : i < l.length) (h : (l.take i).any p = false) (hp : p (l.getD i d) = true) : ixOf p l = i := by
  unfold ixOf
  rw [any_at d hi hp, if_pos rfl]
  congr 1
  rw [List.getD_eq_getElem?_getD, List.getElem?_eq_getElem hi] at hp
  refine (List.findIdx_eq hi).2 ⟨hp, fun j hj => ?_⟩
  have := List.any_eq_false.1 h (l[j]) (by rw [List.mem_take_iff_getElem]; exact ⟨j, by omega, rfl⟩)
  simpa using this
theorem ixOf_ge {α : Type} (p : α → Bool) (l : List α) : decide (0 ≤ ixOf p l) = l.any p := by
  unfold ixOf
  cases h : l.any p
  · rfl
  · simp
theorem index_F (f : FuncId) {β : Type} (S : Rd β) (y : β) (l : List (Fld)) (p : Fld → Bool) (d : Fld) (_hd : (rFld).dflt = d) (hp : ∀ x ∈ l, ACall Tryd.prog f [.agg (toL rFld x), .one (.addr S y)] (ib (p x))) : ACall Tryd.prog 114 [.one (.sl rFld l), .one (.clo f (.addr S y))] (ii .i64 (ixOf p l)) := by
  obtain rfl := _hd
  refine acall_of (rs := [4]) Tryd.func114 rfl rfl rfl teOk rfl ?_
  refine acode_seq ?_
  refine acode_region ?_
  refine acode_seq ?_
  refine acode_seq ?_
  refine acode_region ?_
  intro l1_1
  try simp only [Int.toNat_natCast, dflt_sl, dflt_st, dflt_str, dflt_int, dflt_bool] at l1_1
  refine acode_block ?_
  refine acode_loopP (fun (i : Nat) => i ≤ l.length ∧ (l.take i).any p = false) (fun (i : Nat) => [(0, .one (.sl rFld l)), (1, .one (.clo f (.addr S y))), (7, ii .i64 l.length), (8, ii .i64 i)]) (fun (i : Nat) => []) 0 (fun (i : Nat) => l.length - i) 0 (⟨Nat.zero_le _, rfl⟩) (le_of ⟨rfl, rfl, rfl, rfl⟩ trivial rfl) ?_
  intro i hI0
  obtain ⟨hi, hn⟩ := hI0
  refine acode_seq ?_
  refine acode_region ?_
  refine acode_seq ?_
  refine acode_cond rfl (fun h9 => ?_) (fun h9 => ?_)
  · try simp only [decide_eq_true_eq] at h9
    try simp only [Int.toNat_natCast, dflt_sl, dflt_st, dflt_str, dflt_int, dflt_bool] at h9
    refine acode_skip ?_
    refine acode_seq ?_
    refine acode_block ?_
    refine acode_seq ?_
    refine acode_region ?_
    refine acode_seq ?_
    refine acode_region ?_
    refine And.intro (by first | omega | assumption | decide | (simp only [Int.toNat_natCast, dflt_sl, dflt_st, dflt_str, dflt_int, dflt_bool]; omega) | (simp; omega)) ?_
    refine Or.inl ?_
    refine And.intro (rfl) ?_
    refine Exists.intro _ (And.intro (hp _ (getD_mem (show i < l.length by omega) _)) ?_)
    refine acode_cond rfl (fun h16 => ?_) (fun h16 => ?_)
    · try simp only [decide_eq_true_eq, decide_eq_false_iff_not, Bool.and_eq_true, Bool.not_eq_true', Bool.not_eq_false', Bool.or_eq_false_iff, Bool.or_eq_true, Bool.and_eq_false_iff, Int.not_lt, Int.not_le] at h16
      try simp only [Int.toNat_natCast, dflt_st, dflt_str] at h16
      refine acode_seq ?_
      refine acode_region ?_
      refine acode_ret ?_
      exact ii_eq (ixOf_at (rFld).dflt (by omega) hn h16).symm
    · try simp only [decide_eq_true_eq, decide_eq_false_iff_not, Bool.and_eq_true, Bool.not_eq_true', Bool.not_eq_false', Bool.or_eq_false_iff, Bool.or_eq_true, Bool.and_eq_false_iff, Int.not_lt, Int.not_le] at h16
      try simp only [Int.toNat_natCast, dflt_st, dflt_str] at h16
      refine acode_skip ?_
      refine acode_region ?_
      refine And.intro (by first | omega | assumption | decide | (simp only [Int.toNat_natCast, dflt_sl, dflt_st, dflt_str, dflt_int, dflt_bool]; omega) | (simp; omega)) ?_
      exact ⟨i + 1, ⟨by omega, by rw [take_any l p (rFld).dflt i (by omega), hn]; exact h16⟩, by first | omega | (simp; omega), le_of ⟨rfl, rfl, rfl, rfl⟩ trivial rfl⟩
  · try simp only [decide_eq_false_iff_not, Int.not_lt] at h9
    try simp only [Int.toNat_natCast, dflt_sl, dflt_st, dflt_str, dflt_int, dflt_bool] at h9
    refine acode_exit ?_
    refine acode_seq ?_
    refine acode_region ?_
    refine acode_ret ?_
    have e : i = l.length := by omega
    subst e
    rw [List.take_length] at hn
    exact ii_eq (ixOf_none hn).symm
theorem contains_F (f : FuncId) {β : Type} (S : Rd β) (y : β) (l : List (Fld)) (p : Fld → Bool) (d : Fld) (hd : (rFld).dflt = d) (hp : ∀ x ∈ l, ACall Tryd.prog f [.agg (toL rFld x), .one (.addr S y)] (ib (p x))) : ACall Tryd.prog 74 [.one (.sl rFld l), .one (.clo f (.addr S y))] (ib (l.any p)) := by
  refine acall_of (rs := [4]) Tryd.func74 rfl rfl rfl teOk rfl ?_
  refine acode_seq ?_
  refine acode_region ?_
  refine acode_seq ?_
  refine acode_region ?_
  refine Or.inl ?_
  refine And.intro (rfl) ?_
  refine Exists.intro _ (And.intro (index_F f S y l p d hd hp) ?_)
  refine acode_ret ?_
  exact ib_eq (ixOf_ge p l)


def ofB (t : Term) (v : ByteArray) : Bool := if t.2.2.1 = 1 then true else if t.2.2.1 = 2 then decide (v = t.2.2.2) else if t.2.2.1 = 3 then Lib.hasPrefix v.data.toList t.2.2.2.data.toList
  else if t.2.2.1 = 4 then Lib.contains v.data.toList t.2.2.2.data.toList else Op.bytesLess v.toList t.2.2.2.toList
theorem of_c (t : Term) (v : ByteArray) (hv : v.size ≤ 1000000) : ACall Tryd.prog 76 [.agg (toL rTerm t), is v] (ib (ofB t v)) := by
  refine acall_of (rs := [4]) Tryd.func76 rfl rfl rfl teOk rfl ?_
  refine acode_seq ?_
  refine acode_region ?_
  refine acode_seq ?_
  refine acode_seq ?_
  refine acode_region ?_
  refine acode_block ?_
  refine acode_seq ?_
  refine acode_region ?_
  refine acode_cond rfl (fun h7 => ?_) (fun h7 => ?_)
  · try simp only [decide_eq_true_eq] at h7
    try simp only [Int.toNat_natCast, dflt_sl, dflt_st, dflt_str, dflt_int, dflt_bool] at h7
    refine acode_seq ?_
    refine acode_region ?_
    refine acode_ret ?_
    refine ib_eq ?_
    unfold ofB
    rw [if_pos h7]
  · try simp only [decide_eq_false_iff_not] at h7
    try simp only [Int.toNat_natCast, dflt_sl, dflt_st, dflt_str, dflt_int, dflt_bool] at h7
    refine acode_seq ?_
    refine acode_region ?_
    refine acode_cond rfl (fun h9 => ?_) (fun h9 => ?_)
    · try simp only [decide_eq_true_eq] at h9
      try simp only [Int.toNat_natCast, dflt_sl, dflt_st, dflt_str, dflt_int, dflt_bool] at h9
      refine acode_seq ?_
      refine acode_region ?_
      refine acode_ret ?_
      refine ib_eq ?_
      unfold ofB
      rw [if_neg h7, if_pos h9]
    · try simp only [decide_eq_false_iff_not] at h9
      try simp only [Int.toNat_natCast, dflt_sl, dflt_st, dflt_str, dflt_int, dflt_bool] at h9
      refine acode_seq ?_
      refine acode_region ?_
      refine acode_cond rfl (fun h15 => ?_) (fun h15 => ?_)
      · try simp only [decide_eq_true_eq] at h15
        try simp only [Int.toNat_natCast, dflt_sl, dflt_st, dflt_str, dflt_int, dflt_bool] at h15
        refine acode_seq ?_
        refine acode_region ?_
        refine Or.inl ?_
        refine And.intro (rfl) ?_
        refine Exists.intro _ (And.intro (hasPrefix_c _ _) ?_)
        refine acode_ret ?_
        refine ib_eq ?_
        unfold ofB
        rw [if_neg h7, if_neg h9, if_pos h15]
      · try simp only [decide_eq_false_iff_not] at h15
        try simp only [Int.toNat_natCast, dflt_sl, dflt_st, dflt_str, dflt_int, dflt_bool] at h15
        refine acode_seq ?_
        refine acode_region ?_
        refine acode_cond rfl (fun h21 => ?_) (fun h21 => ?_)
        · try simp only [decide_eq_true_eq] at h21
          try simp only [Int.toNat_natCast, dflt_sl, dflt_st, dflt_str, dflt_int, dflt_bool] at h21
          refine acode_seq ?_
          refine acode_region ?_
          refine Or.inl ?_
          refine And.intro (rfl) ?_
          refine Exists.intro _ (And.intro (contains_c _ _ (by omega)) ?_)
          refine acode_ret ?_
          refine ib_eq ?_
          unfold ofB
          rw [if_neg h7, if_neg h9, if_neg h15, if_pos h21]
        · try simp only [decide_eq_false_iff_not] at h21
          try simp only [Int.toNat_natCast, dflt_sl, dflt_st, dflt_str, dflt_int, dflt_bool] at h21
          refine acode_skip ?_
          refine acode_seq ?_
          refine acode_region ?_
          refine acode_ret ?_
          refine ib_eq ?_
          unfold ofB
          rw [if_neg h7, if_neg h9, if_neg h15, if_neg h21]
theorem matches1_c (t : Term) (f : Fld) (hv : f.2.size ≤ 1000000) : ACall Tryd.prog 75 [.agg (toL rFld f), .one (.addr rTerm t)] (ib (decide (f.1 = t.2.1) && ofB t f.2)) := by
  refine acall_of (rs := [3]) Tryd.func75 rfl rfl rfl teOk rfl ?_
  refine acode_seq ?_
  refine acode_region ?_
  refine acode_seq ?_
  refine acode_region ?_
  refine And.intro (fun h => trivial) ?_
  refine And.intro (fun h => trivial) ?_
  refine And.intro (fun h => ⟨⟨h, trivial⟩, trivial⟩) ?_
  refine And.intro (rfl) ?_
  refine Exists.intro _ (And.intro (fun h => ⟨⟨⟨h, trivial⟩, ⟨h, trivial⟩, trivial⟩, of_c _ _ hv⟩) ?_)
  refine And.intro (by exact fun h => h) ?_
  refine acode_ret ?_
  rfl
def termMatches (t : Term) (l : List Fld) : Bool := !bad t && !decide ((l.any fun f => decide (f.1 = t.2.1) && ofB t f.2) = t.1)
theorem termMatches_c (t : Term) (l : List Fld) (hl : FldsOk l) : ACall Tryd.prog 27 [.agg (toL rTerm t), .one (.sl rFld l)] (ib (termMatches t l)) := by
  refine acall_of (rs := [4]) Tryd.func27 rfl rfl rfl teOk rfl ?_
  refine acode_seq ?_
  refine acode_region ?_
  refine acode_seq ?_
  refine acode_seq ?_
  refine acode_region ?_
  refine And.intro (fun h => trivial) ?_
  refine And.intro (fun h => ⟨⟨h, trivial⟩, trivial⟩) ?_
  refine And.intro (fun h => ⟨⟨h, trivial⟩, trivial⟩) ?_
  refine And.intro (by intro h; rw [h]; rfl) ?_
  refine acode_cond rfl (fun h13 => ?_) (fun h13 => ?_)
  · try simp only [decide_eq_true_eq, Bool.or_eq_true] at h13
    try simp only [Int.toNat_natCast, dflt_sl, dflt_st, dflt_str, dflt_int, dflt_bool] at h13
    refine acode_seq ?_
    refine acode_region ?_
    refine acode_ret ?_
    refine ib_eq ?_
    unfold termMatches bad
    rcases h13 with h | h <;> simp [h]
  · try simp only [decide_eq_false_iff_not, Bool.or_eq_false_iff, Int.not_lt] at h13
    try simp only [Int.toNat_natCast, dflt_sl, dflt_st, dflt_str, dflt_int, dflt_bool] at h13
    refine acode_skip ?_
    refine acode_seq ?_
    refine acode_region ?_
    refine Or.inl ?_
    refine And.intro (rfl) ?_
    refine Exists.intro _ (And.intro (contains_F 75 rTerm t l (fun f => decide (f.1 = t.2.1) && ofB t f.2) _ rfl (fun x hx => matches1_c t x (hl.2 x hx).2)) ?_)
    refine acode_seq ?_
    refine acode_region ?_
    refine acode_ret ?_
    refine ib_eq ?_
    unfold termMatches bad
    rw [decide_eq_false (show ¬ t.2.2.1 < 1 by omega), decide_eq_false (show ¬ 5 < t.2.2.1 by omega)]
    rfl
theorem index_T (f : FuncId) {β : Type} (S : Rd β) (y : β) (l : List (Term)) (p : Term → Bool) (d : Term) (_hd : (rTerm).dflt = d) (hp : ∀ x ∈ l, ACall Tryd.prog f [.agg (toL rTerm x), .one (.addr S y)] (ib (p x))) : ACall Tryd.prog 110 [.one (.sl rTerm l), .one (.clo f (.addr S y))] (ii .i64 (ixOf p l)) := by
  obtain rfl := _hd
  refine acall_of (rs := [4]) Tryd.func110 rfl rfl rfl teOk rfl ?_
  refine acode_seq ?_
  refine acode_region ?_
  refine acode_seq ?_
  refine acode_seq ?_
  refine acode_region ?_
  intro l1_1
  try simp only [Int.toNat_natCast, dflt_sl, dflt_st, dflt_str, dflt_int, dflt_bool] at l1_1
  refine acode_block ?_
  refine acode_loopP (fun (i : Nat) => i ≤ l.length ∧ (l.take i).any p = false) (fun (i : Nat) => [(0, .one (.sl rTerm l)), (1, .one (.clo f (.addr S y))), (7, ii .i64 l.length), (8, ii .i64 i)]) (fun (i : Nat) => []) 0 (fun (i : Nat) => l.length - i) 0 (⟨Nat.zero_le _, rfl⟩) (le_of ⟨rfl, rfl, rfl, rfl⟩ trivial rfl) ?_
  intro i hI0
  obtain ⟨hi, hn⟩ := hI0
  refine acode_seq ?_
  refine acode_region ?_
  refine acode_seq ?_
  refine acode_cond rfl (fun h9 => ?_) (fun h9 => ?_)
  · try simp only [decide_eq_true_eq] at h9
    try simp only [Int.toNat_natCast, dflt_sl, dflt_st, dflt_str, dflt_int, dflt_bool] at h9
    refine acode_skip ?_
    refine acode_seq ?_
    refine acode_block ?_
    refine acode_seq ?_
    refine acode_region ?_
    refine acode_seq ?_
    refine acode_region ?_
    refine And.intro (by first | omega | assumption | decide | (simp only [Int.toNat_natCast, dflt_sl, dflt_st, dflt_str, dflt_int, dflt_bool]; omega) | (simp; omega)) ?_
    refine Or.inl ?_
    refine And.intro (rfl) ?_
    refine Exists.intro _ (And.intro (hp _ (getD_mem (show i < l.length by omega) _)) ?_)
    refine acode_cond rfl (fun h16 => ?_) (fun h16 => ?_)
    · try simp only [decide_eq_true_eq, decide_eq_false_iff_not, Bool.and_eq_true, Bool.not_eq_true', Bool.not_eq_false', Bool.or_eq_false_iff, Bool.or_eq_true, Bool.and_eq_false_iff, Int.not_lt, Int.not_le] at h16
      try simp only [Int.toNat_natCast, dflt_st, dflt_str, dflt_int, dflt_bool] at h16
      refine acode_seq ?_
      refine acode_region ?_
      refine acode_ret ?_
      exact ii_eq (ixOf_at (rTerm).dflt (by omega) hn h16).symm
    · try simp only [decide_eq_true_eq, decide_eq_false_iff_not, Bool.and_eq_true, Bool.not_eq_true', Bool.not_eq_false', Bool.or_eq_false_iff, Bool.or_eq_true, Bool.and_eq_false_iff, Int.not_lt, Int.not_le] at h16
      try simp only [Int.toNat_natCast, dflt_st, dflt_str, dflt_int, dflt_bool] at h16
      refine acode_skip ?_
      refine acode_region ?_
      refine And.intro (by first | omega | assumption | decide | (simp only [Int.toNat_natCast, dflt_sl, dflt_st, dflt_str, dflt_int, dflt_bool]; omega) | (simp; omega)) ?_
      exact ⟨i + 1, ⟨by omega, by rw [take_any l p (rTerm).dflt i (by omega), hn]; exact h16⟩, by first | omega | (simp; omega), le_of ⟨rfl, rfl, rfl, rfl⟩ trivial rfl⟩
  · try simp only [decide_eq_false_iff_not, Int.not_lt] at h9
    try simp only [Int.toNat_natCast, dflt_sl, dflt_st, dflt_str, dflt_int, dflt_bool] at h9
    refine acode_exit ?_
    refine acode_seq ?_
    refine acode_region ?_
    refine acode_ret ?_
    have e : i = l.length := by omega
    subst e
    rw [List.take_length] at hn
    exact ii_eq (ixOf_none hn).symm
theorem contains_T (f : FuncId) {β : Type} (S : Rd β) (y : β) (l : List (Term)) (p : Term → Bool) (d : Term) (hd : (rTerm).dflt = d) (hp : ∀ x ∈ l, ACall Tryd.prog f [.agg (toL rTerm x), .one (.addr S y)] (ib (p x))) : ACall Tryd.prog 67 [.one (.sl rTerm l), .one (.clo f (.addr S y))] (ib (l.any p)) := by
  refine acall_of (rs := [4]) Tryd.func67 rfl rfl rfl teOk rfl ?_
  refine acode_seq ?_
  refine acode_region ?_
  refine acode_seq ?_
  refine acode_region ?_
  refine Or.inl ?_
  refine And.intro (rfl) ?_
  refine Exists.intro _ (And.intro (index_T f S y l p d hd hp) ?_)
  refine acode_ret ?_
  exact ib_eq (ixOf_ge p l)

theorem index_R (f g : FuncId) {β : Type} (S : Rd β) (y : β) (l : List (List Term)) (p : (List Term) → Bool) (d : List Term) (_hd : (Rd.sl rTerm).dflt = d) (hp : ∀ x ∈ l, ACall Tryd.prog f [.one (.sl rTerm x), .one (.ref (.clo g (.addr S y)))] (ib (p x))) : ACall Tryd.prog 115 [.one (.sl (.sl rTerm) l), .one (.clo f (.ref (.clo g (.addr S y))))] (ii .i64 (ixOf p l)) := by
  obtain rfl := _hd
  refine acall_of (rs := [4]) Tryd.func115 rfl rfl rfl teOk rfl ?_
  refine acode_seq ?_
  refine acode_region ?_
  refine acode_seq ?_
  refine acode_seq ?_
  refine acode_region ?_
  intro l1_1
  try simp only [Int.toNat_natCast, dflt_sl, dflt_st, dflt_str, dflt_int, dflt_bool] at l1_1
  refine acode_block ?_
  refine acode_loopP (fun (i : Nat) => i ≤ l.length ∧ (l.take i).any p = false) (fun (i : Nat) => [(0, .one (.sl (.sl rTerm) l)), (1, .one (.clo f (.ref (.clo g (.addr S y))))), (7, ii .i64 l.length), (8, ii .i64 i)]) (fun (i : Nat) => []) 0 (fun (i : Nat) => l.length - i) 0 (⟨Nat.zero_le _, rfl⟩) (le_of ⟨rfl, rfl, rfl, rfl⟩ trivial rfl) ?_
  intro i hI0
  obtain ⟨hi, hn⟩ := hI0
  refine acode_seq ?_
  refine acode_region ?_
  refine acode_seq ?_
  refine acode_cond rfl (fun h9 => ?_) (fun h9 => ?_)
  · try simp only [decide_eq_true_eq] at h9
    try simp only [Int.toNat_natCast, dflt_sl, dflt_st, dflt_str, dflt_int, dflt_bool] at h9
    refine acode_skip ?_
    refine acode_seq ?_
    refine acode_block ?_
    refine acode_seq ?_
    refine acode_region ?_
    refine acode_seq ?_
    refine acode_region ?_
    refine And.intro (by first | omega | assumption | decide | (simp only [Int.toNat_natCast, dflt_sl, dflt_st, dflt_str, dflt_int, dflt_bool]; omega) | (simp; omega)) ?_
    refine Or.inl ?_
    refine And.intro (rfl) ?_
    refine Exists.intro _ (And.intro (hp _ (getD_mem (show i < l.length by omega) _)) ?_)
    refine acode_cond rfl (fun h16 => ?_) (fun h16 => ?_)
    · try simp only [decide_eq_true_eq, decide_eq_false_iff_not, Bool.and_eq_true, Bool.not_eq_true', Bool.not_eq_false', Bool.or_eq_false_iff, Bool.or_eq_true, Bool.and_eq_false_iff, Int.not_lt, Int.not_le] at h16
      try simp only [Int.toNat_natCast, dflt_sl] at h16
      refine acode_seq ?_
      refine acode_region ?_
      refine acode_ret ?_
      exact ii_eq (ixOf_at (Rd.sl rTerm).dflt (by omega) hn h16).symm
    · try simp only [decide_eq_true_eq, decide_eq_false_iff_not, Bool.and_eq_true, Bool.not_eq_true', Bool.not_eq_false', Bool.or_eq_false_iff, Bool.or_eq_true, Bool.and_eq_false_iff, Int.not_lt, Int.not_le] at h16
      try simp only [Int.toNat_natCast, dflt_sl] at h16
      refine acode_skip ?_
      refine acode_region ?_
      refine And.intro (by first | omega | assumption | decide | (simp only [Int.toNat_natCast, dflt_sl, dflt_st, dflt_str, dflt_int, dflt_bool]; omega) | (simp; omega)) ?_
      exact ⟨i + 1, ⟨by omega, by rw [take_any l p (Rd.sl rTerm).dflt i (by omega), hn]; exact h16⟩, by first | omega | (simp; omega), le_of ⟨rfl, rfl, rfl, rfl⟩ trivial rfl⟩
  · try simp only [decide_eq_false_iff_not, Int.not_lt] at h9
    try simp only [Int.toNat_natCast, dflt_sl, dflt_st, dflt_str, dflt_int, dflt_bool] at h9
    refine acode_exit ?_
    refine acode_seq ?_
    refine acode_region ?_
    refine acode_ret ?_
    have e : i = l.length := by omega
    subst e
    rw [List.take_length] at hn
    exact ii_eq (ixOf_none hn).symm
theorem contains_R (f g : FuncId) {β : Type} (S : Rd β) (y : β) (l : List (List Term)) (p : (List Term) → Bool) (d : List Term) (hd : (Rd.sl rTerm).dflt = d) (hp : ∀ x ∈ l, ACall Tryd.prog f [.one (.sl rTerm x), .one (.ref (.clo g (.addr S y)))] (ib (p x))) : ACall Tryd.prog 79 [.one (.sl (.sl rTerm) l), .one (.clo f (.ref (.clo g (.addr S y))))] (ib (l.any p)) := by
  refine acall_of (rs := [4]) Tryd.func79 rfl rfl rfl teOk rfl ?_
  refine acode_seq ?_
  refine acode_region ?_
  refine acode_seq ?_
  refine acode_region ?_
  refine Or.inl ?_
  refine And.intro (rfl) ?_
  refine Exists.intro _ (And.intro (index_R f g S y l p d hd hp) ?_)
  refine acode_ret ?_
  exact ib_eq (ixOf_ge p l)


theorem fails_c (t : Term) (l : List Fld) (hl : FldsOk l) : ACall Tryd.prog 78 [.agg (toL rTerm t), .one (.addr (.sl rFld) l)] (ib (!termMatches t l)) := by
  refine acall_of (rs := [3]) Tryd.func78 rfl rfl rfl teOk rfl ?_
  refine acode_seq ?_
  refine acode_region ?_
  refine acode_seq ?_
  refine acode_region ?_
  refine Or.inl ?_
  refine And.intro (rfl) ?_
  refine Exists.intro _ (And.intro (termMatches_c t l hl) ?_)
  refine acode_ret ?_
  rfl
theorem rowFails_c (r : List Term) (l : List Fld) (hl : FldsOk l) : ACall Tryd.prog 80 [.one (.sl rTerm r), .one (.ref (.clo 78 (.addr (.sl rFld) l)))] (ib (!(r.any fun t => !termMatches t l))) := by
  refine acall_of (rs := [3]) Tryd.func80 rfl rfl rfl teOk rfl ?_
  refine acode_seq ?_
  refine acode_region ?_
  refine acode_seq ?_
  refine acode_region ?_
  refine Or.inl ?_
  refine And.intro (rfl) ?_
  refine Exists.intro _ (And.intro (contains_T _ (.sl rFld) l r (fun t => !termMatches t l) _ rfl (fun x _ => fails_c x l hl)) ?_)
  refine acode_ret ?_
  rfl
def selMatches (s : List (List Term)) (l : List Fld) : Bool := s.any fun r => !(r.any fun t => !termMatches t l)
theorem selMatches_c (s : List (List Term)) (l : List Fld) (hl : FldsOk l) : ACall Tryd.prog 29 [.one (.sl (.sl rTerm) s), .one (.sl rFld l)] (ib (selMatches s l)) := by
  refine acall_of (rs := [4]) Tryd.func29 rfl rfl rfl teOk rfl ?_
  refine acode_seq ?_
  refine acode_region ?_
  refine acode_seq ?_
  refine acode_region ?_
  refine acode_seq ?_
  refine acode_region ?_
  refine Or.inl ?_
  refine And.intro (rfl) ?_
  refine Exists.intro _ (And.intro (contains_R 80 78 (.sl rFld) l s (fun r => !(r.any fun t => !termMatches t l)) _ rfl (fun x _ => rowFails_c x l hl)) ?_)
  refine acode_ret ?_
  rfl
end Q
end Ab
end Go.Proofs.YthlfbpmbkcoclaaDoor
