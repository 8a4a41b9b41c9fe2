/-
  The laws of selectors' lines and rows: what they compute.
-/
import Derived.Test.YthlfbpmbkcoclaaDoorQLaw
namespace Go.Proofs.YthlfbpmbkcoclaaDoor
open Go.RowKit
namespace Ab
set_option maxRecDepth 100000
namespace Q
theorem selL_small {s : List (List Term)} (hs : SelOk s) (h : s.length ≤ 20 ∧ ∀ r ∈ s, TermsOk r) : (selL s).length ≤ 900000 := by
  have hr : ∀ r ∈ s, (rowL r).length ≤ 24060 := fun r hr => by
    unfold rowL
    split
    · simp
    · have h1 := (h.2 r hr).1
      have := join_len (sep := [32]) (B := 1202) (ps := r.map termL) (fun p hp => by
        obtain ⟨t, ht, rfl⟩ := List.mem_map.1 hp
        have h1 := termL_len t
        obtain ⟨h2, h3⟩ := (hs.2 r hr).2 t ht
        omega)
      rw [List.length_map] at this
      simp only [List.length_cons, List.length_nil] at this
      have : r.length * 1203 ≤ 20 * 1203 := Nat.mul_le_mul_right _ h1
      omega
  unfold selL
  split
  · simp
  · have h1 := h.1
    have := join_len (sep := [32, 124, 32]) (B := 24060) (ps := s.map rowL) (fun p hp => by
      obtain ⟨r, hm, rfl⟩ := List.mem_map.1 hp
      exact hr r hm)
    rw [List.length_map] at this
    simp only [List.length_cons, List.length_nil] at this
    have : s.length * 24063 ≤ 20 * 24063 := Nat.mul_le_mul_right _ h1
    omega
theorem QueryPrints_c (s : List (List Term)) : ACall Tryd.prog 3 [.one (.sl (.sl rTerm) s)] (ib true) := by
  refine acall_of (rs := [2]) Tryd.func3 rfl rfl rfl teOk rfl ?_
  refine acode_seq ?_
  refine acode_region ?_
  refine acode_seq ?_
  refine acode_seq ?_
  refine acode_region ?_
  refine Or.inl ?_
  refine And.intro (rfl) ?_
  refine Exists.intro _ (And.intro (alive_c) ?_)
  refine acode_cond rfl (fun h10 => ?_) (fun h10 => ?_)
  · try simp only [Bool.not_eq_true'] at h10
    try simp only [Int.toNat_natCast, dflt_sl, dflt_st, dflt_str, dflt_int, dflt_bool] at h10
    cases h10
  · try simp only [Bool.not_eq_false'] at h10
    try simp only [Int.toNat_natCast, dflt_sl, dflt_st, dflt_str, dflt_int, dflt_bool] at h10
    refine acode_skip ?_
    refine acode_seq ?_
    refine acode_seq ?_
    refine acode_region ?_
    refine Or.inl ?_
    refine And.intro (rfl) ?_
    refine Exists.intro _ (And.intro (large_c s) ?_)
    refine acode_cond rfl (fun h12 => ?_) (fun h12 => ?_)
    · try simp only [decide_eq_true_eq, decide_eq_false_iff_not, Bool.and_eq_true, Bool.not_eq_true', Bool.not_eq_false', Bool.or_eq_false_iff, Bool.or_eq_true, Bool.and_eq_false_iff, Int.not_lt, Int.not_le] at h12
      try simp only [Int.toNat_natCast, dflt_sl, dflt_st, dflt_str, dflt_int, dflt_bool] at h12
      refine acode_seq ?_
      refine acode_region ?_
      refine acode_ret ?_
      rfl
    · try simp only [decide_eq_true_eq, decide_eq_false_iff_not, Bool.and_eq_true, Bool.not_eq_true', Bool.not_eq_false', Bool.or_eq_false_iff, Bool.or_eq_true, Bool.and_eq_false_iff, Int.not_lt, Int.not_le] at h12
      try simp only [Int.toNat_natCast, dflt_sl, dflt_st, dflt_str, dflt_int, dflt_bool] at h12
      obtain ⟨hs, hT⟩ := large_ok h12
      refine acode_skip ?_
      refine acode_seq ?_
      refine acode_region ?_
      refine Or.inl ?_
      refine And.intro (rfl) ?_
      refine Exists.intro _ (And.intro (program_c s hs) ?_)
      refine acode_seq ?_
      cases hg : goodS s
      · refine acode_region ?_
        refine Or.inl ?_
        refine And.intro (rfl) ?_
        refine Exists.intro _ (And.intro (print_no hT hg) ?_)
        refine acode_seq ?_
        refine acode_region ?_
        refine Or.inl ?_
        refine And.intro (rfl) ?_
        refine Exists.intro _ (And.intro (refGood_c s hT) ?_)
        refine acode_seq ?_
        refine acode_seq ?_
        refine acode_region ?_
        refine Or.inl ?_
        refine And.intro (rfl) ?_
        refine Exists.intro _ (And.intro (good_c s hT) ?_)
        refine And.intro (fun h => trivial) ?_
        refine And.intro (fun h => trivial) ?_
        refine And.intro (rfl) ?_
        refine Exists.intro _ (And.intro (fun h => ⟨⟨⟨h, trivial⟩, ⟨h, trivial⟩, trivial⟩, same_c s s⟩) ?_)
        refine And.intro (fun h => ⟨⟨h, trivial⟩, trivial⟩) ?_
        refine And.intro (by first | (intro h; rw [h]; rfl) | (intro h; cases h)) ?_
        refine acode_cond rfl (fun h31 => ?_) (fun h31 => ?_)
        · try simp only [decide_eq_false_iff_not, Bool.not_eq_true', Bool.or_eq_true] at h31
          try simp only [Int.toNat_natCast, dflt_sl, dflt_st, dflt_str, dflt_int, dflt_bool] at h31
          simp at h31
        · try simp only [decide_eq_true_eq, Bool.not_eq_false', Bool.or_eq_false_iff] at h31
          try simp only [Int.toNat_natCast, dflt_sl, dflt_st, dflt_str, dflt_int, dflt_bool] at h31
          refine acode_skip ?_
          refine acode_seq ?_
          refine acode_seq ?_
          refine acode_region ?_
          refine acode_cond rfl (fun h33 => ?_) (fun h33 => ?_)
          · try simp only [Bool.not_eq_true'] at h33
            try simp only [Int.toNat_natCast, dflt_sl, dflt_st, dflt_str, dflt_int, dflt_bool] at h33
            refine acode_seq ?_
            refine acode_region ?_
            refine Or.inl ?_
            refine And.intro (rfl) ?_
            refine Exists.intro _ (And.intro (is_form) ?_)
            refine And.intro (fun h => trivial) ?_
            refine And.intro (fun h => ⟨⟨h, trivial⟩, trivial⟩) ?_
            refine And.intro (by exact fun h => h) ?_
            refine acode_ret ?_
            exact ib_eq (by decide)
          · try simp only [Bool.not_eq_false'] at h33
            try simp only [Int.toNat_natCast, dflt_sl, dflt_st, dflt_str, dflt_int, dflt_bool] at h33
            rw [hg] at h33
            cases h33
      · refine acode_region ?_
        refine Or.inl ?_
        refine And.intro (rfl) ?_
        refine Exists.intro _ (And.intro (print_yes hT hg) ?_)
        refine acode_seq ?_
        refine acode_region ?_
        refine Or.inl ?_
        refine And.intro (rfl) ?_
        refine Exists.intro _ (And.intro (refGood_c s hT) ?_)
        refine acode_seq ?_
        refine acode_seq ?_
        refine acode_region ?_
        refine Or.inl ?_
        refine And.intro (rfl) ?_
        refine Exists.intro _ (And.intro (good_c s hT) ?_)
        refine And.intro (fun h => trivial) ?_
        refine And.intro (fun h => trivial) ?_
        refine And.intro (rfl) ?_
        refine Exists.intro _ (And.intro (fun h => ⟨⟨⟨h, trivial⟩, ⟨h, trivial⟩, trivial⟩, same_c s s⟩) ?_)
        refine And.intro (fun h => ⟨⟨h, trivial⟩, trivial⟩) ?_
        refine And.intro (by first | (intro h; rw [h]; rfl) | (intro h; cases h)) ?_
        refine acode_cond rfl (fun h31 => ?_) (fun h31 => ?_)
        · try simp only [decide_eq_false_iff_not, Bool.not_eq_true', Bool.or_eq_true] at h31
          try simp only [Int.toNat_natCast, dflt_sl, dflt_st, dflt_str, dflt_int, dflt_bool] at h31
          simp at h31
        · try simp only [decide_eq_true_eq, Bool.not_eq_false', Bool.or_eq_false_iff] at h31
          try simp only [Int.toNat_natCast, dflt_sl, dflt_st, dflt_str, dflt_int, dflt_bool] at h31
          refine acode_skip ?_
          refine acode_seq ?_
          refine acode_seq ?_
          refine acode_region ?_
          refine acode_cond rfl (fun h33 => ?_) (fun h33 => ?_)
          · try simp only [Bool.not_eq_true'] at h33
            try simp only [Int.toNat_natCast, dflt_sl, dflt_st, dflt_str, dflt_int, dflt_bool] at h33
            rw [hg] at h33
            cases h33
          · try simp only [Bool.not_eq_false'] at h33
            try simp only [Int.toNat_natCast, dflt_sl, dflt_st, dflt_str, dflt_int, dflt_bool] at h33
            refine acode_skip ?_
            refine acode_seq ?_
            refine acode_region ?_
            refine Or.inl ?_
            refine And.intro (rfl) ?_
            refine Exists.intro _ (And.intro ((by have := parse_c (bytes (selL s)) (by rw [bytes_size]; exact selL_small hs (good_ok hT hg)); rw [bytes_list, prog_read hg (good_rel hg)] at this; exact this)) ?_)
            refine acode_seq ?_
            refine acode_region ?_
            refine And.intro (fun h => trivial) ?_
            refine And.intro (fun h => ⟨⟨h, trivial⟩, trivial⟩) ?_
            refine And.intro (by exact fun h => h) ?_
            refine And.intro (fun h => trivial) ?_
            refine And.intro (fun h => trivial) ?_
            refine And.intro (rfl) ?_
            refine Exists.intro _ (And.intro (fun h => ⟨⟨⟨h, trivial⟩, trivial⟩, refLine_c s (good_ok hT hg)⟩) ?_)
            refine And.intro (fun h => ⟨⟨h, trivial⟩, ⟨h, trivial⟩, trivial⟩) ?_
            refine And.intro (by exact fun h => h) ?_
            refine And.intro (fun h => trivial) ?_
            refine And.intro (fun h => trivial) ?_
            refine And.intro (rfl) ?_
            refine Exists.intro _ (And.intro (fun h => ⟨⟨⟨h, trivial⟩, ⟨h, trivial⟩, trivial⟩, same_c s s⟩) ?_)
            refine And.intro (by exact fun h => h) ?_
            refine acode_ret ?_
            exact ib_eq (by simp)
theorem parseL_txt {l : List UInt8} {s : List (List Term)} (h : parseL l = some s) (hl : l.length ≤ 1000000) : TxtsOk s := by
  unfold parseL at h
  split at h
  · rename_i x hx
    split at h
    · cases h
      intro r hr t ht
      have := selP_len hx r hr t ht
      exact ⟨by omega, by omega⟩
    · cases h
  · cases h
theorem QueryParses_c (line : ByteArray) : ACall Tryd.prog 4 [is line] (ib true) := by
  have hz := size_list line
  refine acall_of (rs := [2]) Tryd.func4 rfl rfl rfl teOk rfl ?_
  refine acode_seq ?_
  refine acode_region ?_
  refine acode_seq ?_
  refine acode_seq ?_
  refine acode_region ?_
  refine Or.inl ?_
  refine And.intro (rfl) ?_
  refine Exists.intro _ (And.intro (alive_c) ?_)
  refine acode_cond rfl (fun h9 => ?_) (fun h9 => ?_)
  · try simp only [Bool.not_eq_true'] at h9
    try simp only [Int.toNat_natCast, dflt_sl, dflt_st, dflt_str, dflt_int, dflt_bool] at h9
    cases h9
  · try simp only [Bool.not_eq_false'] at h9
    try simp only [Int.toNat_natCast, dflt_sl, dflt_st, dflt_str, dflt_int, dflt_bool] at h9
    refine acode_skip ?_
    refine acode_seq ?_
    refine acode_seq ?_
    refine acode_region ?_
    refine acode_cond rfl (fun h12 => ?_) (fun h12 => ?_)
    · try simp only [decide_eq_true_eq] at h12
      try simp only [Int.toNat_natCast, dflt_sl, dflt_st, dflt_str, dflt_int, dflt_bool] at h12
      refine acode_seq ?_
      refine acode_region ?_
      refine acode_ret ?_
      rfl
    · try simp only [decide_eq_false_iff_not, Int.not_lt] at h12
      try simp only [Int.toNat_natCast, dflt_sl, dflt_st, dflt_str, dflt_int, dflt_bool] at h12
      have hl : line.size ≤ 1500 := by omega
      refine acode_skip ?_
      refine acode_seq ?_
      rcases hp : parseL line.data.toList with _|s
      · refine acode_region ?_
        refine Or.inl ?_
        refine And.intro (rfl) ?_
        refine Exists.intro _ (And.intro ((by have := parse_c line (by omega); rw [hp] at this; exact this)) ?_)
        refine acode_seq ?_
        refine acode_region ?_
        refine Or.inl ?_
        refine And.intro (rfl) ?_
        refine Exists.intro _ (And.intro ((by have := refParse_c line (by omega); rw [← parse_same, hp] at this; exact this)) ?_)
        refine acode_seq ?_
        refine acode_seq ?_
        refine acode_region ?_
        refine And.intro (fun h => trivial) ?_
        refine And.intro (fun h => ⟨⟨h, trivial⟩, trivial⟩) ?_
        refine And.intro (fun h => ⟨⟨h, trivial⟩, trivial⟩) ?_
        refine And.intro (fun h => trivial) ?_
        refine And.intro (rfl) ?_
        refine Exists.intro _ (And.intro (fun h => ⟨⟨⟨h, trivial⟩, trivial⟩, is_form⟩) ?_)
        refine And.intro (fun h => ⟨⟨h, trivial⟩, trivial⟩) ?_
        refine And.intro (fun h => ⟨⟨⟨h, trivial⟩, trivial⟩, by first | exact fun h2 => h2 | (intro h2; rw [h, h2]; rfl) | (intro h2; cases h2) | (intro h2; simp_all [gq])⟩) ?_
        refine And.intro (by first | (intro h; rw [h]; rfl) | (intro h; cases h)) ?_
        refine And.intro (fun h => trivial) ?_
        refine And.intro (fun h => trivial) ?_
        refine And.intro (rfl) ?_
        refine Exists.intro _ (And.intro (fun h => ⟨⟨⟨h, trivial⟩, ⟨h, trivial⟩, trivial⟩, same_c [] []⟩) ?_)
        refine And.intro (fun h => ⟨⟨h, trivial⟩, trivial⟩) ?_
        refine And.intro (by first | (intro h; rw [h]; rfl) | (intro h; cases h)) ?_
        refine acode_cond rfl (fun h41 => ?_) (fun h41 => ?_)
        · try simp only [decide_eq_false_iff_not, Bool.and_eq_true, Bool.not_eq_true', Bool.or_eq_true] at h41
          try simp only [Int.toNat_natCast, dflt_sl, dflt_st, dflt_str, dflt_int, dflt_bool] at h41
          simp at h41
        · try simp only [decide_eq_true_eq, Bool.not_eq_false', Bool.or_eq_false_iff, Bool.and_eq_false_iff] at h41
          try simp only [Int.toNat_natCast, dflt_sl, dflt_st, dflt_str, dflt_int, dflt_bool] at h41
          refine acode_skip ?_
          refine acode_seq ?_
          refine acode_seq ?_
          refine acode_region ?_
          refine acode_cond rfl (fun h43 => ?_) (fun h43 => ?_)
          · try simp only [Bool.not_eq_true'] at h43
            try simp only [Int.toNat_natCast, dflt_sl, dflt_st, dflt_str, dflt_int, dflt_bool] at h43
            refine acode_seq ?_
            refine acode_region ?_
            refine acode_ret ?_
            rfl
          · try simp only [Bool.not_eq_false'] at h43
            try simp only [Int.toNat_natCast, dflt_sl, dflt_st, dflt_str, dflt_int, dflt_bool] at h43
            cases h43
      · refine acode_region ?_
        refine Or.inl ?_
        refine And.intro (rfl) ?_
        refine Exists.intro _ (And.intro ((by have := parse_c line (by omega); rw [hp] at this; exact this)) ?_)
        refine acode_seq ?_
        refine acode_region ?_
        refine Or.inl ?_
        refine And.intro (rfl) ?_
        refine Exists.intro _ (And.intro ((by have := refParse_c line (by omega); rw [← parse_same, hp] at this; exact this)) ?_)
        refine acode_seq ?_
        refine acode_seq ?_
        refine acode_region ?_
        refine And.intro (fun h => trivial) ?_
        refine And.intro (fun h => ⟨⟨h, trivial⟩, trivial⟩) ?_
        refine And.intro (fun h => ⟨⟨h, trivial⟩, trivial⟩) ?_
        refine And.intro (fun h => trivial) ?_
        refine And.intro (rfl) ?_
        refine Exists.intro _ (And.intro (fun h => ⟨⟨⟨h, trivial⟩, trivial⟩, (absurd h (by simp [gq]) : ACall Tryd.prog 22 [.one (.lit .nilIface), ii .i64 2] (ib true))⟩) ?_)
        refine And.intro (fun h => ⟨⟨h, trivial⟩, trivial⟩) ?_
        refine And.intro (fun h => ⟨⟨⟨h, trivial⟩, trivial⟩, by first | exact fun h2 => h2 | (intro h2; rw [h, h2]; rfl) | (intro h2; cases h2) | (intro h2; simp_all [gq])⟩) ?_
        refine And.intro (by first | (intro h; rw [h]; rfl) | (intro h; cases h)) ?_
        refine And.intro (fun h => trivial) ?_
        refine And.intro (fun h => trivial) ?_
        refine And.intro (rfl) ?_
        refine Exists.intro _ (And.intro (fun h => ⟨⟨⟨h, trivial⟩, ⟨h, trivial⟩, trivial⟩, same_c s s⟩) ?_)
        refine And.intro (fun h => ⟨⟨h, trivial⟩, trivial⟩) ?_
        refine And.intro (by first | (intro h; rw [h]; rfl) | (intro h; cases h)) ?_
        refine acode_cond rfl (fun h41 => ?_) (fun h41 => ?_)
        · try simp only [decide_eq_false_iff_not, Bool.and_eq_true, Bool.not_eq_true', Bool.or_eq_true] at h41
          try simp only [Int.toNat_natCast, dflt_sl, dflt_st, dflt_str, dflt_int, dflt_bool] at h41
          simp at h41
        · try simp only [decide_eq_true_eq, Bool.not_eq_false', Bool.or_eq_false_iff, Bool.and_eq_false_iff] at h41
          try simp only [Int.toNat_natCast, dflt_sl, dflt_st, dflt_str, dflt_int, dflt_bool] at h41
          refine acode_skip ?_
          refine acode_seq ?_
          refine acode_seq ?_
          refine acode_region ?_
          refine acode_cond rfl (fun h43 => ?_) (fun h43 => ?_)
          · try simp only [Bool.not_eq_true'] at h43
            try simp only [Int.toNat_natCast, dflt_sl, dflt_st, dflt_str, dflt_int, dflt_bool] at h43
            cases h43
          · try simp only [Bool.not_eq_false'] at h43
            try simp only [Int.toNat_natCast, dflt_sl, dflt_st, dflt_str, dflt_int, dflt_bool] at h43
            obtain ⟨hg, hline⟩ := parseL_spec hp
            refine acode_skip ?_
            refine acode_seq ?_
            refine acode_region ?_
            refine Or.inl ?_
            refine And.intro (rfl) ?_
            refine Exists.intro _ (And.intro (print_yes (parseL_txt hp (by omega)) hg) ?_)
            refine acode_seq ?_
            refine acode_region ?_
            refine And.intro (fun h => trivial) ?_
            refine And.intro (fun h => trivial) ?_
            refine And.intro (fun h => ⟨⟨h, trivial⟩, ⟨h, trivial⟩, trivial⟩) ?_
            refine And.intro (by exact fun h => h) ?_
            refine acode_ret ?_
            exact ib_eq (by rw [hline, show bytes line.data.toList = line from bytes_ls line]; simp)
def turnT (t : Term) : Term := (!t.1, t.2)
theorem turn_c (t : Term) : ACall Tryd.prog 31 [.agg (toL rTerm t)] (.agg (toL rTerm (turnT t))) := by
  refine acall_ofc (rs := [.cell 2 46]) Tryd.func31 rfl rfl rfl teOk rfl ?_
  refine acode_seq ?_
  refine acode_region ?_
  refine acode_seq ?_
  refine acode_region ?_
  refine acode_seq ?_
  refine acode_region ?_
  refine acode_ret ?_
  rfl
theorem turn_matches (t : Term) (l : List Fld) (h : bad t = false) : termMatches (turnT t) l = !termMatches t l := by
  have h2 : bad (turnT t) = false := h
  unfold termMatches
  rw [h, h2]
  have : (fun f : Fld => decide (f.1 = (turnT t).2.1) && ofB (turnT t) f.2) = fun f => decide (f.1 = t.2.1) && ofB t f.2 := rfl
  rw [this]
  show (true && !decide (_ = !t.1)) = !(true && !decide (_ = t.1))
  cases t.1 <;> cases (l.any fun f => decide (f.1 = t.2.1) && ofB t f.2) <;> rfl
theorem selM_full (s : List (List Term)) (l : List Fld) (hl : FldsOk l) : ACall Tryd.prog 29 [.one (.full (.sl rTerm) s), .one (.sl rFld l)] (ib (selMatches s l)) := by
  refine acall_arg (fun ok ρ w vs h => ?_) (selMatches_c s l hl)
  obtain ⟨v, r, rfl, h1, h3⟩ := h
  exact ⟨v, _, rfl, h1.1, h3⟩
theorem selM_nil (l : List Fld) (hl : FldsOk l) : ACall Tryd.prog 29 [.one (.lit (.slice none 0 0)), .one (.sl rFld l)] (ib false) := by
  refine acall_arg (fun ok ρ w vs h => ?_) (selMatches_c [] l hl)
  obtain ⟨v, r, rfl, h1, h3⟩ := h
  exact ⟨v, _, rfl, by rw [show v = .slice none 0 0 from h1]; exact ⟨none, 0, rfl, Nat.le_refl _, by unfold maxLen; simp, fun i h => absurd h (by simp)⟩, h3⟩
theorem QueryRows_c (a b : List (List Term)) (l : List Fld) : ACall Tryd.prog 6 [.one (.sl (.sl rTerm) a), .one (.sl (.sl rTerm) b), .one (.sl rFld l)] (ib true) := by
  refine acall_of (rs := [6]) Tryd.func6 rfl rfl rfl teOk rfl ?_
  refine acode_seq ?_
  refine acode_region ?_
  refine acode_seq ?_
  refine acode_seq ?_
  refine acode_region ?_
  refine Or.inl ?_
  refine And.intro (rfl) ?_
  refine Exists.intro _ (And.intro (alive_c) ?_)
  refine acode_cond rfl (fun h16 => ?_) (fun h16 => ?_)
  · try simp only [Bool.not_eq_true'] at h16
    try simp only [Int.toNat_natCast, dflt_sl, dflt_st, dflt_str, dflt_int, dflt_bool] at h16
    cases h16
  · try simp only [Bool.not_eq_false'] at h16
    try simp only [Int.toNat_natCast, dflt_sl, dflt_st, dflt_str, dflt_int, dflt_bool] at h16
    refine acode_skip ?_
    refine acode_seq ?_
    refine acode_seq ?_
    refine acode_region ?_
    refine Or.inl ?_
    refine And.intro (rfl) ?_
    refine Exists.intro _ (And.intro (large_c a) ?_)
    refine And.intro (fun h => trivial) ?_
    refine And.intro (rfl) ?_
    refine Exists.intro _ (And.intro (fun h => ⟨⟨⟨h, trivial⟩, trivial⟩, large_c b⟩) ?_)
    refine And.intro (by first | (intro h; rw [h]; rfl) | (intro h; cases h)) ?_
    refine And.intro (fun h => trivial) ?_
    refine And.intro (rfl) ?_
    refine Exists.intro _ (And.intro (fun h => ⟨⟨⟨h, trivial⟩, trivial⟩, much_c l⟩) ?_)
    refine And.intro (by first | (intro h; rw [h]; rfl) | (intro h; cases h)) ?_
    refine acode_cond rfl (fun h26 => ?_) (fun h26 => ?_)
    · try simp only [Bool.or_eq_true] at h26
      try simp only [Int.toNat_natCast, dflt_sl, dflt_st, dflt_str, dflt_int, dflt_bool] at h26
      refine acode_seq ?_
      refine acode_region ?_
      refine acode_ret ?_
      rfl
    · try simp only [Bool.or_eq_false_iff] at h26
      try simp only [Int.toNat_natCast, dflt_sl, dflt_st, dflt_str, dflt_int, dflt_bool] at h26
      obtain ⟨ha, hTa⟩ := large_ok h26.1.1
      obtain ⟨hb, hTb⟩ := large_ok h26.1.2
      have hl := much_ok h26.2
      have ha1 := ha.1
      have hb1 := hb.1
      refine acode_skip ?_
      refine acode_seq ?_
      refine acode_region ?_
      refine Or.inl ?_
      refine And.intro (rfl) ?_
      refine Exists.intro _ (And.intro (program_c a ha) ?_)
      refine Or.inl ?_
      refine And.intro (rfl) ?_
      refine Exists.intro _ (And.intro (program_c b hb) ?_)
      refine acode_seq ?_
      refine acode_region ?_
      refine And.intro (by show (0 + a.length) * 24 ≤ 140737488355328; omega) ?_
      refine And.intro (by show (a.length + b.length) * 24 ≤ 140737488355328; omega) ?_
      refine acode_seq ?_
      refine acode_seq ?_
      refine acode_region ?_
      refine Or.inl ?_
      refine And.intro (rfl) ?_
      refine Exists.intro _ (And.intro (selMatches_c (a ++ b) l hl) ?_)
      refine Or.inl ?_
      refine And.intro (rfl) ?_
      refine Exists.intro _ (And.intro (selMatches_c a l hl) ?_)
      refine And.intro (fun h => trivial) ?_
      refine And.intro (fun h => trivial) ?_
      refine And.intro (rfl) ?_
      refine Exists.intro _ (And.intro (fun h => ⟨⟨⟨h, trivial⟩, ⟨h, trivial⟩, trivial⟩, selMatches_c b l hl⟩) ?_)
      refine And.intro (by first | (intro h; rw [h]; rfl) | (intro h; cases h)) ?_
      refine acode_cond rfl (fun h47 => ?_) (fun h47 => ?_)
      · try simp only [Bool.not_eq_true'] at h47
        try simp only [Int.toNat_natCast, dflt_sl, dflt_st, dflt_str, dflt_int, dflt_bool] at h47
        rw [show selMatches (a ++ b) l = (selMatches a l || selMatches b l) from List.any_append] at h47
        simp at h47
      · try simp only [Bool.not_eq_false'] at h47
        try simp only [Int.toNat_natCast, dflt_sl, dflt_st, dflt_str, dflt_int, dflt_bool] at h47
        refine acode_skip ?_
        refine acode_seq ?_
        refine acode_seq ?_
        refine acode_region ?_
        intro l9_1
        try simp only [Int.toNat_natCast, dflt_sl, dflt_st, dflt_str, dflt_int, dflt_bool] at l9_1
        refine acode_block ?_
        refine acode_loopP (fun (i : Nat) => i ≤ a.length) (fun (i : Nat) => [(2, .one (.sl rFld l)), (48, .one (.sl (.sl rTerm) a)), (49, ii .i64 a.length), (50, ii .i64 i)]) (fun (i : Nat) => []) 0 (fun (i : Nat) => a.length - i) 0 (Nat.zero_le _) (le_of ⟨rfl, rfl, rfl, rfl⟩ trivial rfl) ?_
        intro i hI0
        have hi := hI0
        refine acode_seq ?_
        refine acode_region ?_
        refine acode_seq ?_
        refine acode_cond rfl (fun h51 => ?_) (fun h51 => ?_)
        · try simp only [decide_eq_true_eq] at h51
          try simp only [Int.toNat_natCast, dflt_sl, dflt_st, dflt_str, dflt_int, dflt_bool] at h51
          have hlt : i < a.length := by omega
          have hm := getD_mem hlt []
          refine acode_skip ?_
          refine acode_seq ?_
          refine acode_block ?_
          refine acode_seq ?_
          refine acode_region ?_
          refine And.intro (by first | omega | assumption | decide | (simp only [Int.toNat_natCast, dflt_sl, dflt_st, dflt_str, dflt_int, dflt_bool]; omega) | (simp; omega)) ?_
          refine acode_seq ?_
          refine acode_region ?_
          refine acode_seq ?_
          refine acode_seq ?_
          refine acode_region ?_
          intro l13_1
          try simp only [Int.toNat_natCast, dflt_sl] at l13_1
          refine acode_block ?_
          refine acode_loopP (fun (k : Nat) => k ≤ (a.getD i []).length) (fun (k : Nat) => [(2, .one (.sl rFld l)), (48, .one (.sl (.sl rTerm) a)), (49, ii .i64 a.length), (50, ii .i64 i), (11, .one (.sl rTerm (a.getD i []))), (12, ib (((a.getD i []).take k).all fun t => termMatches t l)), (54, .one (.sl rTerm (a.getD i []))), (55, ii .i64 (a.getD i []).length), (56, ii .i64 k)]) (fun (k : Nat) => []) 0 (fun (k : Nat) => (a.getD i []).length - k) 0 (Nat.zero_le _) (le_of ⟨rfl, rfl, rfl, rfl, rfl, rfl, rfl, rfl, rfl⟩ trivial rfl) ?_
          intro k hI2
          have hk := hI2
          refine acode_seq ?_
          refine acode_region ?_
          refine acode_seq ?_
          refine acode_cond rfl (fun h57 => ?_) (fun h57 => ?_)
          · try simp only [decide_eq_true_eq] at h57
            try simp only [Int.toNat_natCast, dflt_sl, dflt_st, dflt_str, dflt_int, dflt_bool] at h57
            have hm2 := getD_mem (show k < (a.getD i []).length by omega) (false, ByteArray.empty, 0, ByteArray.empty)
            refine acode_skip ?_
            refine acode_seq ?_
            refine acode_block ?_
            refine acode_seq ?_
            refine acode_region ?_
            refine And.intro (by first | omega | assumption | decide | (simp only [Int.toNat_natCast, dflt_sl, dflt_st, dflt_str, dflt_int, dflt_bool]; omega) | (simp; omega)) ?_
            refine acode_seq ?_
            refine acode_region ?_
            refine And.intro (fun h => trivial) ?_
            refine And.intro (fun h => trivial) ?_
            refine And.intro (rfl) ?_
            refine Exists.intro _ (And.intro (fun h => ⟨⟨⟨h, trivial⟩, ⟨h, trivial⟩, trivial⟩, termMatches_c _ l hl⟩) ?_)
            refine And.intro (by exact fun h => h) ?_
            refine acode_seq ?_
            refine acode_draw rfl (by kernel_rfl) ?_
            refine And.intro (fun h => trivial) ?_
            refine And.intro (fun h => ⟨⟨h, trivial⟩, trivial⟩) ?_
            refine And.intro (fun h => ⟨⟨h, trivial⟩, trivial⟩) ?_
            refine And.intro (by exact fun h => h) ?_
            refine And.intro (fun h => trivial) ?_
            refine And.intro (rfl) ?_
            refine Exists.intro _ (And.intro (fun h => ⟨⟨⟨h, trivial⟩, trivial⟩, turn_c _⟩) ?_)
            refine And.intro (fun h => trivial) ?_
            refine And.intro (rfl) ?_
            refine Exists.intro _ (And.intro (fun h => ⟨⟨⟨h, trivial⟩, ⟨h, trivial⟩, trivial⟩, termMatches_c _ l hl⟩) ?_)
            refine And.intro (fun h => trivial) ?_
            refine And.intro (fun h => trivial) ?_
            refine And.intro (rfl) ?_
            refine Exists.intro _ (And.intro (fun h => ⟨⟨⟨h, trivial⟩, ⟨h, trivial⟩, trivial⟩, termMatches_c _ l hl⟩) ?_)
            refine And.intro (fun h => ⟨⟨h, trivial⟩, ⟨h, trivial⟩, trivial⟩) ?_
            refine And.intro (by exact fun h => h) ?_
            refine And.intro (fun h => trivial) ?_
            refine And.intro (rfl) ?_
            refine Exists.intro _ (And.intro (fun h => ⟨⟨⟨h, trivial⟩, trivial⟩, turn_c _⟩) ?_)
            refine And.intro (rfl) ?_
            refine Exists.intro _ (And.intro (fun h => ⟨⟨⟨h, trivial⟩, trivial⟩, turn_c _⟩) ?_)
            refine And.intro (fun h => trivial) ?_
            refine And.intro (fun h => ⟨⟨⟨h, trivial⟩, ⟨h, trivial⟩, trivial⟩, by rfl⟩) ?_
            refine And.intro (by first | (intro h; rw [h]; rfl) | (intro h; cases h)) ?_
            refine acode_cond rfl (fun h90 => ?_) (fun h90 => ?_)
            · try simp only [decide_eq_true_eq, decide_eq_false_iff_not, Bool.and_eq_true, Bool.not_eq_true', Bool.or_eq_true, Bool.and_eq_false_iff] at h90
              try simp only [Int.toNat_natCast, dflt_st, dflt_str, dflt_int, dflt_bool] at h90
              exfalso
              revert h90
              generalize (a.getD i []).getD k (false, ByteArray.empty, 0, ByteArray.empty) = t
              intro h90
              rcases h90 with ⟨⟨h1, h2⟩, h3⟩|h3
              · rw [turn_matches t l (by unfold bad; rw [decide_eq_false (by omega), decide_eq_false (by omega)]; rfl)] at h3; simp at h3
              · simp [turnT] at h3
            · try simp only [decide_eq_true_eq, decide_eq_false_iff_not, Bool.and_eq_true, Bool.not_eq_false', Bool.or_eq_false_iff, Bool.and_eq_false_iff, Int.not_le] at h90
              try simp only [Int.toNat_natCast, dflt_st, dflt_str, dflt_int, dflt_bool] at h90
              refine acode_skip ?_
              refine acode_region ?_
              refine And.intro (by first | omega | assumption | decide | (simp only [Int.toNat_natCast, dflt_sl, dflt_st, dflt_str, dflt_int, dflt_bool]; omega) | (simp; omega)) ?_
              exact ⟨k + 1, by omega, by first | omega | (simp; omega), le_of ⟨rfl, rfl, rfl, rfl, rfl, (ib_eq (by rw [all_take_succ (a.getD i []) (fun t => termMatches t l) (false, ByteArray.empty, 0, ByteArray.empty) k (by omega)]; rfl)), rfl, rfl, rfl⟩ trivial rfl⟩
          · try simp only [decide_eq_false_iff_not, Int.not_lt] at h57
            try simp only [Int.toNat_natCast, dflt_sl, dflt_st, dflt_str, dflt_int, dflt_bool] at h57
            refine acode_exit ?_
            refine acode_seq ?_
            refine acode_region ?_
            refine Or.inl ?_
            refine And.intro (rfl) ?_
            refine Exists.intro _ (And.intro (selMatches_c [a.getD i []] l hl) ?_)
            refine acode_cond rfl (fun h97 => ?_) (fun h97 => ?_)
            · try simp only [Bool.not_eq_true'] at h97
              try simp only [Int.toNat_natCast, dflt_sl, dflt_st, dflt_str, dflt_int, dflt_bool] at h97
              exfalso
              rw [show k = (a.getD i []).length by omega, List.take_length] at h97
              revert h97
              generalize a.getD i [] = r
              intro h97
              have e : selMatches [r] l = r.all fun t => termMatches t l := by unfold selMatches; rw [List.all_eq_not_any_not, List.any_cons, List.any_nil, Bool.or_false]
              rw [e] at h97
              simp at h97
            · try simp only [Bool.not_eq_false'] at h97
              try simp only [Int.toNat_natCast, dflt_sl, dflt_st, dflt_str, dflt_int, dflt_bool] at h97
              refine acode_skip ?_
              refine acode_region ?_
              refine And.intro (by first | omega | assumption | decide | (simp only [Int.toNat_natCast, dflt_sl, dflt_st, dflt_str, dflt_int, dflt_bool]; omega) | (simp; omega)) ?_
              exact ⟨i + 1, by omega, by first | omega | (simp; omega), le_of ⟨rfl, rfl, rfl, rfl⟩ trivial rfl⟩
        · try simp only [decide_eq_false_iff_not, Int.not_lt] at h51
          try simp only [Int.toNat_natCast, dflt_sl, dflt_st, dflt_str, dflt_int, dflt_bool] at h51
          refine acode_exit ?_
          refine acode_seq ?_
          refine acode_region ?_
          refine Or.inl ?_
          refine And.intro (rfl) ?_
          refine Exists.intro _ (And.intro (selM_nil l hl) ?_)
          refine And.intro (fun h => trivial) ?_
          refine And.intro (fun h => trivial) ?_
          refine And.intro (rfl) ?_
          refine Exists.intro _ (And.intro (fun h => ⟨⟨⟨h, trivial⟩, ⟨h, trivial⟩, trivial⟩, selM_full [[]] l hl⟩) ?_)
          refine And.intro (by exact fun h => h) ?_
          refine acode_ret ?_
          exact ib_eq rfl
end Q
end Ab
end Go.Proofs.YthlfbpmbkcoclaaDoor
