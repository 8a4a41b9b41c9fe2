/-
  The texts of this proof, joined: abstract values, the library, the functions of the program and what they compute (part 5). No condition.
-/
import Derived.Shelf.Vars
import Derived.KernelRfl
import Derived.Test.YtdedkoiodehmnaaDoorK1
import Derived.Test.YtdedkoiodehmnaaDoorK2
import Derived.Test.YtdedkoiodehmnaaDoorK3
import Derived.Test.YtdedkoiodehmnaaDoorK4
namespace Go.Proofs.YtdedkoiodehmnaaDoor
open Go.RowKit
namespace Ab
set_option maxRecDepth 100000
namespace Q
theorem at_fault (at_ n : Int) : ACall Tryd.prog 45 [.one (errF at_ n)] (ii .i64 at_) := by
  refine acall_of (rs := [2]) Tryd.func45 rfl rfl rfl teOk rfl ?_
  refine acode_seq ?_
  refine acode_region ?_
  refine acode_seq ?_
  refine acode_seq ?_
  refine acode_region ?_
  refine acode_seq ?_
  refine acode_region ?_
  refine And.intro (fun h => trivial) ?_
  refine And.intro (fun h => ⟨⟨h, trivial⟩, trivial⟩) ?_
  refine And.intro (by exact fun h => h) ?_
  refine acode_cond rfl (fun h14 => ?_) (fun h14 => ?_)
  · try simp only [Bool.and_eq_true] at h14
    try simp only [Int.toNat_natCast, dflt_sl, dflt_st, dflt_str, dflt_int, dflt_bool] at h14
    refine acode_seq ?_
    refine acode_region ?_
    refine acode_ret ?_
    rfl
  · try simp only [Bool.and_eq_false_iff] at h14
    try simp only [Int.toNat_natCast, dflt_sl, dflt_st, dflt_str, dflt_int, dflt_bool] at h14
    simp at h14
theorem at_nil : ACall Tryd.prog 45 [.one (.lit .nilIface)] (ii .i64 (-9)) := by
  refine acall_of (rs := [2]) Tryd.func45 rfl rfl rfl teOk rfl ?_
  refine acode_seq ?_
  refine acode_region ?_
  refine acode_seq ?_
  refine acode_seq ?_
  refine acode_region ?_
  refine acode_seq ?_
  refine acode_region ?_
  refine And.intro (fun h => trivial) ?_
  refine And.intro (fun h => ⟨⟨h, trivial⟩, trivial⟩) ?_
  refine And.intro (by exact fun h => h) ?_
  refine acode_cond rfl (fun h14 => ?_) (fun h14 => ?_)
  · try simp only [Bool.and_eq_true, Bool.not_eq_true'] at h14
    try simp only [Int.toNat_natCast, dflt_sl, dflt_st, dflt_str, dflt_int, dflt_bool] at h14
    simp at h14
  · try simp only [Bool.not_eq_false', Bool.and_eq_false_iff] at h14
    try simp only [Int.toNat_natCast, dflt_sl, dflt_st, dflt_str, dflt_int, dflt_bool] at h14
    refine acode_skip ?_
    refine acode_seq ?_
    refine acode_region ?_
    refine acode_ret ?_
    rfl
theorem is_fault (at_ n : Int) (hn : n ≠ 0) : ACall Tryd.prog 39 [.one (errF at_ n), ii .i64 n] (ib true) := by
  refine acall_of (rs := [4]) Tryd.func39 rfl rfl rfl teOk rfl ?_
  refine acode_seq ?_
  refine acode_region ?_
  refine acode_seq ?_
  refine acode_region ?_
  refine Or.inl ?_
  refine And.intro (rfl) ?_
  refine Exists.intro _ (And.intro (num_fault at_ n hn) ?_)
  refine acode_ret ?_
  exact ib_eq (decide_eq_true rfl)
theorem wr5 (a : Int) : 0 ≤ IntKind.i64.wrap ((IntKind.u64.wrap a).tmod 5) ∧ IntKind.i64.wrap ((IntKind.u64.wrap a).tmod 5) ≤ 4 := by
  have h1 : 0 ≤ IntKind.u64.wrap a := by
    show 0 ≤ a % _
    exact Int.emod_nonneg _ (by decide)
  generalize IntKind.u64.wrap a = b at h1
  have h2 : b.tmod 5 = b % 5 := Int.tmod_eq_emod_of_nonneg h1
  rw [h2]
  have h3 := Int.emod_nonneg b (show (5 : Int) ≠ 0 by decide)
  have h4 := Int.emod_lt_of_pos b (show (0 : Int) < 5 by decide)
  generalize b % 5 = c at h3 h4
  have h5 : IntKind.i64.wrap c = c := by
    rcases (by omega : c = 0 ∨ c = 1 ∨ c = 2 ∨ c = 3 ∨ c = 4) with rfl | rfl | rfl | rfl | rfl <;> decide
  rw [h5]
  omega
theorem one_succ (i : Nat) : bytes (oneL i) ++ ⟨#[65, 58, 10]⟩ = bytes (oneL (i + 1)) := by
  rw [show oneL (i + 1) = oneL i ++ [65, 58, 10] from by simp [oneL, List.replicate_succ'], bytes_app]
  rfl
theorem many_succ (i : Nat) : bytes (manyL i) ++ ⟨#[65, 58, 10, 10]⟩ = bytes (manyL (i + 1)) := by
  rw [show manyL (i + 1) = manyL i ++ [65, 58, 10, 10] from by simp [manyL, List.replicate_succ'], bytes_app]
  rfl
theorem one_size (i : Nat) : (bytes (oneL i)).size = 3 * i := by
  rw [bytes_size]
  simp [oneL, List.length_flatten, Nat.mul_comm]
theorem many_size (i : Nat) : (bytes (manyL i)).size = 4 * i := by
  rw [bytes_size]
  simp [manyL, List.length_flatten, Nat.mul_comm]
theorem one_parse {m : Nat} (h1 : 38 ≤ m) (h2 : m ≤ 42) : (m ≤ 40 ∧ ∃ s, ACall Tryd.prog 48 [is (bytes (oneL m))] (resP (.inr [(3, s, List.replicate m (⟨#[65]⟩, ⟨#[]⟩))]))) ∨ (40 < m ∧ ACall Tryd.prog 48 [is (bytes (oneL m))] (resP (.inl (40, 11)))) := by
  have hp := parse_a (bytes (oneL m)) (by rw [one_size]; omega)
  rcases (by omega : m = 38 ∨ m = 39 ∨ m = 40 ∨ m = 41 ∨ m = 42) with rfl | rfl | rfl | rfl | rfl
  · rw [oneP_38] at hp; exact .inl ⟨by decide, _, hp⟩
  · rw [oneP_39] at hp; exact .inl ⟨by decide, _, hp⟩
  · rw [oneP_40] at hp; exact .inl ⟨by decide, _, hp⟩
  · rw [oneP_41] at hp; exact .inr ⟨by decide, hp⟩
  · rw [oneP_42] at hp; exact .inr ⟨by decide, hp⟩
theorem many_c {k : Nat} (h2 : k ≤ 402) : (k ≤ 400 ∧ ∃ l, l.length = 2 * k ∧ ACall Tryd.prog 48 [is (bytes (manyL k))] (resP (.inr l))) ∨ (400 < k ∧ ACall Tryd.prog 48 [is (bytes (manyL k))] (resP (.inl (800, 11)))) := by
  have hp := parse_a (bytes (manyL k)) (by rw [many_size]; omega)
  obtain ⟨h3, h4⟩ := many_parse k h2
  rcases Nat.lt_or_ge 400 k with h | h
  · rw [h4 h] at hp; exact .inr ⟨h, hp⟩
  · obtain ⟨l, e, hl⟩ := h3 h
    rw [e] at hp
    exact .inl ⟨h, l, hl, hp⟩
theorem StanzaMany_c (a b : Int) : ACall Tryd.prog 9 [ii .i64 a, ii .i64 b] (ib true) := by
  obtain ⟨x, hx⟩ : ∃ x, IntKind.i64.wrap ((IntKind.u64.wrap a).tmod 5) = x := ⟨_, rfl⟩
  obtain ⟨y, hy⟩ : ∃ y, IntKind.i64.wrap ((IntKind.u64.wrap b).tmod 5) = y := ⟨_, rfl⟩
  have hx5 := wr5 a
  have hy5 := wr5 b
  rw [hx] at hx5
  rw [hy] at hy5
  refine acall_of (rs := [4]) Tryd.func9 rfl rfl rfl teOk rfl ?_
  refine acode_seq ?_
  refine acode_region ?_
  refine acode_seq ?_
  refine acode_seq ?_
  refine acode_region ?_
  refine Or.inl ?_
  refine And.intro (rfl) ?_
  refine Exists.intro _ (And.intro (alive_c) ?_)
  refine acode_cond rfl (fun h12 => ?_) (fun h12 => ?_)
  · try simp only [Bool.not_eq_true'] at h12
    try simp only [Int.toNat_natCast, dflt_sl, dflt_st, dflt_str, dflt_int, dflt_bool] at h12
    cases h12
  · try simp only [Bool.not_eq_false'] at h12
    try simp only [Int.toNat_natCast, dflt_sl, dflt_st, dflt_str, dflt_int, dflt_bool] at h12
    refine acode_skip ?_
    refine acode_seq ?_
    refine acode_region ?_
    refine And.intro (by first | omega | assumption | decide | (simp only [Int.toNat_natCast, dflt_sl, dflt_st, dflt_str, dflt_int, dflt_bool]; omega) | (simp <;> omega)) ?_
    refine And.intro (by rw [hx]; omega) ?_
    refine And.intro (by first | omega | assumption | decide | (simp only [Int.toNat_natCast, dflt_sl, dflt_st, dflt_str, dflt_int, dflt_bool]; omega) | (simp <;> omega)) ?_
    refine And.intro (by rw [hy]; omega) ?_
    refine acode_seq ?_
    obtain ⟨m, hm⟩ : ∃ m : Nat, 38 + x = (m : Int) := ⟨(38 + x).toNat, by omega⟩
    obtain ⟨k, hk⟩ : ∃ k : Nat, 398 + y = (k : Int) := ⟨(398 + y).toNat, by omega⟩
    rw [hx, hy, hm, hk]
    refine acode_region ?_
    refine acode_seq ?_
    refine acode_seq ?_
    refine acode_region ?_
    refine acode_block ?_
    refine acode_loopP (fun (i : Nat) => i ≤ m) (fun (i : Nat) => [(0, ii .i64 m), (1, ii .i64 k), (5, is (bytes (oneL i))), (6, is ⟨#[]⟩), (23, ii .i64 m), (24, ii .i64 i)]) (fun (i : Nat) => []) 0 (fun (i : Nat) => m - i) 0 (Nat.zero_le _) (le_of ⟨rfl, rfl, rfl, rfl, rfl, rfl⟩ trivial rfl) ?_
    intro i hI0
    refine acode_seq ?_
    refine acode_region ?_
    refine acode_seq ?_
    refine acode_cond rfl (fun h25 => ?_) (fun h25 => ?_)
    · try simp only [decide_eq_true_eq] at h25
      try simp only [Int.toNat_natCast, dflt_sl, dflt_st, dflt_str, dflt_int, dflt_bool] at h25
      refine acode_skip ?_
      refine acode_seq ?_
      refine acode_block ?_
      refine acode_region ?_
      refine And.intro (by rw [one_size]; show 3 * i + 3 ≤ _; unfold maxLen; omega) ?_
      refine acode_region ?_
      refine And.intro (by first | omega | assumption | decide | (simp only [Int.toNat_natCast, dflt_sl, dflt_st, dflt_str, dflt_int, dflt_bool]; omega) | (simp <;> omega)) ?_
      exact ⟨i + 1, by omega, by first | omega | (simp <;> omega), le_of ⟨rfl, rfl, (is_eq (one_succ i)), rfl, rfl, (ii_eq (by omega))⟩ trivial rfl⟩
    · try simp only [decide_eq_false_iff_not, Int.not_lt] at h25
      try simp only [Int.toNat_natCast, dflt_sl, dflt_st, dflt_str, dflt_int, dflt_bool] at h25
      refine acode_exit ?_
      refine acode_seq ?_
      refine acode_seq ?_
      refine acode_region ?_
      refine acode_block ?_
      refine acode_loopP (fun (i : Nat) => i ≤ k) (fun (i : Nat) => [(0, ii .i64 m), (1, ii .i64 k), (5, is (bytes (oneL m))), (6, is (bytes (manyL i))), (29, ii .i64 k), (30, ii .i64 i)]) (fun (i : Nat) => []) 0 (fun (i : Nat) => k - i) 0 (Nat.zero_le _) (le_of ⟨rfl, rfl, (is_eq (by rw [show i = m from by omega])), rfl, rfl, rfl⟩ trivial rfl) ?_
      intro i hI2
      refine acode_seq ?_
      refine acode_region ?_
      refine acode_seq ?_
      refine acode_cond rfl (fun h31 => ?_) (fun h31 => ?_)
      · try simp only [decide_eq_true_eq] at h31
        try simp only [Int.toNat_natCast, dflt_sl, dflt_st, dflt_str, dflt_int, dflt_bool] at h31
        refine acode_skip ?_
        refine acode_seq ?_
        refine acode_block ?_
        refine acode_region ?_
        refine And.intro (by rw [many_size]; show 4 * i + 4 ≤ _; unfold maxLen; omega) ?_
        refine acode_region ?_
        refine And.intro (by first | omega | assumption | decide | (simp only [Int.toNat_natCast, dflt_sl, dflt_st, dflt_str, dflt_int, dflt_bool]; omega) | (simp <;> omega)) ?_
        exact ⟨i + 1, by omega, by first | omega | (simp <;> omega), le_of ⟨rfl, rfl, rfl, (is_eq (many_succ i)), rfl, (ii_eq (by omega))⟩ trivial rfl⟩
      · try simp only [decide_eq_false_iff_not, Int.not_lt] at h31
        try simp only [Int.toNat_natCast, dflt_sl, dflt_st, dflt_str, dflt_int, dflt_bool] at h31
        refine acode_exit ?_
        have hik : i = k := (by omega)
        rw [hik]
        refine acode_seq ?_
        rcases one_parse (m := m) (by omega) (by omega) with ⟨hm40, sA, hone⟩ | ⟨hm40, hone⟩ <;> rcases many_c (k := k) (by omega) with ⟨hk4, l, hl, hmany⟩ | ⟨hk4, hmany⟩
        · refine acode_region ?_
          refine Or.inl ?_
          refine And.intro (rfl) ?_
          refine Exists.intro _ (And.intro (hone) ?_)
          refine acode_seq ?_
          refine acode_region ?_
          refine Or.inl ?_
          refine And.intro (rfl) ?_
          refine Exists.intro _ (And.intro (hmany) ?_)
          refine acode_seq ?_
          refine acode_seq ?_
          refine acode_region ?_
          refine acode_cond rfl (fun h46 => ?_) (fun h46 => ?_)
          · try simp only [decide_eq_true_eq] at h46
            try simp only [Int.toNat_natCast, dflt_sl, dflt_st, dflt_str, dflt_int, dflt_bool] at h46
            omega
          · try simp only [decide_eq_false_iff_not, Int.not_lt] at h46
            try simp only [Int.toNat_natCast, dflt_sl, dflt_st, dflt_str, dflt_int, dflt_bool] at h46
            refine acode_seq ?_
            refine acode_region ?_
            refine And.intro (fun h => trivial) ?_
            refine And.intro (fun h => ⟨⟨h, trivial⟩, trivial⟩) ?_
            refine And.intro (fun h => ⟨⟨h, trivial⟩, trivial⟩) ?_
            refine And.intro (by first | (intro h; rw [h]; rfl) | (intro h; cases h)) ?_
            refine And.intro (fun h => trivial) ?_
            refine And.intro (fun h => ⟨⟨⟨h, trivial⟩, trivial⟩, by simp⟩) ?_
            refine And.intro (fun h => ⟨⟨h, trivial⟩, trivial⟩) ?_
            refine And.intro (fun h => ⟨⟨h, trivial⟩, trivial⟩) ?_
            refine And.intro (fun h => ⟨⟨h, trivial⟩, trivial⟩) ?_
            refine And.intro (fun h => trivial) ?_
            refine And.intro (fun h => ⟨⟨h, trivial⟩, ⟨h, trivial⟩, trivial⟩) ?_
            refine And.intro (by first | (intro h; rw [h]; rfl) | (intro h; cases h)) ?_
            refine acode_cond rfl (fun h75 => ?_) (fun h75 => ?_)
            · try simp only [decide_eq_false_iff_not, Bool.not_eq_true', Bool.or_eq_true] at h75
              try simp only [dflt_sl, dflt_st, dflt_str, dflt_int] at h75
              simp at h75
            · try simp only [decide_eq_true_eq, Bool.not_eq_false', Bool.or_eq_false_iff] at h75
              try simp only [dflt_sl, dflt_st, dflt_str, dflt_int] at h75
              refine acode_skip ?_
              refine acode_seq ?_
              refine acode_seq ?_
              refine acode_region ?_
              refine acode_cond rfl (fun h77 => ?_) (fun h77 => ?_)
              · try simp only [decide_eq_true_eq] at h77
                try simp only [Int.toNat_natCast, dflt_sl, dflt_st, dflt_str, dflt_int, dflt_bool] at h77
                omega
              · try simp only [decide_eq_false_iff_not, Int.not_lt] at h77
                try simp only [Int.toNat_natCast, dflt_sl, dflt_st, dflt_str, dflt_int, dflt_bool] at h77
                refine acode_skip ?_
                refine acode_seq ?_
                refine acode_region ?_
                refine And.intro (fun h => trivial) ?_
                refine And.intro (fun h => ⟨⟨h, trivial⟩, trivial⟩) ?_
                refine And.intro (fun h => trivial) ?_
                refine And.intro (fun h => ⟨⟨⟨h, trivial⟩, trivial⟩, by first | omega | decide | (simp only [Int.toNat_natCast, dflt_sl, dflt_st, dflt_str, dflt_int, dflt_bool]; omega) | (have h9 := of_decide_eq_true h; omega) | (simp [gq] at h; omega)⟩) ?_
                refine And.intro (fun h => ⟨⟨h, trivial⟩, ⟨h, trivial⟩, trivial⟩) ?_
                refine And.intro (by exact fun h => h) ?_
                refine acode_ret ?_
                exact ib_eq (by rw [hl]; simp)
        · refine acode_region ?_
          refine Or.inl ?_
          refine And.intro (rfl) ?_
          refine Exists.intro _ (And.intro (hone) ?_)
          refine acode_seq ?_
          refine acode_region ?_
          refine Or.inl ?_
          refine And.intro (rfl) ?_
          refine Exists.intro _ (And.intro (hmany) ?_)
          refine acode_seq ?_
          refine acode_seq ?_
          refine acode_region ?_
          refine acode_cond rfl (fun h46 => ?_) (fun h46 => ?_)
          · try simp only [decide_eq_true_eq] at h46
            try simp only [Int.toNat_natCast, dflt_sl, dflt_st, dflt_str, dflt_int, dflt_bool] at h46
            omega
          · try simp only [decide_eq_false_iff_not, Int.not_lt] at h46
            try simp only [Int.toNat_natCast, dflt_sl, dflt_st, dflt_str, dflt_int, dflt_bool] at h46
            refine acode_seq ?_
            refine acode_region ?_
            refine And.intro (fun h => trivial) ?_
            refine And.intro (fun h => ⟨⟨h, trivial⟩, trivial⟩) ?_
            refine And.intro (fun h => ⟨⟨h, trivial⟩, trivial⟩) ?_
            refine And.intro (by first | (intro h; rw [h]; rfl) | (intro h; cases h)) ?_
            refine And.intro (fun h => trivial) ?_
            refine And.intro (fun h => ⟨⟨⟨h, trivial⟩, trivial⟩, by simp⟩) ?_
            refine And.intro (fun h => ⟨⟨h, trivial⟩, trivial⟩) ?_
            refine And.intro (fun h => ⟨⟨h, trivial⟩, trivial⟩) ?_
            refine And.intro (fun h => ⟨⟨h, trivial⟩, trivial⟩) ?_
            refine And.intro (fun h => trivial) ?_
            refine And.intro (fun h => ⟨⟨h, trivial⟩, ⟨h, trivial⟩, trivial⟩) ?_
            refine And.intro (by first | (intro h; rw [h]; rfl) | (intro h; cases h)) ?_
            refine acode_cond rfl (fun h75 => ?_) (fun h75 => ?_)
            · try simp only [decide_eq_false_iff_not, Bool.not_eq_true', Bool.or_eq_true] at h75
              try simp only [dflt_sl, dflt_st, dflt_str, dflt_int] at h75
              simp at h75
            · try simp only [decide_eq_true_eq, Bool.not_eq_false', Bool.or_eq_false_iff] at h75
              try simp only [dflt_sl, dflt_st, dflt_str, dflt_int] at h75
              refine acode_skip ?_
              refine acode_seq ?_
              refine acode_seq ?_
              refine acode_region ?_
              refine acode_cond rfl (fun h77 => ?_) (fun h77 => ?_)
              · try simp only [decide_eq_true_eq] at h77
                try simp only [Int.toNat_natCast, dflt_sl, dflt_st, dflt_str, dflt_int, dflt_bool] at h77
                refine acode_seq ?_
                refine acode_region ?_
                refine Or.inl ?_
                refine And.intro (rfl) ?_
                refine Exists.intro _ (And.intro (is_fault 800 11 (by decide)) ?_)
                refine And.intro (fun h => trivial) ?_
                refine And.intro (rfl) ?_
                refine Exists.intro _ (And.intro (fun h => ⟨⟨⟨h, trivial⟩, trivial⟩, at_fault 800 11⟩) ?_)
                refine And.intro (fun h => ⟨⟨h, trivial⟩, trivial⟩) ?_
                refine And.intro (by exact fun h => h) ?_
                refine And.intro (fun h => trivial) ?_
                refine And.intro (fun h => ⟨⟨h, trivial⟩, trivial⟩) ?_
                refine And.intro (fun h => ⟨⟨h, trivial⟩, trivial⟩) ?_
                refine And.intro (by exact fun h => h) ?_
                refine acode_ret ?_
                rfl
              · try simp only [decide_eq_false_iff_not, Int.not_lt] at h77
                try simp only [Int.toNat_natCast, dflt_sl, dflt_st, dflt_str, dflt_int, dflt_bool] at h77
                omega
        · refine acode_region ?_
          refine Or.inl ?_
          refine And.intro (rfl) ?_
          refine Exists.intro _ (And.intro (hone) ?_)
          refine acode_seq ?_
          refine acode_region ?_
          refine Or.inl ?_
          refine And.intro (rfl) ?_
          refine Exists.intro _ (And.intro (hmany) ?_)
          refine acode_seq ?_
          refine acode_seq ?_
          refine acode_region ?_
          refine acode_cond rfl (fun h46 => ?_) (fun h46 => ?_)
          · try simp only [decide_eq_true_eq] at h46
            try simp only [Int.toNat_natCast, dflt_sl, dflt_st, dflt_str, dflt_int, dflt_bool] at h46
            refine acode_seq ?_
            refine acode_region ?_
            refine Or.inl ?_
            refine And.intro (rfl) ?_
            refine Exists.intro _ (And.intro (is_fault 40 11 (by decide)) ?_)
            refine And.intro (fun h => trivial) ?_
            refine And.intro (rfl) ?_
            refine Exists.intro _ (And.intro (fun h => ⟨⟨⟨h, trivial⟩, trivial⟩, at_fault 40 11⟩) ?_)
            refine And.intro (fun h => ⟨⟨h, trivial⟩, trivial⟩) ?_
            refine And.intro (by first | (intro h; rw [h]; rfl) | (intro h; cases h)) ?_
            refine And.intro (fun h => trivial) ?_
            refine And.intro (fun h => ⟨⟨h, trivial⟩, trivial⟩) ?_
            refine And.intro (fun h => ⟨⟨h, trivial⟩, trivial⟩) ?_
            refine And.intro (by first | (intro h; rw [h]; rfl) | (intro h; cases h)) ?_
            refine acode_cond rfl (fun h59 => ?_) (fun h59 => ?_)
            · try simp only [decide_eq_false_iff_not, Bool.not_eq_true', Bool.or_eq_true] at h59
              try simp only [Int.toNat_natCast, dflt_sl, dflt_st, dflt_str, dflt_int, dflt_bool] at h59
              simp at h59
            · try simp only [decide_eq_true_eq, Bool.not_eq_false', Bool.or_eq_false_iff] at h59
              try simp only [Int.toNat_natCast, dflt_sl, dflt_st, dflt_str, dflt_int, dflt_bool] at h59
              refine acode_skip ?_
              refine acode_seq ?_
              refine acode_seq ?_
              refine acode_region ?_
              refine acode_cond rfl (fun h77 => ?_) (fun h77 => ?_)
              · try simp only [decide_eq_true_eq] at h77
                try simp only [Int.toNat_natCast, dflt_sl, dflt_st, dflt_str, dflt_int, dflt_bool] at h77
                omega
              · try simp only [decide_eq_false_iff_not, Int.not_lt] at h77
                try simp only [Int.toNat_natCast, dflt_sl, dflt_st, dflt_str, dflt_int, dflt_bool] at h77
                refine acode_skip ?_
                refine acode_seq ?_
                refine acode_region ?_
                refine And.intro (fun h => trivial) ?_
                refine And.intro (fun h => ⟨⟨h, trivial⟩, trivial⟩) ?_
                refine And.intro (fun h => trivial) ?_
                refine And.intro (fun h => ⟨⟨⟨h, trivial⟩, trivial⟩, by first | omega | decide | (simp only [Int.toNat_natCast, dflt_sl, dflt_st, dflt_str, dflt_int, dflt_bool]; omega) | (have h9 := of_decide_eq_true h; omega) | (simp [gq] at h; omega)⟩) ?_
                refine And.intro (fun h => ⟨⟨h, trivial⟩, ⟨h, trivial⟩, trivial⟩) ?_
                refine And.intro (by exact fun h => h) ?_
                refine acode_ret ?_
                exact ib_eq (by rw [hl]; simp)
          · try simp only [decide_eq_false_iff_not, Int.not_lt] at h46
            try simp only [Int.toNat_natCast, dflt_sl, dflt_st, dflt_str, dflt_int, dflt_bool] at h46
            omega
        · refine acode_region ?_
          refine Or.inl ?_
          refine And.intro (rfl) ?_
          refine Exists.intro _ (And.intro (hone) ?_)
          refine acode_seq ?_
          refine acode_region ?_
          refine Or.inl ?_
          refine And.intro (rfl) ?_
          refine Exists.intro _ (And.intro (hmany) ?_)
          refine acode_seq ?_
          refine acode_seq ?_
          refine acode_region ?_
          refine acode_cond rfl (fun h46 => ?_) (fun h46 => ?_)
          · try simp only [decide_eq_true_eq] at h46
            try simp only [Int.toNat_natCast, dflt_sl, dflt_st, dflt_str, dflt_int, dflt_bool] at h46
            refine acode_seq ?_
            refine acode_region ?_
            refine Or.inl ?_
            refine And.intro (rfl) ?_
            refine Exists.intro _ (And.intro (is_fault 40 11 (by decide)) ?_)
            refine And.intro (fun h => trivial) ?_
            refine And.intro (rfl) ?_
            refine Exists.intro _ (And.intro (fun h => ⟨⟨⟨h, trivial⟩, trivial⟩, at_fault 40 11⟩) ?_)
            refine And.intro (fun h => ⟨⟨h, trivial⟩, trivial⟩) ?_
            refine And.intro (by first | (intro h; rw [h]; rfl) | (intro h; cases h)) ?_
            refine And.intro (fun h => trivial) ?_
            refine And.intro (fun h => ⟨⟨h, trivial⟩, trivial⟩) ?_
            refine And.intro (fun h => ⟨⟨h, trivial⟩, trivial⟩) ?_
            refine And.intro (by first | (intro h; rw [h]; rfl) | (intro h; cases h)) ?_
            refine acode_cond rfl (fun h59 => ?_) (fun h59 => ?_)
            · try simp only [decide_eq_false_iff_not, Bool.not_eq_true', Bool.or_eq_true] at h59
              try simp only [Int.toNat_natCast, dflt_sl, dflt_st, dflt_str, dflt_int, dflt_bool] at h59
              simp at h59
            · try simp only [decide_eq_true_eq, Bool.not_eq_false', Bool.or_eq_false_iff] at h59
              try simp only [Int.toNat_natCast, dflt_sl, dflt_st, dflt_str, dflt_int, dflt_bool] at h59
              refine acode_skip ?_
              refine acode_seq ?_
              refine acode_seq ?_
              refine acode_region ?_
              refine acode_cond rfl (fun h77 => ?_) (fun h77 => ?_)
              · try simp only [decide_eq_true_eq] at h77
                try simp only [Int.toNat_natCast, dflt_sl, dflt_st, dflt_str, dflt_int, dflt_bool] at h77
                refine acode_seq ?_
                refine acode_region ?_
                refine Or.inl ?_
                refine And.intro (rfl) ?_
                refine Exists.intro _ (And.intro (is_fault 800 11 (by decide)) ?_)
                refine And.intro (fun h => trivial) ?_
                refine And.intro (rfl) ?_
                refine Exists.intro _ (And.intro (fun h => ⟨⟨⟨h, trivial⟩, trivial⟩, at_fault 800 11⟩) ?_)
                refine And.intro (fun h => ⟨⟨h, trivial⟩, trivial⟩) ?_
                refine And.intro (by exact fun h => h) ?_
                refine And.intro (fun h => trivial) ?_
                refine And.intro (fun h => ⟨⟨h, trivial⟩, trivial⟩) ?_
                refine And.intro (fun h => ⟨⟨h, trivial⟩, trivial⟩) ?_
                refine And.intro (by exact fun h => h) ?_
                refine acode_ret ?_
                rfl
              · try simp only [decide_eq_false_iff_not, Int.not_lt] at h77
                try simp only [Int.toNat_natCast, dflt_sl, dflt_st, dflt_str, dflt_int, dflt_bool] at h77
                omega
          · try simp only [decide_eq_false_iff_not, Int.not_lt] at h46
            try simp only [Int.toNat_natCast, dflt_sl, dflt_st, dflt_str, dflt_int, dflt_bool] at h46
            omega
end Q
end Ab
end Go.Proofs.YtdedkoiodehmnaaDoor
namespace Go.Proofs.YtdedkoiodehmnaaDoor
open Go.RowKit
namespace Ab
set_option maxRecDepth 100000
theorem o_str : Opens Tryd.prog 9 .str := opens_str Tryd.underlying9 (by kernel_rfl)
theorem o_int : Opens Tryd.prog 3 (.int .i64) := opens_int Tryd.underlying3 (by kernel_rfl)
theorem o_bool : Opens Tryd.prog 4 .bool := opens_bool Tryd.underlying4 (by kernel_rfl)
theorem o_field : Opens Tryd.prog 32 (.st .str .str) := opens_st Tryd.underlying32 (by kernel_rfl) (.cons rfl o_str (.one rfl o_str))
theorem o_fields : Opens Tryd.prog 22 (.sl (.st .str .str)) := opens_sl (by decide) Tryd.underlying22 (by kernel_rfl) o_field
theorem open_fields {H : Type} {enc : TypeId × Value → H} {W : World} {base : Nat} {v : Value} {d : DataW H} {p : List MemPlace} (hv : Value.okWide Tryd.prog W .any base 22 v) (h : DataW.Trod enc Tryd.prog W 0 (fun _ => true) true 22 v d p) :
    ∃ xs, (C.sl (.st .str .str) xs).rep AllOk noNames W v := open_sl Tryd.underlying22 o_fields hv h
/-- The library's variable holds some number. -/
theorem globAt {W : World} (h : W.ShapedOpen Tryd.prog) : GlobAt AllOk W := by
  have hc : GlobCell W := cell_of_shapedOpen_int (g := 0) (t := 3) (zero := #[.int .i64 0]) h (of_decide_eq_true (by kernel_rfl)) (by kernel_rfl) rfl (by kernel_rfl) (by kernel_rfl) Tryd.underlying3
  refine ⟨trivial, ?_, hc⟩
  obtain ⟨m, hm⟩ := hc
  rcases Nat.lt_or_ge 0 W.heap.size with h1 | h1
  · exact h1
  · exfalso
    simp only [World.cell?, Array.getElem?_eq_none h1] at hm
    cases hm
end Ab
end Go.Proofs.YtdedkoiodehmnaaDoor
namespace Go.Proofs.YtdedkoiodehmnaaDoor
open Go.RowKit
namespace Ab
set_option maxRecDepth 100000
theorem open_agg {P : Program} {α : Type} {R : Rd α} {t : TypeId} {fs : Array Field} (hu : P.underlying t = some (.struct fs)) (ho : Opens P t R) {H : Type} {enc : TypeId × Value → H} {W : World} {base : Nat} {v : Value} {d : DataW H} {p : List MemPlace} (hv : Value.okWide P W .any base t v)
    (h : DataW.Trod enc P W 0 (fun _ => true) true t v d p) : ∃ x : α, (A.agg (toL R x)).rep AllOk noNames W v := by
  obtain ⟨cs, rfl, _⟩ := Go.WideShapes.okWide_struct hu hv
  obtain ⟨fuel, hf⟩ := h
  obtain ⟨x, hx⟩ := ho.2 enc W _ _ _ _ _ _ hf
  exact ⟨x, cs.toList, by simp, toL_rep R hx⟩
theorem open_field {H : Type} {enc : TypeId × Value → H} {W : World} {base : Nat} {v : Value} {d : DataW H} {p : List MemPlace} (hv : Value.okWide Tryd.prog W .any base 32 v) (h : DataW.Trod enc Tryd.prog W 0 (fun _ => true) true 32 v d p) :
    ∃ x, (A.agg (toL (.st .str .str) x)).rep AllOk noNames W v := open_agg Tryd.underlying32 o_field hv h
theorem o_strs : Opens Tryd.prog 36 (.sl .str) := opens_sl (by decide) Tryd.underlying36 (by kernel_rfl) o_str
theorem open_strs {H : Type} {enc : TypeId × Value → H} {W : World} {base : Nat} {v : Value} {d : DataW H} {p : List MemPlace} (hv : Value.okWide Tryd.prog W .any base 36 v) (h : DataW.Trod enc Tryd.prog W 0 (fun _ => true) true 36 v d p) :
    ∃ xs, (C.sl .str xs).rep AllOk noNames W v := open_sl Tryd.underlying36 o_strs hv h
theorem o_strss : Opens Tryd.prog 52 (.sl (.sl .str)) := opens_sl (by decide) Tryd.underlying52 (by kernel_rfl) o_strs
theorem open_strss {H : Type} {enc : TypeId × Value → H} {W : World} {base : Nat} {v : Value} {d : DataW H} {p : List MemPlace} (hv : Value.okWide Tryd.prog W .any base 52 v) (h : DataW.Trod enc Tryd.prog W 0 (fun _ => true) true 52 v d p) :
    ∃ xs, (C.sl (.sl .str) xs).rep AllOk noNames W v := open_sl Tryd.underlying52 o_strss hv h
theorem o_rows : Opens Tryd.prog 61 (.sl (.sl (.st .str .str))) := opens_sl (by decide) Tryd.underlying61 (by kernel_rfl) o_fields
theorem open_rows {H : Type} {enc : TypeId × Value → H} {W : World} {base : Nat} {v : Value} {d : DataW H} {p : List MemPlace} (hv : Value.okWide Tryd.prog W .any base 61 v) (h : DataW.Trod enc Tryd.prog W 0 (fun _ => true) true 61 v d p) :
    ∃ xs, (C.sl (.sl (.st .str .str)) xs).rep AllOk noNames W v := open_sl Tryd.underlying61 o_rows hv h
theorem o_item : Opens Tryd.prog 75 (.st (.int .i64) (.st .str (.sl (.st .str .str)))) := opens_st Tryd.underlying75 (by kernel_rfl) (.cons rfl o_int (.cons rfl o_str (.one rfl o_fields)))
theorem o_items : Opens Tryd.prog 71 (.sl (.st (.int .i64) (.st .str (.sl (.st .str .str))))) := opens_sl (by decide) Tryd.underlying71 (by kernel_rfl) o_item
theorem open_items {H : Type} {enc : TypeId × Value → H} {W : World} {base : Nat} {v : Value} {d : DataW H} {p : List MemPlace} (hv : Value.okWide Tryd.prog W .any base 71 v) (h : DataW.Trod enc Tryd.prog W 0 (fun _ => true) true 71 v d p) :
    ∃ xs, (C.sl (.st (.int .i64) (.st .str (.sl (.st .str .str)))) xs).rep AllOk noNames W v := open_sl Tryd.underlying71 o_items hv h
end Ab
end Go.Proofs.YtdedkoiodehmnaaDoor
