/-
  Which keys, terms and selectors are good: the program's answer and the document's.
-/
import Derived.Test.YthlfbpmbkcoclaaDoorQRow
namespace Go.Proofs.YthlfbpmbkcoclaaDoor
open Go.RowKit
namespace Ab
set_option maxRecDepth 100000
namespace Q
theorem occ_one (l : List UInt8) (c : UInt8) (i : Nat) : Lib.occAt l [c] i = true ↔ l[i]? = some c := by
  refine ⟨fun h => Lib.occAt_head rfl h, fun h => ?_⟩
  unfold Lib.occAt
  obtain ⟨hi, e⟩ := List.getElem?_eq_some_iff.1 h
  rw [List.drop_eq_getElem_cons hi, e]
  simp [List.isPrefixOf]
theorem contains_one (l : List UInt8) (c : UInt8) : Lib.contains l [c] = decide (c ∈ l) := by
  unfold Lib.contains
  refine decide_eq_decide.2 ⟨fun h => ?_, fun h => ?_⟩
  · rcases Lib.index_spec l [c] with ⟨e, _⟩ | ⟨i, _, _, h3, _⟩
    · omega
    · exact List.mem_of_getElem? ((occ_one l c i).1 h3)
  · obtain ⟨i, hi, e⟩ := List.getElem_of_mem h
    rcases Lib.index_spec l [c] with ⟨_, h2⟩ | ⟨i, h1, _⟩
    · have := h2 i (Nat.le_of_lt hi)
      rw [(occ_one l c i).2 (by rw [List.getElem?_eq_getElem hi, e])] at this
      cases this
    · omega
def blankC (c : UInt8) : Bool := decide (c = 32) || decide (c = 9)
def blankL (l : List UInt8) : Bool := decide (1 ≤ l.length) && blankC (l.getD 0 0)
def keyOk (l : List UInt8) : Bool := (((((decide (1 ≤ l.length) && decide (l.length ≤ 32)) && !blankC (l.getD 0 0)) && !decide (l.getD 0 0 = 35)) && !decide (58 ∈ l)) && !decide (10 ∈ l))
theorem emp {s : ByteArray} : s = ⟨#[]⟩ ↔ s.data.toList.length = 0 := by
  refine ⟨fun h => by rw [h]; rfl, fun h => ?_⟩
  have := List.eq_nil_of_length_eq_zero h
  rw [← bytes_ls s, show ls s = [] from this]; rfl
theorem hasPrefix_one (l : List UInt8) (c : UInt8) : Lib.hasPrefix l [c] = (decide (1 ≤ l.length) && decide (l.getD 0 0 = c)) := by
  unfold Lib.hasPrefix
  cases l with
  | nil => rfl
  | cons d l =>
    have : (c == d) = decide (d = c) := by rw [Bool.eq_iff_iff, beq_iff_eq, decide_eq_true_iff]; exact eq_comm
    simp [List.isPrefixOf, this]
theorem u8_iff (c d : UInt8) : ((c.toNat : Int) = d.toNat) ↔ c = d := ⟨u8_eq, fun h => by rw [h]⟩
theorem keyOk_prog (l : List UInt8) : keyOk l = (!(((decide (l.length = 0) || decide (32 < l.length)) || blankL l) || Lib.hasPrefix l [35]) && (!Lib.contains l [58] && !Lib.contains l [10])) := by
  rw [contains_one, contains_one, hasPrefix_one]
  unfold keyOk blankL
  by_cases h : 1 ≤ l.length
  · have h0 : ¬ l.length = 0 := by omega
    by_cases h2 : l.length ≤ 32
    · have h3 : ¬ 32 < l.length := by omega
      simp [h, h0, h2, h3, Bool.and_assoc]
    · have h3 : 32 < l.length := by omega
      simp [h2, h3]
  · have h0 : l.length = 0 := by omega
    simp [h0]
theorem blank_c (s : ByteArray) (hs : s.size ≤ 1000000000) : ACall Tryd.prog 88 [is s] (ib (blankL s.data.toList)) := by
  have hz := size_list s
  refine acall_of (rs := [2]) Tryd.func88 rfl rfl rfl teOk rfl ?_
  refine acode_seq ?_
  refine acode_region ?_
  refine acode_seq ?_
  refine acode_region ?_
  refine And.intro (fun h => trivial) ?_
  refine And.intro (fun h => ⟨⟨⟨h, trivial⟩, trivial⟩, by have h9 : ¬ s = ⟨#[]⟩ := (by simpa [gq] using h); rw [emp] at h9; omega⟩) ?_
  refine And.intro (rfl) ?_
  refine Exists.intro _ (And.intro (fun h => ⟨⟨⟨h, trivial⟩, trivial⟩, contains_c _ _ (by decide)⟩) ?_)
  refine And.intro (by exact fun h => h) ?_
  refine acode_ret ?_
  refine ib_eq ?_
  by_cases h : s.data.toList.length = 0
  · rw [decide_eq_true (emp.2 h), Bool.not_true, Bool.false_and]; unfold blankL; rw [h]; rfl
  · rw [decide_eq_false (fun e => h (emp.1 e)), show s.extract (Int.toNat 0) (Int.toNat 1) = bytes [s.data.toList.getD 0 0] from extract_one (by omega), bytes_list, contains_one]; unfold blankL blankC; rw [decide_eq_true (show 1 ≤ s.data.toList.length by omega)]; simp
theorem key_c (s : ByteArray) (hs : s.size ≤ 1000000000) : ACall Tryd.prog 89 [is s] (ib (keyOk s.data.toList)) := by
  have hz := size_list s
  refine acall_of (rs := [2]) Tryd.func89 rfl rfl rfl teOk rfl ?_
  refine acode_seq ?_
  refine acode_region ?_
  refine acode_seq ?_
  refine acode_seq ?_
  refine acode_region ?_
  refine And.intro (fun h => trivial) ?_
  refine And.intro (fun h => ⟨⟨h, trivial⟩, trivial⟩) ?_
  refine And.intro (fun h => ⟨⟨h, trivial⟩, trivial⟩) ?_
  refine And.intro (by first | (intro h; rw [h]; rfl) | (intro h; cases h)) ?_
  refine And.intro (fun h => trivial) ?_
  refine And.intro (rfl) ?_
  refine Exists.intro _ (And.intro (fun h => ⟨⟨⟨h, trivial⟩, trivial⟩, blank_c _ hs⟩) ?_)
  refine And.intro (by first | (intro h; rw [h]; rfl) | (intro h; cases h)) ?_
  refine And.intro (fun h => trivial) ?_
  refine And.intro (rfl) ?_
  refine Exists.intro _ (And.intro (fun h => ⟨⟨⟨h, trivial⟩, trivial⟩, hasPrefix_c _ _⟩) ?_)
  refine And.intro (by first | (intro h; rw [h]; rfl) | (intro h; cases h)) ?_
  refine acode_cond rfl (fun h17 => ?_) (fun h17 => ?_)
  · try simp only [decide_eq_true_eq, Bool.or_eq_true] at h17
    try simp only [Int.toNat_natCast, dflt_sl, dflt_st, dflt_str, dflt_int, dflt_bool] at h17
    refine acode_seq ?_
    refine acode_region ?_
    refine acode_ret ?_
    refine ib_eq ?_
    rw [keyOk_prog]
    rw [emp] at h17
    rcases h17 with ((h | h) | h) | h
    · simp [h]
    · rw [decide_eq_true (show 32 < s.data.toList.length by omega)]; simp
    · simp [h]
    · simp [h]
  · try simp only [decide_eq_false_iff_not, Bool.or_eq_false_iff, Int.not_lt] at h17
    try simp only [Int.toNat_natCast, dflt_sl, dflt_st, dflt_str, dflt_int, dflt_bool] at h17
    refine acode_skip ?_
    refine acode_seq ?_
    refine acode_region ?_
    refine Or.inl ?_
    refine And.intro (rfl) ?_
    refine Exists.intro _ (And.intro (contains_c _ _ (by omega)) ?_)
    refine And.intro (fun h => trivial) ?_
    refine And.intro (rfl) ?_
    refine Exists.intro _ (And.intro (fun h => ⟨⟨⟨h, trivial⟩, trivial⟩, contains_c _ _ (by omega)⟩) ?_)
    refine And.intro (fun h => ⟨⟨h, trivial⟩, trivial⟩) ?_
    refine And.intro (by exact fun h => h) ?_
    refine acode_ret ?_
    refine ib_eq ?_
    rw [keyOk_prog]
    rw [emp] at h17
    obtain ⟨⟨⟨h1, h2⟩, h3⟩, h4⟩ := h17
    simp only [h3, h4, decide_eq_false h1, decide_eq_false (show ¬ 32 < s.data.toList.length by omega)]
    rfl
theorem refBlank_c (c : UInt8) (n : Int) (hn : n = c.toNat) : ACall Tryd.prog 109 [ii .u8 n] (ib (blankC c)) := by
  subst hn
  refine acall_of (rs := [2]) Tryd.func109 rfl rfl rfl teOk rfl ?_
  refine acode_seq ?_
  refine acode_region ?_
  refine acode_seq ?_
  refine acode_region ?_
  refine And.intro (fun h => trivial) ?_
  refine And.intro (fun h => ⟨⟨h, trivial⟩, trivial⟩) ?_
  refine And.intro (by first | (intro h; rw [h]; rfl) | (intro h; cases h)) ?_
  refine acode_ret ?_
  refine ib_eq ?_
  unfold blankC
  rw [decide_eq_decide.2 (show (c.toNat : Int) = 32 ↔ c = 32 from u8_iff c 32), decide_eq_decide.2 (show (c.toNat : Int) = 9 ↔ c = 9 from u8_iff c 9)]
theorem notin_snoc {l : List UInt8} {c : UInt8} {i : Nat} (hi : i < l.length) (h : c ∉ l.take i) (hc : l.getD i 0 ≠ c) : c ∉ l.take (i + 1) := by
  rw [← take_snoc 0 hi, List.mem_append, List.mem_singleton]
  exact fun e => e.elim h fun e => hc e.symm
theorem refKey_c (s : ByteArray) (hs : s.size ≤ 1000000000) : ACall Tryd.prog 66 [is s] (ib (keyOk s.data.toList)) := by
  have hz := size_list s
  refine acall_of (rs := [2]) Tryd.func66 rfl rfl rfl teOk rfl ?_
  refine acode_seq ?_
  refine acode_region ?_
  refine acode_seq ?_
  refine acode_seq ?_
  refine acode_region ?_
  refine And.intro (fun h => trivial) ?_
  refine And.intro (fun h => ⟨⟨h, trivial⟩, trivial⟩) ?_
  refine And.intro (fun h => ⟨⟨h, trivial⟩, trivial⟩) ?_
  refine And.intro (by first | (intro h; rw [h]; rfl) | (intro h; cases h)) ?_
  refine And.intro (fun h => trivial) ?_
  refine And.intro (fun h => ⟨⟨⟨h, trivial⟩, trivial⟩, by first | omega | decide | (simp only [Int.toNat_natCast, dflt_sl, dflt_st, dflt_str, dflt_int, dflt_bool]; omega) | (have h9 := of_decide_eq_true h; omega) | (simp [gq] at h; omega)⟩) ?_
  refine And.intro (rfl) ?_
  refine Exists.intro _ (And.intro (fun h => ⟨⟨⟨h, trivial⟩, trivial⟩, refBlank_c (s.data.toList.getD 0 0) _ rfl⟩) ?_)
  refine And.intro (by first | (intro h; rw [h]; rfl) | (intro h; cases h)) ?_
  refine And.intro (fun h => trivial) ?_
  refine And.intro (fun h => ⟨⟨⟨h, trivial⟩, trivial⟩, by first | omega | decide | (simp only [Int.toNat_natCast, dflt_sl, dflt_st, dflt_str, dflt_int, dflt_bool]; omega) | (have h9 := of_decide_eq_true h; omega) | (simp [gq] at h; omega)⟩) ?_
  refine And.intro (fun h => ⟨⟨h, trivial⟩, trivial⟩) ?_
  refine And.intro (by first | (intro h; rw [h]; rfl) | (intro h; cases h)) ?_
  refine acode_cond rfl (fun h21 => ?_) (fun h21 => ?_)
  · try simp only [decide_eq_true_eq, Bool.or_eq_true] at h21
    try simp only [Int.toNat_natCast, dflt_sl, dflt_st, dflt_str, dflt_int, dflt_bool] at h21
    refine acode_seq ?_
    refine acode_region ?_
    refine acode_ret ?_
    refine ib_eq ?_
    unfold keyOk
    rcases h21 with ((h | h) | h) | h
    · rw [decide_eq_false (show ¬ 1 ≤ s.data.toList.length by omega)]; simp
    · rw [decide_eq_false (show ¬ s.data.toList.length ≤ 32 by omega)]; simp
    · rw [h]; simp
    · rw [show s.data.toList.getD 0 0 = 35 from u8_eq h]; simp
  · try simp only [decide_eq_false_iff_not, Bool.or_eq_false_iff, Int.not_lt] at h21
    try simp only [Int.toNat_natCast, dflt_sl, dflt_st, dflt_str, dflt_int, dflt_bool] at h21
    refine acode_skip ?_
    refine acode_seq ?_
    refine acode_seq ?_
    refine acode_region ?_
    refine acode_block ?_
    refine acode_loopP (fun (i : Nat) => i ≤ s.size ∧ 58 ∉ s.data.toList.take i ∧ 10 ∉ s.data.toList.take i) (fun (i : Nat) => [(0, is s), (3, ii .i64 i)]) (fun (i : Nat) => []) 0 (fun (i : Nat) => s.size - i) 0 (⟨Nat.zero_le _, by simp, by simp⟩) (le_of ⟨rfl, rfl⟩ trivial rfl) ?_
    intro i hI0
    obtain ⟨hi, h1, h2⟩ := hI0
    refine acode_seq ?_
    refine acode_seq ?_
    refine acode_region ?_
    refine acode_cond rfl (fun h25 => ?_) (fun h25 => ?_)
    · try simp only [decide_eq_true_eq] at h25
      try simp only [Int.toNat_natCast, dflt_sl, dflt_st, dflt_str, dflt_int, dflt_bool] at h25
      have hlt : i < s.data.toList.length := by omega
      refine acode_skip ?_
      refine acode_seq ?_
      refine acode_block ?_
      refine acode_seq ?_
      refine acode_region ?_
      refine And.intro (by first | omega | assumption | decide | (simp only [Int.toNat_natCast, dflt_sl, dflt_st, dflt_str, dflt_int, dflt_bool]; omega) | (simp; omega)) ?_
      refine And.intro (fun h => trivial) ?_
      refine And.intro (fun h => trivial) ?_
      refine And.intro (fun h => ⟨⟨⟨h, trivial⟩, ⟨h, trivial⟩, trivial⟩, by first | omega | decide | (simp only [Int.toNat_natCast, dflt_sl, dflt_st, dflt_str, dflt_int, dflt_bool]; omega) | (have h9 := of_decide_eq_true h; omega) | (simp [gq] at h; omega)⟩) ?_
      refine And.intro (fun h => ⟨⟨h, trivial⟩, trivial⟩) ?_
      refine And.intro (by first | (intro h; rw [h]; rfl) | (intro h; cases h)) ?_
      refine acode_cond rfl (fun h37 => ?_) (fun h37 => ?_)
      · try simp only [decide_eq_true_eq, Bool.or_eq_true] at h37
        try simp only [Int.toNat_natCast] at h37
        refine acode_seq ?_
        refine acode_region ?_
        refine acode_ret ?_
        refine ib_eq ?_
        unfold keyOk
        rcases h37 with h | h
        · rw [decide_eq_true (show 58 ∈ s.data.toList from (show s.data.toList.getD i 0 = 58 from u8_eq h) ▸ getD_mem hlt 0)]; simp
        · rw [decide_eq_true (show 10 ∈ s.data.toList from (show s.data.toList.getD i 0 = 10 from u8_eq h) ▸ getD_mem hlt 0)]; simp
      · try simp only [decide_eq_false_iff_not, Bool.or_eq_false_iff] at h37
        try simp only [Int.toNat_natCast] at h37
        have hc1 : s.data.toList.getD i 0 ≠ 58 := fun e => h37.1 (by rw [e]; rfl)
        have hc2 : s.data.toList.getD i 0 ≠ 10 := fun e => h37.2 (by rw [e]; rfl)
        refine acode_skip ?_
        refine acode_region ?_
        refine And.intro (by first | omega | assumption | decide | (simp only [Int.toNat_natCast, dflt_sl, dflt_st, dflt_str, dflt_int, dflt_bool]; omega) | (simp; omega)) ?_
        exact ⟨i + 1, ⟨by omega, notin_snoc hlt h1 hc1, notin_snoc hlt h2 hc2⟩, by first | omega | (simp; omega), le_of ⟨rfl, rfl⟩ trivial rfl⟩
    · try simp only [decide_eq_false_iff_not, Int.not_lt] at h25
      try simp only [Int.toNat_natCast, dflt_sl, dflt_st, dflt_str, dflt_int, dflt_bool] at h25
      refine acode_exit ?_
      refine acode_seq ?_
      refine acode_region ?_
      refine acode_ret ?_
      refine ib_eq ?_
      rw [List.take_of_length_le (by omega)] at h1 h2
      unfold keyOk
      obtain ⟨⟨⟨a1, a2⟩, a3⟩, a4⟩ := h21
      rw [a3, decide_eq_false h1, decide_eq_false h2, decide_eq_true (show 1 ≤ s.data.toList.length by omega), decide_eq_true (show s.data.toList.length ≤ 32 by omega), decide_eq_false (fun e : s.data.toList.getD 0 0 = 35 => a4 (by rw [show Int.toNat 0 = 0 from rfl, e]; rfl))]
      rfl
end Q
end Ab
end Go.Proofs.YthlfbpmbkcoclaaDoor
