/-
  A selector's line: the document's answer.
-/
import Derived.Test.YthlfbpmbkcoclaaDoorQParse
namespace Go.Proofs.YthlfbpmbkcoclaaDoor
open Go.RowKit
namespace Ab
set_option maxRecDepth 100000
namespace Q
def signC (c : UInt8) : Bool := ((((decide (c = 33) || decide (c = 63)) || decide (c = 61)) || decide (c = 94)) || decide (c = 126)) || decide (c = 60)
def escX (k : Bool) (c : UInt8) : List UInt8 := if c = 92 then [92, 92] else if c = 32 then [92, 115] else if c = 10 then [92, 110] else if c = 124 then [92, 98] else if (k && signC c) = true then [92, c] else [c]
theorem escX_eq (k : Bool) (c : UInt8) : escC (moreOf k) c = escX k c := by
  have : ∀ c, decide (escC (moreOf k) c = escX k c) = true := by cases k <;> exact all_u8 (by decide +kernel)
  exact of_decide_eq_true (this c)
theorem bytes_one (c d : UInt8) : bytes [c] = ⟨#[d]⟩ ↔ c = d := by
  refine ⟨fun h => ?_, fun h => by rw [h]; rfl⟩
  have : (bytes [c]).data.toList = [d] := by rw [h]
  rw [bytes_list] at this
  exact (List.cons.inj this).1
theorem written_c (s : ByteArray) (k : Bool) (hs : s.size ≤ 1000000) : ACall Tryd.prog 72 [is s, ib k] (is (bytes (escL (moreOf k) s.data.toList))) := by
  have hz := size_list s
  refine acall_of (rs := [4]) Tryd.func72 rfl rfl rfl teOk rfl ?_
  refine acode_seq ?_
  refine acode_region ?_
  refine acode_seq ?_
  refine acode_region ?_
  refine acode_seq ?_
  refine acode_seq ?_
  refine acode_region ?_
  refine acode_block ?_
  refine acode_loopP (fun (i : Nat) => i ≤ s.size) (fun (i : Nat) => [(0, is s), (1, ib k), (5, is (bytes (escL (moreOf k) (s.data.toList.take i)))), (6, ii .i64 i)]) (fun (i : Nat) => []) 0 (fun (i : Nat) => s.size - i) 0 (Nat.zero_le _) (le_of ⟨rfl, rfl, rfl, rfl⟩ trivial rfl) ?_
  intro i hI0
  have hi := hI0
  have hol : (bytes (escL (moreOf k) (s.data.toList.take i))).size ≤ 2 * i := by (rw [bytes_size]; exact Nat.le_trans (esc_len _ _) (by rw [List.length_take]; omega))
  refine acode_seq ?_
  refine acode_seq ?_
  refine acode_region ?_
  refine acode_cond rfl (fun h11 => ?_) (fun h11 => ?_)
  · try simp only [decide_eq_true_eq] at h11
    try simp only [Int.toNat_natCast, dflt_sl, dflt_st, dflt_str, dflt_int, dflt_bool] at h11
    have hlt : i < s.data.toList.length := by omega
    have hsn := escL_snoc (moreOf k) s.data.toList i hlt
    have hx : s.extract (i : Int).toNat ((i : Int) + 1).toNat = bytes [s.data.toList.getD i 0] := by rw [Int.toNat_natCast, show ((i : Int) + 1).toNat = i + 1 by omega, extract_one hlt]
    obtain ⟨c, hc⟩ : ∃ c, s.data.toList.getD i 0 = c := ⟨_, rfl⟩
    rw [hc] at hx hsn
    rw [escX_eq] at hsn
    have hb1 : (bytes [c]).size = 1 := rfl
    refine acode_skip ?_
    refine acode_seq ?_
    refine acode_block ?_
    refine acode_seq ?_
    refine acode_region ?_
    refine And.intro (by first | omega | assumption | decide | (simp only [Int.toNat_natCast, dflt_sl, dflt_st, dflt_str, dflt_int, dflt_bool]; omega) | (simp; omega)) ?_
    refine And.intro (by first | omega | assumption | decide | (simp only [Int.toNat_natCast, dflt_sl, dflt_st, dflt_str, dflt_int, dflt_bool]; omega) | (simp; omega)) ?_
    rw [hx]
    refine acode_block ?_
    refine acode_seq ?_
    refine acode_region ?_
    refine acode_cond rfl (fun h22 => ?_) (fun h22 => ?_)
    · try simp only [decide_eq_true_eq] at h22
      try simp only [Int.toNat_natCast, dflt_sl, dflt_st, dflt_str, dflt_int, dflt_bool] at h22
      rw [bytes_one] at h22
      refine acode_region ?_
      refine And.intro (by (have hk0 : ByteArray.size { data := #[92, 92] } = 2 := rfl; first | (unfold maxLen; omega) | (simp only [ByteArray.size_append]; omega) | (unfold maxLen; (try simp only [ByteArray.size_append]); omega))) ?_
      refine acode_region ?_
      refine And.intro (by first | omega | assumption | decide | (simp only [Int.toNat_natCast, dflt_sl, dflt_st, dflt_str, dflt_int, dflt_bool]; omega) | (simp; omega)) ?_
      exact ⟨i + 1, by omega, by first | omega | (simp; omega), le_of ⟨rfl, rfl, (is_eq (by rw [hsn]; unfold escX; rw [if_pos h22, bytes_app]; rfl)), rfl⟩ trivial rfl⟩
    · try simp only [decide_eq_false_iff_not] at h22
      try simp only [Int.toNat_natCast, dflt_sl, dflt_st, dflt_str, dflt_int, dflt_bool] at h22
      rw [bytes_one] at h22
      refine acode_seq ?_
      refine acode_region ?_
      refine acode_cond rfl (fun h27 => ?_) (fun h27 => ?_)
      · try simp only [decide_eq_true_eq] at h27
        try simp only [Int.toNat_natCast, dflt_sl, dflt_st, dflt_str, dflt_int, dflt_bool] at h27
        rw [bytes_one] at h27
        refine acode_region ?_
        refine And.intro (by (have hk0 : ByteArray.size { data := #[92, 115] } = 2 := rfl; first | (unfold maxLen; omega) | (simp only [ByteArray.size_append]; omega) | (unfold maxLen; (try simp only [ByteArray.size_append]); omega))) ?_
        refine acode_region ?_
        refine And.intro (by first | omega | assumption | decide | (simp only [Int.toNat_natCast, dflt_sl, dflt_st, dflt_str, dflt_int, dflt_bool]; omega) | (simp; omega)) ?_
        exact ⟨i + 1, by omega, by first | omega | (simp; omega), le_of ⟨rfl, rfl, (is_eq (by rw [hsn]; unfold escX; rw [if_neg h22, if_pos h27, bytes_app]; rfl)), rfl⟩ trivial rfl⟩
      · try simp only [decide_eq_false_iff_not] at h27
        try simp only [Int.toNat_natCast, dflt_sl, dflt_st, dflt_str, dflt_int, dflt_bool] at h27
        rw [bytes_one] at h27
        refine acode_seq ?_
        refine acode_region ?_
        refine acode_cond rfl (fun h32 => ?_) (fun h32 => ?_)
        · try simp only [decide_eq_true_eq] at h32
          try simp only [Int.toNat_natCast, dflt_sl, dflt_st, dflt_str, dflt_int, dflt_bool] at h32
          rw [bytes_one] at h32
          refine acode_region ?_
          refine And.intro (by (have hk0 : ByteArray.size { data := #[92, 110] } = 2 := rfl; first | (unfold maxLen; omega) | (simp only [ByteArray.size_append]; omega) | (unfold maxLen; (try simp only [ByteArray.size_append]); omega))) ?_
          refine acode_region ?_
          refine And.intro (by first | omega | assumption | decide | (simp only [Int.toNat_natCast, dflt_sl, dflt_st, dflt_str, dflt_int, dflt_bool]; omega) | (simp; omega)) ?_
          exact ⟨i + 1, by omega, by first | omega | (simp; omega), le_of ⟨rfl, rfl, (is_eq (by rw [hsn]; unfold escX; rw [if_neg h22, if_neg h27, if_pos h32, bytes_app]; rfl)), rfl⟩ trivial rfl⟩
        · try simp only [decide_eq_false_iff_not] at h32
          try simp only [Int.toNat_natCast, dflt_sl, dflt_st, dflt_str, dflt_int, dflt_bool] at h32
          rw [bytes_one] at h32
          refine acode_seq ?_
          refine acode_region ?_
          refine acode_cond rfl (fun h37 => ?_) (fun h37 => ?_)
          · try simp only [decide_eq_true_eq] at h37
            try simp only [Int.toNat_natCast, dflt_sl, dflt_st, dflt_str, dflt_int, dflt_bool] at h37
            rw [bytes_one] at h37
            refine acode_region ?_
            refine And.intro (by (have hk0 : ByteArray.size { data := #[92, 98] } = 2 := rfl; first | (unfold maxLen; omega) | (simp only [ByteArray.size_append]; omega) | (unfold maxLen; (try simp only [ByteArray.size_append]); omega))) ?_
            refine acode_region ?_
            refine And.intro (by first | omega | assumption | decide | (simp only [Int.toNat_natCast, dflt_sl, dflt_st, dflt_str, dflt_int, dflt_bool]; omega) | (simp; omega)) ?_
            exact ⟨i + 1, by omega, by first | omega | (simp; omega), le_of ⟨rfl, rfl, (is_eq (by rw [hsn]; unfold escX; rw [if_neg h22, if_neg h27, if_neg h32, if_pos h37, bytes_app]; rfl)), rfl⟩ trivial rfl⟩
          · try simp only [decide_eq_false_iff_not] at h37
            try simp only [Int.toNat_natCast, dflt_sl, dflt_st, dflt_str, dflt_int, dflt_bool] at h37
            rw [bytes_one] at h37
            refine acode_seq ?_
            refine acode_region ?_
            refine And.intro (fun h => trivial) ?_
            refine And.intro (fun h => ⟨⟨h, trivial⟩, trivial⟩) ?_
            refine And.intro (fun h => ⟨⟨h, trivial⟩, trivial⟩) ?_
            refine And.intro (fun h => trivial) ?_
            refine And.intro (fun h => ⟨⟨h, trivial⟩, trivial⟩) ?_
            refine And.intro (fun h => ⟨⟨⟨h, trivial⟩, trivial⟩, by first | exact fun h2 => h2 | (intro h2; rw [h, h2]; rfl) | (intro h2; cases h2) | (intro h2; simp_all [gq])⟩) ?_
            refine And.intro (fun h => ⟨⟨h, trivial⟩, trivial⟩) ?_
            refine And.intro (fun h => trivial) ?_
            refine And.intro (fun h => ⟨⟨h, trivial⟩, trivial⟩) ?_
            refine And.intro (fun h => ⟨⟨⟨h, trivial⟩, trivial⟩, by first | exact fun h2 => h2 | (intro h2; rw [h, h2]; rfl) | (intro h2; cases h2) | (intro h2; simp_all [gq])⟩) ?_
            refine And.intro (fun h => ⟨⟨h, trivial⟩, trivial⟩) ?_
            refine And.intro (fun h => trivial) ?_
            refine And.intro (fun h => ⟨⟨h, trivial⟩, trivial⟩) ?_
            refine And.intro (fun h => ⟨⟨⟨h, trivial⟩, trivial⟩, by first | exact fun h2 => h2 | (intro h2; rw [h, h2]; rfl) | (intro h2; cases h2) | (intro h2; simp_all [gq])⟩) ?_
            refine And.intro (fun h => ⟨⟨h, trivial⟩, trivial⟩) ?_
            refine And.intro (fun h => trivial) ?_
            refine And.intro (fun h => ⟨⟨h, trivial⟩, trivial⟩) ?_
            refine And.intro (fun h => ⟨⟨⟨h, trivial⟩, trivial⟩, by first | exact fun h2 => h2 | (intro h2; rw [h, h2]; rfl) | (intro h2; cases h2) | (intro h2; simp_all [gq])⟩) ?_
            refine And.intro (fun h => ⟨⟨h, trivial⟩, trivial⟩) ?_
            refine And.intro (fun h => trivial) ?_
            refine And.intro (fun h => ⟨⟨h, trivial⟩, trivial⟩) ?_
            refine And.intro (fun h => ⟨⟨⟨h, trivial⟩, trivial⟩, by first | exact fun h2 => h2 | (intro h2; rw [h, h2]; rfl) | (intro h2; cases h2) | (intro h2; simp_all [gq])⟩) ?_
            refine And.intro (by exact fun h => h) ?_
            refine acode_cond rfl (fun h42 => ?_) (fun h42 => ?_)
            · try simp only [decide_eq_true_eq, Bool.and_eq_true, Bool.or_eq_true] at h42
              try simp only [Int.toNat_natCast, dflt_sl, dflt_st, dflt_str, dflt_int, dflt_bool] at h42
              simp only [bytes_one] at h42
              have hs : (k && signC c) = true := by unfold signC; simpa only [Bool.and_eq_true, Bool.or_eq_true, decide_eq_true_eq] using h42
              refine acode_region ?_
              refine And.intro (by (have hk0 : ByteArray.size { data := #[92] } = 1 := rfl; first | (unfold maxLen; omega) | (simp only [ByteArray.size_append]; omega) | (unfold maxLen; (try simp only [ByteArray.size_append]); omega))) ?_
              refine And.intro (by (have hk0 : ByteArray.size { data := #[92] } = 1 := rfl; first | (unfold maxLen; omega) | (simp only [ByteArray.size_append]; omega) | (unfold maxLen; (try simp only [ByteArray.size_append]); omega))) ?_
              refine acode_region ?_
              refine And.intro (by first | omega | assumption | decide | (simp only [Int.toNat_natCast, dflt_sl, dflt_st, dflt_str, dflt_int, dflt_bool]; omega) | (simp; omega)) ?_
              exact ⟨i + 1, by omega, by first | omega | (simp; omega), le_of ⟨rfl, rfl, (is_eq (by rw [hsn]; unfold escX; rw [if_neg h22, if_neg h27, if_neg h32, if_neg h37, if_pos hs, bytes_app, show bytes [92, c] = bytes [92] ++ bytes [c] from bytes_app [92] [c], ByteArray.append_assoc]; rfl)), rfl⟩ trivial rfl⟩
            · try simp only [decide_eq_false_iff_not, Bool.or_eq_false_iff, Bool.and_eq_false_iff] at h42
              try simp only [Int.toNat_natCast, dflt_sl, dflt_st, dflt_str, dflt_int, dflt_bool] at h42
              simp only [bytes_one] at h42
              have hs : ¬ (k && signC c) = true := by rw [Bool.not_eq_true]; unfold signC; simpa only [Bool.and_eq_false_iff, Bool.or_eq_false_iff, decide_eq_false_iff_not] using h42
              refine acode_region ?_
              refine And.intro (by first | omega | (simp only [ByteArray.size_append]; omega) | (unfold maxLen; (try simp only [ByteArray.size_append]); omega)) ?_
              refine acode_region ?_
              refine And.intro (by first | omega | assumption | decide | (simp only [Int.toNat_natCast, dflt_sl, dflt_st, dflt_str, dflt_int, dflt_bool]; omega) | (simp; omega)) ?_
              exact ⟨i + 1, by omega, by first | omega | (simp; omega), le_of ⟨rfl, rfl, (is_eq (by rw [hsn]; unfold escX; rw [if_neg h22, if_neg h27, if_neg h32, if_neg h37, if_neg hs, bytes_app])), rfl⟩ trivial rfl⟩
  · try simp only [decide_eq_false_iff_not, Int.not_lt] at h11
    try simp only [Int.toNat_natCast, dflt_sl, dflt_st, dflt_str, dflt_int, dflt_bool] at h11
    refine acode_exit ?_
    refine acode_seq ?_
    refine acode_region ?_
    refine acode_ret ?_
    refine is_eq ?_
    rw [List.take_of_length_le (by omega)]

theorem join_take_succ {sep : List UInt8} (ps : List (List UInt8)) (i : Nat) (h : i < ps.length) : Lib.join (ps.take (i + 1)) sep = (if i = 0 then [] else Lib.join (ps.take i) sep ++ sep) ++ ps.getD i [] := by
  cases ps with
  | nil => cases h
  | cons p ps =>
    cases i with
    | zero => simp [Lib.join_one]
    | succ i =>
      simp only [List.length_cons] at h
      have hi : i < ps.length := by omega
      have e : ps[i]? = some ps[i] := List.getElem?_eq_getElem hi
      rw [if_neg (by omega), List.take_succ_cons, List.take_succ_cons, Lib.join_cons, Lib.join_cons, Lib.joinTail_take_succ sep ps i _ e, List.getD_cons_succ, List.getD_eq_getElem?_getD, e]
      simp
theorem take_map_getD {α : Type} (f : α → List UInt8) (r : List α) (d : α) (k : Nat) (h : k < r.length) : (r.map f).getD k [] = f (r.getD k d) := by
  rw [List.getD_eq_getElem?_getD, List.getElem?_map, List.getD_eq_getElem?_getD, List.getElem?_eq_getElem h]; rfl
/-- What stands of a row, terms ahead of the k-th. -/
def rowTo (r : List Term) (k : Nat) : List UInt8 := if r.isEmpty then [97, 108, 108] else Lib.join ((r.map termL).take k) [32]
theorem rowTo_len (r : List Term) : rowTo r r.length = rowL r := by
  unfold rowTo rowL; rw [List.take_of_length_le (by simp)]
theorem rowTo_succ (r : List Term) (k : Nat) (h : k < r.length) : rowTo r (k + 1) = (if k = 0 then [] else rowTo r k ++ [32]) ++ termL (r.getD k (false, ByteArray.empty, 0, ByteArray.empty)) := by
  unfold rowTo
  have : r.isEmpty = false := by cases r; cases h; rfl
  rw [this, join_take_succ _ k (by rw [List.length_map]; exact h), take_map_getD termL r (false, ByteArray.empty, 0, ByteArray.empty) k h]; rfl
def selTo (s : List (List Term)) (i : Nat) : List UInt8 := Lib.join ((s.map rowL).take i) [32, 124, 32]
theorem selTo_succ (s : List (List Term)) (i : Nat) (h : i < s.length) : selTo s (i + 1) = (if i = 0 then [] else selTo s i ++ [32, 124, 32]) ++ rowL (s.getD i []) := by
  unfold selTo
  rw [join_take_succ _ i (by rw [List.length_map]; exact h), take_map_getD rowL s [] i h]
theorem rowTo_zero {r : List Term} (h : ¬ (r.length : Int) = 0) : rowTo r 0 = [] := by
  unfold rowTo; rw [notEmpty h]; rfl
theorem rowTo_none {r : List Term} (h : (r.length : Int) = 0) : rowTo r 0 = [97, 108, 108] := by
  rw [List.eq_nil_of_length_eq_zero (show r.length = 0 by omega)]; rfl
theorem rowTo_step (b : List UInt8) (r : List Term) (k : Nat) (h : k < r.length) : b ++ rowTo r (k + 1) = (if k = 0 then b else b ++ rowTo r k ++ [32]) ++ termL (r.getD k (false, ByteArray.empty, 0, ByteArray.empty)) := by
  rw [rowTo_succ r k h]; split <;> simp
theorem rowTo_bound {r : List Term} (h : TermsOk r) (k : Nat) : (rowTo r k).length ≤ 80000100 := by
  unfold rowTo
  split
  · simp
  · have := join_len (sep := [32]) (B := 4000002) (ps := (r.map termL).take k) (fun p hp => by
      obtain ⟨t, ht, rfl⟩ := List.mem_map.1 (List.mem_of_mem_take hp)
      have h1 := termL_len t
      obtain ⟨⟨h2, h3⟩, _⟩ := h.2 t ht
      omega)
    rw [List.length_take, List.length_map] at this
    have h1 := h.1
    simp only [List.length_cons, List.length_nil] at this
    have : min k r.length * 4000003 ≤ 20 * 4000003 := Nat.mul_le_mul_right _ (by omega)
    omega
theorem selTo_bound {s : List (List Term)} (h : s.length ≤ 20 ∧ ∀ r ∈ s, TermsOk r) (i : Nat) : (selTo s i).length ≤ 1600003000 := by
  unfold selTo
  have := join_len (sep := [32, 124, 32]) (B := 80000100) (ps := (s.map rowL).take i) (fun p hp => by
      obtain ⟨r, hr, rfl⟩ := List.mem_map.1 (List.mem_of_mem_take hp)
      exact rowL_len (h.2 r hr))
  rw [List.length_take, List.length_map] at this
  have h1 := h.1
  simp only [List.length_cons, List.length_nil] at this
  have : min i s.length * 80000103 ≤ 20 * 80000103 := Nat.mul_le_mul_right _ (by omega)
  omega
theorem written_v (s : ByteArray) (k : Bool) (e : List UInt8) (he : escL (moreOf k) s.data.toList = e) (hs : s.size ≤ 1000000) : ACall Tryd.prog 72 [is s, ib k] (is (bytes e)) := by
  subst he; exact written_c s k hs
theorem refLine_c (s : List (List Term)) (h : s.length ≤ 20 ∧ ∀ r ∈ s, TermsOk r) : ACall Tryd.prog 24 [.one (.sl (.sl rTerm) s)] (is (bytes (selL s))) := by
  refine acall_of (rs := [2]) Tryd.func24 rfl rfl rfl teOk rfl ?_
  refine acode_seq ?_
  refine acode_region ?_
  refine acode_seq ?_
  refine acode_seq ?_
  refine acode_region ?_
  intro l1_1
  try simp only [Int.toNat_natCast, dflt_sl, dflt_st, dflt_str, dflt_int, dflt_bool] at l1_1
  refine acode_cond rfl (fun h9 => ?_) (fun h9 => ?_)
  · try simp only [decide_eq_true_eq] at h9
    try simp only [Int.toNat_natCast, dflt_sl, dflt_st, dflt_str, dflt_int, dflt_bool] at h9
    refine acode_seq ?_
    refine acode_region ?_
    refine acode_ret ?_
    refine is_eq ?_
    rw [List.eq_nil_of_length_eq_zero (show s.length = 0 by omega)]
    rfl
  · try simp only [decide_eq_false_iff_not] at h9
    try simp only [Int.toNat_natCast, dflt_sl, dflt_st, dflt_str, dflt_int, dflt_bool] at h9
    have hN := notEmpty h9
    refine acode_skip ?_
    refine acode_seq ?_
    refine acode_region ?_
    refine acode_seq ?_
    refine acode_seq ?_
    refine acode_region ?_
    refine acode_block ?_
    refine acode_loopP (fun (i : Nat) => i ≤ s.length) (fun (i : Nat) => [(0, .one (.sl (.sl rTerm) s)), (3, is (bytes (selTo s i))), (4, ii .i64 i)]) (fun (i : Nat) => []) 0 (fun (i : Nat) => s.length - i) 0 (Nat.zero_le _) (le_of ⟨rfl, rfl, rfl⟩ trivial rfl) ?_
    intro i hI0
    have hi := hI0
    have hsb : (bytes (selTo s i)).size ≤ 1600003000 := by rw [bytes_size]; exact selTo_bound h i
    refine acode_seq ?_
    refine acode_seq ?_
    refine acode_region ?_
    intro l5_2
    try simp only [Int.toNat_natCast, dflt_sl, dflt_st, dflt_str, dflt_int, dflt_bool] at l5_2
    refine acode_cond rfl (fun h13 => ?_) (fun h13 => ?_)
    · try simp only [decide_eq_true_eq] at h13
      try simp only [Int.toNat_natCast, dflt_sl, dflt_st, dflt_str, dflt_int, dflt_bool] at h13
      have hlt : i < s.length := by omega
      have hm := h.2 _ (getD_mem hlt [])
      have hsucc := selTo_succ s i hlt
      obtain ⟨b, hb⟩ : ∃ b, (if i = 0 then [] else selTo s i ++ [32, 124, 32]) = b := ⟨_, rfl⟩
      rw [hb] at hsucc
      obtain ⟨r, hr⟩ : ∃ r, s.getD i [] = r := ⟨_, rfl⟩
      rw [hr] at hm hsucc
      have h20 := hm.1
      have hbl : (bytes b).size ≤ 1600003003 := by rw [bytes_size] at hsb ⊢; rw [← hb]; split; simp; simp only [List.length_append, List.length_cons, List.length_nil]; omega
      refine acode_skip ?_
      refine acode_seq ?_
      refine acode_block ?_
      refine acode_cut (fun (u : Unit) => True) (fun (u : Unit) => [(0, .one (.sl (.sl rTerm) s)), (4, ii .i64 i), (3, is (bytes b))]) (fun (u : Unit) => []) 0 ?_ ?_
      · refine acode_seq ?_
        refine acode_region ?_
        refine acode_cond rfl (fun h17 => ?_) (fun h17 => ?_)
        · try simp only [decide_eq_true_eq] at h17
          try simp only [Int.toNat_natCast, dflt_sl, dflt_st, dflt_str, dflt_int, dflt_bool] at h17
          refine acode_region ?_
          refine And.intro (by (have hk0 : ByteArray.size { data := #[32, 124, 32] } = 3 := rfl; first | (unfold maxLen; omega) | (simp only [ByteArray.size_append]; omega) | (unfold maxLen; (try simp only [ByteArray.size_append]); omega))) ?_
          exact ⟨(), trivial, le_of ⟨rfl, rfl, (is_eq (by rw [← hb, if_neg (by omega), bytes_app]; rfl))⟩ trivial rfl⟩
        · try simp only [decide_eq_false_iff_not, Int.not_lt] at h17
          try simp only [Int.toNat_natCast, dflt_sl, dflt_st, dflt_str, dflt_int, dflt_bool] at h17
          refine acode_skip ?_
          exact ⟨(), trivial, le_of ⟨rfl, rfl, (is_eq (by rw [← hb, if_pos (by omega), show i = 0 by omega]; rfl))⟩ trivial rfl⟩
      · intro u hcut9
        refine acode_cut (fun (u : Unit) => True) (fun (u : Unit) => [(0, .one (.sl (.sl rTerm) s)), (4, ii .i64 i), (3, is (bytes (b ++ rowTo r 0)))]) (fun (u : Unit) => []) 0 ?_ ?_
        · refine acode_seq ?_
          refine acode_region ?_
          refine And.intro (by first | omega | assumption | decide | (simp only [Int.toNat_natCast, dflt_sl, dflt_st, dflt_str, dflt_int, dflt_bool]; omega) | (simp; omega)) ?_
          intro l9_4
          try simp only [Int.toNat_natCast, dflt_sl] at l9_4
          refine acode_cond rfl (fun h25 => ?_) (fun h25 => ?_)
          · try simp only [decide_eq_true_eq] at h25
            try simp only [Int.toNat_natCast, dflt_sl] at h25
            refine acode_region ?_
            refine And.intro (by (have hk0 : ByteArray.size { data := #[97, 108, 108] } = 3 := rfl; first | (unfold maxLen; omega) | (simp only [ByteArray.size_append]; omega) | (unfold maxLen; (try simp only [ByteArray.size_append]); omega))) ?_
            exact ⟨(), trivial, le_of ⟨rfl, rfl, (is_eq (by rw [hr] at h25; rw [rowTo_none h25, bytes_app]; rfl))⟩ trivial rfl⟩
          · try simp only [decide_eq_false_iff_not] at h25
            try simp only [Int.toNat_natCast, dflt_sl] at h25
            refine acode_skip ?_
            exact ⟨(), trivial, le_of ⟨rfl, rfl, (is_eq (by rw [hr] at h25; rw [rowTo_zero h25, List.append_nil]))⟩ trivial rfl⟩
        · intro u hcut11
          refine acode_seq ?_
          refine acode_region ?_
          refine acode_block ?_
          refine acode_loopP (fun (k : Nat) => k ≤ r.length) (fun (k : Nat) => [(0, .one (.sl (.sl rTerm) s)), (4, ii .i64 i), (3, is (bytes (b ++ rowTo r k))), (5, ii .i64 k)]) (fun (k : Nat) => []) 0 (fun (k : Nat) => r.length - k) 0 (Nat.zero_le _) (le_of ⟨rfl, rfl, rfl, rfl⟩ trivial rfl) ?_
          intro k hI2
          have hk := hI2
          have hrb : (bytes (b ++ rowTo r k)).size ≤ 1680003103 := by rw [bytes_size, List.length_append]; have := rowTo_bound hm k; rw [bytes_size] at hbl; omega
          refine acode_seq ?_
          refine acode_seq ?_
          refine acode_region ?_
          refine And.intro (by first | omega | assumption | decide | (simp only [Int.toNat_natCast, dflt_sl, dflt_st, dflt_str, dflt_int, dflt_bool]; omega) | (simp; omega)) ?_
          intro l12_5
          try simp only [Int.toNat_natCast, dflt_sl] at l12_5
          refine acode_cond rfl (fun h34 => ?_) (fun h34 => ?_)
          · try simp only [decide_eq_true_eq] at h34
            try simp only [Int.toNat_natCast, dflt_sl] at h34
            rw [hr] at h34
            obtain ⟨t, ht⟩ : ∃ t, (s.getD i []).getD k (false, ByteArray.empty, 0, ByteArray.empty) = t := ⟨_, rfl⟩
            have ht2 : r.getD k (false, ByteArray.empty, 0, ByteArray.empty) = t := by rw [← hr]; exact ht
            obtain ⟨⟨ht1, ht3⟩, hr1, hr2⟩ : TxtOk t ∧ RelOk t := ht2 ▸ hm.2 _ (getD_mem (show k < r.length by omega) (false, ByteArray.empty, 0, ByteArray.empty))
            have hst := rowTo_step b r k (by omega)
            rw [ht2] at hst
            obtain ⟨b2, hb2⟩ : ∃ b2, (if k = 0 then b else b ++ rowTo r k ++ [32]) = b2 := ⟨_, rfl⟩
            rw [hb2] at hst
            have hb2l : (bytes b2).size ≤ 1680003104 := by rw [bytes_size] at hrb hbl ⊢; rw [← hb2]; split; omega; simp only [List.length_append, List.length_cons, List.length_nil] at hrb ⊢; omega
            obtain ⟨e1, he1⟩ : ∃ e, escL (moreOf true) t.2.1.data.toList = e := ⟨_, rfl⟩
            obtain ⟨e2, he2⟩ : ∃ e, escL (moreOf false) t.2.2.2.data.toList = e := ⟨_, rfl⟩
            have hl1 : (bytes e1).size ≤ 2000000 := by rw [bytes_size, ← he1]; have := esc_len (moreOf true) t.2.1.data.toList; rw [size_list] at ht1; omega
            have hl2 : (bytes e2).size ≤ 2000000 := by rw [bytes_size, ← he2]; have := esc_len (moreOf false) t.2.2.2.data.toList; rw [size_list] at ht3; omega
            have hx := sign_one ⟨hr1, hr2⟩
            have hxs : ((⟨#[63, 61, 94, 126, 60]⟩ : ByteArray).extract (t.2.2.1 - 1).toNat t.2.2.1.toNat).size = 1 := by rw [hx]; rfl
            refine acode_skip ?_
            refine acode_seq ?_
            refine acode_block ?_
            refine acode_cut (fun (u : Unit) => True) (fun (u : Unit) => [(0, .one (.sl (.sl rTerm) s)), (4, ii .i64 i), (3, is (bytes (b ++ rowTo r k))), (5, ii .i64 k), (6, .one (.own 0 0))]) (fun (u : Unit) => [(0, .box 49 (toL rTerm t))]) 1 ?_ ?_
            · refine acode_region ?_
              refine And.intro (by first | omega | assumption | decide | (simp only [Int.toNat_natCast, dflt_sl, dflt_st, dflt_str, dflt_int, dflt_bool]; omega) | (simp; omega)) ?_
              refine And.intro (by have e : (s.getD (i : Int).toNat (Rd.sl rTerm).dflt).length = r.length := (by rw [Int.toNat_natCast]; exact congrArg List.length hr); exact ⟨by omega, by omega⟩) ?_
              exact ⟨(), trivial, le_of ⟨rfl, rfl, rfl, rfl, rfl⟩ ((by rw [← ht]; rfl)) rfl⟩
            · intro u hcut15
              refine acode_cut (fun (u : Unit) => True) (fun (u : Unit) => [(0, .one (.sl (.sl rTerm) s)), (4, ii .i64 i), (3, is (bytes b2)), (5, ii .i64 k), (6, .one (.own 0 0))]) (fun (u : Unit) => [(0, .box 49 (toL rTerm t))]) 1 ?_ ?_
              · refine acode_seq ?_
                refine acode_region ?_
                refine acode_cond rfl (fun h45 => ?_) (fun h45 => ?_)
                · try simp only [decide_eq_true_eq] at h45
                  try simp only [Int.toNat_natCast, dflt_sl, dflt_st, dflt_str, dflt_int, dflt_bool] at h45
                  refine acode_region ?_
                  refine And.intro (by (have hk0 : ByteArray.size { data := #[32] } = 1 := rfl; first | (unfold maxLen; omega) | (simp only [ByteArray.size_append]; omega) | (unfold maxLen; (try simp only [ByteArray.size_append]); omega))) ?_
                  exact ⟨(), trivial, le_of ⟨rfl, rfl, (is_eq (by rw [← hb2, if_neg (by omega), bytes_app _ [32]]; rfl)), rfl, rfl⟩ rfl rfl⟩
                · try simp only [decide_eq_false_iff_not, Int.not_lt] at h45
                  try simp only [Int.toNat_natCast, dflt_sl, dflt_st, dflt_str, dflt_int, dflt_bool] at h45
                  refine acode_skip ?_
                  exact ⟨(), trivial, le_of ⟨rfl, rfl, (is_eq (by have hk0 : k = 0 := (by omega); rw [← hb2, if_pos hk0, hk0, rowTo_zero (by omega), List.append_nil])), rfl, rfl⟩ rfl rfl⟩
              · intro u hcut17
                refine acode_cut (fun (u : Unit) => True) (fun (u : Unit) => [(0, .one (.sl (.sl rTerm) s)), (4, ii .i64 i), (3, is (bytes (b2 ++ if t.1 then [33] else []))), (5, ii .i64 k), (6, .one (.own 0 0))]) (fun (u : Unit) => [(0, .box 49 (toL rTerm t))]) 1 ?_ ?_
                · refine acode_seq ?_
                  refine acode_region ?_
                  refine acode_cond rfl (fun h49 => ?_) (fun h49 => ?_)
                  · try simp only [decide_eq_true_eq, decide_eq_false_iff_not, Bool.and_eq_true, Bool.not_eq_true', Bool.not_eq_false', Bool.or_eq_false_iff, Bool.or_eq_true, Bool.and_eq_false_iff, Int.not_lt, Int.not_le] at h49
                    try simp only [Int.toNat_natCast, dflt_sl, dflt_st, dflt_str, dflt_int, dflt_bool] at h49
                    refine acode_region ?_
                    refine And.intro (by (have hk0 : ByteArray.size { data := #[33] } = 1 := rfl; first | (unfold maxLen; omega) | (simp only [ByteArray.size_append]; omega) | (unfold maxLen; (try simp only [ByteArray.size_append]); omega))) ?_
                    exact ⟨(), trivial, le_of ⟨rfl, rfl, (is_eq (by rw [h49, if_pos rfl, bytes_app]; rfl)), rfl, rfl⟩ rfl rfl⟩
                  · try simp only [decide_eq_true_eq, decide_eq_false_iff_not, Bool.and_eq_true, Bool.not_eq_true', Bool.not_eq_false', Bool.or_eq_false_iff, Bool.or_eq_true, Bool.and_eq_false_iff, Int.not_lt, Int.not_le] at h49
                    try simp only [Int.toNat_natCast, dflt_sl, dflt_st, dflt_str, dflt_int, dflt_bool] at h49
                    refine acode_skip ?_
                    exact ⟨(), trivial, le_of ⟨rfl, rfl, (is_eq (by rw [h49]; simp)), rfl, rfl⟩ rfl rfl⟩
                · intro u hcut19
                  have hb3l : (bytes (b2 ++ if t.1 then [33] else [])).size ≤ 1680003105 := by rw [bytes_size] at hb2l ⊢; rw [List.length_append]; have : (if t.1 then [33] else [] : List UInt8).length ≤ 1 := (by cases t.1 <;> simp); omega
                  refine acode_draw rfl (by kernel_rfl) ?_
                  refine And.intro (rfl) ?_
                  refine Exists.intro _ (And.intro (written_v _ true e1 he1 ht1) ?_)
                  refine And.intro (by first | omega | (simp only [ByteArray.size_append]; omega) | (unfold maxLen; (try simp only [ByteArray.size_append]); omega)) ?_
                  refine And.intro (by first | omega | assumption | decide | (simp only [Int.toNat_natCast, dflt_sl, dflt_st, dflt_str, dflt_int, dflt_bool]; omega) | (simp; omega)) ?_
                  refine And.intro (by exact ⟨by omega, by omega, by show _ ≤ (5 : Int); omega⟩) ?_
                  refine And.intro (by first | omega | (simp only [ByteArray.size_append]; omega) | (unfold maxLen; (try simp only [ByteArray.size_append]); omega)) ?_
                  refine And.intro (rfl) ?_
                  refine Exists.intro _ (And.intro (written_v _ false e2 he2 ht3) ?_)
                  refine And.intro (by first | omega | (simp only [ByteArray.size_append]; omega) | (unfold maxLen; (try simp only [ByteArray.size_append]); omega)) ?_
                  refine acode_region ?_
                  refine And.intro (by first | omega | assumption | decide | (simp only [Int.toNat_natCast, dflt_sl, dflt_st, dflt_str, dflt_int, dflt_bool]; omega) | (simp; omega)) ?_
                  exact ⟨k + 1, by omega, by first | omega | (simp; omega), le_of ⟨rfl, rfl, (is_eq (by rw [hst, hx, ← bytes_app, ← bytes_app, ← bytes_app]; unfold termL; rw [show ls t.2.1 = t.2.1.data.toList from rfl, he1, show ls t.2.2.2 = t.2.2.2.data.toList from rfl, he2]; simp)), rfl⟩ trivial rfl⟩
          · try simp only [decide_eq_false_iff_not, Int.not_lt] at h34
            try simp only [Int.toNat_natCast, dflt_sl] at h34
            rw [hr] at h34
            refine acode_exit ?_
            refine acode_region ?_
            refine And.intro (by first | omega | assumption | decide | (simp only [Int.toNat_natCast, dflt_sl, dflt_st, dflt_str, dflt_int, dflt_bool]; omega) | (simp; omega)) ?_
            exact ⟨i + 1, by omega, by first | omega | (simp; omega), le_of ⟨rfl, (is_eq (by rw [hsucc, ← rowTo_len, show k = r.length by omega])), rfl⟩ trivial rfl⟩
    · try simp only [decide_eq_false_iff_not, Int.not_lt] at h13
      try simp only [Int.toNat_natCast, dflt_sl, dflt_st, dflt_str, dflt_int, dflt_bool] at h13
      refine acode_exit ?_
      refine acode_seq ?_
      refine acode_region ?_
      refine acode_ret ?_
      refine is_eq ?_
      unfold selL selTo
      rw [hN, List.take_of_length_le (by rw [List.length_map]; omega)]
      rfl
end Q
end Ab
end Go.Proofs.YthlfbpmbkcoclaaDoor
