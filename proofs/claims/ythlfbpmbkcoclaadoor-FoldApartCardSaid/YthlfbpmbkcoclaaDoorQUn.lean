/-
  A selector's words: what the program's functions read of them.
-/
import Derived.Test.YthlfbpmbkcoclaaDoorQText
namespace Go.Proofs.YthlfbpmbkcoclaaDoor
open Go.RowKit
namespace Ab
set_option maxRecDepth 100000
namespace Q
theorem ints_push (l : List UInt8) (c : UInt8) (n : Int) (h : n = c.toNat) : intsOf (bytes l) ++ [n] = intsOf (bytes (l ++ [c])) := by
  unfold intsOf; rw [bytes_list, bytes_list, List.map_append, h]; rfl
theorem ints_app (l m : List UInt8) : intsOf (bytes l) ++ intsOf (bytes m) = intsOf (bytes (l ++ m)) := by
  unfold intsOf; rw [bytes_list, bytes_list, bytes_list, List.map_append]
theorem ints_len (l : List UInt8) : (intsOf (bytes l)).length = l.length := by unfold intsOf; rw [bytes_list, List.length_map]
theorem indexB_lt {l : List UInt8} {c : UInt8} (h : 0 ≤ Lib.indexByte l c) : (Lib.indexByte l c).toNat < l.length := by
  induction l with
  | nil => exact absurd h (by unfold Lib.indexByte; decide)
  | cons a l ih =>
    unfold Lib.indexByte at h ⊢
    split
    · simp
    · split
      · rename_i h1 h2; rw [if_neg h1, if_pos h2] at h; omega
      · rename_i h1 h2
        have := Lib.indexByte_ge l c
        have h3 : Lib.indexByte l c ≠ -1 := fun e => h2 (by rw [e]; rfl)
        have := ih (by omega)
        simp only [List.length_cons]; omega
theorem indexByte_k (s : ByteArray) (c : UInt8) (n : Int) (h : n = c.toNat) : ACall Tryd.prog 149 [is s, ii .u8 n] (ii .i64 (Lib.indexByte s.data.toList c)) := by
  have := indexByte_c s n
  rw [h, Int.toNat_natCast, u8_back] at this
  rw [h]; exact this
theorem unescL_one {c : UInt8} {r : List UInt8} (h : c ≠ 92 ∨ r = []) : unescL (c :: r) = c :: unescL r := by
  by_cases hc : c = 92
  · subst hc
    rcases h with h | h
    · exact absurd rfl h
    · subst h; rfl
  · exact unescL_other hc
theorem unescape_c (s : ByteArray) (hs : s.size ≤ 1000000) : ACall Tryd.prog 148 [is s] (is (bytes (unescL s.data.toList))) := by
  have hz := size_list s
  refine acall_of (rs := [2]) Tryd.func148 rfl rfl rfl teOk rfl ?_
  refine acode_seq ?_
  refine acode_region ?_
  refine acode_seq ?_
  refine acode_region ?_
  refine acode_seq ?_
  refine acode_seq ?_
  refine acode_bld 0 5 (.int .u8) rfl ?_
  refine acode_region ?_
  refine acode_block ?_
  refine acode_loopP (fun (x : Nat × Bool × List UInt8) => x.1 ≤ s.size ∧ x.2.2.length ≤ x.1 ∧ x.2.2 ++ unescL (s.data.toList.drop x.1) = unescL s.data.toList) (fun (x : Nat × Bool × List UInt8) => [(0, is s), (3, .one (.own 0 0)), (4, ii .i64 x.1)]) (fun (x : Nat × Bool × List UInt8) => [(0, .box 118 [.nself x.2.1 0, .vec 1]), (1, .vec 5 (.int .u8) (intsOf (bytes x.2.2)))]) 2 (fun (x : Nat × Bool × List UInt8) => s.size - x.1) (0, false, []) (⟨Nat.zero_le _, Nat.zero_le _, rfl⟩) (le_of ⟨rfl, rfl, rfl⟩ ⟨rfl, rfl⟩ rfl) ?_
  intro ⟨i, u, o⟩ hI0
  simp only at hI0 ⊢
  obtain ⟨hi, ho, hn⟩ := hI0
  have hol := ints_len o
  refine acode_seq ?_
  refine acode_seq ?_
  refine acode_region ?_
  refine acode_cond rfl (fun h9 => ?_) (fun h9 => ?_)
  · try simp only [decide_eq_true_eq] at h9
    try simp only [Int.toNat_natCast, dflt_sl, dflt_st, dflt_str, dflt_int, dflt_bool] at h9
    refine acode_skip ?_
    refine acode_seq ?_
    refine acode_block ?_
    refine acode_seq ?_
    refine acode_seq ?_
    refine acode_draw rfl (by kernel_rfl) ?_
    refine And.intro (by first | omega | assumption | decide | (simp only [Int.toNat_natCast, dflt_sl, dflt_st, dflt_str, dflt_int, dflt_bool]; omega) | (simp; omega)) ?_
    refine And.intro (by first | omega | assumption | decide | (simp only [Int.toNat_natCast, dflt_sl, dflt_st, dflt_str, dflt_int, dflt_bool]; omega) | (simp; omega)) ?_
    refine And.intro (fun h => trivial) ?_
    refine And.intro (fun h => ⟨⟨⟨h, trivial⟩, trivial⟩, by first | omega | decide | (simp only [Int.toNat_natCast, dflt_sl, dflt_st, dflt_str, dflt_int, dflt_bool]; omega) | (have h9 := of_decide_eq_true h; omega) | (simp [gq] at h; omega)⟩) ?_
    refine And.intro (fun h => trivial) ?_
    refine And.intro (fun h => ⟨⟨h, trivial⟩, trivial⟩) ?_
    refine And.intro (fun h => ⟨⟨h, trivial⟩, ⟨h, trivial⟩, trivial⟩) ?_
    refine And.intro (by exact fun h => h) ?_
    refine acode_cond rfl (fun h23 => ?_) (fun h23 => ?_)
    · try simp only [decide_eq_true_eq, Bool.and_eq_true] at h23
      try simp only [Int.toNat_natCast] at h23
      obtain ⟨h92, hlt⟩ := h23
      have h92 : s.data.toList.getD i 0 = 92 := u8_eq h92
      have e1 : ((i : Int) + 1).toNat = i + 1 := by omega
      have hd : s.data.toList.drop i = 92 :: s.data.toList.getD (i + 1) 0 :: s.data.toList.drop (i + 2) := by rw [drop_cons (by omega), h92, drop_cons (by omega)]
      refine acode_seq ?_
      refine acode_region ?_
      refine And.intro (by first | omega | assumption | decide | (simp only [Int.toNat_natCast, dflt_sl, dflt_st, dflt_str, dflt_int, dflt_bool]; omega) | (simp; omega)) ?_
      refine acode_seq ?_
      refine acode_region ?_
      refine And.intro (by first | omega | assumption | decide | (simp only [Int.toNat_natCast, dflt_sl, dflt_st, dflt_str, dflt_int, dflt_bool]; omega) | (simp; omega)) ?_
      refine Or.inl ?_
      refine And.intro (rfl) ?_
      refine Exists.intro _ (And.intro (indexByte_k _ (s.data.toList.getD (i + 1) 0) _ (by rw [e1])) ?_)
      refine acode_seq ?_
      refine acode_region ?_
      refine acode_cond rfl (fun h31 => ?_) (fun h31 => ?_)
      · try simp only [decide_eq_true_eq] at h31
        try simp only [Int.toNat_natCast, dflt_sl, dflt_st, dflt_str, dflt_int, dflt_bool] at h31
        have hu : unc (s.data.toList.getD (i + 1) 0) = [92, 32, 10, 124].getD (Lib.indexByte [92, 115, 110, 98] (s.data.toList.getD (i + 1) 0)).toNat 0 := by unfold unc; exact if_pos h31
        refine acode_seq ?_
        refine acode_region ?_
        refine And.intro (by exact ⟨h31, Int.lt_of_toNat_lt (indexB_lt h31)⟩) ?_
        refine Or.inr (Exists.intro [] (Exists.intro [0, 1] (Exists.intro _ (Exists.intro _ (Exists.intro _ (Exists.intro _ (Exists.intro _ (And.intro (writeByte_o _ _ _ (by rw [hol]; omega)) (And.intro rfl (And.intro (And.intro (And.intro rfl rfl) (And.intro (And.intro rfl rfl) True.intro)) (And.intro rfl ?_)))))))))))
        refine acode_exit ?_
        refine acode_region ?_
        refine And.intro (by first | omega | assumption | decide | (simp only [Int.toNat_natCast, dflt_sl, dflt_st, dflt_str, dflt_int, dflt_bool]; omega) | (simp; omega)) ?_
        exact ⟨(i + 2, true, o ++ [unc (s.data.toList.getD (i + 1) 0)]), ⟨by simp only; omega, by simp; omega, by rw [← hn, hd, unescL_slash]; simp⟩, by first | omega | (simp; omega), le_of ⟨rfl, rfl, (ii_eq (by simp only; omega))⟩ ⟨rfl, (vec_eq (ints_push _ _ _ (by rw [hu])))⟩ rfl⟩
      · try simp only [decide_eq_false_iff_not, Int.not_le] at h31
        try simp only [Int.toNat_natCast, dflt_sl, dflt_st, dflt_str, dflt_int, dflt_bool] at h31
        have hu : unc (s.data.toList.getD (i + 1) 0) = s.data.toList.getD (i + 1) 0 := by unfold unc; exact if_neg (by omega)
        refine acode_skip ?_
        refine acode_region ?_
        refine And.intro (by first | omega | assumption | decide | (simp only [Int.toNat_natCast, dflt_sl, dflt_st, dflt_str, dflt_int, dflt_bool]; omega) | (simp; omega)) ?_
        refine Or.inr (Exists.intro [] (Exists.intro [0, 1] (Exists.intro _ (Exists.intro _ (Exists.intro _ (Exists.intro _ (Exists.intro _ (And.intro (writeByte_o _ _ _ (by rw [hol]; omega)) (And.intro rfl (And.intro (And.intro (And.intro rfl rfl) (And.intro (And.intro rfl rfl) True.intro)) (And.intro rfl ?_)))))))))))
        refine acode_region ?_
        refine And.intro (by first | omega | assumption | decide | (simp only [Int.toNat_natCast, dflt_sl, dflt_st, dflt_str, dflt_int, dflt_bool]; omega) | (simp; omega)) ?_
        exact ⟨(i + 2, true, o ++ [s.data.toList.getD (i + 1) 0]), ⟨by simp only; omega, by simp; omega, by rw [← hn, hd, unescL_slash, hu]; simp⟩, by first | omega | (simp; omega), le_of ⟨rfl, rfl, (ii_eq (by simp only; omega))⟩ ⟨rfl, (vec_eq (ints_push _ _ _ (by rw [e1])))⟩ rfl⟩
    · try simp only [decide_eq_false_iff_not, Bool.and_eq_false_iff, Int.not_lt] at h23
      try simp only [Int.toNat_natCast] at h23
      have h92 : s.data.toList.getD i 0 ≠ 92 ∨ s.data.toList.drop (i + 1) = [] := h23.elim (fun h => .inl (fun e => h (by rw [e]; rfl))) (fun h => .inr (List.drop_of_length_le (by omega)))
      refine acode_skip ?_
      refine acode_region ?_
      refine And.intro (by first | omega | assumption | decide | (simp only [Int.toNat_natCast, dflt_sl, dflt_st, dflt_str, dflt_int, dflt_bool]; omega) | (simp; omega)) ?_
      refine Or.inr (Exists.intro [] (Exists.intro [0, 1] (Exists.intro _ (Exists.intro _ (Exists.intro _ (Exists.intro _ (Exists.intro _ (And.intro (writeByte_o _ _ _ (by rw [hol]; omega)) (And.intro rfl (And.intro (And.intro (And.intro rfl rfl) (And.intro (And.intro rfl rfl) True.intro)) (And.intro rfl ?_)))))))))))
      refine acode_region ?_
      refine And.intro (by first | omega | assumption | decide | (simp only [Int.toNat_natCast, dflt_sl, dflt_st, dflt_str, dflt_int, dflt_bool]; omega) | (simp; omega)) ?_
      exact ⟨(i + 1, true, o ++ [s.data.toList.getD i 0]), ⟨by simp only; omega, by simp; omega, by simp only; rw [← hn, drop_cons (show i < s.data.toList.length by omega), unescL_one h92]; simp⟩, by first | omega | (simp; omega), le_of ⟨rfl, rfl, (ii_eq (by simp only; omega))⟩ ⟨rfl, (vec_eq (ints_push _ _ _ rfl))⟩ rfl⟩
  · try simp only [decide_eq_false_iff_not, Int.not_lt] at h9
    try simp only [Int.toNat_natCast, dflt_sl, dflt_st, dflt_str, dflt_int, dflt_bool] at h9
    refine acode_exit ?_
    refine acode_seq ?_
    refine acode_region ?_
    refine Or.inr (Exists.intro [] (Exists.intro [0, 1] (Exists.intro _ (Exists.intro _ (Exists.intro _ (Exists.intro _ (Exists.intro _ (And.intro (string_o _ _) (And.intro rfl (And.intro (And.intro (And.intro rfl rfl) (And.intro (And.intro rfl rfl) True.intro)) (And.intro rfl ?_)))))))))))
    refine acode_ret ?_
    refine is_eq ?_
    rw [← hn, List.drop_of_length_le (by omega)]
    simp [unescL]

theorem indexByte_v (s : ByteArray) (c : UInt8) (n k : Int) (h : n = c.toNat) (hk : Lib.indexByte s.data.toList c = k) : ACall Tryd.prog 149 [is s, ii .u8 n] (ii .i64 k) := by
  subst hk; exact indexByte_k s c n h
theorem extract_one {s : ByteArray} {i : Nat} (h : i < s.data.toList.length) : s.extract i (i + 1) = bytes [s.data.toList.getD i 0] := by
  apply ByteArray.ext
  apply Array.ext'
  rw [bytes_list, Lib.extract_data, Nat.add_sub_cancel_left, drop_cons h]
  rfl
theorem escL_snoc (m l : List UInt8) (i : Nat) (h : i < l.length) : escL m (l.take (i + 1)) = escL m (l.take i) ++ escC m (l.getD i 0) := by
  rw [← take_snoc 0 h]; simp [escL]
theorem bytes_app (l m : List UInt8) : bytes (l ++ m) = bytes l ++ bytes m := by
  apply ByteArray.ext; simp [bytes]
theorem ints_add (l m : List UInt8) (t : ByteArray) (h : t = bytes m) : intsOf (bytes l) ++ intsOf t = intsOf (bytes (l ++ m)) := by rw [h, ints_app]
theorem esc_piece {k : Int} (h0 : 0 ≤ k) (h : k < 4) : (⟨#[92]⟩ : ByteArray) ++ (⟨#[92, 115, 110, 98]⟩ : ByteArray).extract k.toNat (k + 1).toNat = bytes [92, [92, 115, 110, 98].getD k.toNat 0] := by
  have : k = 0 ∨ k = 1 ∨ k = 2 ∨ k = 3 := by omega
  rcases this with h | h | h | h <;> subst h <;> decide +kernel
theorem esc_size {k : Int} (h0 : 0 ≤ k) (h : k < 4) : ((⟨#[92]⟩ : ByteArray) ++ (⟨#[92, 115, 110, 98]⟩ : ByteArray).extract k.toNat (k + 1).toNat).size = 2 := by
  rw [esc_piece h0 h]; rfl
theorem escape_c (s m : ByteArray) (hs : s.size ≤ 1000000) : ACall Tryd.prog 143 [is s, is m] (is (bytes (escL m.data.toList s.data.toList))) := by
  have hz := size_list s
  refine acall_of (rs := [4]) Tryd.func143 rfl rfl rfl teOk rfl ?_
  refine acode_seq ?_
  refine acode_region ?_
  refine acode_seq ?_
  refine acode_region ?_
  refine acode_seq ?_
  refine acode_seq ?_
  refine acode_bld 0 5 (.int .u8) rfl ?_
  refine acode_region ?_
  refine acode_block ?_
  refine acode_loopP (fun (x : Nat × Bool) => x.1 ≤ s.size) (fun (x : Nat × Bool) => [(0, is s), (1, is m), (5, .one (.own 0 0)), (9, ii .i64 s.size), (10, ii .i64 x.1)]) (fun (x : Nat × Bool) => [(0, .box 118 [.nself x.2 0, .vec 1]), (1, .vec 5 (.int .u8) (intsOf (bytes (escL m.data.toList (s.data.toList.take x.1)))))]) 2 (fun (x : Nat × Bool) => s.size - x.1) (0, false) (Nat.zero_le _) (le_of ⟨rfl, rfl, rfl, rfl, rfl⟩ ⟨rfl, rfl⟩ rfl) ?_
  intro ⟨i, u⟩ hI0
  simp only at hI0 ⊢
  have hi := hI0
  have hol : (intsOf (bytes (escL m.data.toList (s.data.toList.take i)))).length ≤ 2 * i := by (rw [ints_len]; exact Nat.le_trans (esc_len _ _) (by rw [List.length_take]; omega))
  refine acode_seq ?_
  refine acode_region ?_
  refine acode_seq ?_
  refine acode_cond rfl (fun h11 => ?_) (fun h11 => ?_)
  · try simp only [decide_eq_true_eq] at h11
    try simp only [Int.toNat_natCast, dflt_sl, dflt_st, dflt_str, dflt_int, dflt_bool] at h11
    have hsn := escL_snoc m.data.toList s.data.toList i (by omega)
    obtain ⟨k, hk⟩ : ∃ k, Lib.indexByte [92, 32, 10, 124] (s.data.toList.getD i 0) = k := ⟨_, rfl⟩
    obtain ⟨k2, hk2⟩ : ∃ k, Lib.indexByte m.data.toList (s.data.toList.getD i 0) = k := ⟨_, rfl⟩
    have hx : (⟨#[92]⟩ : ByteArray) ++ s.extract (i : Int).toNat ((i : Int) + 1).toNat = bytes [92, s.data.toList.getD i 0] := by rw [Int.toNat_natCast, show ((i : Int) + 1).toNat = i + 1 by omega, extract_one (by omega)]; exact (bytes_app [92] [_]).symm
    have hx2 : ((⟨#[92]⟩ : ByteArray) ++ s.extract (i : Int).toNat ((i : Int) + 1).toNat).size = 2 := by rw [hx]; rfl
    refine acode_skip ?_
    refine acode_seq ?_
    refine acode_block ?_
    refine acode_seq ?_
    refine acode_region ?_
    refine acode_seq ?_
    refine acode_region ?_
    refine And.intro (by first | omega | assumption | decide | (simp only [Int.toNat_natCast, dflt_sl, dflt_st, dflt_str, dflt_int, dflt_bool]; omega) | (simp; omega)) ?_
    refine Or.inl ?_
    refine And.intro (rfl) ?_
    refine Exists.intro _ (And.intro (indexByte_v _ (s.data.toList.getD i 0) _ k rfl hk) ?_)
    refine acode_block ?_
    refine acode_seq ?_
    refine acode_region ?_
    refine acode_cond rfl (fun h21 => ?_) (fun h21 => ?_)
    · try simp only [decide_eq_true_eq] at h21
      try simp only [Int.toNat_natCast, dflt_sl, dflt_st, dflt_str, dflt_int, dflt_bool] at h21
      have h4 : k < 4 := Int.lt_of_toNat_lt (by have := indexB_lt (hk ▸ h21 : 0 ≤ Lib.indexByte [92, 32, 10, 124] (s.data.toList.getD i 0)); rw [hk] at this; exact this)
      have hc : escC m.data.toList (s.data.toList.getD i 0) = [92, [92, 115, 110, 98].getD k.toNat 0] := by unfold escC; rw [hk, if_pos h21]
      refine acode_region ?_
      refine And.intro (by first | omega | assumption | decide | (simp only [Int.toNat_natCast, dflt_sl, dflt_st, dflt_str, dflt_int, dflt_bool]; omega) | (simp; omega)) ?_
      refine And.intro (by exact ⟨h21, by omega, by show k + 1 ≤ 4; omega⟩) ?_
      refine And.intro (by rw [← ByteArray.size_append, esc_size h21 h4]; decide) ?_
      refine Or.inr (Exists.intro [] (Exists.intro [0, 1] (Exists.intro _ (Exists.intro _ (Exists.intro _ (Exists.intro _ (Exists.intro _ (And.intro (writeString_o _ _ _ (by rw [esc_size h21 h4]; omega)) (And.intro rfl (And.intro (And.intro (And.intro rfl rfl) (And.intro (And.intro rfl rfl) True.intro)) (And.intro rfl ?_)))))))))))
      refine acode_region ?_
      refine And.intro (by first | omega | assumption | decide | (simp only [Int.toNat_natCast, dflt_sl, dflt_st, dflt_str, dflt_int, dflt_bool]; omega) | (simp; omega)) ?_
      exact ⟨(i + 1, true), (by simp only; omega), by first | omega | (simp; omega), le_of ⟨rfl, rfl, rfl, rfl, (ii_eq (by simp only; omega))⟩ ⟨rfl, (vec_eq (by rw [hsn, hc]; exact ints_add _ _ _ (esc_piece h21 h4)))⟩ rfl⟩
    · try simp only [decide_eq_false_iff_not, Int.not_le] at h21
      try simp only [Int.toNat_natCast, dflt_sl, dflt_st, dflt_str, dflt_int, dflt_bool] at h21
      refine acode_seq ?_
      refine acode_region ?_
      refine And.intro (by first | omega | assumption | decide | (simp only [Int.toNat_natCast, dflt_sl, dflt_st, dflt_str, dflt_int, dflt_bool]; omega) | (simp; omega)) ?_
      refine Or.inl ?_
      refine And.intro (rfl) ?_
      refine Exists.intro _ (And.intro (indexByte_v _ (s.data.toList.getD i 0) _ k2 rfl hk2) ?_)
      refine acode_cond rfl (fun h30 => ?_) (fun h30 => ?_)
      · try simp only [decide_eq_true_eq] at h30
        try simp only [Int.toNat_natCast, dflt_sl, dflt_st, dflt_str, dflt_int, dflt_bool] at h30
        have hc : escC m.data.toList (s.data.toList.getD i 0) = [92, s.data.toList.getD i 0] := by unfold escC; rw [hk, hk2, if_neg (by omega), if_pos h30]
        refine acode_region ?_
        refine And.intro (by first | omega | assumption | decide | (simp only [Int.toNat_natCast, dflt_sl, dflt_st, dflt_str, dflt_int, dflt_bool]; omega) | (simp; omega)) ?_
        refine And.intro (by first | omega | assumption | decide | (simp only [Int.toNat_natCast, dflt_sl, dflt_st, dflt_str, dflt_int, dflt_bool]; omega) | (simp; omega)) ?_
        refine And.intro (by rw [← ByteArray.size_append, hx2]; decide) ?_
        refine Or.inr (Exists.intro [] (Exists.intro [0, 1] (Exists.intro _ (Exists.intro _ (Exists.intro _ (Exists.intro _ (Exists.intro _ (And.intro (writeString_o _ _ _ (by rw [hx2]; omega)) (And.intro rfl (And.intro (And.intro (And.intro rfl rfl) (And.intro (And.intro rfl rfl) True.intro)) (And.intro rfl ?_)))))))))))
        refine acode_region ?_
        refine And.intro (by first | omega | assumption | decide | (simp only [Int.toNat_natCast, dflt_sl, dflt_st, dflt_str, dflt_int, dflt_bool]; omega) | (simp; omega)) ?_
        exact ⟨(i + 1, true), (by simp only; omega), by first | omega | (simp; omega), le_of ⟨rfl, rfl, rfl, rfl, (ii_eq (by simp only; omega))⟩ ⟨rfl, (vec_eq (by rw [hsn, hc]; exact ints_add _ _ _ hx))⟩ rfl⟩
      · try simp only [decide_eq_false_iff_not, Int.not_le] at h30
        try simp only [Int.toNat_natCast, dflt_sl, dflt_st, dflt_str, dflt_int, dflt_bool] at h30
        have hc : escC m.data.toList (s.data.toList.getD i 0) = [s.data.toList.getD i 0] := by unfold escC; rw [hk, hk2, if_neg (by omega), if_neg (by omega)]
        refine acode_region ?_
        refine And.intro (by first | omega | assumption | decide | (simp only [Int.toNat_natCast, dflt_sl, dflt_st, dflt_str, dflt_int, dflt_bool]; omega) | (simp; omega)) ?_
        refine Or.inr (Exists.intro [] (Exists.intro [0, 1] (Exists.intro _ (Exists.intro _ (Exists.intro _ (Exists.intro _ (Exists.intro _ (And.intro (writeByte_o _ _ _ (by omega)) (And.intro rfl (And.intro (And.intro (And.intro rfl rfl) (And.intro (And.intro rfl rfl) True.intro)) (And.intro rfl ?_)))))))))))
        refine acode_region ?_
        refine And.intro (by first | omega | assumption | decide | (simp only [Int.toNat_natCast, dflt_sl, dflt_st, dflt_str, dflt_int, dflt_bool]; omega) | (simp; omega)) ?_
        exact ⟨(i + 1, true), (by simp only; omega), by first | omega | (simp; omega), le_of ⟨rfl, rfl, rfl, rfl, (ii_eq (by simp only; omega))⟩ ⟨rfl, (vec_eq (by rw [hsn, hc]; exact ints_push _ _ _ rfl))⟩ rfl⟩
  · try simp only [decide_eq_false_iff_not, Int.not_lt] at h11
    try simp only [Int.toNat_natCast, dflt_sl, dflt_st, dflt_str, dflt_int, dflt_bool] at h11
    refine acode_exit ?_
    refine acode_seq ?_
    refine acode_region ?_
    refine Or.inr (Exists.intro [] (Exists.intro [0, 1] (Exists.intro _ (Exists.intro _ (Exists.intro _ (Exists.intro _ (Exists.intro _ (And.intro (string_o _ _) (And.intro rfl (And.intro (And.intro (And.intro rfl rfl) (And.intro (And.intro rfl rfl) True.intro)) (And.intro rfl ?_)))))))))))
    refine acode_ret ?_
    refine is_eq ?_
    rw [List.take_of_length_le (by omega)]
end Q
end Ab
end Go.Proofs.YthlfbpmbkcoclaaDoor
