/-
  Words that are read: where a sign stands, what an escaped text is.
-/
import Derived.Test.YthlfbpmbkcoclaaDoorQProg
namespace Go.Proofs.YthlfbpmbkcoclaaDoor
open Go.RowKit
namespace Ab
set_option maxRecDepth 100000
namespace Q
def sgn (c : UInt8) : Bool := decide (0 ≤ Lib.indexByte [63, 61, 94, 126, 60] c)
/-- Where the first sign stands that isn't escaped; -1 if there is none. -/
def signL : List UInt8 → Int → Int
  | [], _ => -1
  | 92 :: r, n => match r with
    | [] => -1
    | _ :: r => signL r (n + 2)
  | c :: r, n => if sgn c then n else signL r (n + 1)
theorem drop_cons {l : List UInt8} {i : Nat} (h : i < l.length) : l.drop i = l.getD i 0 :: l.drop (i + 1) := by
  rw [List.drop_eq_getElem_cons h, List.getD_eq_getElem?_getD, List.getElem?_eq_getElem h]; rfl
theorem size_list (s : ByteArray) : s.size = s.data.toList.length := by cases s; rfl
theorem u8_eq {a b : UInt8} (h : (a.toNat : Int) = (b.toNat : Int)) : a = b := UInt8.toNat_inj.1 (by omega)
theorem signL_slash {r : List UInt8} {n : Int} : signL (92 :: r) n = signL (r.drop 1) (n + 2) := by
  cases r <;> rfl
theorem signL_other {c : UInt8} {r : List UInt8} {n : Int} (h : c ≠ 92) : signL (c :: r) n = if sgn c then n else signL r (n + 1) := by
  rw [signL.eq_def]
  split
  · rename_i h1; cases h1
  · rename_i h1; cases h1; exact absurd rfl h
  · rename_i h1; cases h1; rfl
theorem u8_back (c : UInt8) : c.toNat.toUInt8 = c := by simp
theorem sign_c (s : ByteArray) (hs : s.size ≤ 1000000) : ACall Tryd.prog 147 [is s] (ii .i64 (signL s.data.toList 0)) := by
  have hz := size_list s
  refine acall_of (rs := [2]) Tryd.func147 rfl rfl rfl teOk rfl ?_
  refine acode_seq ?_
  refine acode_region ?_
  refine acode_seq ?_
  refine acode_seq ?_
  refine acode_region ?_
  refine acode_block ?_
  refine acode_loopP (fun (i : Nat) => i ≤ s.size + 1 ∧ signL s.data.toList 0 = signL (s.data.toList.drop i) i) (fun (i : Nat) => [(0, is s), (3, ii .i64 i)]) (fun (i : Nat) => []) 0 (fun (i : Nat) => s.size + 1 - i) 0 (⟨Nat.zero_le _, rfl⟩) (le_of ⟨rfl, rfl⟩ trivial rfl) ?_
  intro i hI0
  obtain ⟨hi, hn⟩ := hI0
  refine acode_seq ?_
  refine acode_seq ?_
  refine acode_region ?_
  refine acode_cond rfl (fun h7 => ?_) (fun h7 => ?_)
  · try simp only [decide_eq_true_eq] at h7
    try simp only [Int.toNat_natCast, dflt_sl, dflt_st, dflt_str, dflt_int, dflt_bool] at h7
    have hd := drop_cons (l := s.data.toList) (i := i) (by omega)
    rw [hd] at hn
    refine acode_skip ?_
    refine acode_seq ?_
    refine acode_block ?_
    refine acode_seq ?_
    refine acode_draw rfl (by kernel_rfl) ?_
    refine And.intro (by first | omega | assumption | decide | (simp only [Int.toNat_natCast, dflt_sl, dflt_st, dflt_str, dflt_int, dflt_bool]; omega) | (simp; omega)) ?_
    refine And.intro (by first | omega | assumption | decide | (simp only [Int.toNat_natCast, dflt_sl, dflt_st, dflt_str, dflt_int, dflt_bool]; omega) | (simp; omega)) ?_
    refine acode_cond rfl (fun h14 => ?_) (fun h14 => ?_)
    · try simp only [decide_eq_true_eq] at h14
      try simp only [Int.toNat_natCast] at h14
      have h92 : s.data.toList.getD i 0 = 92 := u8_eq h14
      refine acode_region ?_
      refine And.intro (by first | omega | assumption | decide | (simp only [Int.toNat_natCast, dflt_sl, dflt_st, dflt_str, dflt_int, dflt_bool]; omega) | (simp; omega)) ?_
      refine acode_region ?_
      refine And.intro (by first | omega | assumption | decide | (simp only [Int.toNat_natCast, dflt_sl, dflt_st, dflt_str, dflt_int, dflt_bool]; omega) | (simp; omega)) ?_
      exact ⟨i + 2, ⟨by omega, by rw [hn, h92, signL_slash, List.drop_drop]; rfl⟩, by first | omega | (simp; omega), le_of ⟨rfl, (ii_eq (by omega))⟩ trivial rfl⟩
    · try simp only [decide_eq_false_iff_not] at h14
      try simp only [Int.toNat_natCast] at h14
      have h92 : s.data.toList.getD i 0 ≠ 92 := fun e => h14 (by rw [e]; rfl)
      refine acode_seq ?_
      refine acode_region ?_
      refine And.intro (by first | omega | assumption | decide | (simp only [Int.toNat_natCast, dflt_sl, dflt_st, dflt_str, dflt_int, dflt_bool]; omega) | (simp; omega)) ?_
      refine Or.inl ?_
      refine And.intro (rfl) ?_
      refine Exists.intro _ (And.intro (indexByte_c _ _) ?_)
      refine acode_cond rfl (fun h21 => ?_) (fun h21 => ?_)
      · try simp only [decide_eq_true_eq] at h21
        try simp only [Int.toNat_natCast] at h21
        rw [u8_back] at h21
        refine acode_seq ?_
        refine acode_region ?_
        refine acode_ret ?_
        refine ii_eq ?_
        rw [hn, signL_other h92, if_pos (show sgn _ = true from decide_eq_true h21)]
      · try simp only [decide_eq_false_iff_not, Int.not_le] at h21
        try simp only [Int.toNat_natCast] at h21
        rw [u8_back] at h21
        refine acode_skip ?_
        refine acode_region ?_
        refine And.intro (by first | omega | assumption | decide | (simp only [Int.toNat_natCast, dflt_sl, dflt_st, dflt_str, dflt_int, dflt_bool]; omega) | (simp; omega)) ?_
        exact ⟨i + 1, ⟨by omega, by rw [hn, signL_other h92, if_neg (fun e => by have := of_decide_eq_true e; omega)]; rfl⟩, by first | omega | (simp; omega), le_of ⟨rfl, rfl⟩ trivial rfl⟩
  · try simp only [decide_eq_false_iff_not, Int.not_lt] at h7
    try simp only [Int.toNat_natCast, dflt_sl, dflt_st, dflt_str, dflt_int, dflt_bool] at h7
    refine acode_exit ?_
    refine acode_seq ?_
    refine acode_region ?_
    refine acode_ret ?_
    refine ii_eq ?_
    rw [hn, List.drop_of_length_le (by omega)]
    rfl
end Q
end Ab
end Go.Proofs.YthlfbpmbkcoclaaDoor
