/-
  A selector's line, read: the document's functions.
-/
import Derived.Test.YthlfbpmbkcoclaaDoorQToks
namespace Go.Proofs.YthlfbpmbkcoclaaDoor
open Go.RowKit
namespace Ab
set_option maxRecDepth 100000
namespace Q
def readA (o : Option (List UInt8)) : A := .tup [(false, [.lit (.string (bytes (o.getD [])))]), (false, [.lit (.bool o.isSome)])]
theorem readA_eq {o o' : Option (List UInt8)} (h : o = o') : readA o = readA o' := by rw [h]
def uncX (c : UInt8) : UInt8 := if c = 115 then 32 else if c = 110 then 10 else if c = 98 then 124 else c
theorem uncX_eq (c : UInt8) : unc c = uncX c := by
  have : ∀ c, decide (unc c = uncX c) = true := all_u8 (by decide +kernel)
  exact of_decide_eq_true (this c)
theorem map_app {o : Option (List UInt8)} (p : List UInt8) (c : UInt8) : (o.map (c :: ·)).map (p ++ ·) = o.map (p ++ [c] ++ ·) := by
  cases o <;> simp
theorem read_c (s : ByteArray) (hs : s.size ≤ 1000000) : ACall Tryd.prog 113 [is s] (readA (readL s.data.toList)) := by
  have hz := size_list s
  refine acall_of (rs := [2, 3]) Tryd.func113 rfl rfl rfl teOk rfl ?_
  refine acode_seq ?_
  refine acode_region ?_
  refine acode_seq ?_
  refine acode_region ?_
  refine acode_seq ?_
  refine acode_seq ?_
  refine acode_region ?_
  refine acode_block ?_
  refine acode_loopP (fun (x : Nat × List UInt8) => x.1 ≤ s.size ∧ x.2.length ≤ x.1 ∧ readL s.data.toList = (readL (s.data.toList.drop x.1)).map (x.2 ++ ·)) (fun (x : Nat × List UInt8) => [(0, is s), (4, is (bytes x.2)), (5, ii .i64 x.1)]) (fun (x : Nat × List UInt8) => []) 0 (fun (x : Nat × List UInt8) => s.size - x.1) (0, []) (⟨Nat.zero_le _, Nat.le_refl _, by simp⟩) (le_of ⟨rfl, rfl, rfl⟩ trivial rfl) ?_
  intro ⟨i, o⟩ hI0
  simp only at hI0 ⊢
  obtain ⟨hi, ho, hn⟩ := hI0
  have hob : (bytes o).size ≤ i := by rw [bytes_size]; exact ho
  refine acode_seq ?_
  refine acode_seq ?_
  refine acode_region ?_
  refine acode_cond rfl (fun h9 => ?_) (fun h9 => ?_)
  · try simp only [decide_eq_true_eq] at h9
    try simp only [Int.toNat_natCast, dflt_sl, dflt_st, dflt_str, dflt_int, dflt_bool] at h9
    have hlt : i < s.data.toList.length := by omega
    obtain ⟨c, hc⟩ : ∃ c, s.data.toList.getD i 0 = c := ⟨_, rfl⟩
    have hd := drop_cons hlt
    rw [hc] at hd
    have hx : s.extract (i : Int).toNat ((i : Int) + 1).toNat = bytes [c] := by rw [Int.toNat_natCast, show ((i : Int) + 1).toNat = i + 1 by omega, extract_one hlt, hc]
    have hx1 : (s.extract (i : Int).toNat ((i : Int) + 1).toNat).size = 1 := by rw [hx]; rfl
    refine acode_skip ?_
    refine acode_seq ?_
    refine acode_block ?_
    refine acode_seq ?_
    refine acode_seq ?_
    refine acode_region ?_
    refine And.intro (by first | omega | assumption | decide | (simp only [Int.toNat_natCast, dflt_sl, dflt_st, dflt_str, dflt_int, dflt_bool]; omega) | (simp; omega)) ?_
    refine acode_cond rfl (fun h15 => ?_) (fun h15 => ?_)
    · try simp only [decide_eq_false_iff_not, Bool.not_eq_true'] at h15
      try simp only [Int.toNat_natCast] at h15
      have h92 : c ≠ 92 := fun e => h15 (by rw [hc, e]; rfl)
      refine acode_seq ?_
      refine acode_region ?_
      refine And.intro (by first | omega | assumption | decide | (simp only [Int.toNat_natCast, dflt_sl, dflt_st, dflt_str, dflt_int, dflt_bool]; omega) | (simp; omega)) ?_
      refine And.intro (by first | omega | assumption | decide | (simp only [Int.toNat_natCast, dflt_sl, dflt_st, dflt_str, dflt_int, dflt_bool]; omega) | (simp; omega)) ?_
      refine And.intro (by first | omega | (simp only [ByteArray.size_append]; omega) | (unfold maxLen; (try simp only [ByteArray.size_append]); omega)) ?_
      refine acode_exit ?_
      refine acode_region ?_
      refine And.intro (by first | omega | assumption | decide | (simp only [Int.toNat_natCast, dflt_sl, dflt_st, dflt_str, dflt_int, dflt_bool]; omega) | (simp; omega)) ?_
      exact ⟨(i + 1, o ++ [c]), ⟨by simp only; omega, by simp; omega, by simp only; rw [hn, hd, readL_other h92, map_app]⟩, by first | omega | (simp; omega), le_of ⟨rfl, (is_eq (by simp only; rw [hx, bytes_app])), (ii_eq (by simp only; omega))⟩ trivial rfl⟩
    · try simp only [decide_eq_true_eq, Bool.not_eq_false'] at h15
      try simp only [Int.toNat_natCast] at h15
      have h92 : c = 92 := by rw [← hc]; exact u8_eq h15
      refine acode_skip ?_
      refine acode_seq ?_
      refine acode_region ?_
      refine And.intro (by first | omega | assumption | decide | (simp only [Int.toNat_natCast, dflt_sl, dflt_st, dflt_str, dflt_int, dflt_bool]; omega) | (simp; omega)) ?_
      refine acode_seq ?_
      refine acode_seq ?_
      refine acode_region ?_
      refine acode_cond rfl (fun h28 => ?_) (fun h28 => ?_)
      · try simp only [decide_eq_true_eq] at h28
        try simp only [Int.toNat_natCast, dflt_sl, dflt_st, dflt_str, dflt_int, dflt_bool] at h28
        have hnil : s.data.toList.drop (i + 1) = [] := List.drop_of_length_le (by omega)
        refine acode_seq ?_
        refine acode_region ?_
        refine acode_ret ?_
        exact readA_eq (o := none) (by rw [hn, hd, h92, hnil]; rfl)
      · try simp only [decide_eq_false_iff_not] at h28
        try simp only [Int.toNat_natCast, dflt_sl, dflt_st, dflt_str, dflt_int, dflt_bool] at h28
        have hlt2 : i + 1 < s.data.toList.length := by omega
        obtain ⟨d, hd2⟩ : ∃ d, s.data.toList.getD (i + 1) 0 = d := ⟨_, rfl⟩
        have hdd := drop_cons hlt2
        rw [hd2] at hdd
        have e1 : ((i : Int) + 1).toNat = i + 1 := by omega
        have hy : s.extract ((i : Int) + 1).toNat ((i : Int) + 1 + 1).toNat = bytes [d] := by rw [e1, show ((i : Int) + 1 + 1).toNat = i + 1 + 1 by omega, extract_one hlt2, hd2]
        have hy1 : (s.extract ((i : Int) + 1).toNat ((i : Int) + 1 + 1).toNat).size = 1 := by rw [hy]; rfl
        have hun : readL (s.data.toList.drop i) = (readL (s.data.toList.drop (i + 2))).map (uncX d :: ·) := by rw [hd, h92, hdd, readL_slash, uncX_eq]
        refine acode_skip ?_
        refine acode_seq ?_
        refine acode_region ?_
        refine And.intro (by first | omega | assumption | decide | (simp only [Int.toNat_natCast, dflt_sl, dflt_st, dflt_str, dflt_int, dflt_bool]; omega) | (simp; omega)) ?_
        refine acode_block ?_
        refine acode_seq ?_
        refine acode_region ?_
        refine acode_cond rfl (fun h39 => ?_) (fun h39 => ?_)
        · try simp only [decide_eq_true_eq] at h39
          try simp only [Int.toNat_natCast, dflt_sl, dflt_st, dflt_str, dflt_int, dflt_bool] at h39
          have hq : d = 115 := by rw [← hd2, ← e1]; exact u8_eq h39
          refine acode_region ?_
          refine And.intro (by (have hk0 : ByteArray.size { data := #[32] } = 1 := rfl; first | (unfold maxLen; omega) | (simp only [ByteArray.size_append]; omega) | (unfold maxLen; (try simp only [ByteArray.size_append]); omega))) ?_
          refine acode_region ?_
          refine And.intro (by first | omega | assumption | decide | (simp only [Int.toNat_natCast, dflt_sl, dflt_st, dflt_str, dflt_int, dflt_bool]; omega) | (simp; omega)) ?_
          exact ⟨(i + 2, o ++ [32]), ⟨by simp only; omega, by simp; omega, by simp only; rw [hn, hun, map_app, hq]; rfl⟩, by first | omega | (simp; omega), le_of ⟨rfl, (is_eq (by simp only; rw [bytes_app]; rfl)), (ii_eq (by simp only; omega))⟩ trivial rfl⟩
        · try simp only [decide_eq_false_iff_not] at h39
          try simp only [Int.toNat_natCast, dflt_sl, dflt_st, dflt_str, dflt_int, dflt_bool] at h39
          have hq1 : d ≠ 115 := fun e => h39 (by rw [e1, hd2, e]; rfl)
          refine acode_seq ?_
          refine acode_region ?_
          refine acode_cond rfl (fun h43 => ?_) (fun h43 => ?_)
          · try simp only [decide_eq_true_eq] at h43
            try simp only [Int.toNat_natCast, dflt_sl, dflt_st, dflt_str, dflt_int, dflt_bool] at h43
            have hq : d = 110 := by rw [← hd2, ← e1]; exact u8_eq h43
            refine acode_region ?_
            refine And.intro (by (have hk0 : ByteArray.size { data := #[10] } = 1 := rfl; first | (unfold maxLen; omega) | (simp only [ByteArray.size_append]; omega) | (unfold maxLen; (try simp only [ByteArray.size_append]); omega))) ?_
            refine acode_region ?_
            refine And.intro (by first | omega | assumption | decide | (simp only [Int.toNat_natCast, dflt_sl, dflt_st, dflt_str, dflt_int, dflt_bool]; omega) | (simp; omega)) ?_
            exact ⟨(i + 2, o ++ [10]), ⟨by simp only; omega, by simp; omega, by simp only; rw [hn, hun, map_app, hq]; rfl⟩, by first | omega | (simp; omega), le_of ⟨rfl, (is_eq (by simp only; rw [bytes_app]; rfl)), (ii_eq (by simp only; omega))⟩ trivial rfl⟩
          · try simp only [decide_eq_false_iff_not] at h43
            try simp only [Int.toNat_natCast, dflt_sl, dflt_st, dflt_str, dflt_int, dflt_bool] at h43
            have hq2 : d ≠ 110 := fun e => h43 (by rw [e1, hd2, e]; rfl)
            refine acode_seq ?_
            refine acode_region ?_
            refine acode_cond rfl (fun h47 => ?_) (fun h47 => ?_)
            · try simp only [decide_eq_true_eq] at h47
              try simp only [Int.toNat_natCast, dflt_sl, dflt_st, dflt_str, dflt_int, dflt_bool] at h47
              have hq : d = 98 := by rw [← hd2, ← e1]; exact u8_eq h47
              refine acode_region ?_
              refine And.intro (by (have hk0 : ByteArray.size { data := #[124] } = 1 := rfl; first | (unfold maxLen; omega) | (simp only [ByteArray.size_append]; omega) | (unfold maxLen; (try simp only [ByteArray.size_append]); omega))) ?_
              refine acode_region ?_
              refine And.intro (by first | omega | assumption | decide | (simp only [Int.toNat_natCast, dflt_sl, dflt_st, dflt_str, dflt_int, dflt_bool]; omega) | (simp; omega)) ?_
              exact ⟨(i + 2, o ++ [124]), ⟨by simp only; omega, by simp; omega, by simp only; rw [hn, hun, map_app, hq]; rfl⟩, by first | omega | (simp; omega), le_of ⟨rfl, (is_eq (by simp only; rw [bytes_app]; rfl)), (ii_eq (by simp only; omega))⟩ trivial rfl⟩
            · try simp only [decide_eq_false_iff_not] at h47
              try simp only [Int.toNat_natCast, dflt_sl, dflt_st, dflt_str, dflt_int, dflt_bool] at h47
              have hq3 : d ≠ 98 := fun e => h47 (by rw [e1, hd2, e]; rfl)
              refine acode_region ?_
              refine And.intro (by first | omega | assumption | decide | (simp only [Int.toNat_natCast, dflt_sl, dflt_st, dflt_str, dflt_int, dflt_bool]; omega) | (simp; omega)) ?_
              refine And.intro (by first | omega | assumption | decide | (simp only [Int.toNat_natCast, dflt_sl, dflt_st, dflt_str, dflt_int, dflt_bool]; omega) | (simp; omega)) ?_
              refine And.intro (by first | omega | (simp only [ByteArray.size_append]; omega) | (unfold maxLen; (try simp only [ByteArray.size_append]); omega)) ?_
              refine acode_region ?_
              refine And.intro (by first | omega | assumption | decide | (simp only [Int.toNat_natCast, dflt_sl, dflt_st, dflt_str, dflt_int, dflt_bool]; omega) | (simp; omega)) ?_
              exact ⟨(i + 2, o ++ [d]), ⟨by simp only; omega, by simp; omega, by simp only; rw [hn, hun, map_app]; unfold uncX; rw [if_neg hq1, if_neg hq2, if_neg hq3]⟩, by first | omega | (simp; omega), le_of ⟨rfl, (is_eq (by simp only; rw [hy, bytes_app])), (ii_eq (by simp only; omega))⟩ trivial rfl⟩
  · try simp only [decide_eq_false_iff_not, Int.not_lt] at h9
    try simp only [Int.toNat_natCast, dflt_sl, dflt_st, dflt_str, dflt_int, dflt_bool] at h9
    refine acode_exit ?_
    refine acode_seq ?_
    refine acode_region ?_
    refine acode_ret ?_
    exact readA_eq (o := some o) (by rw [hn, List.drop_of_length_le (by omega)]; show _ = some (o ++ []); rw [List.append_nil])

theorem indexB_at : ∀ (l : List UInt8) (c : UInt8) (k : Nat), k < l.length → l.getD k 0 = c → (∀ j, j < k → l.getD j 0 ≠ c) → Lib.indexByte l c = k
  | [], _, _, h, _, _ => by cases h
  | a :: l, c, 0, _, h, _ => by
    unfold Lib.indexByte
    rw [if_pos (by simpa using h)]; rfl
  | a :: l, c, k + 1, hk, h, hn => by
    have h0 : a ≠ c := by simpa using hn 0 (by omega)
    have ih := indexB_at l c k (by simpa using hk) (by simpa using h) fun j hj => by simpa using hn (j + 1) (by omega)
    unfold Lib.indexByte
    rw [if_neg (by simpa using h0), ih, if_neg (by intro e; have := beq_iff_eq.1 e; omega)]; omega
theorem indexB_none : ∀ (l : List UInt8) (c : UInt8), (∀ j, j < l.length → l.getD j 0 ≠ c) → Lib.indexByte l c = -1
  | [], _, _ => rfl
  | a :: l, c, hn => by
    have h0 : a ≠ c := by simpa using hn 0 (by simp)
    have ih := indexB_none l c fun j hj => by simpa using hn (j + 1) (by simpa using hj)
    unfold Lib.indexByte
    rw [if_neg (by simpa using h0), ih]; rfl
theorem read_v (x : ByteArray) (l : List UInt8) (hl : x.data.toList = l) (hs : l.length ≤ 1000000) : ACall Tryd.prog 113 [is x] (readA (readL l)) := by
  subst hl; exact read_c x (by rw [size_list]; exact hs)
def wordA (v : Term × Bool) : A := .tup [(true, toL rTerm v.1), (false, [.lit (.bool v.2)])]
theorem wordA_eq {v v' : Term × Bool} (h : v = v') : wordA v = wordA v' := by rw [h]
theorem word_c (w : ByteArray) (hw : w.size ≤ 1000000) : ACall Tryd.prog 73 [is w] (wordA (wordV w.data.toList)) := by
  have hz := size_list w
  obtain ⟨r, hr⟩ : ∃ r, restOf w.data.toList = r := ⟨_, rfl⟩
  obtain ⟨b, hb⟩ : ∃ b, Lib.hasPrefix w.data.toList [33] = b := ⟨_, rfl⟩
  have hrl : r.length ≤ 1000000 := by rw [← hr]; exact Nat.le_trans (trim_len _ _) (by rw [← size_list]; exact hw)
  have hbs := bytes_size r
  have hP : ∀ k : Int, signL r 0 = k → wordV w.data.toList = if k < 0 then ((false, ByteArray.empty, 0, ByteArray.empty), false) else ((b, bytes ((readL (r.take k.toNat)).getD []), Lib.indexByte SG (r.getD k.toNat 0) + 1, bytes ((readL (r.drop (k.toNat + 1))).getD [])), (readL (r.take k.toNat)).isSome && (readL (r.drop (k.toNat + 1))).isSome) := by
    intro k hk; unfold wordV; rw [hr, hb, hk]
  refine acall_ofc (rs := [.cell 2 49, .tmp 3]) Tryd.func73 rfl rfl rfl teOk rfl ?_
  refine acode_seq ?_
  refine acode_region ?_
  refine acode_seq ?_
  refine acode_region ?_
  refine acode_cut (fun (u : Unit) => True) (fun (u : Unit) => [(0, is (bytes r)), (2, .one (.own 0 0)), (4, .one (.own 1 0))]) (fun (u : Unit) => [(0, .box 49 (toL rTerm (false, ByteArray.empty, 0, ByteArray.empty))), (1, .box 49 (toL rTerm (b, ByteArray.empty, 0, ByteArray.empty)))]) 2 ?_ ?_
  · refine acode_seq ?_
    refine acode_region ?_
    refine And.intro (fun h => trivial) ?_
    refine And.intro (fun h => ⟨⟨⟨h, trivial⟩, trivial⟩, by first | omega | decide | (simp only [Int.toNat_natCast, dflt_sl, dflt_st, dflt_str, dflt_int, dflt_bool]; omega) | (have h9 := of_decide_eq_true h; omega) | (simp [gq] at h; omega)⟩) ?_
    refine And.intro (fun h => ⟨⟨h, trivial⟩, trivial⟩) ?_
    refine And.intro (by exact fun h => h) ?_
    refine acode_cond rfl (fun h19 => ?_) (fun h19 => ?_)
    · try simp only [decide_eq_true_eq, Bool.and_eq_true] at h19
      try simp only [Int.toNat_natCast, dflt_sl, dflt_st, dflt_str, dflt_int, dflt_bool] at h19
      have hb1 : b = true := by rw [← hb, hasPrefix_one, decide_eq_true (show 1 ≤ w.data.toList.length by omega), decide_eq_true (show w.data.toList.getD 0 0 = 33 from u8_eq h19.2)]; rfl
      refine acode_seq ?_
      refine acode_region ?_
      refine acode_region ?_
      refine And.intro (by first | omega | assumption | decide | (simp only [Int.toNat_natCast, dflt_sl, dflt_st, dflt_str, dflt_int, dflt_bool]; omega) | (simp; omega)) ?_
      exact ⟨(), trivial, le_of ⟨(is_eq (by rw [← hr]; unfold restOf Lib.trimPrefix; rw [hb, hb1, if_pos rfl]; exact ls_inj (by unfold ls; rw [extract_ls]; show List.take _ (List.drop 1 _) = List.drop 1 _; exact List.take_of_length_le (by rw [List.length_drop, hz]; show _ ≤ (w.data.toList.length : Int).toNat - 1; omega)))), rfl, rfl⟩ ⟨rfl, ((by rw [hb1]; rfl))⟩ rfl⟩
    · try simp only [decide_eq_false_iff_not, Bool.and_eq_false_iff, Int.not_lt] at h19
      try simp only [Int.toNat_natCast, dflt_sl, dflt_st, dflt_str, dflt_int, dflt_bool] at h19
      have hb1 : b = false := by rw [← hb, hasPrefix_one]; exact h19.elim (fun h => by rw [decide_eq_false (show ¬ 1 ≤ w.data.toList.length by omega)]; rfl) (fun h => by rw [decide_eq_false (show ¬ w.data.toList.getD 0 0 = 33 from fun e => h (by rw [show Int.toNat 0 = 0 from rfl, e]; rfl)), Bool.and_false])
      refine acode_skip ?_
      exact ⟨(), trivial, le_of ⟨(is_eq (by rw [← hr]; unfold restOf Lib.trimPrefix; rw [hb, hb1]; exact (bytes_ls w).symm)), rfl, rfl⟩ ⟨rfl, ((by rw [hb1]; rfl))⟩ rfl⟩
  · intro u hcut5
    refine acode_seq ?_
    refine acode_seq ?_
    refine acode_region ?_
    refine acode_block ?_
    refine acode_loopP (fun (i : Nat) => i ≤ r.length + 1 ∧ signL r 0 = signL (r.drop i) i) (fun (i : Nat) => [(0, is (bytes r)), (2, .one (.own 0 0)), (4, .one (.own 1 0)), (5, ii .i64 i)]) (fun (i : Nat) => [(0, .box 49 (toL rTerm (false, ByteArray.empty, 0, ByteArray.empty))), (1, .box 49 (toL rTerm (b, ByteArray.empty, 0, ByteArray.empty)))]) 2 (fun (i : Nat) => r.length + 1 - i) 0 (⟨Nat.zero_le _, rfl⟩) (le_of ⟨rfl, rfl, rfl, rfl⟩ ⟨rfl, rfl⟩ rfl) ?_
    intro i hI0
    obtain ⟨hi, hn⟩ := hI0
    refine acode_seq ?_
    refine acode_seq ?_
    refine acode_region ?_
    refine acode_cond rfl (fun h26 => ?_) (fun h26 => ?_)
    · try simp only [decide_eq_true_eq] at h26
      try simp only [Int.toNat_natCast, dflt_sl, dflt_st, dflt_str, dflt_int, dflt_bool] at h26
      have hlt : i < r.length := by omega
      have hd := drop_cons hlt
      rw [hd] at hn
      obtain ⟨c, hc⟩ : ∃ c, r.getD i 0 = c := ⟨_, rfl⟩
      rw [hc] at hn
      refine acode_skip ?_
      refine acode_seq ?_
      refine acode_block ?_
      refine acode_seq ?_
      refine acode_seq ?_
      refine acode_region ?_
      refine And.intro (by first | omega | assumption | decide | (simp only [Int.toNat_natCast, dflt_sl, dflt_st, dflt_str, dflt_int, dflt_bool]; omega) | (simp; omega)) ?_
      refine acode_cond rfl (fun h32 => ?_) (fun h32 => ?_)
      · try simp only [decide_eq_true_eq] at h32
        try simp only [Int.toNat_natCast] at h32
        rw [bytes_list, hc] at h32
        have h92 : c = 92 := u8_eq h32
        refine acode_seq ?_
        refine acode_region ?_
        refine And.intro (by first | omega | assumption | decide | (simp only [Int.toNat_natCast, dflt_sl, dflt_st, dflt_str, dflt_int, dflt_bool]; omega) | (simp; omega)) ?_
        refine acode_exit ?_
        refine acode_region ?_
        refine And.intro (by first | omega | assumption | decide | (simp only [Int.toNat_natCast, dflt_sl, dflt_st, dflt_str, dflt_int, dflt_bool]; omega) | (simp; omega)) ?_
        exact ⟨i + 2, ⟨by omega, by rw [hn, h92, signL_slash, List.drop_drop]; rfl⟩, by first | omega | (simp; omega), le_of ⟨rfl, rfl, rfl, (ii_eq (by omega))⟩ ⟨rfl, rfl⟩ rfl⟩
      · try simp only [decide_eq_false_iff_not] at h32
        try simp only [Int.toNat_natCast] at h32
        rw [bytes_list, hc] at h32
        have h92 : c ≠ 92 := fun e => h32 (by rw [e]; rfl)
        refine acode_skip ?_
        refine acode_seq ?_
        refine acode_region ?_
        refine acode_block ?_
        refine acode_loopP (fun (k : Nat) => k ≤ 5 ∧ ∀ j, j < k → SG.getD j 0 ≠ c) (fun (k : Nat) => [(0, is (bytes r)), (2, .one (.own 0 0)), (4, .one (.own 1 0)), (5, ii .i64 i), (6, ii .i64 k)]) (fun (k : Nat) => [(0, .box 49 (toL rTerm (false, ByteArray.empty, 0, ByteArray.empty))), (1, .box 49 (toL rTerm (b, ByteArray.empty, 0, ByteArray.empty)))]) 2 (fun (k : Nat) => 5 - k) 0 (⟨Nat.zero_le _, fun j hj => absurd hj (Nat.not_lt_zero _)⟩) (le_of ⟨rfl, rfl, rfl, rfl, rfl⟩ ⟨rfl, rfl⟩ rfl) ?_
        intro k hI2
        obtain ⟨hk, hne⟩ := hI2
        refine acode_seq ?_
        refine acode_seq ?_
        refine acode_region ?_
        refine acode_cond rfl (fun h36 => ?_) (fun h36 => ?_)
        · try simp only [decide_eq_true_eq] at h36
          try simp only [Int.toNat_natCast, dflt_sl, dflt_st, dflt_str, dflt_int, dflt_bool] at h36
          refine acode_skip ?_
          refine acode_seq ?_
          refine acode_block ?_
          refine acode_seq ?_
          refine acode_draw rfl (by kernel_rfl) ?_
          refine And.intro (by first | omega | assumption | decide | (simp only [Int.toNat_natCast, dflt_sl, dflt_st, dflt_str, dflt_int, dflt_bool]; omega) | (simp; omega)) ?_
          refine And.intro (by exact ⟨by omega, by show (k : Int) < 5; omega⟩) ?_
          refine acode_cond rfl (fun h44 => ?_) (fun h44 => ?_)
          · try simp only [decide_eq_true_eq] at h44
            try simp only [Int.toNat_natCast] at h44
            have hck : SG.getD k 0 = c := by rw [bytes_list, hc] at h44; exact (u8_eq h44).symm
            have hix := indexB_at SG c k (show k < 5 by omega) hck hne
            have hsg : sgn c = true := decide_eq_true (show 0 ≤ Lib.indexByte SG c by omega)
            have hki : signL r 0 = i := by rw [hn, signL_other h92, if_pos hsg]
            refine acode_seq ?_
            refine acode_region ?_
            refine And.intro (by first | omega | assumption | decide | (simp only [Int.toNat_natCast, dflt_sl, dflt_st, dflt_str, dflt_int, dflt_bool]; omega) | (simp; omega)) ?_
            refine Or.inl ?_
            refine And.intro (rfl) ?_
            refine Exists.intro _ (And.intro (read_v _ (r.take i) (by rw [extract_ls, bytes_list, Int.toNat_natCast]; simp) (by rw [List.length_take]; omega)) ?_)
            refine acode_seq ?_
            refine acode_region ?_
            refine And.intro (by first | omega | assumption | decide | (simp only [Int.toNat_natCast, dflt_sl, dflt_st, dflt_str, dflt_int, dflt_bool]; omega) | (simp; omega)) ?_
            refine And.intro (by first | omega | assumption | decide | (simp only [Int.toNat_natCast, dflt_sl, dflt_st, dflt_str, dflt_int, dflt_bool]; omega) | (simp; omega)) ?_
            refine Or.inl ?_
            refine And.intro (rfl) ?_
            refine Exists.intro _ (And.intro (read_v _ (r.drop (i + 1)) (by rw [extract_ls, bytes_list, hbs, show ((i : Int) + 1).toNat = i + 1 by omega, List.take_of_length_le (by rw [List.length_drop]; simp)]) (by rw [List.length_drop]; omega)) ?_)
            refine acode_seq ?_
            refine acode_region ?_
            refine acode_seq ?_
            refine acode_region ?_
            refine acode_seq ?_
            refine acode_region ?_
            refine And.intro (by first | omega | assumption | decide | (simp only [Int.toNat_natCast, dflt_sl, dflt_st, dflt_str, dflt_int, dflt_bool]; omega) | (simp; omega)) ?_
            refine acode_seq ?_
            refine acode_region ?_
            refine And.intro (fun h => trivial) ?_
            refine And.intro (by exact fun h => h) ?_
            refine acode_ret ?_
            exact wordA_eq (v := ((b, bytes ((readL (r.take i)).getD []), (k : Int) + 1, bytes ((readL (r.drop (i + 1))).getD [])), (readL (r.take i)).isSome && (readL (r.drop (i + 1))).isSome)) (by rw [hP _ hki, if_neg (by omega), Int.toNat_natCast, hc, hix])
          · try simp only [decide_eq_false_iff_not] at h44
            try simp only [Int.toNat_natCast] at h44
            have hck : SG.getD k 0 ≠ c := fun e => h44 (by rw [bytes_list, hc, ← e]; rfl)
            refine acode_skip ?_
            refine acode_region ?_
            refine And.intro (by first | omega | assumption | decide | (simp only [Int.toNat_natCast, dflt_sl, dflt_st, dflt_str, dflt_int, dflt_bool]; omega) | (simp; omega)) ?_
            exact ⟨k + 1, ⟨by omega, fun j hj => if h : j = k then h ▸ hck else hne j (by omega)⟩, by first | omega | (simp; omega), le_of ⟨rfl, rfl, rfl, rfl, rfl⟩ ⟨rfl, rfl⟩ rfl⟩
        · try simp only [decide_eq_false_iff_not, Int.not_lt] at h36
          try simp only [Int.toNat_natCast, dflt_sl, dflt_st, dflt_str, dflt_int, dflt_bool] at h36
          refine acode_exit ?_
          refine acode_region ?_
          refine And.intro (by first | omega | assumption | decide | (simp only [Int.toNat_natCast, dflt_sl, dflt_st, dflt_str, dflt_int, dflt_bool]; omega) | (simp; omega)) ?_
          exact ⟨i + 1, ⟨by omega, by rw [hn, signL_other h92, if_neg (by intro e; have e2 := of_decide_eq_true e; rw [show Lib.indexByte [63, 61, 94, 126, 60] c = -1 from indexB_none SG c fun j hj => hne j (by have : j < 5 := hj; omega)] at e2; omega)]; rfl⟩, by first | omega | (simp; omega), le_of ⟨rfl, rfl, rfl, rfl⟩ ⟨rfl, rfl⟩ rfl⟩
    · try simp only [decide_eq_false_iff_not, Int.not_lt] at h26
      try simp only [Int.toNat_natCast, dflt_sl, dflt_st, dflt_str, dflt_int, dflt_bool] at h26
      refine acode_exit ?_
      refine acode_seq ?_
      refine acode_region ?_
      refine acode_ret ?_
      exact wordA_eq (v := ((false, ByteArray.empty, 0, ByteArray.empty), false)) (by rw [hP (-1) (by rw [hn, List.drop_of_length_le (by omega)]; rfl)]; rfl)
end Q
end Ab
end Go.Proofs.YthlfbpmbkcoclaaDoor
