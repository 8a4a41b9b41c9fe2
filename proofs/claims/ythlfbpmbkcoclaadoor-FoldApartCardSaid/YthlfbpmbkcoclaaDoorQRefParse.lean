/-
  A selector's line, read: the document's Parse.
-/
import Derived.Test.YthlfbpmbkcoclaaDoorQRefRead
namespace Go.Proofs.YthlfbpmbkcoclaaDoor
open Go.RowKit
namespace Ab
set_option maxRecDepth 100000
namespace Q
def refParseA (o : Option (List (List Term))) : A := .tup [(false, [.sl (.sl rTerm) (o.getD [])]), (false, [.lit (.bool o.isSome)])]
theorem refParseA_eq {o o' : Option (List (List Term))} (h : o = o') : refParseA o = refParseA o' := by rw [h]
structure PInv (l : List UInt8) (i : Nat) (s : List (List Term)) (w : List UInt8) : Prop where
  b0 : i ≤ l.length + 1
  s1 : 1 ≤ s.length
  s2 : s.length ≤ i + 1
  wl : w.length ≤ i
  rl : ∀ r ∈ s, r.length ≤ i
  tx : TxtsOk s
  run : i ≤ l.length → runP [[]] [] l = runP s w (l.drop i)
  fin : i = l.length + 1 → runP [[]] [] l = some s
theorem PInv.char {l : List UInt8} {i : Nat} {s : List (List Term)} {w : List UInt8} (h : PInv l i s w) (hi : i < l.length) (hc : l.getD i 0 ≠ 32) : PInv l (i + 1) s (w ++ [l.getD i 0]) := by
  refine ⟨by omega, h.s1, by have := h.s2; omega, by have := h.wl; simp; omega, fun r hr => by have := h.rl r hr; omega, h.tx, fun _ => ?_, fun e => by omega⟩
  rw [h.run (by omega), drop_cons hi, runP, if_neg hc]
theorem PInv.word {l : List UInt8} {i : Nat} {s s' : List (List Term)} {w : List UInt8} (h : PInv l i s w) (hi : i ≤ l.length) (hc : i < l.length → l.getD i 0 = 32) (hs : stepW s w = some s') (h1 : 1 ≤ s'.length) (h2 : s'.length ≤ s.length + 1) (h3 : ∀ r ∈ s', r.length ≤ i + 1) (h4 : TxtsOk s') : PInv l (i + 1) s' [] := by
  refine ⟨by omega, h1, by have := h.s2; omega, Nat.zero_le _, h3, h4, fun e => ?_, fun e => ?_⟩
  · rw [h.run hi, drop_cons (by omega), runP, if_pos (hc (by omega)), hs]
  · rw [h.run hi, List.drop_of_length_le (by omega), runP, hs]
theorem PInv.bar {l : List UInt8} {i : Nat} {s : List (List Term)} {w : List UInt8} (h : PInv l i s w) (hi : i ≤ l.length) (hc : i < l.length → l.getD i 0 = 32) (hw : w = [124]) : PInv l (i + 1) (s ++ [[]]) [] := by
  refine h.word hi hc (by unfold stepW; rw [if_pos hw]) (by simp) (by simp) (fun r hr => ?_) fun r hr t ht => ?_
  · rcases List.mem_append.1 hr with h1 | h1
    · have := h.rl r h1; omega
    · rw [List.mem_singleton.1 h1]; exact Nat.zero_le _
  · rcases List.mem_append.1 hr with h1 | h1
    · exact h.tx r h1 t ht
    · rw [List.mem_singleton.1 h1] at ht; cases ht
theorem PInv.term {l : List UInt8} {i : Nat} {s : List (List Term)} {w : List UInt8} (h : PInv l i s w) (hi : i ≤ l.length) (hc : i < l.length → l.getD i 0 = 32) (hl : l.length ≤ 1000000) (hs : stepW s w = some (s.set (s.length - 1) (s.getD (s.length - 1) [] ++ [(wordV w).1]))) :
    PInv l (i + 1) (s.set (s.length - 1) (s.getD (s.length - 1) [] ++ [(wordV w).1])) [] := by
  have h1 := h.s1
  have hm := getD_mem (show s.length - 1 < s.length by omega) ([] : List Term)
  refine h.word hi hc hs (by rw [List.length_set]; exact h1) (by rw [List.length_set]; omega) (fun r hr => ?_) fun r hr t ht => ?_
  · rcases List.mem_or_eq_of_mem_set hr with h2 | rfl
    · have := h.rl r h2; omega
    · have := h.rl _ hm; simp only [List.length_append, List.length_cons, List.length_nil]; omega
  · rcases List.mem_or_eq_of_mem_set hr with h2 | rfl
    · exact h.tx r h2 t ht
    · rcases List.mem_append.1 ht with h3 | h3
      · exact h.tx _ hm t h3
      · rw [List.mem_singleton.1 h3]
        have := wordV_len w
        have := h.wl
        exact ⟨by omega, by omega⟩
theorem PInv.bad {l : List UInt8} {i : Nat} {s : List (List Term)} {w : List UInt8} (h : PInv l i s w) (hi : i ≤ l.length) (hc : i < l.length → l.getD i 0 = 32) (hs : stepW s w = none) : runP [[]] [] l = none := by
  rw [h.run hi]
  by_cases e : i < l.length
  · rw [drop_cons e, runP, if_pos (hc e), hs]
  · rw [List.drop_of_length_le (by omega), runP, hs]
theorem word_v (x : ByteArray) (l : List UInt8) (hl : x.data.toList = l) (hs : l.length ≤ 1000000) : ACall Tryd.prog 73 [is x] (wordA (wordV l)) := by
  subst hl; exact word_c x (by rw [size_list]; exact hs)
theorem refParse_c (line : ByteArray) (hl : line.size ≤ 100000) : ACall Tryd.prog 25 [is line] (refParseA (refParse line.data.toList)) := by
  have hz := size_list line
  refine acall_of (rs := [2, 3]) Tryd.func25 rfl rfl rfl teOk rfl ?_
  refine acode_seq ?_
  refine acode_region ?_
  refine acode_seq ?_
  refine acode_seq ?_
  refine acode_region ?_
  refine acode_cond rfl (fun h11 => ?_) (fun h11 => ?_)
  · try simp only [decide_eq_true_eq] at h11
    try simp only [Int.toNat_natCast, dflt_sl, dflt_st, dflt_str, dflt_int, dflt_bool] at h11
    refine acode_seq ?_
    refine acode_region ?_
    refine acode_nilvec 2 100 (.sl rTerm) rfl ?_
    refine acode_ret ?_
    exact refParseA_eq (o := some []) (by rw [h11]; rfl)
  · try simp only [decide_eq_false_iff_not] at h11
    try simp only [Int.toNat_natCast, dflt_sl, dflt_st, dflt_str, dflt_int, dflt_bool] at h11
    refine acode_skip ?_
    refine acode_seq ?_
    refine acode_region ?_
    refine acode_seq ?_
    refine acode_region ?_
    refine acode_seq ?_
    refine acode_seq ?_
    refine acode_region ?_
    refine acode_block ?_
    refine acode_loopP (fun (x : Nat × List (List Term) × List UInt8) => PInv line.data.toList x.1 x.2.1 x.2.2) (fun (x : Nat × List (List Term) × List UInt8) => [(0, is line), (4, .one (.vec 0)), (5, is (bytes x.2.2)), (6, ii .i64 x.1)]) (fun (x : Nat × List (List Term) × List UInt8) => [(0, .vec 100 (.sl rTerm) x.2.1)]) 1 (fun (x : Nat × List (List Term) × List UInt8) => line.data.toList.length + 1 - x.1) (0, [[]], []) (⟨Nat.zero_le _, Nat.le_refl _, Nat.le_refl _, Nat.le_refl _, fun r hr => by rw [List.mem_singleton.1 hr]; exact Nat.le_refl _, fun r hr t ht => by rw [List.mem_singleton.1 hr] at ht; exact absurd ht (by simp), fun _ => rfl, fun e => by simp only at e; omega⟩) (le_of ⟨rfl, rfl, rfl, rfl⟩ rfl rfl) ?_
    intro ⟨i, s, w⟩ hI0
    simp only at hI0 ⊢
    have hP := hI0
    have hwl := hP.wl
    have hs1 := hP.s1
    have hs2 := hP.s2
    have hwb : (bytes w).size = w.length := bytes_size w
    refine acode_seq ?_
    refine acode_seq ?_
    refine acode_region ?_
    refine acode_cond rfl (fun h16 => ?_) (fun h16 => ?_)
    · try simp only [decide_eq_true_eq] at h16
      try simp only [Int.toNat_natCast, dflt_sl, dflt_st, dflt_str, dflt_int, dflt_bool] at h16
      have hil : i ≤ line.data.toList.length := by omega
      refine acode_skip ?_
      refine acode_seq ?_
      refine acode_block ?_
      refine acode_seq ?_
      refine acode_seq ?_
      refine acode_region ?_
      refine And.intro (fun h => trivial) ?_
      refine And.intro (fun h => trivial) ?_
      refine And.intro (fun h => ⟨⟨⟨h, trivial⟩, ⟨h, trivial⟩, trivial⟩, by first | omega | decide | (simp only [Int.toNat_natCast, dflt_sl, dflt_st, dflt_str, dflt_int, dflt_bool]; omega) | (have h9 := of_decide_eq_true h; omega) | (simp [gq] at h; omega)⟩) ?_
      refine And.intro (fun h => ⟨⟨h, trivial⟩, trivial⟩) ?_
      refine And.intro (by exact fun h => h) ?_
      refine acode_cond rfl (fun h28 => ?_) (fun h28 => ?_)
      · try simp only [decide_eq_true_eq, decide_eq_false_iff_not, Bool.and_eq_true, Bool.not_eq_true'] at h28
        try simp only [Int.toNat_natCast] at h28
        have hlt : i < line.data.toList.length := by omega
        have hx : line.extract (i : Int).toNat ((i : Int) + 1).toNat = bytes [line.data.toList.getD i 0] := by rw [Int.toNat_natCast, show ((i : Int) + 1).toNat = i + 1 by omega, extract_one hlt]
        have hx1 : (line.extract (i : Int).toNat ((i : Int) + 1).toNat).size = 1 := by rw [hx]; rfl
        refine acode_seq ?_
        refine acode_region ?_
        refine And.intro (by first | omega | assumption | decide | (simp only [Int.toNat_natCast, dflt_sl, dflt_st, dflt_str, dflt_int, dflt_bool]; omega) | (simp; omega)) ?_
        refine And.intro (by first | omega | assumption | decide | (simp only [Int.toNat_natCast, dflt_sl, dflt_st, dflt_str, dflt_int, dflt_bool]; omega) | (simp; omega)) ?_
        refine And.intro (by first | omega | (simp only [ByteArray.size_append]; omega) | (unfold maxLen; (try simp only [ByteArray.size_append]); omega)) ?_
        refine acode_exit ?_
        refine acode_region ?_
        refine And.intro (by first | omega | assumption | decide | (simp only [Int.toNat_natCast, dflt_sl, dflt_st, dflt_str, dflt_int, dflt_bool]; omega) | (simp; omega)) ?_
        exact ⟨(i + 1, s, w ++ [line.data.toList.getD i 0]), hP.char hlt (fun e => h28.2 (by rw [e]; rfl)), by first | omega | (simp; omega), le_of ⟨rfl, rfl, (is_eq (by simp only; rw [hx, bytes_app])), (ii_eq (by simp only; omega))⟩ rfl rfl⟩
      · try simp only [decide_eq_true_eq, decide_eq_false_iff_not, Bool.not_eq_false', Bool.and_eq_false_iff, Int.not_lt] at h28
        try simp only [Int.toNat_natCast] at h28
        have hsp : i < line.data.toList.length → line.data.toList.getD i 0 = 32 := fun hi => h28.elim (fun h => absurd hi (by omega)) (fun h => u8_eq h)
        refine acode_skip ?_
        refine acode_seq ?_
        refine acode_region ?_
        intro l10_1
        try simp only [Int.toNat_natCast, dflt_sl, dflt_st, dflt_str, dflt_int, dflt_bool] at l10_1
        refine And.intro (by first | omega | assumption | decide | (simp only [Int.toNat_natCast, dflt_sl, dflt_st, dflt_str, dflt_int, dflt_bool]; omega) | (simp; omega)) ?_
        refine acode_seq ?_
        refine acode_seq ?_
        refine acode_region ?_
        refine acode_cond rfl (fun h40 => ?_) (fun h40 => ?_)
        · try simp only [decide_eq_true_eq] at h40
          try simp only [Int.toNat_natCast, dflt_sl, dflt_st, dflt_str, dflt_int, dflt_bool] at h40
          have hw : w = [124] := by have := congrArg (fun x : ByteArray => x.data.toList) h40; rw [bytes_list] at this; exact this
          refine acode_region ?_
          refine And.intro (by show (s.length + 1) * 24 ≤ 140737488355328; omega) ?_
          refine acode_region ?_
          refine acode_region ?_
          refine And.intro (by first | omega | assumption | decide | (simp only [Int.toNat_natCast, dflt_sl, dflt_st, dflt_str, dflt_int, dflt_bool]; omega) | (simp; omega)) ?_
          exact ⟨(i + 1, s ++ [[]], []), hP.bar hil hsp hw, by first | omega | (simp; omega), le_of ⟨rfl, rfl, rfl, (ii_eq (by simp only; omega))⟩ (vec_eq rfl) rfl⟩
        · try simp only [decide_eq_false_iff_not] at h40
          try simp only [Int.toNat_natCast, dflt_sl, dflt_st, dflt_str, dflt_int, dflt_bool] at h40
          have hw : w ≠ [124] := fun e => h40 (by rw [e]; rfl)
          refine acode_seq ?_
          refine acode_region ?_
          refine acode_cond rfl (fun h45 => ?_) (fun h45 => ?_)
          · try simp only [decide_eq_false_iff_not, Bool.not_eq_true'] at h45
            try simp only [Int.toNat_natCast, dflt_sl, dflt_st, dflt_str, dflt_int, dflt_bool] at h45
            have hw2 : w ≠ [97, 108, 108] := fun e => h45 (by rw [e]; rfl)
            refine acode_seq ?_
            refine acode_region ?_
            refine Or.inl ?_
            refine And.intro (rfl) ?_
            refine Exists.intro _ (And.intro (word_v _ w (bytes_list w) (by omega)) ?_)
            refine acode_seq ?_
            refine acode_seq ?_
            refine acode_region ?_
            refine acode_cond rfl (fun h52 => ?_) (fun h52 => ?_)
            · try simp only [Bool.not_eq_true'] at h52
              try simp only [Int.toNat_natCast, dflt_sl, dflt_st, dflt_str, dflt_int, dflt_bool] at h52
              have hst : stepW s w = none := by unfold stepW; rw [if_neg hw, if_neg hw2, h52]; rfl
              refine acode_seq ?_
              refine acode_region ?_
              refine acode_nilvec 2 100 (.sl rTerm) rfl ?_
              refine acode_ret ?_
              exact refParseA_eq (o := none) (by unfold refParse; rw [if_neg (fun e => h11 (ls_inj e)), hP.bad hil hsp hst])
            · try simp only [Bool.not_eq_false'] at h52
              try simp only [Int.toNat_natCast, dflt_sl, dflt_st, dflt_str, dflt_int, dflt_bool] at h52
              have hst : stepW s w = some (s.set (s.length - 1) (s.getD (s.length - 1) [] ++ [(wordV w).1])) := by unfold stepW; rw [if_neg hw, if_neg hw2, h52]; rfl
              have hk : ((s.length : Int) - 1).toNat = s.length - 1 := by omega
              have hrl : (s.getD ((s.length : Int) - 1).toNat (Rd.sl rTerm).dflt).length ≤ i := hP.rl _ (getD_mem (by omega) _)
              refine acode_skip ?_
              refine acode_ord rfl ?_
              refine aord_light 0 rfl rfl rfl (by kernel_rfl) ?_
              refine aord_light 1 rfl rfl rfl (by kernel_rfl) ?_
              refine aord_light 3 rfl rfl rfl (by kernel_rfl) ?_
              refine aord_light 4 rfl rfl rfl (by kernel_rfl) ?_
              refine aord_light 5 rfl rfl rfl (by kernel_rfl) ?_
              refine And.intro (by first | omega | assumption | decide | (simp only [Int.toNat_natCast, dflt_sl, dflt_st, dflt_str, dflt_int, dflt_bool]; omega) | (simp; omega)) ?_
              refine aord_all [2, 6, 8] (by kernel_rfl) rfl ?_
              refine And.intro ?_ ?_
              · refine aord_all [6, 8] (by kernel_rfl) rfl ?_
                refine And.intro ?_ ?_
                · refine And.intro (by omega) ?_
                  refine aord_all [7, 8] (by kernel_rfl) rfl ?_
                  refine And.intro ?_ ?_
                  · refine And.intro (by show (0 + _) * 48 ≤ 140737488355328; omega) ?_
                    refine aord_all [8] (by kernel_rfl) rfl ?_
                    refine aord_all [9] (by kernel_rfl) rfl ?_
                    refine aord_all [10] (by kernel_rfl) rfl ?_
                    refine And.intro (by show (List.length (s.getD ((s.length : Int) - 1).toNat (Rd.sl rTerm).dflt) + 1) * 48 ≤ 140737488355328; omega) ?_
                    refine aord_light 11 rfl rfl rfl (by kernel_rfl) ?_
                    refine And.intro (by first | omega | assumption | decide | (simp only [Int.toNat_natCast, dflt_sl, dflt_st, dflt_str, dflt_int, dflt_bool]; omega) | (simp; omega)) ?_
                    refine aord_all [12] (by kernel_rfl) rfl ?_
                    refine And.intro (by omega) ?_
                    refine aord_done (by kernel_rfl) ?_
                    refine acode_region ?_
                    refine acode_region ?_
                    refine And.intro (by first | omega | assumption | decide | (simp only [Int.toNat_natCast, dflt_sl, dflt_st, dflt_str, dflt_int, dflt_bool]; omega) | (simp; omega)) ?_
                    exact ⟨(i + 1, s.set (s.length - 1) (s.getD (s.length - 1) [] ++ [(wordV w).1]), []), hP.term hil hsp (by omega) hst, by first | omega | (simp; omega), le_of ⟨rfl, rfl, rfl, (ii_eq (by simp only; omega))⟩ (vec_eq (by rw [hk]; rfl)) rfl⟩
                  · refine aord_all [7, 9] (by kernel_rfl) rfl ?_
                    refine And.intro ?_ ?_
                    · refine And.intro (by show (0 + _) * 48 ≤ 140737488355328; omega) ?_
                      refine aord_all [9] (by kernel_rfl) rfl ?_
                      refine aord_all [10] (by kernel_rfl) rfl ?_
                      refine And.intro (by show (List.length (s.getD ((s.length : Int) - 1).toNat (Rd.sl rTerm).dflt) + 1) * 48 ≤ 140737488355328; omega) ?_
                      refine aord_light 11 rfl rfl rfl (by kernel_rfl) ?_
                      refine And.intro (by first | omega | assumption | decide | (simp only [Int.toNat_natCast, dflt_sl, dflt_st, dflt_str, dflt_int, dflt_bool]; omega) | (simp; omega)) ?_
                      refine aord_all [12] (by kernel_rfl) rfl ?_
                      refine And.intro (by omega) ?_
                      refine aord_done (by kernel_rfl) ?_
                      refine acode_region ?_
                      refine acode_region ?_
                      refine And.intro (by first | omega | assumption | decide | (simp only [Int.toNat_natCast, dflt_sl, dflt_st, dflt_str, dflt_int, dflt_bool]; omega) | (simp; omega)) ?_
                      exact ⟨(i + 1, s.set (s.length - 1) (s.getD (s.length - 1) [] ++ [(wordV w).1]), []), hP.term hil hsp (by omega) hst, by first | omega | (simp; omega), le_of ⟨rfl, rfl, rfl, (ii_eq (by simp only; omega))⟩ (vec_eq (by rw [hk]; rfl)) rfl⟩
                    · refine aord_all [7] (by kernel_rfl) rfl ?_
                      refine And.intro (by show (0 + _) * 48 ≤ 140737488355328; omega) ?_
                      refine aord_all [10] (by kernel_rfl) rfl ?_
                      refine And.intro (by show (List.length (s.getD ((s.length : Int) - 1).toNat (Rd.sl rTerm).dflt) + 1) * 48 ≤ 140737488355328; omega) ?_
                      refine aord_light 11 rfl rfl rfl (by kernel_rfl) ?_
                      refine And.intro (by first | omega | assumption | decide | (simp only [Int.toNat_natCast, dflt_sl, dflt_st, dflt_str, dflt_int, dflt_bool]; omega) | (simp; omega)) ?_
                      refine aord_all [12] (by kernel_rfl) rfl ?_
                      refine And.intro (by omega) ?_
                      refine aord_done (by kernel_rfl) ?_
                      refine acode_region ?_
                      refine acode_region ?_
                      refine And.intro (by first | omega | assumption | decide | (simp only [Int.toNat_natCast, dflt_sl, dflt_st, dflt_str, dflt_int, dflt_bool]; omega) | (simp; omega)) ?_
                      exact ⟨(i + 1, s.set (s.length - 1) (s.getD (s.length - 1) [] ++ [(wordV w).1]), []), hP.term hil hsp (by omega) hst, by first | omega | (simp; omega), le_of ⟨rfl, rfl, rfl, (ii_eq (by simp only; omega))⟩ (vec_eq (by rw [hk]; rfl)) rfl⟩
                · refine aord_all [6, 9] (by kernel_rfl) rfl ?_
                  refine And.intro ?_ ?_
                  · refine And.intro (by omega) ?_
                    refine aord_all [7, 9] (by kernel_rfl) rfl ?_
                    refine And.intro ?_ ?_
                    · refine And.intro (by show (0 + _) * 48 ≤ 140737488355328; omega) ?_
                      refine aord_all [9] (by kernel_rfl) rfl ?_
                      refine aord_all [10] (by kernel_rfl) rfl ?_
                      refine And.intro (by show (List.length (s.getD ((s.length : Int) - 1).toNat (Rd.sl rTerm).dflt) + 1) * 48 ≤ 140737488355328; omega) ?_
                      refine aord_light 11 rfl rfl rfl (by kernel_rfl) ?_
                      refine And.intro (by first | omega | assumption | decide | (simp only [Int.toNat_natCast, dflt_sl, dflt_st, dflt_str, dflt_int, dflt_bool]; omega) | (simp; omega)) ?_
                      refine aord_all [12] (by kernel_rfl) rfl ?_
                      refine And.intro (by omega) ?_
                      refine aord_done (by kernel_rfl) ?_
                      refine acode_region ?_
                      refine acode_region ?_
                      refine And.intro (by first | omega | assumption | decide | (simp only [Int.toNat_natCast, dflt_sl, dflt_st, dflt_str, dflt_int, dflt_bool]; omega) | (simp; omega)) ?_
                      exact ⟨(i + 1, s.set (s.length - 1) (s.getD (s.length - 1) [] ++ [(wordV w).1]), []), hP.term hil hsp (by omega) hst, by first | omega | (simp; omega), le_of ⟨rfl, rfl, rfl, (ii_eq (by simp only; omega))⟩ (vec_eq (by rw [hk]; rfl)) rfl⟩
                    · refine aord_all [7] (by kernel_rfl) rfl ?_
                      refine And.intro (by show (0 + _) * 48 ≤ 140737488355328; omega) ?_
                      refine aord_all [10] (by kernel_rfl) rfl ?_
                      refine And.intro (by show (List.length (s.getD ((s.length : Int) - 1).toNat (Rd.sl rTerm).dflt) + 1) * 48 ≤ 140737488355328; omega) ?_
                      refine aord_light 11 rfl rfl rfl (by kernel_rfl) ?_
                      refine And.intro (by first | omega | assumption | decide | (simp only [Int.toNat_natCast, dflt_sl, dflt_st, dflt_str, dflt_int, dflt_bool]; omega) | (simp; omega)) ?_
                      refine aord_all [12] (by kernel_rfl) rfl ?_
                      refine And.intro (by omega) ?_
                      refine aord_done (by kernel_rfl) ?_
                      refine acode_region ?_
                      refine acode_region ?_
                      refine And.intro (by first | omega | assumption | decide | (simp only [Int.toNat_natCast, dflt_sl, dflt_st, dflt_str, dflt_int, dflt_bool]; omega) | (simp; omega)) ?_
                      exact ⟨(i + 1, s.set (s.length - 1) (s.getD (s.length - 1) [] ++ [(wordV w).1]), []), hP.term hil hsp (by omega) hst, by first | omega | (simp; omega), le_of ⟨rfl, rfl, rfl, (ii_eq (by simp only; omega))⟩ (vec_eq (by rw [hk]; rfl)) rfl⟩
                  · refine aord_all [6] (by kernel_rfl) rfl ?_
                    refine And.intro (by omega) ?_
                    refine aord_all [7] (by kernel_rfl) rfl ?_
                    refine And.intro (by show (0 + _) * 48 ≤ 140737488355328; omega) ?_
                    refine aord_all [10] (by kernel_rfl) rfl ?_
                    refine And.intro (by show (List.length (s.getD ((s.length : Int) - 1).toNat (Rd.sl rTerm).dflt) + 1) * 48 ≤ 140737488355328; omega) ?_
                    refine aord_light 11 rfl rfl rfl (by kernel_rfl) ?_
                    refine And.intro (by first | omega | assumption | decide | (simp only [Int.toNat_natCast, dflt_sl, dflt_st, dflt_str, dflt_int, dflt_bool]; omega) | (simp; omega)) ?_
                    refine aord_all [12] (by kernel_rfl) rfl ?_
                    refine And.intro (by omega) ?_
                    refine aord_done (by kernel_rfl) ?_
                    refine acode_region ?_
                    refine acode_region ?_
                    refine And.intro (by first | omega | assumption | decide | (simp only [Int.toNat_natCast, dflt_sl, dflt_st, dflt_str, dflt_int, dflt_bool]; omega) | (simp; omega)) ?_
                    exact ⟨(i + 1, s.set (s.length - 1) (s.getD (s.length - 1) [] ++ [(wordV w).1]), []), hP.term hil hsp (by omega) hst, by first | omega | (simp; omega), le_of ⟨rfl, rfl, rfl, (ii_eq (by simp only; omega))⟩ (vec_eq (by rw [hk]; rfl)) rfl⟩
              refine And.intro ?_ ?_
              · refine And.intro (by omega) ?_
                refine aord_all [2, 8] (by kernel_rfl) rfl ?_
                refine And.intro ?_ ?_
                · refine aord_all [7, 8] (by kernel_rfl) rfl ?_
                  refine And.intro ?_ ?_
                  · refine And.intro (by show (0 + _) * 48 ≤ 140737488355328; omega) ?_
                    refine aord_all [8] (by kernel_rfl) rfl ?_
                    refine aord_all [9] (by kernel_rfl) rfl ?_
                    refine aord_all [10] (by kernel_rfl) rfl ?_
                    refine And.intro (by show (List.length (s.getD ((s.length : Int) - 1).toNat (Rd.sl rTerm).dflt) + 1) * 48 ≤ 140737488355328; omega) ?_
                    refine aord_light 11 rfl rfl rfl (by kernel_rfl) ?_
                    refine And.intro (by first | omega | assumption | decide | (simp only [Int.toNat_natCast, dflt_sl, dflt_st, dflt_str, dflt_int, dflt_bool]; omega) | (simp; omega)) ?_
                    refine aord_all [12] (by kernel_rfl) rfl ?_
                    refine And.intro (by omega) ?_
                    refine aord_done (by kernel_rfl) ?_
                    refine acode_region ?_
                    refine acode_region ?_
                    refine And.intro (by first | omega | assumption | decide | (simp only [Int.toNat_natCast, dflt_sl, dflt_st, dflt_str, dflt_int, dflt_bool]; omega) | (simp; omega)) ?_
                    exact ⟨(i + 1, s.set (s.length - 1) (s.getD (s.length - 1) [] ++ [(wordV w).1]), []), hP.term hil hsp (by omega) hst, by first | omega | (simp; omega), le_of ⟨rfl, rfl, rfl, (ii_eq (by simp only; omega))⟩ (vec_eq (by rw [hk]; rfl)) rfl⟩
                  · refine aord_all [7, 9] (by kernel_rfl) rfl ?_
                    refine And.intro ?_ ?_
                    · refine And.intro (by show (0 + _) * 48 ≤ 140737488355328; omega) ?_
                      refine aord_all [9] (by kernel_rfl) rfl ?_
                      refine aord_all [10] (by kernel_rfl) rfl ?_
                      refine And.intro (by show (List.length (s.getD ((s.length : Int) - 1).toNat (Rd.sl rTerm).dflt) + 1) * 48 ≤ 140737488355328; omega) ?_
                      refine aord_light 11 rfl rfl rfl (by kernel_rfl) ?_
                      refine And.intro (by first | omega | assumption | decide | (simp only [Int.toNat_natCast, dflt_sl, dflt_st, dflt_str, dflt_int, dflt_bool]; omega) | (simp; omega)) ?_
                      refine aord_all [12] (by kernel_rfl) rfl ?_
                      refine And.intro (by omega) ?_
                      refine aord_done (by kernel_rfl) ?_
                      refine acode_region ?_
                      refine acode_region ?_
                      refine And.intro (by first | omega | assumption | decide | (simp only [Int.toNat_natCast, dflt_sl, dflt_st, dflt_str, dflt_int, dflt_bool]; omega) | (simp; omega)) ?_
                      exact ⟨(i + 1, s.set (s.length - 1) (s.getD (s.length - 1) [] ++ [(wordV w).1]), []), hP.term hil hsp (by omega) hst, by first | omega | (simp; omega), le_of ⟨rfl, rfl, rfl, (ii_eq (by simp only; omega))⟩ (vec_eq (by rw [hk]; rfl)) rfl⟩
                    · refine aord_all [7] (by kernel_rfl) rfl ?_
                      refine And.intro (by show (0 + _) * 48 ≤ 140737488355328; omega) ?_
                      refine aord_all [10] (by kernel_rfl) rfl ?_
                      refine And.intro (by show (List.length (s.getD ((s.length : Int) - 1).toNat (Rd.sl rTerm).dflt) + 1) * 48 ≤ 140737488355328; omega) ?_
                      refine aord_light 11 rfl rfl rfl (by kernel_rfl) ?_
                      refine And.intro (by first | omega | assumption | decide | (simp only [Int.toNat_natCast, dflt_sl, dflt_st, dflt_str, dflt_int, dflt_bool]; omega) | (simp; omega)) ?_
                      refine aord_all [12] (by kernel_rfl) rfl ?_
                      refine And.intro (by omega) ?_
                      refine aord_done (by kernel_rfl) ?_
                      refine acode_region ?_
                      refine acode_region ?_
                      refine And.intro (by first | omega | assumption | decide | (simp only [Int.toNat_natCast, dflt_sl, dflt_st, dflt_str, dflt_int, dflt_bool]; omega) | (simp; omega)) ?_
                      exact ⟨(i + 1, s.set (s.length - 1) (s.getD (s.length - 1) [] ++ [(wordV w).1]), []), hP.term hil hsp (by omega) hst, by first | omega | (simp; omega), le_of ⟨rfl, rfl, rfl, (ii_eq (by simp only; omega))⟩ (vec_eq (by rw [hk]; rfl)) rfl⟩
                · refine aord_all [2, 9] (by kernel_rfl) rfl ?_
                  refine And.intro ?_ ?_
                  · refine aord_all [7, 9] (by kernel_rfl) rfl ?_
                    refine And.intro ?_ ?_
                    · refine And.intro (by show (0 + _) * 48 ≤ 140737488355328; omega) ?_
                      refine aord_all [9] (by kernel_rfl) rfl ?_
                      refine aord_all [10] (by kernel_rfl) rfl ?_
                      refine And.intro (by show (List.length (s.getD ((s.length : Int) - 1).toNat (Rd.sl rTerm).dflt) + 1) * 48 ≤ 140737488355328; omega) ?_
                      refine aord_light 11 rfl rfl rfl (by kernel_rfl) ?_
                      refine And.intro (by first | omega | assumption | decide | (simp only [Int.toNat_natCast, dflt_sl, dflt_st, dflt_str, dflt_int, dflt_bool]; omega) | (simp; omega)) ?_
                      refine aord_all [12] (by kernel_rfl) rfl ?_
                      refine And.intro (by omega) ?_
                      refine aord_done (by kernel_rfl) ?_
                      refine acode_region ?_
                      refine acode_region ?_
                      refine And.intro (by first | omega | assumption | decide | (simp only [Int.toNat_natCast, dflt_sl, dflt_st, dflt_str, dflt_int, dflt_bool]; omega) | (simp; omega)) ?_
                      exact ⟨(i + 1, s.set (s.length - 1) (s.getD (s.length - 1) [] ++ [(wordV w).1]), []), hP.term hil hsp (by omega) hst, by first | omega | (simp; omega), le_of ⟨rfl, rfl, rfl, (ii_eq (by simp only; omega))⟩ (vec_eq (by rw [hk]; rfl)) rfl⟩
                    · refine aord_all [7] (by kernel_rfl) rfl ?_
                      refine And.intro (by show (0 + _) * 48 ≤ 140737488355328; omega) ?_
                      refine aord_all [10] (by kernel_rfl) rfl ?_
                      refine And.intro (by show (List.length (s.getD ((s.length : Int) - 1).toNat (Rd.sl rTerm).dflt) + 1) * 48 ≤ 140737488355328; omega) ?_
                      refine aord_light 11 rfl rfl rfl (by kernel_rfl) ?_
                      refine And.intro (by first | omega | assumption | decide | (simp only [Int.toNat_natCast, dflt_sl, dflt_st, dflt_str, dflt_int, dflt_bool]; omega) | (simp; omega)) ?_
                      refine aord_all [12] (by kernel_rfl) rfl ?_
                      refine And.intro (by omega) ?_
                      refine aord_done (by kernel_rfl) ?_
                      refine acode_region ?_
                      refine acode_region ?_
                      refine And.intro (by first | omega | assumption | decide | (simp only [Int.toNat_natCast, dflt_sl, dflt_st, dflt_str, dflt_int, dflt_bool]; omega) | (simp; omega)) ?_
                      exact ⟨(i + 1, s.set (s.length - 1) (s.getD (s.length - 1) [] ++ [(wordV w).1]), []), hP.term hil hsp (by omega) hst, by first | omega | (simp; omega), le_of ⟨rfl, rfl, rfl, (ii_eq (by simp only; omega))⟩ (vec_eq (by rw [hk]; rfl)) rfl⟩
                  · refine aord_all [2] (by kernel_rfl) rfl ?_
                    refine aord_all [7] (by kernel_rfl) rfl ?_
                    refine And.intro (by show (0 + _) * 48 ≤ 140737488355328; omega) ?_
                    refine aord_all [10] (by kernel_rfl) rfl ?_
                    refine And.intro (by show (List.length (s.getD ((s.length : Int) - 1).toNat (Rd.sl rTerm).dflt) + 1) * 48 ≤ 140737488355328; omega) ?_
                    refine aord_light 11 rfl rfl rfl (by kernel_rfl) ?_
                    refine And.intro (by first | omega | assumption | decide | (simp only [Int.toNat_natCast, dflt_sl, dflt_st, dflt_str, dflt_int, dflt_bool]; omega) | (simp; omega)) ?_
                    refine aord_all [12] (by kernel_rfl) rfl ?_
                    refine And.intro (by omega) ?_
                    refine aord_done (by kernel_rfl) ?_
                    refine acode_region ?_
                    refine acode_region ?_
                    refine And.intro (by first | omega | assumption | decide | (simp only [Int.toNat_natCast, dflt_sl, dflt_st, dflt_str, dflt_int, dflt_bool]; omega) | (simp; omega)) ?_
                    exact ⟨(i + 1, s.set (s.length - 1) (s.getD (s.length - 1) [] ++ [(wordV w).1]), []), hP.term hil hsp (by omega) hst, by first | omega | (simp; omega), le_of ⟨rfl, rfl, rfl, (ii_eq (by simp only; omega))⟩ (vec_eq (by rw [hk]; rfl)) rfl⟩
              · refine aord_all [2, 6, 9] (by kernel_rfl) rfl ?_
                refine And.intro ?_ ?_
                · refine aord_all [6, 9] (by kernel_rfl) rfl ?_
                  refine And.intro ?_ ?_
                  · refine And.intro (by omega) ?_
                    refine aord_all [7, 9] (by kernel_rfl) rfl ?_
                    refine And.intro ?_ ?_
                    · refine And.intro (by show (0 + _) * 48 ≤ 140737488355328; omega) ?_
                      refine aord_all [9] (by kernel_rfl) rfl ?_
                      refine aord_all [10] (by kernel_rfl) rfl ?_
                      refine And.intro (by show (List.length (s.getD ((s.length : Int) - 1).toNat (Rd.sl rTerm).dflt) + 1) * 48 ≤ 140737488355328; omega) ?_
                      refine aord_light 11 rfl rfl rfl (by kernel_rfl) ?_
                      refine And.intro (by first | omega | assumption | decide | (simp only [Int.toNat_natCast, dflt_sl, dflt_st, dflt_str, dflt_int, dflt_bool]; omega) | (simp; omega)) ?_
                      refine aord_all [12] (by kernel_rfl) rfl ?_
                      refine And.intro (by omega) ?_
                      refine aord_done (by kernel_rfl) ?_
                      refine acode_region ?_
                      refine acode_region ?_
                      refine And.intro (by first | omega | assumption | decide | (simp only [Int.toNat_natCast, dflt_sl, dflt_st, dflt_str, dflt_int, dflt_bool]; omega) | (simp; omega)) ?_
                      exact ⟨(i + 1, s.set (s.length - 1) (s.getD (s.length - 1) [] ++ [(wordV w).1]), []), hP.term hil hsp (by omega) hst, by first | omega | (simp; omega), le_of ⟨rfl, rfl, rfl, (ii_eq (by simp only; omega))⟩ (vec_eq (by rw [hk]; rfl)) rfl⟩
                    · refine aord_all [7] (by kernel_rfl) rfl ?_
                      refine And.intro (by show (0 + _) * 48 ≤ 140737488355328; omega) ?_
                      refine aord_all [10] (by kernel_rfl) rfl ?_
                      refine And.intro (by show (List.length (s.getD ((s.length : Int) - 1).toNat (Rd.sl rTerm).dflt) + 1) * 48 ≤ 140737488355328; omega) ?_
                      refine aord_light 11 rfl rfl rfl (by kernel_rfl) ?_
                      refine And.intro (by first | omega | assumption | decide | (simp only [Int.toNat_natCast, dflt_sl, dflt_st, dflt_str, dflt_int, dflt_bool]; omega) | (simp; omega)) ?_
                      refine aord_all [12] (by kernel_rfl) rfl ?_
                      refine And.intro (by omega) ?_
                      refine aord_done (by kernel_rfl) ?_
                      refine acode_region ?_
                      refine acode_region ?_
                      refine And.intro (by first | omega | assumption | decide | (simp only [Int.toNat_natCast, dflt_sl, dflt_st, dflt_str, dflt_int, dflt_bool]; omega) | (simp; omega)) ?_
                      exact ⟨(i + 1, s.set (s.length - 1) (s.getD (s.length - 1) [] ++ [(wordV w).1]), []), hP.term hil hsp (by omega) hst, by first | omega | (simp; omega), le_of ⟨rfl, rfl, rfl, (ii_eq (by simp only; omega))⟩ (vec_eq (by rw [hk]; rfl)) rfl⟩
                  · refine aord_all [6] (by kernel_rfl) rfl ?_
                    refine And.intro (by omega) ?_
                    refine aord_all [7] (by kernel_rfl) rfl ?_
                    refine And.intro (by show (0 + _) * 48 ≤ 140737488355328; omega) ?_
                    refine aord_all [10] (by kernel_rfl) rfl ?_
                    refine And.intro (by show (List.length (s.getD ((s.length : Int) - 1).toNat (Rd.sl rTerm).dflt) + 1) * 48 ≤ 140737488355328; omega) ?_
                    refine aord_light 11 rfl rfl rfl (by kernel_rfl) ?_
                    refine And.intro (by first | omega | assumption | decide | (simp only [Int.toNat_natCast, dflt_sl, dflt_st, dflt_str, dflt_int, dflt_bool]; omega) | (simp; omega)) ?_
                    refine aord_all [12] (by kernel_rfl) rfl ?_
                    refine And.intro (by omega) ?_
                    refine aord_done (by kernel_rfl) ?_
                    refine acode_region ?_
                    refine acode_region ?_
                    refine And.intro (by first | omega | assumption | decide | (simp only [Int.toNat_natCast, dflt_sl, dflt_st, dflt_str, dflt_int, dflt_bool]; omega) | (simp; omega)) ?_
                    exact ⟨(i + 1, s.set (s.length - 1) (s.getD (s.length - 1) [] ++ [(wordV w).1]), []), hP.term hil hsp (by omega) hst, by first | omega | (simp; omega), le_of ⟨rfl, rfl, rfl, (ii_eq (by simp only; omega))⟩ (vec_eq (by rw [hk]; rfl)) rfl⟩
                refine And.intro ?_ ?_
                · refine And.intro (by omega) ?_
                  refine aord_all [2, 9] (by kernel_rfl) rfl ?_
                  refine And.intro ?_ ?_
                  · refine aord_all [7, 9] (by kernel_rfl) rfl ?_
                    refine And.intro ?_ ?_
                    · refine And.intro (by show (0 + _) * 48 ≤ 140737488355328; omega) ?_
                      refine aord_all [9] (by kernel_rfl) rfl ?_
                      refine aord_all [10] (by kernel_rfl) rfl ?_
                      refine And.intro (by show (List.length (s.getD ((s.length : Int) - 1).toNat (Rd.sl rTerm).dflt) + 1) * 48 ≤ 140737488355328; omega) ?_
                      refine aord_light 11 rfl rfl rfl (by kernel_rfl) ?_
                      refine And.intro (by first | omega | assumption | decide | (simp only [Int.toNat_natCast, dflt_sl, dflt_st, dflt_str, dflt_int, dflt_bool]; omega) | (simp; omega)) ?_
                      refine aord_all [12] (by kernel_rfl) rfl ?_
                      refine And.intro (by omega) ?_
                      refine aord_done (by kernel_rfl) ?_
                      refine acode_region ?_
                      refine acode_region ?_
                      refine And.intro (by first | omega | assumption | decide | (simp only [Int.toNat_natCast, dflt_sl, dflt_st, dflt_str, dflt_int, dflt_bool]; omega) | (simp; omega)) ?_
                      exact ⟨(i + 1, s.set (s.length - 1) (s.getD (s.length - 1) [] ++ [(wordV w).1]), []), hP.term hil hsp (by omega) hst, by first | omega | (simp; omega), le_of ⟨rfl, rfl, rfl, (ii_eq (by simp only; omega))⟩ (vec_eq (by rw [hk]; rfl)) rfl⟩
                    · refine aord_all [7] (by kernel_rfl) rfl ?_
                      refine And.intro (by show (0 + _) * 48 ≤ 140737488355328; omega) ?_
                      refine aord_all [10] (by kernel_rfl) rfl ?_
                      refine And.intro (by show (List.length (s.getD ((s.length : Int) - 1).toNat (Rd.sl rTerm).dflt) + 1) * 48 ≤ 140737488355328; omega) ?_
                      refine aord_light 11 rfl rfl rfl (by kernel_rfl) ?_
                      refine And.intro (by first | omega | assumption | decide | (simp only [Int.toNat_natCast, dflt_sl, dflt_st, dflt_str, dflt_int, dflt_bool]; omega) | (simp; omega)) ?_
                      refine aord_all [12] (by kernel_rfl) rfl ?_
                      refine And.intro (by omega) ?_
                      refine aord_done (by kernel_rfl) ?_
                      refine acode_region ?_
                      refine acode_region ?_
                      refine And.intro (by first | omega | assumption | decide | (simp only [Int.toNat_natCast, dflt_sl, dflt_st, dflt_str, dflt_int, dflt_bool]; omega) | (simp; omega)) ?_
                      exact ⟨(i + 1, s.set (s.length - 1) (s.getD (s.length - 1) [] ++ [(wordV w).1]), []), hP.term hil hsp (by omega) hst, by first | omega | (simp; omega), le_of ⟨rfl, rfl, rfl, (ii_eq (by simp only; omega))⟩ (vec_eq (by rw [hk]; rfl)) rfl⟩
                  · refine aord_all [2] (by kernel_rfl) rfl ?_
                    refine aord_all [7] (by kernel_rfl) rfl ?_
                    refine And.intro (by show (0 + _) * 48 ≤ 140737488355328; omega) ?_
                    refine aord_all [10] (by kernel_rfl) rfl ?_
                    refine And.intro (by show (List.length (s.getD ((s.length : Int) - 1).toNat (Rd.sl rTerm).dflt) + 1) * 48 ≤ 140737488355328; omega) ?_
                    refine aord_light 11 rfl rfl rfl (by kernel_rfl) ?_
                    refine And.intro (by first | omega | assumption | decide | (simp only [Int.toNat_natCast, dflt_sl, dflt_st, dflt_str, dflt_int, dflt_bool]; omega) | (simp; omega)) ?_
                    refine aord_all [12] (by kernel_rfl) rfl ?_
                    refine And.intro (by omega) ?_
                    refine aord_done (by kernel_rfl) ?_
                    refine acode_region ?_
                    refine acode_region ?_
                    refine And.intro (by first | omega | assumption | decide | (simp only [Int.toNat_natCast, dflt_sl, dflt_st, dflt_str, dflt_int, dflt_bool]; omega) | (simp; omega)) ?_
                    exact ⟨(i + 1, s.set (s.length - 1) (s.getD (s.length - 1) [] ++ [(wordV w).1]), []), hP.term hil hsp (by omega) hst, by first | omega | (simp; omega), le_of ⟨rfl, rfl, rfl, (ii_eq (by simp only; omega))⟩ (vec_eq (by rw [hk]; rfl)) rfl⟩
                · refine aord_all [2, 6] (by kernel_rfl) rfl ?_
                  refine And.intro ?_ ?_
                  · refine aord_all [6] (by kernel_rfl) rfl ?_
                    refine And.intro (by omega) ?_
                    refine aord_all [7] (by kernel_rfl) rfl ?_
                    refine And.intro (by show (0 + _) * 48 ≤ 140737488355328; omega) ?_
                    refine aord_all [10] (by kernel_rfl) rfl ?_
                    refine And.intro (by show (List.length (s.getD ((s.length : Int) - 1).toNat (Rd.sl rTerm).dflt) + 1) * 48 ≤ 140737488355328; omega) ?_
                    refine aord_light 11 rfl rfl rfl (by kernel_rfl) ?_
                    refine And.intro (by first | omega | assumption | decide | (simp only [Int.toNat_natCast, dflt_sl, dflt_st, dflt_str, dflt_int, dflt_bool]; omega) | (simp; omega)) ?_
                    refine aord_all [12] (by kernel_rfl) rfl ?_
                    refine And.intro (by omega) ?_
                    refine aord_done (by kernel_rfl) ?_
                    refine acode_region ?_
                    refine acode_region ?_
                    refine And.intro (by first | omega | assumption | decide | (simp only [Int.toNat_natCast, dflt_sl, dflt_st, dflt_str, dflt_int, dflt_bool]; omega) | (simp; omega)) ?_
                    exact ⟨(i + 1, s.set (s.length - 1) (s.getD (s.length - 1) [] ++ [(wordV w).1]), []), hP.term hil hsp (by omega) hst, by first | omega | (simp; omega), le_of ⟨rfl, rfl, rfl, (ii_eq (by simp only; omega))⟩ (vec_eq (by rw [hk]; rfl)) rfl⟩
                  · refine And.intro (by omega) ?_
                    refine aord_all [2] (by kernel_rfl) rfl ?_
                    refine aord_all [7] (by kernel_rfl) rfl ?_
                    refine And.intro (by show (0 + _) * 48 ≤ 140737488355328; omega) ?_
                    refine aord_all [10] (by kernel_rfl) rfl ?_
                    refine And.intro (by show (List.length (s.getD ((s.length : Int) - 1).toNat (Rd.sl rTerm).dflt) + 1) * 48 ≤ 140737488355328; omega) ?_
                    refine aord_light 11 rfl rfl rfl (by kernel_rfl) ?_
                    refine And.intro (by first | omega | assumption | decide | (simp only [Int.toNat_natCast, dflt_sl, dflt_st, dflt_str, dflt_int, dflt_bool]; omega) | (simp; omega)) ?_
                    refine aord_all [12] (by kernel_rfl) rfl ?_
                    refine And.intro (by omega) ?_
                    refine aord_done (by kernel_rfl) ?_
                    refine acode_region ?_
                    refine acode_region ?_
                    refine And.intro (by first | omega | assumption | decide | (simp only [Int.toNat_natCast, dflt_sl, dflt_st, dflt_str, dflt_int, dflt_bool]; omega) | (simp; omega)) ?_
                    exact ⟨(i + 1, s.set (s.length - 1) (s.getD (s.length - 1) [] ++ [(wordV w).1]), []), hP.term hil hsp (by omega) hst, by first | omega | (simp; omega), le_of ⟨rfl, rfl, rfl, (ii_eq (by simp only; omega))⟩ (vec_eq (by rw [hk]; rfl)) rfl⟩
          · try simp only [decide_eq_true_eq, Bool.not_eq_false'] at h45
            try simp only [Int.toNat_natCast, dflt_sl, dflt_st, dflt_str, dflt_int, dflt_bool] at h45
            have hw2 : w = [97, 108, 108] := by have := congrArg (fun x : ByteArray => x.data.toList) h45; rw [bytes_list] at this; exact this
            refine acode_skip ?_
            refine acode_region ?_
            refine acode_region ?_
            refine And.intro (by first | omega | assumption | decide | (simp only [Int.toNat_natCast, dflt_sl, dflt_st, dflt_str, dflt_int, dflt_bool]; omega) | (simp; omega)) ?_
            exact ⟨(i + 1, s, []), hP.word hil hsp (by unfold stepW; rw [if_neg hw, if_pos hw2]) hs1 (Nat.le_succ _) (fun r hr => by have := hP.rl r hr; omega) hP.tx, by first | omega | (simp; omega), le_of ⟨rfl, rfl, rfl, (ii_eq (by simp only; omega))⟩ rfl rfl⟩
    · try simp only [decide_eq_false_iff_not, Int.not_le] at h16
      try simp only [Int.toNat_natCast, dflt_sl, dflt_st, dflt_str, dflt_int, dflt_bool] at h16
      have hf := hP.fin (by have := hP.b0; omega)
      refine acode_exit ?_
      refine acode_seq ?_
      refine acode_seq ?_
      refine acode_region ?_
      refine Or.inl ?_
      refine And.intro (rfl) ?_
      refine Exists.intro _ (And.intro (refGood_c s hP.tx) ?_)
      refine And.intro (fun h => trivial) ?_
      refine And.intro (rfl) ?_
      refine Exists.intro _ (And.intro (fun h => ⟨⟨⟨h, trivial⟩, trivial⟩, refLine_c s (good_ok hP.tx (by simpa [gq] using h))⟩) ?_)
      refine And.intro (fun h => trivial) ?_
      refine And.intro (fun h => ⟨⟨h, trivial⟩, ⟨h, trivial⟩, trivial⟩) ?_
      refine And.intro (by first | (intro h; rw [h]; rfl) | (intro h; cases h)) ?_
      refine acode_cond rfl (fun h73 => ?_) (fun h73 => ?_)
      · try simp only [decide_eq_false_iff_not, Bool.not_eq_true', Bool.or_eq_true] at h73
        try simp only [Int.toNat_natCast, dflt_sl, dflt_st, dflt_str, dflt_int, dflt_bool] at h73
        refine acode_seq ?_
        refine acode_region ?_
        refine acode_nilvec 2 100 (.sl rTerm) rfl ?_
        refine acode_ret ?_
        exact refParseA_eq (o := none) (by unfold refParse; rw [if_neg (fun e => h11 (ls_inj e)), hf]; show none = if (goodS s && decide (selL s = line.data.toList)) = true then some s else none; rcases h73 with h | h; rw [h]; rfl; rw [decide_eq_false (fun e => h (by rw [e]; exact bytes_ls line)), Bool.and_false]; rfl)
      · try simp only [decide_eq_true_eq, Bool.not_eq_false', Bool.or_eq_false_iff] at h73
        try simp only [Int.toNat_natCast, dflt_sl, dflt_st, dflt_str, dflt_int, dflt_bool] at h73
        refine acode_skip ?_
        refine acode_seq ?_
        refine acode_region ?_
        refine acode_ret ?_
        exact refParseA_eq (o := some s) (by unfold refParse; rw [if_neg (fun e => h11 (ls_inj e)), hf]; show some s = if (goodS s && decide (selL s = line.data.toList)) = true then some s else none; rw [h73.1, decide_eq_true (by rw [← h73.2, bytes_list])]; rfl)
end Q
end Ab
end Go.Proofs.YthlfbpmbkcoclaaDoor
