/-
  The texts of this proof, joined: abstract values, the library, the functions of the program and what they compute (part 4). No condition.
-/
import Derived.Test.YtklhlkhlndhepaaGreatDoorK1
import Derived.Test.YtklhlkhlndhepaaGreatDoorK2
import Derived.Test.YtklhlkhlndhepaaGreatDoorK3
namespace Go.Proofs.YtklhlkhlndhepaaGreatDoor
open Go.RowKit
namespace Ab
set_option maxRecDepth 100000
set_option maxHeartbeats 4000000
namespace Q
theorem join_sz (l : List ByteArray) : (Lib.join (l.map (·.data.toList)) [10]).length ≤ (l.map (·.size)).sum + l.length := by
  refine Nat.le_trans (joinL_len 10 _) ?_
  rw [List.map_map, List.length_map]
  refine Nat.add_le_add_right (Nat.le_of_eq ?_) _
  exact congrArg _ (List.map_congr_left fun s _ => (size_list s).symm)
theorem raw_sz {l : List ByteArray} (h1 : l.length ≤ 2000000) (h2 : (l.map (·.size)).sum ≤ 2000000) : ByteArray.size { data := (Lib.join (l.map (fun x => x.data.toList)) [10]).toArray } ≤ 4000000 := by
  have := join_sz l
  show Array.size _ ≤ _
  rw [List.size_toArray]
  omega
theorem end_nil {p q : PSt} (h : flushS p = .inr q) (hq : q.blk = []) (hb : PB p 1000000) : ACallO Tryz.prog 77 [.one (.own 0 0)] (psO p) 5 (.one (.lit .nilIface)) (psO { q with blk := [], flds := [] }) 5 := by
  refine acallo_of (rs := [2]) Tryz.func77 rfl rfl rfl teOk (by decide) rfl ?_
  refine acode_seq ?_
  refine acode_region ?_
  refine acode_seq ?_
  refine acode_seq ?_
  refine acode_region ?_
  refine Or.inr (Or.inl (Exists.intro [] (Exists.intro [0, 1, 2, 3, 4] (Exists.intro _ (Exists.intro _ (Exists.intro _ (Exists.intro _ (Exists.intro _ (And.intro (flush_ok h hb) (And.intro rfl (And.intro (And.intro (And.intro rfl rfl) (And.intro (And.intro rfl rfl) (And.intro (And.intro rfl rfl) (And.intro (And.intro rfl rfl) (And.intro (And.intro rfl rfl) True.intro))))) (And.intro rfl ?_))))))))))))
  refine acode_seq ?_
  refine acode_region ?_
  refine acode_cond rfl (fun h8 => ?_) (fun h8 => ?_)
  · try simp only [Bool.not_eq_true'] at h8
    try simp only [Int.toNat_natCast, dflt_sl, dflt_st, dflt_str, dflt_int, dflt_bool] at h8
    cases h8
  · try simp only [Bool.not_eq_false'] at h8
    try simp only [Int.toNat_natCast, dflt_sl, dflt_st, dflt_str, dflt_int, dflt_bool] at h8
    refine acode_skip ?_
    refine acode_seq ?_
    refine acode_seq ?_
    refine acode_renew 3 rfl ?_
    refine acode_renew 4 rfl ?_
    refine acode_region ?_
    intro l4_4
    try simp only [Int.toNat_natCast, dflt_sl, dflt_st, dflt_str, dflt_int, dflt_bool] at l4_4
    refine acode_cond rfl (fun h15 => ?_) (fun h15 => ?_)
    · try simp only [decide_eq_true_eq] at h15
      try simp only [Int.toNat_natCast, dflt_sl, dflt_st, dflt_str, dflt_int, dflt_bool] at h15
      exact absurd (by rw [hq]; rfl : (q.blk.length : Int) = 0) (by omega)
    · try simp only [decide_eq_false_iff_not, Int.not_lt] at h15
      try simp only [Int.toNat_natCast, dflt_sl, dflt_st, dflt_str, dflt_int, dflt_bool] at h15
      refine acode_skip ?_
      refine acode_seq ?_
      refine acode_region ?_
      refine acode_seq ?_
      refine acode_nilcell 0 4 9 .str rfl rfl rfl ?_
      refine acode_swap 3 5 rfl rfl ?_
      refine acode_nilcell 0 5 91 rFld rfl rfl rfl ?_
      refine acode_swap 4 6 rfl rfl ?_
      refine acode_region ?_
      refine acode_ret ?_
      exact ⟨rfl, ⟨rfl, rfl, rfl, rfl, rfl⟩, rfl⟩
theorem end_blk {p q : PSt} (h : flushS p = .inr q) (hq : q.blk ≠ []) (hb : PB p 1000000) (hb2 : PB q 2000000) : ACallO Tryz.prog 77 [.one (.own 0 0)] (psO p) 5 (.one (.lit .nilIface)) (psO { q with its := q.its ++ [((if q.flds = [] then 2 else 3 : Int), rawB q.blk, q.flds)], recs := (if q.flds = [] then q.recs else q.recs + 1), blk := [], flds := [] }) 5 := by
  have hi := hb2.its
  have hjs := raw_sz hb2.blk hb2.blb
  have hr0 := hb2.rec0
  have hrB := hb2.recB
  refine acallo_of (rs := [2]) Tryz.func77 rfl rfl rfl teOk (by decide) rfl ?_
  refine acode_seq ?_
  refine acode_region ?_
  refine acode_seq ?_
  refine acode_seq ?_
  refine acode_region ?_
  refine Or.inr (Or.inl (Exists.intro [] (Exists.intro [0, 1, 2, 3, 4] (Exists.intro _ (Exists.intro _ (Exists.intro _ (Exists.intro _ (Exists.intro _ (And.intro (flush_ok h hb) (And.intro rfl (And.intro (And.intro (And.intro rfl rfl) (And.intro (And.intro rfl rfl) (And.intro (And.intro rfl rfl) (And.intro (And.intro rfl rfl) (And.intro (And.intro rfl rfl) True.intro))))) (And.intro rfl ?_))))))))))))
  refine acode_seq ?_
  refine acode_region ?_
  refine acode_cond rfl (fun h8 => ?_) (fun h8 => ?_)
  · try simp only [Bool.not_eq_true'] at h8
    try simp only [Int.toNat_natCast, dflt_sl, dflt_st, dflt_str, dflt_int, dflt_bool] at h8
    cases h8
  · try simp only [Bool.not_eq_false'] at h8
    try simp only [Int.toNat_natCast, dflt_sl, dflt_st, dflt_str, dflt_int, dflt_bool] at h8
    refine acode_skip ?_
    refine acode_cut (fun (u : Unit) => True) (fun (u : Unit) => [(0, .one (.own 0 0))]) (fun (u : Unit) => [(0, .box 141 [.vec 1, .lit (.int .i64 q.frm), .lit (.bool q.full), .vec 2, .sl .str q.blk, .sl rFld q.flds, .lit (.int .i64 (if q.flds = [] then q.recs else q.recs + 1))]), (1, .vec 9 .str q.lns), (2, .vec 73 rItm (q.its ++ [((if q.flds = [] then 2 else 3 : Int), rawB q.blk, q.flds)])), (3, .vec 9 .str []), (4, .vec 91 rFld [])]) 5 ?_ ?_
    · refine acode_seq ?_
      refine acode_renew 3 rfl ?_
      refine acode_renew 4 rfl ?_
      refine acode_region ?_
      intro l4_4
      try simp only [Int.toNat_natCast, dflt_sl, dflt_st, dflt_str, dflt_int, dflt_bool] at l4_4
      refine acode_cond rfl (fun h15 => ?_) (fun h15 => ?_)
      · try simp only [decide_eq_true_eq] at h15
        try simp only [Int.toNat_natCast, dflt_sl, dflt_st, dflt_str, dflt_int, dflt_bool] at h15
        refine acode_seq ?_
        refine acode_region ?_
        refine acode_cut (fun (u : Int × Int) => u = ((if q.flds = [] then 2 else 3 : Int), (if q.flds = [] then q.recs else q.recs + 1))) (fun (u : Int × Int) => [(0, .one (.own 0 0)), (4, ii .i64 u.1)]) (fun (u : Int × Int) => [(0, .box 141 [.vec 1, .lit (.int .i64 q.frm), .lit (.bool q.full), .vec 2, .sl .str q.blk, .sl rFld q.flds, .lit (.int .i64 u.2)]), (1, .vec 9 .str q.lns), (2, .vec 73 rItm q.its), (3, .vec 9 .str []), (4, .vec 91 rFld [])]) 5 ?_ ?_
        · refine acode_seq ?_
          refine acode_region ?_
          intro l6_4
          try simp only [Int.toNat_natCast, dflt_sl, dflt_st, dflt_str, dflt_int, dflt_bool] at l6_4
          refine acode_cond rfl (fun h21 => ?_) (fun h21 => ?_)
          · try simp only [decide_eq_true_eq] at h21
            try simp only [Int.toNat_natCast, dflt_sl, dflt_st, dflt_str, dflt_int, dflt_bool] at h21
            refine acode_seq ?_
            refine acode_region ?_
            refine acode_region ?_
            refine And.intro (by first | omega | assumption | decide | (simp only [Int.toNat_natCast, dflt_sl, dflt_st, dflt_str, dflt_int, dflt_bool]; omega) | (simp <;> omega)) ?_
            exact ⟨(3, q.recs + 1), by have hf : q.flds ≠ [] := (fun e => by rw [e] at h21; simp at h21); simp only [if_neg hf], le_of ⟨rfl, rfl⟩ ⟨rfl, rfl, rfl, rfl, rfl⟩ rfl⟩
          · try simp only [decide_eq_false_iff_not, Int.not_lt] at h21
            try simp only [Int.toNat_natCast, dflt_sl, dflt_st, dflt_str, dflt_int, dflt_bool] at h21
            refine acode_skip ?_
            exact ⟨(2, q.recs), by have hf : q.flds = [] := List.eq_nil_of_length_eq_zero (by omega); simp only [if_pos hf], le_of ⟨rfl, rfl⟩ ⟨rfl, rfl, rfl, rfl, rfl⟩ rfl⟩
        · intro u hcut9
          obtain ⟨k, rc⟩ := u
          obtain ⟨rfl, rfl⟩ := Prod.mk.inj hcut9
          refine acode_ord rfl ?_
          refine aord_light 0 rfl rfl rfl (by kernel_rfl) ?_
          refine aord_light 1 rfl rfl rfl (by kernel_rfl) ?_
          refine aord_light 2 rfl rfl rfl (by kernel_rfl) ?_
          refine aord_light 3 rfl rfl rfl (by kernel_rfl) ?_
          refine aord_light 5 rfl rfl rfl (by kernel_rfl) ?_
          refine aord_light 6 rfl rfl rfl (by kernel_rfl) ?_
          refine aord_light 7 rfl rfl rfl (by kernel_rfl) ?_
          refine aord_light 8 rfl rfl rfl (by kernel_rfl) ?_
          refine aord_light 12 rfl rfl rfl (by kernel_rfl) ?_
          refine aord_light 13 rfl rfl rfl (by kernel_rfl) ?_
          refine aord_light 14 rfl rfl rfl (by kernel_rfl) ?_
          refine aord_all [4, 9, 15] (by kernel_rfl) rfl ?_
          refine And.intro ?_ ?_
          · refine aord_all [9, 15] (by kernel_rfl) rfl ?_
            refine And.intro ?_ ?_
            · refine aord_all [10, 15] (by kernel_rfl) rfl ?_
              refine And.intro ?_ ?_
              · refine Or.inl ?_
                refine And.intro (rfl) ?_
                refine Exists.intro _ (And.intro (join_c q.blk ⟨#[10]⟩ (Nat.le_trans hb2.blk (by decide)) (Nat.le_trans (join_sz q.blk) (by have := hb2.blk; have := hb2.blb; omega))) ?_)
                refine aord_light 11 rfl rfl rfl (by kernel_rfl) ?_
                refine And.intro (by (have hk0 : ByteArray.size { data := #[10] } = 1 := rfl; first | (unfold maxLen; omega) | (simp only []; omega) | (unfold maxLen; (try simp only []); omega))) ?_
                refine aord_all [15] (by kernel_rfl) rfl ?_
                refine aord_all [16] (by kernel_rfl) rfl ?_
                refine aord_all [17] (by kernel_rfl) rfl ?_
                refine aord_all [18] (by kernel_rfl) rfl ?_
                refine And.intro (by first | exact app_le (by first | omega | (simp only [List.length_cons, List.length_nil]; omega) | (simp; omega)) (by decide) | omega | assumption | decide | (simp only [Int.toNat_natCast, dflt_sl, dflt_st, dflt_str, dflt_int, dflt_bool]; omega) | (simp <;> omega)) ?_
                refine aord_light 19 rfl rfl rfl (by kernel_rfl) ?_
                refine aord_light 20 rfl rfl rfl (by kernel_rfl) ?_
                refine aord_all [21] (by kernel_rfl) rfl ?_
                refine aord_done (by kernel_rfl) ?_
                exact ⟨(), trivial, le_of rfl ⟨rfl, rfl, rfl, rfl, rfl⟩ rfl⟩
              · refine aord_all [10] (by kernel_rfl) rfl ?_
                refine Or.inl ?_
                refine And.intro (rfl) ?_
                refine Exists.intro _ (And.intro (join_c q.blk ⟨#[10]⟩ (Nat.le_trans hb2.blk (by decide)) (Nat.le_trans (join_sz q.blk) (by have := hb2.blk; have := hb2.blb; omega))) ?_)
                refine aord_light 11 rfl rfl rfl (by kernel_rfl) ?_
                refine And.intro (by (have hk0 : ByteArray.size { data := #[10] } = 1 := rfl; first | (unfold maxLen; omega) | (simp only []; omega) | (unfold maxLen; (try simp only []); omega))) ?_
                refine aord_all [16] (by kernel_rfl) rfl ?_
                refine aord_all [17] (by kernel_rfl) rfl ?_
                refine aord_all [18] (by kernel_rfl) rfl ?_
                refine And.intro (by first | exact app_le (by first | omega | (simp only [List.length_cons, List.length_nil]; omega) | (simp; omega)) (by decide) | omega | assumption | decide | (simp only [Int.toNat_natCast, dflt_sl, dflt_st, dflt_str, dflt_int, dflt_bool]; omega) | (simp <;> omega)) ?_
                refine aord_light 19 rfl rfl rfl (by kernel_rfl) ?_
                refine aord_light 20 rfl rfl rfl (by kernel_rfl) ?_
                refine aord_all [21] (by kernel_rfl) rfl ?_
                refine aord_done (by kernel_rfl) ?_
                exact ⟨(), trivial, le_of rfl ⟨rfl, rfl, rfl, rfl, rfl⟩ rfl⟩
            · refine aord_all [9] (by kernel_rfl) rfl ?_
              refine aord_all [10] (by kernel_rfl) rfl ?_
              refine Or.inl ?_
              refine And.intro (rfl) ?_
              refine Exists.intro _ (And.intro (join_c q.blk ⟨#[10]⟩ (Nat.le_trans hb2.blk (by decide)) (Nat.le_trans (join_sz q.blk) (by have := hb2.blk; have := hb2.blb; omega))) ?_)
              refine aord_light 11 rfl rfl rfl (by kernel_rfl) ?_
              refine And.intro (by (have hk0 : ByteArray.size { data := #[10] } = 1 := rfl; first | (unfold maxLen; omega) | (simp only []; omega) | (unfold maxLen; (try simp only []); omega))) ?_
              refine aord_all [16] (by kernel_rfl) rfl ?_
              refine aord_all [17] (by kernel_rfl) rfl ?_
              refine aord_all [18] (by kernel_rfl) rfl ?_
              refine And.intro (by first | exact app_le (by first | omega | (simp only [List.length_cons, List.length_nil]; omega) | (simp; omega)) (by decide) | omega | assumption | decide | (simp only [Int.toNat_natCast, dflt_sl, dflt_st, dflt_str, dflt_int, dflt_bool]; omega) | (simp <;> omega)) ?_
              refine aord_light 19 rfl rfl rfl (by kernel_rfl) ?_
              refine aord_light 20 rfl rfl rfl (by kernel_rfl) ?_
              refine aord_all [21] (by kernel_rfl) rfl ?_
              refine aord_done (by kernel_rfl) ?_
              exact ⟨(), trivial, le_of rfl ⟨rfl, rfl, rfl, rfl, rfl⟩ rfl⟩
          refine And.intro ?_ ?_
          · refine aord_all [4, 10, 15] (by kernel_rfl) rfl ?_
            refine And.intro ?_ ?_
            · refine aord_all [10, 15] (by kernel_rfl) rfl ?_
              refine And.intro ?_ ?_
              · refine Or.inl ?_
                refine And.intro (rfl) ?_
                refine Exists.intro _ (And.intro (join_c q.blk ⟨#[10]⟩ (Nat.le_trans hb2.blk (by decide)) (Nat.le_trans (join_sz q.blk) (by have := hb2.blk; have := hb2.blb; omega))) ?_)
                refine aord_light 11 rfl rfl rfl (by kernel_rfl) ?_
                refine And.intro (by (have hk0 : ByteArray.size { data := #[10] } = 1 := rfl; first | (unfold maxLen; omega) | (simp only []; omega) | (unfold maxLen; (try simp only []); omega))) ?_
                refine aord_all [15] (by kernel_rfl) rfl ?_
                refine aord_all [16] (by kernel_rfl) rfl ?_
                refine aord_all [17] (by kernel_rfl) rfl ?_
                refine aord_all [18] (by kernel_rfl) rfl ?_
                refine And.intro (by first | exact app_le (by first | omega | (simp only [List.length_cons, List.length_nil]; omega) | (simp; omega)) (by decide) | omega | assumption | decide | (simp only [Int.toNat_natCast, dflt_sl, dflt_st, dflt_str, dflt_int, dflt_bool]; omega) | (simp <;> omega)) ?_
                refine aord_light 19 rfl rfl rfl (by kernel_rfl) ?_
                refine aord_light 20 rfl rfl rfl (by kernel_rfl) ?_
                refine aord_all [21] (by kernel_rfl) rfl ?_
                refine aord_done (by kernel_rfl) ?_
                exact ⟨(), trivial, le_of rfl ⟨rfl, rfl, rfl, rfl, rfl⟩ rfl⟩
              · refine aord_all [10] (by kernel_rfl) rfl ?_
                refine Or.inl ?_
                refine And.intro (rfl) ?_
                refine Exists.intro _ (And.intro (join_c q.blk ⟨#[10]⟩ (Nat.le_trans hb2.blk (by decide)) (Nat.le_trans (join_sz q.blk) (by have := hb2.blk; have := hb2.blb; omega))) ?_)
                refine aord_light 11 rfl rfl rfl (by kernel_rfl) ?_
                refine And.intro (by (have hk0 : ByteArray.size { data := #[10] } = 1 := rfl; first | (unfold maxLen; omega) | (simp only []; omega) | (unfold maxLen; (try simp only []); omega))) ?_
                refine aord_all [16] (by kernel_rfl) rfl ?_
                refine aord_all [17] (by kernel_rfl) rfl ?_
                refine aord_all [18] (by kernel_rfl) rfl ?_
                refine And.intro (by first | exact app_le (by first | omega | (simp only [List.length_cons, List.length_nil]; omega) | (simp; omega)) (by decide) | omega | assumption | decide | (simp only [Int.toNat_natCast, dflt_sl, dflt_st, dflt_str, dflt_int, dflt_bool]; omega) | (simp <;> omega)) ?_
                refine aord_light 19 rfl rfl rfl (by kernel_rfl) ?_
                refine aord_light 20 rfl rfl rfl (by kernel_rfl) ?_
                refine aord_all [21] (by kernel_rfl) rfl ?_
                refine aord_done (by kernel_rfl) ?_
                exact ⟨(), trivial, le_of rfl ⟨rfl, rfl, rfl, rfl, rfl⟩ rfl⟩
            refine And.intro ?_ ?_
            · refine Or.inl ?_
              refine And.intro (rfl) ?_
              refine Exists.intro _ (And.intro (join_c q.blk ⟨#[10]⟩ (Nat.le_trans hb2.blk (by decide)) (Nat.le_trans (join_sz q.blk) (by have := hb2.blk; have := hb2.blb; omega))) ?_)
              refine aord_light 11 rfl rfl rfl (by kernel_rfl) ?_
              refine And.intro (by (have hk0 : ByteArray.size { data := #[10] } = 1 := rfl; first | (unfold maxLen; omega) | (simp only []; omega) | (unfold maxLen; (try simp only []); omega))) ?_
              refine aord_all [4, 15] (by kernel_rfl) rfl ?_
              refine And.intro ?_ ?_
              · refine aord_all [15] (by kernel_rfl) rfl ?_
                refine aord_all [16] (by kernel_rfl) rfl ?_
                refine aord_all [17] (by kernel_rfl) rfl ?_
                refine aord_all [18] (by kernel_rfl) rfl ?_
                refine And.intro (by first | exact app_le (by first | omega | (simp only [List.length_cons, List.length_nil]; omega) | (simp; omega)) (by decide) | omega | assumption | decide | (simp only [Int.toNat_natCast, dflt_sl, dflt_st, dflt_str, dflt_int, dflt_bool]; omega) | (simp <;> omega)) ?_
                refine aord_light 19 rfl rfl rfl (by kernel_rfl) ?_
                refine aord_light 20 rfl rfl rfl (by kernel_rfl) ?_
                refine aord_all [21] (by kernel_rfl) rfl ?_
                refine aord_done (by kernel_rfl) ?_
                exact ⟨(), trivial, le_of rfl ⟨rfl, rfl, rfl, rfl, rfl⟩ rfl⟩
              · refine aord_all [4, 16] (by kernel_rfl) rfl ?_
                refine And.intro ?_ ?_
                · refine aord_all [16] (by kernel_rfl) rfl ?_
                  refine aord_all [17] (by kernel_rfl) rfl ?_
                  refine aord_all [18] (by kernel_rfl) rfl ?_
                  refine And.intro (by first | exact app_le (by first | omega | (simp only [List.length_cons, List.length_nil]; omega) | (simp; omega)) (by decide) | omega | assumption | decide | (simp only [Int.toNat_natCast, dflt_sl, dflt_st, dflt_str, dflt_int, dflt_bool]; omega) | (simp <;> omega)) ?_
                  refine aord_light 19 rfl rfl rfl (by kernel_rfl) ?_
                  refine aord_light 20 rfl rfl rfl (by kernel_rfl) ?_
                  refine aord_all [21] (by kernel_rfl) rfl ?_
                  refine aord_done (by kernel_rfl) ?_
                  exact ⟨(), trivial, le_of rfl ⟨rfl, rfl, rfl, rfl, rfl⟩ rfl⟩
                · refine aord_all [4, 17] (by kernel_rfl) rfl ?_
                  refine And.intro ?_ ?_
                  · refine aord_all [17] (by kernel_rfl) rfl ?_
                    refine aord_all [18] (by kernel_rfl) rfl ?_
                    refine And.intro (by first | exact app_le (by first | omega | (simp only [List.length_cons, List.length_nil]; omega) | (simp; omega)) (by decide) | omega | assumption | decide | (simp only [Int.toNat_natCast, dflt_sl, dflt_st, dflt_str, dflt_int, dflt_bool]; omega) | (simp <;> omega)) ?_
                    refine aord_light 19 rfl rfl rfl (by kernel_rfl) ?_
                    refine aord_light 20 rfl rfl rfl (by kernel_rfl) ?_
                    refine aord_all [21] (by kernel_rfl) rfl ?_
                    refine aord_done (by kernel_rfl) ?_
                    exact ⟨(), trivial, le_of rfl ⟨rfl, rfl, rfl, rfl, rfl⟩ rfl⟩
                  · refine aord_all [4] (by kernel_rfl) rfl ?_
                    refine aord_all [18] (by kernel_rfl) rfl ?_
                    refine And.intro (by first | exact app_le (by first | omega | (simp only [List.length_cons, List.length_nil]; omega) | (simp; omega)) (by decide) | omega | assumption | decide | (simp only [Int.toNat_natCast, dflt_sl, dflt_st, dflt_str, dflt_int, dflt_bool]; omega) | (simp <;> omega)) ?_
                    refine aord_light 19 rfl rfl rfl (by kernel_rfl) ?_
                    refine aord_light 20 rfl rfl rfl (by kernel_rfl) ?_
                    refine aord_all [21] (by kernel_rfl) rfl ?_
                    refine aord_done (by kernel_rfl) ?_
                    exact ⟨(), trivial, le_of rfl ⟨rfl, rfl, rfl, rfl, rfl⟩ rfl⟩
            · refine aord_all [4, 10] (by kernel_rfl) rfl ?_
              refine And.intro ?_ ?_
              · refine aord_all [10] (by kernel_rfl) rfl ?_
                refine Or.inl ?_
                refine And.intro (rfl) ?_
                refine Exists.intro _ (And.intro (join_c q.blk ⟨#[10]⟩ (Nat.le_trans hb2.blk (by decide)) (Nat.le_trans (join_sz q.blk) (by have := hb2.blk; have := hb2.blb; omega))) ?_)
                refine aord_light 11 rfl rfl rfl (by kernel_rfl) ?_
                refine And.intro (by (have hk0 : ByteArray.size { data := #[10] } = 1 := rfl; first | (unfold maxLen; omega) | (simp only []; omega) | (unfold maxLen; (try simp only []); omega))) ?_
                refine aord_all [16] (by kernel_rfl) rfl ?_
                refine aord_all [17] (by kernel_rfl) rfl ?_
                refine aord_all [18] (by kernel_rfl) rfl ?_
                refine And.intro (by first | exact app_le (by first | omega | (simp only [List.length_cons, List.length_nil]; omega) | (simp; omega)) (by decide) | omega | assumption | decide | (simp only [Int.toNat_natCast, dflt_sl, dflt_st, dflt_str, dflt_int, dflt_bool]; omega) | (simp <;> omega)) ?_
                refine aord_light 19 rfl rfl rfl (by kernel_rfl) ?_
                refine aord_light 20 rfl rfl rfl (by kernel_rfl) ?_
                refine aord_all [21] (by kernel_rfl) rfl ?_
                refine aord_done (by kernel_rfl) ?_
                exact ⟨(), trivial, le_of rfl ⟨rfl, rfl, rfl, rfl, rfl⟩ rfl⟩
              · refine Or.inl ?_
                refine And.intro (rfl) ?_
                refine Exists.intro _ (And.intro (join_c q.blk ⟨#[10]⟩ (Nat.le_trans hb2.blk (by decide)) (Nat.le_trans (join_sz q.blk) (by have := hb2.blk; have := hb2.blb; omega))) ?_)
                refine aord_light 11 rfl rfl rfl (by kernel_rfl) ?_
                refine And.intro (by (have hk0 : ByteArray.size { data := #[10] } = 1 := rfl; first | (unfold maxLen; omega) | (simp only []; omega) | (unfold maxLen; (try simp only []); omega))) ?_
                refine aord_all [4, 16] (by kernel_rfl) rfl ?_
                refine And.intro ?_ ?_
                · refine aord_all [16] (by kernel_rfl) rfl ?_
                  refine aord_all [17] (by kernel_rfl) rfl ?_
                  refine aord_all [18] (by kernel_rfl) rfl ?_
                  refine And.intro (by first | exact app_le (by first | omega | (simp only [List.length_cons, List.length_nil]; omega) | (simp; omega)) (by decide) | omega | assumption | decide | (simp only [Int.toNat_natCast, dflt_sl, dflt_st, dflt_str, dflt_int, dflt_bool]; omega) | (simp <;> omega)) ?_
                  refine aord_light 19 rfl rfl rfl (by kernel_rfl) ?_
                  refine aord_light 20 rfl rfl rfl (by kernel_rfl) ?_
                  refine aord_all [21] (by kernel_rfl) rfl ?_
                  refine aord_done (by kernel_rfl) ?_
                  exact ⟨(), trivial, le_of rfl ⟨rfl, rfl, rfl, rfl, rfl⟩ rfl⟩
                · refine aord_all [4, 17] (by kernel_rfl) rfl ?_
                  refine And.intro ?_ ?_
                  · refine aord_all [17] (by kernel_rfl) rfl ?_
                    refine aord_all [18] (by kernel_rfl) rfl ?_
                    refine And.intro (by first | exact app_le (by first | omega | (simp only [List.length_cons, List.length_nil]; omega) | (simp; omega)) (by decide) | omega | assumption | decide | (simp only [Int.toNat_natCast, dflt_sl, dflt_st, dflt_str, dflt_int, dflt_bool]; omega) | (simp <;> omega)) ?_
                    refine aord_light 19 rfl rfl rfl (by kernel_rfl) ?_
                    refine aord_light 20 rfl rfl rfl (by kernel_rfl) ?_
                    refine aord_all [21] (by kernel_rfl) rfl ?_
                    refine aord_done (by kernel_rfl) ?_
                    exact ⟨(), trivial, le_of rfl ⟨rfl, rfl, rfl, rfl, rfl⟩ rfl⟩
                  · refine aord_all [4] (by kernel_rfl) rfl ?_
                    refine aord_all [18] (by kernel_rfl) rfl ?_
                    refine And.intro (by first | exact app_le (by first | omega | (simp only [List.length_cons, List.length_nil]; omega) | (simp; omega)) (by decide) | omega | assumption | decide | (simp only [Int.toNat_natCast, dflt_sl, dflt_st, dflt_str, dflt_int, dflt_bool]; omega) | (simp <;> omega)) ?_
                    refine aord_light 19 rfl rfl rfl (by kernel_rfl) ?_
                    refine aord_light 20 rfl rfl rfl (by kernel_rfl) ?_
                    refine aord_all [21] (by kernel_rfl) rfl ?_
                    refine aord_done (by kernel_rfl) ?_
                    exact ⟨(), trivial, le_of rfl ⟨rfl, rfl, rfl, rfl, rfl⟩ rfl⟩
          · refine aord_all [4, 9] (by kernel_rfl) rfl ?_
            refine And.intro ?_ ?_
            · refine aord_all [9] (by kernel_rfl) rfl ?_
              refine aord_all [10] (by kernel_rfl) rfl ?_
              refine Or.inl ?_
              refine And.intro (rfl) ?_
              refine Exists.intro _ (And.intro (join_c q.blk ⟨#[10]⟩ (Nat.le_trans hb2.blk (by decide)) (Nat.le_trans (join_sz q.blk) (by have := hb2.blk; have := hb2.blb; omega))) ?_)
              refine aord_light 11 rfl rfl rfl (by kernel_rfl) ?_
              refine And.intro (by (have hk0 : ByteArray.size { data := #[10] } = 1 := rfl; first | (unfold maxLen; omega) | (simp only []; omega) | (unfold maxLen; (try simp only []); omega))) ?_
              refine aord_all [16] (by kernel_rfl) rfl ?_
              refine aord_all [17] (by kernel_rfl) rfl ?_
              refine aord_all [18] (by kernel_rfl) rfl ?_
              refine And.intro (by first | exact app_le (by first | omega | (simp only [List.length_cons, List.length_nil]; omega) | (simp; omega)) (by decide) | omega | assumption | decide | (simp only [Int.toNat_natCast, dflt_sl, dflt_st, dflt_str, dflt_int, dflt_bool]; omega) | (simp <;> omega)) ?_
              refine aord_light 19 rfl rfl rfl (by kernel_rfl) ?_
              refine aord_light 20 rfl rfl rfl (by kernel_rfl) ?_
              refine aord_all [21] (by kernel_rfl) rfl ?_
              refine aord_done (by kernel_rfl) ?_
              exact ⟨(), trivial, le_of rfl ⟨rfl, rfl, rfl, rfl, rfl⟩ rfl⟩
            · refine aord_all [4, 10] (by kernel_rfl) rfl ?_
              refine And.intro ?_ ?_
              · refine aord_all [10] (by kernel_rfl) rfl ?_
                refine Or.inl ?_
                refine And.intro (rfl) ?_
                refine Exists.intro _ (And.intro (join_c q.blk ⟨#[10]⟩ (Nat.le_trans hb2.blk (by decide)) (Nat.le_trans (join_sz q.blk) (by have := hb2.blk; have := hb2.blb; omega))) ?_)
                refine aord_light 11 rfl rfl rfl (by kernel_rfl) ?_
                refine And.intro (by (have hk0 : ByteArray.size { data := #[10] } = 1 := rfl; first | (unfold maxLen; omega) | (simp only []; omega) | (unfold maxLen; (try simp only []); omega))) ?_
                refine aord_all [16] (by kernel_rfl) rfl ?_
                refine aord_all [17] (by kernel_rfl) rfl ?_
                refine aord_all [18] (by kernel_rfl) rfl ?_
                refine And.intro (by first | exact app_le (by first | omega | (simp only [List.length_cons, List.length_nil]; omega) | (simp; omega)) (by decide) | omega | assumption | decide | (simp only [Int.toNat_natCast, dflt_sl, dflt_st, dflt_str, dflt_int, dflt_bool]; omega) | (simp <;> omega)) ?_
                refine aord_light 19 rfl rfl rfl (by kernel_rfl) ?_
                refine aord_light 20 rfl rfl rfl (by kernel_rfl) ?_
                refine aord_all [21] (by kernel_rfl) rfl ?_
                refine aord_done (by kernel_rfl) ?_
                exact ⟨(), trivial, le_of rfl ⟨rfl, rfl, rfl, rfl, rfl⟩ rfl⟩
              · refine Or.inl ?_
                refine And.intro (rfl) ?_
                refine Exists.intro _ (And.intro (join_c q.blk ⟨#[10]⟩ (Nat.le_trans hb2.blk (by decide)) (Nat.le_trans (join_sz q.blk) (by have := hb2.blk; have := hb2.blb; omega))) ?_)
                refine aord_light 11 rfl rfl rfl (by kernel_rfl) ?_
                refine And.intro (by (have hk0 : ByteArray.size { data := #[10] } = 1 := rfl; first | (unfold maxLen; omega) | (simp only []; omega) | (unfold maxLen; (try simp only []); omega))) ?_
                refine aord_all [4, 16] (by kernel_rfl) rfl ?_
                refine And.intro ?_ ?_
                · refine aord_all [16] (by kernel_rfl) rfl ?_
                  refine aord_all [17] (by kernel_rfl) rfl ?_
                  refine aord_all [18] (by kernel_rfl) rfl ?_
                  refine And.intro (by first | exact app_le (by first | omega | (simp only [List.length_cons, List.length_nil]; omega) | (simp; omega)) (by decide) | omega | assumption | decide | (simp only [Int.toNat_natCast, dflt_sl, dflt_st, dflt_str, dflt_int, dflt_bool]; omega) | (simp <;> omega)) ?_
                  refine aord_light 19 rfl rfl rfl (by kernel_rfl) ?_
                  refine aord_light 20 rfl rfl rfl (by kernel_rfl) ?_
                  refine aord_all [21] (by kernel_rfl) rfl ?_
                  refine aord_done (by kernel_rfl) ?_
                  exact ⟨(), trivial, le_of rfl ⟨rfl, rfl, rfl, rfl, rfl⟩ rfl⟩
                · refine aord_all [4, 17] (by kernel_rfl) rfl ?_
                  refine And.intro ?_ ?_
                  · refine aord_all [17] (by kernel_rfl) rfl ?_
                    refine aord_all [18] (by kernel_rfl) rfl ?_
                    refine And.intro (by first | exact app_le (by first | omega | (simp only [List.length_cons, List.length_nil]; omega) | (simp; omega)) (by decide) | omega | assumption | decide | (simp only [Int.toNat_natCast, dflt_sl, dflt_st, dflt_str, dflt_int, dflt_bool]; omega) | (simp <;> omega)) ?_
                    refine aord_light 19 rfl rfl rfl (by kernel_rfl) ?_
                    refine aord_light 20 rfl rfl rfl (by kernel_rfl) ?_
                    refine aord_all [21] (by kernel_rfl) rfl ?_
                    refine aord_done (by kernel_rfl) ?_
                    exact ⟨(), trivial, le_of rfl ⟨rfl, rfl, rfl, rfl, rfl⟩ rfl⟩
                  · refine aord_all [4] (by kernel_rfl) rfl ?_
                    refine aord_all [18] (by kernel_rfl) rfl ?_
                    refine And.intro (by first | exact app_le (by first | omega | (simp only [List.length_cons, List.length_nil]; omega) | (simp; omega)) (by decide) | omega | assumption | decide | (simp only [Int.toNat_natCast, dflt_sl, dflt_st, dflt_str, dflt_int, dflt_bool]; omega) | (simp <;> omega)) ?_
                    refine aord_light 19 rfl rfl rfl (by kernel_rfl) ?_
                    refine aord_light 20 rfl rfl rfl (by kernel_rfl) ?_
                    refine aord_all [21] (by kernel_rfl) rfl ?_
                    refine aord_done (by kernel_rfl) ?_
                    exact ⟨(), trivial, le_of rfl ⟨rfl, rfl, rfl, rfl, rfl⟩ rfl⟩
      · try simp only [decide_eq_false_iff_not, Int.not_lt] at h15
        try simp only [Int.toNat_natCast, dflt_sl, dflt_st, dflt_str, dflt_int, dflt_bool] at h15
        exact absurd (List.eq_nil_of_length_eq_zero (by omega)) hq
    · intro u hcut10
      refine acode_seq ?_
      refine acode_region ?_
      refine acode_seq ?_
      refine acode_nilcell 0 4 9 .str rfl rfl rfl ?_
      refine acode_swap 3 5 rfl rfl ?_
      refine acode_nilcell 0 5 91 rFld rfl rfl rfl ?_
      refine acode_swap 4 6 rfl rfl ?_
      refine acode_region ?_
      refine acode_ret ?_
      exact ⟨rfl, ⟨rfl, rfl, rfl, rfl, rfl⟩, rfl⟩
theorem end_ok {p q : PSt} (h : endS p = .inr q) (hb : PB p 1000000) : ACallO Tryz.prog 77 [.one (.own 0 0)] (psO p) 5 (.one (.lit .nilIface)) (psO q) 5 := by
  unfold endS at h
  split at h
  · cases h
  · rename_i r e
    cases h
    have hb2 : PB r 2000000 := (flushS_B hb e).mono (by decide)
    unfold closeS
    split
    · rename_i h0; exact end_nil e h0 hb
    · rename_i h0; exact end_blk e h0 hb hb2
theorem end_err {p : PSt} {at_ n : Int} (h : endS p = .inl (at_, n)) (hb : PB p 1000000) : ACallO Tryz.prog 77 [.one (.own 0 0)] (psO p) 5 (.one (errF at_ n)) [] 5 := by
  have h : flushS p = .inl (at_, n) := by
    unfold endS at h
    split at h
    · rename_i e; cases h; exact e
    · cases h
  refine acallo_of (rs := [2]) Tryz.func77 rfl rfl rfl teOk (by decide) rfl ?_
  refine acode_seq ?_
  refine acode_region ?_
  refine acode_seq ?_
  refine acode_seq ?_
  refine acode_region ?_
  refine Or.inr (Or.inl (Exists.intro [] (Exists.intro [0, 1, 2, 3, 4] (Exists.intro _ (Exists.intro _ (Exists.intro _ (Exists.intro _ (Exists.intro _ (And.intro (flush_err h hb) (And.intro rfl (And.intro (And.intro (And.intro rfl rfl) (And.intro (And.intro rfl rfl) (And.intro (And.intro rfl rfl) (And.intro (And.intro rfl rfl) (And.intro (And.intro rfl rfl) True.intro))))) (And.intro rfl ?_))))))))))))
  refine acode_seq ?_
  refine acode_region ?_
  refine acode_cond rfl (fun h8 => ?_) (fun h8 => ?_)
  · skip
    refine acode_seq ?_
    refine acode_region ?_
    refine acode_ret ?_
    exact ⟨rfl, trivial, rfl⟩
  · try simp only [decide_eq_true_eq, decide_eq_false_iff_not, Bool.and_eq_true, Bool.not_eq_true', Bool.not_eq_false', Bool.or_eq_false_iff, Bool.or_eq_true, Bool.and_eq_false_iff, Int.not_lt, Int.not_le] at h8
    try simp only [Int.toNat_natCast, dflt_sl, dflt_st, dflt_str, dflt_int, dflt_bool] at h8
    cases h8
end Q
end Ab
end Go.Proofs.YtklhlkhlndhepaaGreatDoor
namespace Go.Proofs.YtklhlkhlndhepaaGreatDoor
open Go.RowKit
namespace Ab
set_option maxRecDepth 100000
namespace Q
theorem begin_c (p : PSt) (l : Lne) (_hb : PB p 1000000) : ACallO Tryz.prog 120 [.one (.own 0 0), .agg (toL rLne l)] (psO p) 5 (.tup []) (psO (beginS p l)) 5 := by
  refine acallo_of (rs := []) Tryz.func120 rfl rfl rfl teOk (by decide) rfl ?_
  refine acode_seq ?_
  refine acode_region ?_
  refine acode_seq ?_
  refine acode_region ?_
  intro l1_4
  try simp only [Int.toNat_natCast, dflt_sl, dflt_st, dflt_str, dflt_int, dflt_bool] at l1_4
  refine And.intro (fun h => trivial) ?_
  refine And.intro (fun h => ⟨⟨h, trivial⟩, trivial⟩) ?_
  refine And.intro (fun h => ⟨⟨h, trivial⟩, trivial⟩) ?_
  refine And.intro (fun h => ⟨⟨h, trivial⟩, trivial⟩) ?_
  refine And.intro (fun h => ⟨⟨h, trivial⟩, trivial⟩) ?_
  refine And.intro (fun h => ⟨⟨h, trivial⟩, trivial⟩) ?_
  refine And.intro (fun h => ⟨⟨h, trivial⟩, trivial⟩) ?_
  refine And.intro (fun h => trivial) ?_
  refine And.intro (fun h => ⟨⟨h, trivial⟩, trivial⟩) ?_
  refine And.intro (fun h => ⟨⟨h, trivial⟩, trivial⟩) ?_
  refine And.intro (fun h => ⟨⟨h, trivial⟩, trivial⟩) ?_
  refine And.intro (fun h => ⟨⟨h, trivial⟩, trivial⟩) ?_
  refine And.intro (fun h => ⟨⟨⟨h, trivial⟩, trivial⟩, by first | exact fun h2 => h2 | (intro h2; rw [h, h2]; rfl) | (intro h2; cases h2) | (intro h2; simp_all [gq])⟩) ?_
  refine And.intro (by first | (intro h; rw [h]; rfl) | (intro h; cases h)) ?_
  refine acode_mend 1 6 ?_
  refine acode_region ?_
  exact ⟨rfl, rfl, rfl, ⟨rfl, rfl, rfl, rfl, rfl⟩, rfl⟩
theorem ahead_none {p : PSt} (l : Lne) (h : p.lns = []) : ACallO Tryz.prog 118 [.one (.own 0 0), .agg (toL rLne l), ii .i64 3] (psO p) 5 (.one (errF l.1 2)) [] 5 := by
  refine acallo_of (rs := [6]) Tryz.func118 rfl rfl rfl teOk (by decide) rfl ?_
  refine acode_seq ?_
  refine acode_region ?_
  refine acode_seq ?_
  refine acode_seq ?_
  refine acode_region ?_
  refine acode_block ?_
  refine acode_seq ?_
  refine acode_region ?_
  refine acode_cond rfl (fun h8 => ?_) (fun h8 => ?_)
  · try simp only [decide_eq_true_eq] at h8
    try simp only [Int.toNat_natCast, dflt_sl, dflt_st, dflt_str, dflt_int, dflt_bool] at h8
    refine acode_seq ?_
    refine acode_seq ?_
    refine acode_region ?_
    intro l3_5
    try simp only [Int.toNat_natCast, dflt_sl, dflt_st, dflt_str, dflt_int, dflt_bool] at l3_5
    refine acode_cond rfl (fun h16 => ?_) (fun h16 => ?_)
    · try simp only [decide_eq_true_eq] at h16
      try simp only [Int.toNat_natCast, dflt_sl, dflt_st, dflt_str, dflt_int, dflt_bool] at h16
      refine acode_seq ?_
      refine acode_region ?_
      refine Or.inl ?_
      refine And.intro (rfl) ?_
      refine Exists.intro _ (And.intro (fault_c l.1 2) ?_)
      refine acode_ret ?_
      exact ⟨rfl, trivial, rfl⟩
    · try simp only [decide_eq_false_iff_not] at h16
      try simp only [Int.toNat_natCast, dflt_sl, dflt_st, dflt_str, dflt_int, dflt_bool] at h16
      exact absurd (by rw [h]; rfl) h16
  · try simp only [decide_eq_false_iff_not] at h8
    try simp only [Int.toNat_natCast, dflt_sl, dflt_st, dflt_str, dflt_int, dflt_bool] at h8
    exact absurd trivial h8
theorem ahead_more {p : PSt} {l : Lne} (h : p.lns ≠ []) (he : l.2.2.2 = true) (hb : PB p 1000000) : ACallO Tryz.prog 118 [.one (.own 0 0), .agg (toL rLne l), ii .i64 3] (psO p) 5 (.one (.lit .nilIface)) (psO { p with lns := p.lns ++ [l.2.2.1] }) 5 := by
  have hl := hb.lns
  refine acallo_of (rs := [6]) Tryz.func118 rfl rfl rfl teOk (by decide) rfl ?_
  refine acode_seq ?_
  refine acode_region ?_
  refine acode_seq ?_
  refine acode_seq ?_
  refine acode_region ?_
  refine acode_block ?_
  refine acode_seq ?_
  refine acode_region ?_
  refine acode_cond rfl (fun h8 => ?_) (fun h8 => ?_)
  · try simp only [decide_eq_true_eq] at h8
    try simp only [Int.toNat_natCast, dflt_sl, dflt_st, dflt_str, dflt_int, dflt_bool] at h8
    refine acode_seq ?_
    refine acode_seq ?_
    refine acode_region ?_
    intro l3_5
    try simp only [Int.toNat_natCast, dflt_sl, dflt_st, dflt_str, dflt_int, dflt_bool] at l3_5
    refine acode_cond rfl (fun h16 => ?_) (fun h16 => ?_)
    · try simp only [decide_eq_true_eq] at h16
      try simp only [Int.toNat_natCast, dflt_sl, dflt_st, dflt_str, dflt_int, dflt_bool] at h16
      exact absurd (List.eq_nil_of_length_eq_zero (by omega)) h
    · try simp only [decide_eq_false_iff_not] at h16
      try simp only [Int.toNat_natCast, dflt_sl, dflt_st, dflt_str, dflt_int, dflt_bool] at h16
      refine acode_skip ?_
      refine acode_seq ?_
      refine acode_ord rfl ?_
      refine aord_light 0 rfl rfl rfl (by kernel_rfl) ?_
      refine aord_light 1 rfl rfl rfl (by kernel_rfl) ?_
      refine aord_light 2 rfl rfl rfl (by kernel_rfl) ?_
      refine aord_light 3 rfl rfl rfl (by kernel_rfl) ?_
      refine aord_light 4 rfl rfl rfl (by kernel_rfl) ?_
      refine aord_light 6 rfl rfl rfl (by kernel_rfl) ?_
      refine aord_all [5, 7] (by kernel_rfl) rfl ?_
      refine And.intro ?_ ?_
      · refine aord_all [7] (by kernel_rfl) rfl ?_
        refine aord_all [8] (by kernel_rfl) rfl ?_
        refine aord_all [9] (by kernel_rfl) rfl ?_
        refine And.intro (by first | exact app_le (by first | omega | (simp only [List.length_cons, List.length_nil]; omega) | (simp; omega)) (by decide) | omega | assumption | decide | (simp only [Int.toNat_natCast, dflt_sl, dflt_st, dflt_str, dflt_int, dflt_bool]; omega) | (simp <;> omega)) ?_
        refine aord_light 10 rfl rfl rfl (by kernel_rfl) ?_
        refine aord_light 11 rfl rfl rfl (by kernel_rfl) ?_
        refine aord_light 12 rfl rfl rfl (by kernel_rfl) ?_
        refine aord_all [13] (by kernel_rfl) rfl ?_
        refine aord_done (by kernel_rfl) ?_
        refine acode_seq ?_
        refine acode_seq ?_
        refine acode_region ?_
        refine acode_cond rfl (fun h35 => ?_) (fun h35 => ?_)
        · try simp only [decide_eq_true_eq, decide_eq_false_iff_not, Bool.and_eq_true, Bool.not_eq_true', Bool.not_eq_false', Bool.or_eq_false_iff, Bool.or_eq_true, Bool.and_eq_false_iff, Int.not_lt, Int.not_le] at h35
          try simp only [Int.toNat_natCast, dflt_sl, dflt_st, dflt_str, dflt_int, dflt_bool] at h35
          refine acode_seq ?_
          refine acode_region ?_
          refine acode_ret ?_
          exact ⟨rfl, ⟨rfl, rfl, rfl, rfl, rfl⟩, rfl⟩
        · try simp only [decide_eq_true_eq, decide_eq_false_iff_not, Bool.and_eq_true, Bool.not_eq_true', Bool.not_eq_false', Bool.or_eq_false_iff, Bool.or_eq_true, Bool.and_eq_false_iff, Int.not_lt, Int.not_le] at h35
          try simp only [Int.toNat_natCast, dflt_sl, dflt_st, dflt_str, dflt_int, dflt_bool] at h35
          exact absurd h35 (by rw [he]; decide)
      · refine aord_all [5, 8] (by kernel_rfl) rfl ?_
        refine And.intro ?_ ?_
        · refine aord_all [8] (by kernel_rfl) rfl ?_
          refine aord_all [9] (by kernel_rfl) rfl ?_
          refine And.intro (by first | exact app_le (by first | omega | (simp only [List.length_cons, List.length_nil]; omega) | (simp; omega)) (by decide) | omega | assumption | decide | (simp only [Int.toNat_natCast, dflt_sl, dflt_st, dflt_str, dflt_int, dflt_bool]; omega) | (simp <;> omega)) ?_
          refine aord_light 10 rfl rfl rfl (by kernel_rfl) ?_
          refine aord_light 11 rfl rfl rfl (by kernel_rfl) ?_
          refine aord_light 12 rfl rfl rfl (by kernel_rfl) ?_
          refine aord_all [13] (by kernel_rfl) rfl ?_
          refine aord_done (by kernel_rfl) ?_
          refine acode_seq ?_
          refine acode_seq ?_
          refine acode_region ?_
          refine acode_cond rfl (fun h35 => ?_) (fun h35 => ?_)
          · try simp only [decide_eq_true_eq, decide_eq_false_iff_not, Bool.and_eq_true, Bool.not_eq_true', Bool.not_eq_false', Bool.or_eq_false_iff, Bool.or_eq_true, Bool.and_eq_false_iff, Int.not_lt, Int.not_le] at h35
            try simp only [Int.toNat_natCast, dflt_sl, dflt_st, dflt_str, dflt_int, dflt_bool] at h35
            refine acode_seq ?_
            refine acode_region ?_
            refine acode_ret ?_
            exact ⟨rfl, ⟨rfl, rfl, rfl, rfl, rfl⟩, rfl⟩
          · try simp only [decide_eq_true_eq, decide_eq_false_iff_not, Bool.and_eq_true, Bool.not_eq_true', Bool.not_eq_false', Bool.or_eq_false_iff, Bool.or_eq_true, Bool.and_eq_false_iff, Int.not_lt, Int.not_le] at h35
            try simp only [Int.toNat_natCast, dflt_sl, dflt_st, dflt_str, dflt_int, dflt_bool] at h35
            exact absurd h35 (by rw [he]; decide)
        · refine aord_all [5] (by kernel_rfl) rfl ?_
          refine aord_all [9] (by kernel_rfl) rfl ?_
          refine And.intro (by first | exact app_le (by first | omega | (simp only [List.length_cons, List.length_nil]; omega) | (simp; omega)) (by decide) | omega | assumption | decide | (simp only [Int.toNat_natCast, dflt_sl, dflt_st, dflt_str, dflt_int, dflt_bool]; omega) | (simp <;> omega)) ?_
          refine aord_light 10 rfl rfl rfl (by kernel_rfl) ?_
          refine aord_light 11 rfl rfl rfl (by kernel_rfl) ?_
          refine aord_light 12 rfl rfl rfl (by kernel_rfl) ?_
          refine aord_all [13] (by kernel_rfl) rfl ?_
          refine aord_done (by kernel_rfl) ?_
          refine acode_seq ?_
          refine acode_seq ?_
          refine acode_region ?_
          refine acode_cond rfl (fun h35 => ?_) (fun h35 => ?_)
          · try simp only [decide_eq_true_eq, decide_eq_false_iff_not, Bool.and_eq_true, Bool.not_eq_true', Bool.not_eq_false', Bool.or_eq_false_iff, Bool.or_eq_true, Bool.and_eq_false_iff, Int.not_lt, Int.not_le] at h35
            try simp only [Int.toNat_natCast, dflt_sl, dflt_st, dflt_str, dflt_int, dflt_bool] at h35
            refine acode_seq ?_
            refine acode_region ?_
            refine acode_ret ?_
            exact ⟨rfl, ⟨rfl, rfl, rfl, rfl, rfl⟩, rfl⟩
          · try simp only [decide_eq_true_eq, decide_eq_false_iff_not, Bool.and_eq_true, Bool.not_eq_true', Bool.not_eq_false', Bool.or_eq_false_iff, Bool.or_eq_true, Bool.and_eq_false_iff, Int.not_lt, Int.not_le] at h35
            try simp only [Int.toNat_natCast, dflt_sl, dflt_st, dflt_str, dflt_int, dflt_bool] at h35
            exact absurd h35 (by rw [he]; decide)
  · try simp only [decide_eq_false_iff_not] at h8
    try simp only [Int.toNat_natCast, dflt_sl, dflt_st, dflt_str, dflt_int, dflt_bool] at h8
    exact absurd trivial h8
theorem ahead_last {p q : PSt} {l : Lne} (h : p.lns ≠ []) (he : l.2.2.2 = false) (hb : PB p 900000) (hs : l.2.2.1.size ≤ 90000) (hf : flushS { p with lns := p.lns ++ [l.2.2.1] } = .inr q) : ACallO Tryz.prog 118 [.one (.own 0 0), .agg (toL rLne l), ii .i64 3] (psO p) 5 (.one (.lit .nilIface)) (psO q) 5 := by
  have hl := hb.lns
  refine acallo_of (rs := [6]) Tryz.func118 rfl rfl rfl teOk (by decide) rfl ?_
  refine acode_seq ?_
  refine acode_region ?_
  refine acode_seq ?_
  refine acode_seq ?_
  refine acode_region ?_
  refine acode_block ?_
  refine acode_seq ?_
  refine acode_region ?_
  refine acode_cond rfl (fun h8 => ?_) (fun h8 => ?_)
  · try simp only [decide_eq_true_eq] at h8
    try simp only [Int.toNat_natCast, dflt_sl, dflt_st, dflt_str, dflt_int, dflt_bool] at h8
    refine acode_seq ?_
    refine acode_seq ?_
    refine acode_region ?_
    intro l3_5
    try simp only [Int.toNat_natCast, dflt_sl, dflt_st, dflt_str, dflt_int, dflt_bool] at l3_5
    refine acode_cond rfl (fun h16 => ?_) (fun h16 => ?_)
    · try simp only [decide_eq_true_eq] at h16
      try simp only [Int.toNat_natCast, dflt_sl, dflt_st, dflt_str, dflt_int, dflt_bool] at h16
      exact absurd (List.eq_nil_of_length_eq_zero (by omega)) h
    · try simp only [decide_eq_false_iff_not] at h16
      try simp only [Int.toNat_natCast, dflt_sl, dflt_st, dflt_str, dflt_int, dflt_bool] at h16
      refine acode_skip ?_
      refine acode_seq ?_
      refine acode_ord rfl ?_
      refine aord_light 0 rfl rfl rfl (by kernel_rfl) ?_
      refine aord_light 1 rfl rfl rfl (by kernel_rfl) ?_
      refine aord_light 2 rfl rfl rfl (by kernel_rfl) ?_
      refine aord_light 3 rfl rfl rfl (by kernel_rfl) ?_
      refine aord_light 4 rfl rfl rfl (by kernel_rfl) ?_
      refine aord_light 6 rfl rfl rfl (by kernel_rfl) ?_
      refine aord_all [5, 7] (by kernel_rfl) rfl ?_
      refine And.intro ?_ ?_
      · refine aord_all [7] (by kernel_rfl) rfl ?_
        refine aord_all [8] (by kernel_rfl) rfl ?_
        refine aord_all [9] (by kernel_rfl) rfl ?_
        refine And.intro (by first | exact app_le (by first | omega | (simp only [List.length_cons, List.length_nil]; omega) | (simp; omega)) (by decide) | omega | assumption | decide | (simp only [Int.toNat_natCast, dflt_sl, dflt_st, dflt_str, dflt_int, dflt_bool]; omega) | (simp <;> omega)) ?_
        refine aord_light 10 rfl rfl rfl (by kernel_rfl) ?_
        refine aord_light 11 rfl rfl rfl (by kernel_rfl) ?_
        refine aord_light 12 rfl rfl rfl (by kernel_rfl) ?_
        refine aord_all [13] (by kernel_rfl) rfl ?_
        refine aord_done (by kernel_rfl) ?_
        refine acode_seq ?_
        refine acode_seq ?_
        refine acode_region ?_
        refine acode_cond rfl (fun h35 => ?_) (fun h35 => ?_)
        · try simp only [decide_eq_true_eq, decide_eq_false_iff_not, Bool.and_eq_true, Bool.not_eq_true', Bool.not_eq_false', Bool.or_eq_false_iff, Bool.or_eq_true, Bool.and_eq_false_iff, Int.not_lt, Int.not_le] at h35
          try simp only [Int.toNat_natCast, dflt_sl, dflt_st, dflt_str, dflt_int, dflt_bool] at h35
          exact absurd h35 (by rw [he]; decide)
        · try simp only [decide_eq_true_eq, decide_eq_false_iff_not, Bool.and_eq_true, Bool.not_eq_true', Bool.not_eq_false', Bool.or_eq_false_iff, Bool.or_eq_true, Bool.and_eq_false_iff, Int.not_lt, Int.not_le] at h35
          try simp only [Int.toNat_natCast, dflt_sl, dflt_st, dflt_str, dflt_int, dflt_bool] at h35
          refine acode_skip ?_
          refine acode_seq ?_
          refine acode_region ?_
          refine Or.inr (Or.inl (Exists.intro [] (Exists.intro [0, 1, 2, 3, 4] (Exists.intro _ (Exists.intro _ (Exists.intro _ (Exists.intro _ (Exists.intro _ (And.intro (flush_ok hf ((more_B _ hb).mono (by omega))) (And.intro rfl (And.intro (And.intro (And.intro rfl rfl) (And.intro (And.intro rfl rfl) (And.intro (And.intro rfl rfl) (And.intro (And.intro rfl rfl) (And.intro (And.intro rfl rfl) True.intro))))) (And.intro rfl ?_))))))))))))
          refine acode_ret ?_
          exact ⟨rfl, ⟨rfl, rfl, rfl, rfl, rfl⟩, rfl⟩
      · refine aord_all [5, 8] (by kernel_rfl) rfl ?_
        refine And.intro ?_ ?_
        · refine aord_all [8] (by kernel_rfl) rfl ?_
          refine aord_all [9] (by kernel_rfl) rfl ?_
          refine And.intro (by first | exact app_le (by first | omega | (simp only [List.length_cons, List.length_nil]; omega) | (simp; omega)) (by decide) | omega | assumption | decide | (simp only [Int.toNat_natCast, dflt_sl, dflt_st, dflt_str, dflt_int, dflt_bool]; omega) | (simp <;> omega)) ?_
          refine aord_light 10 rfl rfl rfl (by kernel_rfl) ?_
          refine aord_light 11 rfl rfl rfl (by kernel_rfl) ?_
          refine aord_light 12 rfl rfl rfl (by kernel_rfl) ?_
          refine aord_all [13] (by kernel_rfl) rfl ?_
          refine aord_done (by kernel_rfl) ?_
          refine acode_seq ?_
          refine acode_seq ?_
          refine acode_region ?_
          refine acode_cond rfl (fun h35 => ?_) (fun h35 => ?_)
          · try simp only [decide_eq_true_eq, decide_eq_false_iff_not, Bool.and_eq_true, Bool.not_eq_true', Bool.not_eq_false', Bool.or_eq_false_iff, Bool.or_eq_true, Bool.and_eq_false_iff, Int.not_lt, Int.not_le] at h35
            try simp only [Int.toNat_natCast, dflt_sl, dflt_st, dflt_str, dflt_int, dflt_bool] at h35
            exact absurd h35 (by rw [he]; decide)
          · try simp only [decide_eq_true_eq, decide_eq_false_iff_not, Bool.and_eq_true, Bool.not_eq_true', Bool.not_eq_false', Bool.or_eq_false_iff, Bool.or_eq_true, Bool.and_eq_false_iff, Int.not_lt, Int.not_le] at h35
            try simp only [Int.toNat_natCast, dflt_sl, dflt_st, dflt_str, dflt_int, dflt_bool] at h35
            refine acode_skip ?_
            refine acode_seq ?_
            refine acode_region ?_
            refine Or.inr (Or.inl (Exists.intro [] (Exists.intro [0, 1, 2, 3, 4] (Exists.intro _ (Exists.intro _ (Exists.intro _ (Exists.intro _ (Exists.intro _ (And.intro (flush_ok hf ((more_B _ hb).mono (by omega))) (And.intro rfl (And.intro (And.intro (And.intro rfl rfl) (And.intro (And.intro rfl rfl) (And.intro (And.intro rfl rfl) (And.intro (And.intro rfl rfl) (And.intro (And.intro rfl rfl) True.intro))))) (And.intro rfl ?_))))))))))))
            refine acode_ret ?_
            exact ⟨rfl, ⟨rfl, rfl, rfl, rfl, rfl⟩, rfl⟩
        · refine aord_all [5] (by kernel_rfl) rfl ?_
          refine aord_all [9] (by kernel_rfl) rfl ?_
          refine And.intro (by first | exact app_le (by first | omega | (simp only [List.length_cons, List.length_nil]; omega) | (simp; omega)) (by decide) | omega | assumption | decide | (simp only [Int.toNat_natCast, dflt_sl, dflt_st, dflt_str, dflt_int, dflt_bool]; omega) | (simp <;> omega)) ?_
          refine aord_light 10 rfl rfl rfl (by kernel_rfl) ?_
          refine aord_light 11 rfl rfl rfl (by kernel_rfl) ?_
          refine aord_light 12 rfl rfl rfl (by kernel_rfl) ?_
          refine aord_all [13] (by kernel_rfl) rfl ?_
          refine aord_done (by kernel_rfl) ?_
          refine acode_seq ?_
          refine acode_seq ?_
          refine acode_region ?_
          refine acode_cond rfl (fun h35 => ?_) (fun h35 => ?_)
          · try simp only [decide_eq_true_eq, decide_eq_false_iff_not, Bool.and_eq_true, Bool.not_eq_true', Bool.not_eq_false', Bool.or_eq_false_iff, Bool.or_eq_true, Bool.and_eq_false_iff, Int.not_lt, Int.not_le] at h35
            try simp only [Int.toNat_natCast, dflt_sl, dflt_st, dflt_str, dflt_int, dflt_bool] at h35
            exact absurd h35 (by rw [he]; decide)
          · try simp only [decide_eq_true_eq, decide_eq_false_iff_not, Bool.and_eq_true, Bool.not_eq_true', Bool.not_eq_false', Bool.or_eq_false_iff, Bool.or_eq_true, Bool.and_eq_false_iff, Int.not_lt, Int.not_le] at h35
            try simp only [Int.toNat_natCast, dflt_sl, dflt_st, dflt_str, dflt_int, dflt_bool] at h35
            refine acode_skip ?_
            refine acode_seq ?_
            refine acode_region ?_
            refine Or.inr (Or.inl (Exists.intro [] (Exists.intro [0, 1, 2, 3, 4] (Exists.intro _ (Exists.intro _ (Exists.intro _ (Exists.intro _ (Exists.intro _ (And.intro (flush_ok hf ((more_B _ hb).mono (by omega))) (And.intro rfl (And.intro (And.intro (And.intro rfl rfl) (And.intro (And.intro rfl rfl) (And.intro (And.intro rfl rfl) (And.intro (And.intro rfl rfl) (And.intro (And.intro rfl rfl) True.intro))))) (And.intro rfl ?_))))))))))))
            refine acode_ret ?_
            exact ⟨rfl, ⟨rfl, rfl, rfl, rfl, rfl⟩, rfl⟩
  · try simp only [decide_eq_false_iff_not] at h8
    try simp only [Int.toNat_natCast, dflt_sl, dflt_st, dflt_str, dflt_int, dflt_bool] at h8
    exact absurd trivial h8
theorem ahead_fail {p : PSt} {l : Lne} {at_ n : Int} (h : p.lns ≠ []) (he : l.2.2.2 = false) (hb : PB p 900000) (hs : l.2.2.1.size ≤ 90000) (hf : flushS { p with lns := p.lns ++ [l.2.2.1] } = .inl (at_, n)) : ACallO Tryz.prog 118 [.one (.own 0 0), .agg (toL rLne l), ii .i64 3] (psO p) 5 (.one (errF at_ n)) [] 5 := by
  have hl := hb.lns
  refine acallo_of (rs := [6]) Tryz.func118 rfl rfl rfl teOk (by decide) rfl ?_
  refine acode_seq ?_
  refine acode_region ?_
  refine acode_seq ?_
  refine acode_seq ?_
  refine acode_region ?_
  refine acode_block ?_
  refine acode_seq ?_
  refine acode_region ?_
  refine acode_cond rfl (fun h8 => ?_) (fun h8 => ?_)
  · try simp only [decide_eq_true_eq] at h8
    try simp only [Int.toNat_natCast, dflt_sl, dflt_st, dflt_str, dflt_int, dflt_bool] at h8
    refine acode_seq ?_
    refine acode_seq ?_
    refine acode_region ?_
    intro l3_5
    try simp only [Int.toNat_natCast, dflt_sl, dflt_st, dflt_str, dflt_int, dflt_bool] at l3_5
    refine acode_cond rfl (fun h16 => ?_) (fun h16 => ?_)
    · try simp only [decide_eq_true_eq] at h16
      try simp only [Int.toNat_natCast, dflt_sl, dflt_st, dflt_str, dflt_int, dflt_bool] at h16
      exact absurd (List.eq_nil_of_length_eq_zero (by omega)) h
    · try simp only [decide_eq_false_iff_not] at h16
      try simp only [Int.toNat_natCast, dflt_sl, dflt_st, dflt_str, dflt_int, dflt_bool] at h16
      refine acode_skip ?_
      refine acode_seq ?_
      refine acode_ord rfl ?_
      refine aord_light 0 rfl rfl rfl (by kernel_rfl) ?_
      refine aord_light 1 rfl rfl rfl (by kernel_rfl) ?_
      refine aord_light 2 rfl rfl rfl (by kernel_rfl) ?_
      refine aord_light 3 rfl rfl rfl (by kernel_rfl) ?_
      refine aord_light 4 rfl rfl rfl (by kernel_rfl) ?_
      refine aord_light 6 rfl rfl rfl (by kernel_rfl) ?_
      refine aord_all [5, 7] (by kernel_rfl) rfl ?_
      refine And.intro ?_ ?_
      · refine aord_all [7] (by kernel_rfl) rfl ?_
        refine aord_all [8] (by kernel_rfl) rfl ?_
        refine aord_all [9] (by kernel_rfl) rfl ?_
        refine And.intro (by first | exact app_le (by first | omega | (simp only [List.length_cons, List.length_nil]; omega) | (simp; omega)) (by decide) | omega | assumption | decide | (simp only [Int.toNat_natCast, dflt_sl, dflt_st, dflt_str, dflt_int, dflt_bool]; omega) | (simp <;> omega)) ?_
        refine aord_light 10 rfl rfl rfl (by kernel_rfl) ?_
        refine aord_light 11 rfl rfl rfl (by kernel_rfl) ?_
        refine aord_light 12 rfl rfl rfl (by kernel_rfl) ?_
        refine aord_all [13] (by kernel_rfl) rfl ?_
        refine aord_done (by kernel_rfl) ?_
        refine acode_seq ?_
        refine acode_seq ?_
        refine acode_region ?_
        refine acode_cond rfl (fun h35 => ?_) (fun h35 => ?_)
        · try simp only [decide_eq_true_eq, decide_eq_false_iff_not, Bool.and_eq_true, Bool.not_eq_true', Bool.not_eq_false', Bool.or_eq_false_iff, Bool.or_eq_true, Bool.and_eq_false_iff, Int.not_lt, Int.not_le] at h35
          try simp only [Int.toNat_natCast, dflt_sl, dflt_st, dflt_str, dflt_int, dflt_bool] at h35
          exact absurd h35 (by rw [he]; decide)
        · try simp only [decide_eq_true_eq, decide_eq_false_iff_not, Bool.and_eq_true, Bool.not_eq_true', Bool.not_eq_false', Bool.or_eq_false_iff, Bool.or_eq_true, Bool.and_eq_false_iff, Int.not_lt, Int.not_le] at h35
          try simp only [Int.toNat_natCast, dflt_sl, dflt_st, dflt_str, dflt_int, dflt_bool] at h35
          refine acode_skip ?_
          refine acode_seq ?_
          refine acode_region ?_
          refine Or.inr (Or.inl (Exists.intro [] (Exists.intro [0, 1, 2, 3, 4] (Exists.intro _ (Exists.intro _ (Exists.intro _ (Exists.intro _ (Exists.intro _ (And.intro (flush_err hf ((more_B _ hb).mono (by omega))) (And.intro rfl (And.intro (And.intro (And.intro rfl rfl) (And.intro (And.intro rfl rfl) (And.intro (And.intro rfl rfl) (And.intro (And.intro rfl rfl) (And.intro (And.intro rfl rfl) True.intro))))) (And.intro rfl ?_))))))))))))
          refine acode_ret ?_
          exact ⟨rfl, trivial, rfl⟩
      · refine aord_all [5, 8] (by kernel_rfl) rfl ?_
        refine And.intro ?_ ?_
        · refine aord_all [8] (by kernel_rfl) rfl ?_
          refine aord_all [9] (by kernel_rfl) rfl ?_
          refine And.intro (by first | exact app_le (by first | omega | (simp only [List.length_cons, List.length_nil]; omega) | (simp; omega)) (by decide) | omega | assumption | decide | (simp only [Int.toNat_natCast, dflt_sl, dflt_st, dflt_str, dflt_int, dflt_bool]; omega) | (simp <;> omega)) ?_
          refine aord_light 10 rfl rfl rfl (by kernel_rfl) ?_
          refine aord_light 11 rfl rfl rfl (by kernel_rfl) ?_
          refine aord_light 12 rfl rfl rfl (by kernel_rfl) ?_
          refine aord_all [13] (by kernel_rfl) rfl ?_
          refine aord_done (by kernel_rfl) ?_
          refine acode_seq ?_
          refine acode_seq ?_
          refine acode_region ?_
          refine acode_cond rfl (fun h35 => ?_) (fun h35 => ?_)
          · try simp only [decide_eq_true_eq, decide_eq_false_iff_not, Bool.and_eq_true, Bool.not_eq_true', Bool.not_eq_false', Bool.or_eq_false_iff, Bool.or_eq_true, Bool.and_eq_false_iff, Int.not_lt, Int.not_le] at h35
            try simp only [Int.toNat_natCast, dflt_sl, dflt_st, dflt_str, dflt_int, dflt_bool] at h35
            exact absurd h35 (by rw [he]; decide)
          · try simp only [decide_eq_true_eq, decide_eq_false_iff_not, Bool.and_eq_true, Bool.not_eq_true', Bool.not_eq_false', Bool.or_eq_false_iff, Bool.or_eq_true, Bool.and_eq_false_iff, Int.not_lt, Int.not_le] at h35
            try simp only [Int.toNat_natCast, dflt_sl, dflt_st, dflt_str, dflt_int, dflt_bool] at h35
            refine acode_skip ?_
            refine acode_seq ?_
            refine acode_region ?_
            refine Or.inr (Or.inl (Exists.intro [] (Exists.intro [0, 1, 2, 3, 4] (Exists.intro _ (Exists.intro _ (Exists.intro _ (Exists.intro _ (Exists.intro _ (And.intro (flush_err hf ((more_B _ hb).mono (by omega))) (And.intro rfl (And.intro (And.intro (And.intro rfl rfl) (And.intro (And.intro rfl rfl) (And.intro (And.intro rfl rfl) (And.intro (And.intro rfl rfl) (And.intro (And.intro rfl rfl) True.intro))))) (And.intro rfl ?_))))))))))))
            refine acode_ret ?_
            exact ⟨rfl, trivial, rfl⟩
        · refine aord_all [5] (by kernel_rfl) rfl ?_
          refine aord_all [9] (by kernel_rfl) rfl ?_
          refine And.intro (by first | exact app_le (by first | omega | (simp only [List.length_cons, List.length_nil]; omega) | (simp; omega)) (by decide) | omega | assumption | decide | (simp only [Int.toNat_natCast, dflt_sl, dflt_st, dflt_str, dflt_int, dflt_bool]; omega) | (simp <;> omega)) ?_
          refine aord_light 10 rfl rfl rfl (by kernel_rfl) ?_
          refine aord_light 11 rfl rfl rfl (by kernel_rfl) ?_
          refine aord_light 12 rfl rfl rfl (by kernel_rfl) ?_
          refine aord_all [13] (by kernel_rfl) rfl ?_
          refine aord_done (by kernel_rfl) ?_
          refine acode_seq ?_
          refine acode_seq ?_
          refine acode_region ?_
          refine acode_cond rfl (fun h35 => ?_) (fun h35 => ?_)
          · try simp only [decide_eq_true_eq, decide_eq_false_iff_not, Bool.and_eq_true, Bool.not_eq_true', Bool.not_eq_false', Bool.or_eq_false_iff, Bool.or_eq_true, Bool.and_eq_false_iff, Int.not_lt, Int.not_le] at h35
            try simp only [Int.toNat_natCast, dflt_sl, dflt_st, dflt_str, dflt_int, dflt_bool] at h35
            exact absurd h35 (by rw [he]; decide)
          · try simp only [decide_eq_true_eq, decide_eq_false_iff_not, Bool.and_eq_true, Bool.not_eq_true', Bool.not_eq_false', Bool.or_eq_false_iff, Bool.or_eq_true, Bool.and_eq_false_iff, Int.not_lt, Int.not_le] at h35
            try simp only [Int.toNat_natCast, dflt_sl, dflt_st, dflt_str, dflt_int, dflt_bool] at h35
            refine acode_skip ?_
            refine acode_seq ?_
            refine acode_region ?_
            refine Or.inr (Or.inl (Exists.intro [] (Exists.intro [0, 1, 2, 3, 4] (Exists.intro _ (Exists.intro _ (Exists.intro _ (Exists.intro _ (Exists.intro _ (And.intro (flush_err hf ((more_B _ hb).mono (by omega))) (And.intro rfl (And.intro (And.intro (And.intro rfl rfl) (And.intro (And.intro rfl rfl) (And.intro (And.intro rfl rfl) (And.intro (And.intro rfl rfl) (And.intro (And.intro rfl rfl) True.intro))))) (And.intro rfl ?_))))))))))))
            refine acode_ret ?_
            exact ⟨rfl, trivial, rfl⟩
  · try simp only [decide_eq_false_iff_not] at h8
    try simp only [Int.toNat_natCast, dflt_sl, dflt_st, dflt_str, dflt_int, dflt_bool] at h8
    exact absurd trivial h8
theorem ahead_end {p q : PSt} {l : Lne} (hb : PB p 900000) (hf : endS p = .inr q) : ACallO Tryz.prog 118 [.one (.own 0 0), .agg (toL rLne l), ii .i64 1] (psO p) 5 (.one (.lit .nilIface)) (psO q) 5 := by
  refine acallo_of (rs := [6]) Tryz.func118 rfl rfl rfl teOk (by decide) rfl ?_
  refine acode_seq ?_
  refine acode_region ?_
  refine acode_seq ?_
  refine acode_seq ?_
  refine acode_region ?_
  refine acode_block ?_
  refine acode_seq ?_
  refine acode_region ?_
  refine acode_cond rfl (fun h8 => ?_) (fun h8 => ?_)
  · try simp only [decide_eq_true_eq] at h8
    try simp only [Int.toNat_natCast, dflt_sl, dflt_st, dflt_str, dflt_int, dflt_bool] at h8
    exact absurd h8 (by decide)
  · try simp only [decide_eq_false_iff_not] at h8
    try simp only [Int.toNat_natCast, dflt_sl, dflt_st, dflt_str, dflt_int, dflt_bool] at h8
    refine acode_seq ?_
    refine acode_region ?_
    refine acode_cond rfl (fun h38 => ?_) (fun h38 => ?_)
    · try simp only [decide_eq_true_eq] at h38
      try simp only [Int.toNat_natCast, dflt_sl, dflt_st, dflt_str, dflt_int, dflt_bool] at h38
      refine acode_seq ?_
      refine acode_region ?_
      refine Or.inr (Or.inl (Exists.intro [] (Exists.intro [0, 1, 2, 3, 4] (Exists.intro _ (Exists.intro _ (Exists.intro _ (Exists.intro _ (Exists.intro _ (And.intro (end_ok hf (hb.mono (by decide))) (And.intro rfl (And.intro (And.intro (And.intro rfl rfl) (And.intro (And.intro rfl rfl) (And.intro (And.intro rfl rfl) (And.intro (And.intro rfl rfl) (And.intro (And.intro rfl rfl) True.intro))))) (And.intro rfl ?_))))))))))))
      refine acode_ret ?_
      exact ⟨rfl, ⟨rfl, rfl, rfl, rfl, rfl⟩, rfl⟩
    · try simp only [decide_eq_false_iff_not] at h38
      try simp only [Int.toNat_natCast, dflt_sl, dflt_st, dflt_str, dflt_int, dflt_bool] at h38
      exact absurd trivial h38
theorem ahead_endf {p : PSt} {l : Lne} {at_ n : Int} (hb : PB p 900000) (hf : endS p = .inl (at_, n)) : ACallO Tryz.prog 118 [.one (.own 0 0), .agg (toL rLne l), ii .i64 1] (psO p) 5 (.one (errF at_ n)) [] 5 := by
  refine acallo_of (rs := [6]) Tryz.func118 rfl rfl rfl teOk (by decide) rfl ?_
  refine acode_seq ?_
  refine acode_region ?_
  refine acode_seq ?_
  refine acode_seq ?_
  refine acode_region ?_
  refine acode_block ?_
  refine acode_seq ?_
  refine acode_region ?_
  refine acode_cond rfl (fun h8 => ?_) (fun h8 => ?_)
  · try simp only [decide_eq_true_eq] at h8
    try simp only [Int.toNat_natCast, dflt_sl, dflt_st, dflt_str, dflt_int, dflt_bool] at h8
    exact absurd h8 (by decide)
  · try simp only [decide_eq_false_iff_not] at h8
    try simp only [Int.toNat_natCast, dflt_sl, dflt_st, dflt_str, dflt_int, dflt_bool] at h8
    refine acode_seq ?_
    refine acode_region ?_
    refine acode_cond rfl (fun h38 => ?_) (fun h38 => ?_)
    · try simp only [decide_eq_true_eq] at h38
      try simp only [Int.toNat_natCast, dflt_sl, dflt_st, dflt_str, dflt_int, dflt_bool] at h38
      refine acode_seq ?_
      refine acode_region ?_
      refine Or.inr (Or.inl (Exists.intro [] (Exists.intro [0, 1, 2, 3, 4] (Exists.intro _ (Exists.intro _ (Exists.intro _ (Exists.intro _ (Exists.intro _ (And.intro (end_err hf (hb.mono (by decide))) (And.intro rfl (And.intro (And.intro (And.intro rfl rfl) (And.intro (And.intro rfl rfl) (And.intro (And.intro rfl rfl) (And.intro (And.intro rfl rfl) (And.intro (And.intro rfl rfl) True.intro))))) (And.intro rfl ?_))))))))))))
      refine acode_ret ?_
      exact ⟨rfl, trivial, rfl⟩
    · try simp only [decide_eq_false_iff_not] at h38
      try simp only [Int.toNat_natCast, dflt_sl, dflt_st, dflt_str, dflt_int, dflt_bool] at h38
      exact absurd trivial h38
theorem ahead_flush {p q : PSt} {l : Lne} {k : Int} (h3 : k ≠ 3) (h1 : k ≠ 1) (hb : PB p 900000) (hf : flushS p = .inr q) : ACallO Tryz.prog 118 [.one (.own 0 0), .agg (toL rLne l), ii .i64 k] (psO p) 5 (.one (.lit .nilIface)) (psO q) 5 := by
  refine acallo_of (rs := [6]) Tryz.func118 rfl rfl rfl teOk (by decide) rfl ?_
  refine acode_seq ?_
  refine acode_region ?_
  refine acode_seq ?_
  refine acode_seq ?_
  refine acode_region ?_
  refine acode_block ?_
  refine acode_seq ?_
  refine acode_region ?_
  refine acode_cond rfl (fun h8 => ?_) (fun h8 => ?_)
  · try simp only [decide_eq_true_eq] at h8
    try simp only [Int.toNat_natCast, dflt_sl, dflt_st, dflt_str, dflt_int, dflt_bool] at h8
    exact absurd h8 h3
  · try simp only [decide_eq_false_iff_not] at h8
    try simp only [Int.toNat_natCast, dflt_sl, dflt_st, dflt_str, dflt_int, dflt_bool] at h8
    refine acode_seq ?_
    refine acode_region ?_
    refine acode_cond rfl (fun h38 => ?_) (fun h38 => ?_)
    · try simp only [decide_eq_true_eq] at h38
      try simp only [Int.toNat_natCast, dflt_sl, dflt_st, dflt_str, dflt_int, dflt_bool] at h38
      exact absurd h38 h1
    · try simp only [decide_eq_false_iff_not] at h38
      try simp only [Int.toNat_natCast, dflt_sl, dflt_st, dflt_str, dflt_int, dflt_bool] at h38
      refine acode_skip ?_
      refine acode_seq ?_
      refine acode_region ?_
      refine Or.inr (Or.inl (Exists.intro [] (Exists.intro [0, 1, 2, 3, 4] (Exists.intro _ (Exists.intro _ (Exists.intro _ (Exists.intro _ (Exists.intro _ (And.intro (flush_ok hf (hb.mono (by decide))) (And.intro rfl (And.intro (And.intro (And.intro rfl rfl) (And.intro (And.intro rfl rfl) (And.intro (And.intro rfl rfl) (And.intro (And.intro rfl rfl) (And.intro (And.intro rfl rfl) True.intro))))) (And.intro rfl ?_))))))))))))
      refine acode_ret ?_
      exact ⟨rfl, ⟨rfl, rfl, rfl, rfl, rfl⟩, rfl⟩
theorem ahead_flushf {p : PSt} {l : Lne} {k at_ n : Int} (h3 : k ≠ 3) (h1 : k ≠ 1) (hb : PB p 900000) (hf : flushS p = .inl (at_, n)) : ACallO Tryz.prog 118 [.one (.own 0 0), .agg (toL rLne l), ii .i64 k] (psO p) 5 (.one (errF at_ n)) [] 5 := by
  refine acallo_of (rs := [6]) Tryz.func118 rfl rfl rfl teOk (by decide) rfl ?_
  refine acode_seq ?_
  refine acode_region ?_
  refine acode_seq ?_
  refine acode_seq ?_
  refine acode_region ?_
  refine acode_block ?_
  refine acode_seq ?_
  refine acode_region ?_
  refine acode_cond rfl (fun h8 => ?_) (fun h8 => ?_)
  · try simp only [decide_eq_true_eq] at h8
    try simp only [Int.toNat_natCast, dflt_sl, dflt_st, dflt_str, dflt_int, dflt_bool] at h8
    exact absurd h8 h3
  · try simp only [decide_eq_false_iff_not] at h8
    try simp only [Int.toNat_natCast, dflt_sl, dflt_st, dflt_str, dflt_int, dflt_bool] at h8
    refine acode_seq ?_
    refine acode_region ?_
    refine acode_cond rfl (fun h38 => ?_) (fun h38 => ?_)
    · try simp only [decide_eq_true_eq] at h38
      try simp only [Int.toNat_natCast, dflt_sl, dflt_st, dflt_str, dflt_int, dflt_bool] at h38
      exact absurd h38 h1
    · try simp only [decide_eq_false_iff_not] at h38
      try simp only [Int.toNat_natCast, dflt_sl, dflt_st, dflt_str, dflt_int, dflt_bool] at h38
      refine acode_skip ?_
      refine acode_seq ?_
      refine acode_region ?_
      refine Or.inr (Or.inl (Exists.intro [] (Exists.intro [0, 1, 2, 3, 4] (Exists.intro _ (Exists.intro _ (Exists.intro _ (Exists.intro _ (Exists.intro _ (And.intro (flush_err hf (hb.mono (by decide))) (And.intro rfl (And.intro (And.intro (And.intro rfl rfl) (And.intro (And.intro rfl rfl) (And.intro (And.intro rfl rfl) (And.intro (And.intro rfl rfl) (And.intro (And.intro rfl rfl) True.intro))))) (And.intro rfl ?_))))))))))))
      refine acode_ret ?_
      exact ⟨rfl, trivial, rfl⟩
theorem ahead_ok {p q : PSt} {l : Lne} {k : Int} (h : aheadS p l k = .inr q) (hb : PB p 900000) (hs : l.2.2.1.size ≤ 90000) : ACallO Tryz.prog 118 [.one (.own 0 0), .agg (toL rLne l), ii .i64 k] (psO p) 5 (.one (.lit .nilIface)) (psO q) 5 := by
  unfold aheadS at h
  split at h
  · rename_i e
    subst e
    split at h
    · cases h
    · rename_i h0
      split at h
      · rename_i he; cases h; exact ahead_more h0 he (hb.mono (by decide))
      · rename_i he; exact ahead_last h0 (by simpa using he) hb hs h
  · rename_i h3
    split at h
    · rename_i e; subst e; exact ahead_end hb h
    · rename_i h1; exact ahead_flush h3 h1 hb h
theorem ahead_err {p : PSt} {l : Lne} {k at_ n : Int} (h : aheadS p l k = .inl (at_, n)) (hb : PB p 900000) (hs : l.2.2.1.size ≤ 90000) : ACallO Tryz.prog 118 [.one (.own 0 0), .agg (toL rLne l), ii .i64 k] (psO p) 5 (.one (errF at_ n)) [] 5 := by
  unfold aheadS at h
  split at h
  · rename_i e
    subst e
    split at h
    · rename_i h0; cases h; exact ahead_none l h0
    · rename_i h0
      split at h
      · cases h
      · rename_i he; exact ahead_fail h0 (by simpa using he) hb hs h
  · rename_i h3
    split at h
    · rename_i e; subst e; exact ahead_endf hb h
    · rename_i h1; exact ahead_flushf h3 h1 hb h
theorem take_err1 {p : PSt} {l : Lne} {at_ n : Int} (h : aheadS p l (kindL (ls l.2.2.1)) = .inl (at_, n)) (hb : PB p 900000) (hs : l.2.2.1.size ≤ 90000) : ACallO Tryz.prog 76 [.one (.own 0 0), .agg (toL rLne l)] (psO p) 5 (.one (errF at_ n)) [] 5 := by
  refine acallo_of (rs := [4]) Tryz.func76 rfl rfl rfl teOk (by decide) rfl ?_
  refine acode_seq ?_
  refine acode_region ?_
  refine acode_seq ?_
  refine acode_region ?_
  refine Or.inl ?_
  refine And.intro (rfl) ?_
  refine Exists.intro _ (And.intro (kind_c l.2.2.1 (Nat.le_trans hs (by decide))) ?_)
  refine acode_seq ?_
  refine acode_seq ?_
  refine acode_region ?_
  refine Or.inr (Or.inl (Exists.intro [] (Exists.intro [0, 1, 2, 3, 4] (Exists.intro _ (Exists.intro _ (Exists.intro _ (Exists.intro _ (Exists.intro _ (And.intro (ahead_err h hb hs) (And.intro rfl (And.intro (And.intro (And.intro rfl rfl) (And.intro (And.intro rfl rfl) (And.intro (And.intro rfl rfl) (And.intro (And.intro rfl rfl) (And.intro (And.intro rfl rfl) True.intro))))) (And.intro rfl ?_))))))))))))
  refine acode_seq ?_
  refine acode_region ?_
  refine acode_cond rfl (fun h15 => ?_) (fun h15 => ?_)
  · skip
    refine acode_seq ?_
    refine acode_region ?_
    refine acode_ret ?_
    exact ⟨rfl, trivial, rfl⟩
  · try simp only [decide_eq_true_eq, decide_eq_false_iff_not, Bool.and_eq_true, Bool.not_eq_true', Bool.not_eq_false', Bool.or_eq_false_iff, Bool.or_eq_true, Bool.and_eq_false_iff, Int.not_lt, Int.not_le] at h15
    try simp only [Int.toNat_natCast, dflt_sl, dflt_st, dflt_str, dflt_int, dflt_bool] at h15
    cases h15
theorem take_odd {p q : PSt} {l : Lne} (h : aheadS p l (kindL (ls l.2.2.1)) = .inr q) (hk : kindL (ls l.2.2.1) = 5 ∨ l.2.2.2 = false) (hb : PB p 900000) (hs : l.2.2.1.size ≤ 90000) : ACallO Tryz.prog 76 [.one (.own 0 0), .agg (toL rLne l)] (psO p) 5 (.one (errF l.1 2)) [] 5 := by
  refine acallo_of (rs := [4]) Tryz.func76 rfl rfl rfl teOk (by decide) rfl ?_
  refine acode_seq ?_
  refine acode_region ?_
  refine acode_seq ?_
  refine acode_region ?_
  refine Or.inl ?_
  refine And.intro (rfl) ?_
  refine Exists.intro _ (And.intro (kind_c l.2.2.1 (Nat.le_trans hs (by decide))) ?_)
  refine acode_seq ?_
  refine acode_seq ?_
  refine acode_region ?_
  refine Or.inr (Or.inl (Exists.intro [] (Exists.intro [0, 1, 2, 3, 4] (Exists.intro _ (Exists.intro _ (Exists.intro _ (Exists.intro _ (Exists.intro _ (And.intro (ahead_ok h hb hs) (And.intro rfl (And.intro (And.intro (And.intro rfl rfl) (And.intro (And.intro rfl rfl) (And.intro (And.intro rfl rfl) (And.intro (And.intro rfl rfl) (And.intro (And.intro rfl rfl) True.intro))))) (And.intro rfl ?_))))))))))))
  refine acode_seq ?_
  refine acode_region ?_
  refine acode_cond rfl (fun h15 => ?_) (fun h15 => ?_)
  · try simp only [Bool.not_eq_true'] at h15
    try simp only [Int.toNat_natCast, dflt_sl, dflt_st, dflt_str, dflt_int, dflt_bool] at h15
    cases h15
  · try simp only [Bool.not_eq_false'] at h15
    try simp only [Int.toNat_natCast, dflt_sl, dflt_st, dflt_str, dflt_int, dflt_bool] at h15
    refine acode_skip ?_
    refine acode_seq ?_
    refine acode_block ?_
    refine acode_seq ?_
    refine acode_region ?_
    refine And.intro (fun h => trivial) ?_
    refine And.intro (fun h => ⟨⟨h, trivial⟩, trivial⟩) ?_
    refine And.intro (fun h => ⟨⟨h, trivial⟩, trivial⟩) ?_
    refine And.intro (by first | (intro h; rw [h]; rfl) | (intro h; cases h)) ?_
    refine acode_cond rfl (fun h17 => ?_) (fun h17 => ?_)
    · try simp only [decide_eq_true_eq, Bool.not_eq_true', Bool.or_eq_true] at h17
      try simp only [Int.toNat_natCast, dflt_sl, dflt_st, dflt_str, dflt_int, dflt_bool] at h17
      refine acode_seq ?_
      refine acode_region ?_
      refine Or.inl ?_
      refine And.intro (rfl) ?_
      refine Exists.intro _ (And.intro (fault_c l.1 2) ?_)
      refine acode_ret ?_
      exact ⟨rfl, trivial, rfl⟩
    · try simp only [decide_eq_false_iff_not, Bool.not_eq_false', Bool.or_eq_false_iff] at h17
      try simp only [Int.toNat_natCast, dflt_sl, dflt_st, dflt_str, dflt_int, dflt_bool] at h17
      exact absurd h17 (by rcases hk with hk | hk <;> simp [hk])
theorem take_blank {p q : PSt} {l : Lne} (h : aheadS p l (kindL (ls l.2.2.1)) = .inr q) (hk : kindL (ls l.2.2.1) = 1) (he : l.2.2.2 = true) (hb : PB p 900000) (hq : PB q 2000000) (hs : l.2.2.1.size ≤ 90000) : ACallO Tryz.prog 76 [.one (.own 0 0), .agg (toL rLne l)] (psO p) 5 (.one (.lit .nilIface)) (psO { q with its := q.its ++ [(1, l.2.2.1 ++ ⟨#[10]⟩, [])] }) 5 := by
  have hi := hq.its
  refine acallo_of (rs := [4]) Tryz.func76 rfl rfl rfl teOk (by decide) rfl ?_
  refine acode_seq ?_
  refine acode_region ?_
  refine acode_seq ?_
  refine acode_region ?_
  refine Or.inl ?_
  refine And.intro (rfl) ?_
  refine Exists.intro _ (And.intro (kind_c l.2.2.1 (Nat.le_trans hs (by decide))) ?_)
  refine acode_seq ?_
  refine acode_seq ?_
  refine acode_region ?_
  refine Or.inr (Or.inl (Exists.intro [] (Exists.intro [0, 1, 2, 3, 4] (Exists.intro _ (Exists.intro _ (Exists.intro _ (Exists.intro _ (Exists.intro _ (And.intro (ahead_ok h hb hs) (And.intro rfl (And.intro (And.intro (And.intro rfl rfl) (And.intro (And.intro rfl rfl) (And.intro (And.intro rfl rfl) (And.intro (And.intro rfl rfl) (And.intro (And.intro rfl rfl) True.intro))))) (And.intro rfl ?_))))))))))))
  refine acode_seq ?_
  refine acode_region ?_
  refine acode_cond rfl (fun h15 => ?_) (fun h15 => ?_)
  · try simp only [Bool.not_eq_true'] at h15
    try simp only [Int.toNat_natCast, dflt_sl, dflt_st, dflt_str, dflt_int, dflt_bool] at h15
    cases h15
  · try simp only [Bool.not_eq_false'] at h15
    try simp only [Int.toNat_natCast, dflt_sl, dflt_st, dflt_str, dflt_int, dflt_bool] at h15
    refine acode_skip ?_
    refine acode_seq ?_
    refine acode_block ?_
    refine acode_seq ?_
    refine acode_region ?_
    refine And.intro (fun h => trivial) ?_
    refine And.intro (fun h => ⟨⟨h, trivial⟩, trivial⟩) ?_
    refine And.intro (fun h => ⟨⟨h, trivial⟩, trivial⟩) ?_
    refine And.intro (by first | (intro h; rw [h]; rfl) | (intro h; cases h)) ?_
    refine acode_cond rfl (fun h17 => ?_) (fun h17 => ?_)
    · try simp only [decide_eq_true_eq, Bool.not_eq_true', Bool.or_eq_true] at h17
      try simp only [Int.toNat_natCast, dflt_sl, dflt_st, dflt_str, dflt_int, dflt_bool] at h17
      exact absurd h17 (by simp [hk, he])
    · try simp only [decide_eq_false_iff_not, Bool.not_eq_false', Bool.or_eq_false_iff] at h17
      try simp only [Int.toNat_natCast, dflt_sl, dflt_st, dflt_str, dflt_int, dflt_bool] at h17
      refine acode_seq ?_
      refine acode_region ?_
      refine acode_cond rfl (fun h29 => ?_) (fun h29 => ?_)
      · try simp only [decide_eq_true_eq] at h29
        try simp only [Int.toNat_natCast, dflt_sl, dflt_st, dflt_str, dflt_int, dflt_bool] at h29
        refine acode_seq ?_
        refine acode_ord rfl ?_
        refine aord_light 0 rfl rfl rfl (by kernel_rfl) ?_
        refine aord_light 1 rfl rfl rfl (by kernel_rfl) ?_
        refine aord_light 2 rfl rfl rfl (by kernel_rfl) ?_
        refine aord_light 3 rfl rfl rfl (by kernel_rfl) ?_
        refine aord_light 5 rfl rfl rfl (by kernel_rfl) ?_
        refine aord_all [4, 6] (by kernel_rfl) rfl ?_
        refine And.intro ?_ ?_
        · refine aord_all [6] (by kernel_rfl) rfl ?_
          refine aord_light 7 rfl rfl rfl (by kernel_rfl) ?_
          refine And.intro (by (have hk0 : ByteArray.size { data := #[10] } = 1 := rfl; first | (unfold maxLen; omega) | (simp only [ByteArray.size_append]; omega) | (unfold maxLen; (try simp only [ByteArray.size_append]); omega))) ?_
          refine aord_all [8] (by kernel_rfl) rfl ?_
          refine aord_all [9] (by kernel_rfl) rfl ?_
          refine aord_all [10] (by kernel_rfl) rfl ?_
          refine And.intro (by first | exact app_le (by first | omega | (simp only [List.length_cons, List.length_nil]; omega) | (simp; omega)) (by decide) | omega | assumption | decide | (simp only [Int.toNat_natCast, dflt_sl, dflt_st, dflt_str, dflt_int, dflt_bool]; omega) | (simp <;> omega)) ?_
          refine aord_light 11 rfl rfl rfl (by kernel_rfl) ?_
          refine aord_light 12 rfl rfl rfl (by kernel_rfl) ?_
          refine aord_all [13] (by kernel_rfl) rfl ?_
          refine aord_done (by kernel_rfl) ?_
          refine acode_seq ?_
          refine acode_region ?_
          refine acode_ret ?_
          exact ⟨rfl, ⟨rfl, rfl, rfl, rfl, rfl⟩, rfl⟩
        · refine aord_light 7 rfl rfl rfl (by kernel_rfl) ?_
          refine And.intro (by (have hk0 : ByteArray.size { data := #[10] } = 1 := rfl; first | (unfold maxLen; omega) | (simp only [ByteArray.size_append]; omega) | (unfold maxLen; (try simp only [ByteArray.size_append]); omega))) ?_
          refine aord_all [4, 8] (by kernel_rfl) rfl ?_
          refine And.intro ?_ ?_
          · refine aord_all [8] (by kernel_rfl) rfl ?_
            refine aord_all [9] (by kernel_rfl) rfl ?_
            refine aord_all [10] (by kernel_rfl) rfl ?_
            refine And.intro (by first | exact app_le (by first | omega | (simp only [List.length_cons, List.length_nil]; omega) | (simp; omega)) (by decide) | omega | assumption | decide | (simp only [Int.toNat_natCast, dflt_sl, dflt_st, dflt_str, dflt_int, dflt_bool]; omega) | (simp <;> omega)) ?_
            refine aord_light 11 rfl rfl rfl (by kernel_rfl) ?_
            refine aord_light 12 rfl rfl rfl (by kernel_rfl) ?_
            refine aord_all [13] (by kernel_rfl) rfl ?_
            refine aord_done (by kernel_rfl) ?_
            refine acode_seq ?_
            refine acode_region ?_
            refine acode_ret ?_
            exact ⟨rfl, ⟨rfl, rfl, rfl, rfl, rfl⟩, rfl⟩
          · refine aord_all [4, 9] (by kernel_rfl) rfl ?_
            refine And.intro ?_ ?_
            · refine aord_all [9] (by kernel_rfl) rfl ?_
              refine aord_all [10] (by kernel_rfl) rfl ?_
              refine And.intro (by first | exact app_le (by first | omega | (simp only [List.length_cons, List.length_nil]; omega) | (simp; omega)) (by decide) | omega | assumption | decide | (simp only [Int.toNat_natCast, dflt_sl, dflt_st, dflt_str, dflt_int, dflt_bool]; omega) | (simp <;> omega)) ?_
              refine aord_light 11 rfl rfl rfl (by kernel_rfl) ?_
              refine aord_light 12 rfl rfl rfl (by kernel_rfl) ?_
              refine aord_all [13] (by kernel_rfl) rfl ?_
              refine aord_done (by kernel_rfl) ?_
              refine acode_seq ?_
              refine acode_region ?_
              refine acode_ret ?_
              exact ⟨rfl, ⟨rfl, rfl, rfl, rfl, rfl⟩, rfl⟩
            · refine aord_all [4] (by kernel_rfl) rfl ?_
              refine aord_all [10] (by kernel_rfl) rfl ?_
              refine And.intro (by first | exact app_le (by first | omega | (simp only [List.length_cons, List.length_nil]; omega) | (simp; omega)) (by decide) | omega | assumption | decide | (simp only [Int.toNat_natCast, dflt_sl, dflt_st, dflt_str, dflt_int, dflt_bool]; omega) | (simp <;> omega)) ?_
              refine aord_light 11 rfl rfl rfl (by kernel_rfl) ?_
              refine aord_light 12 rfl rfl rfl (by kernel_rfl) ?_
              refine aord_all [13] (by kernel_rfl) rfl ?_
              refine aord_done (by kernel_rfl) ?_
              refine acode_seq ?_
              refine acode_region ?_
              refine acode_ret ?_
              exact ⟨rfl, ⟨rfl, rfl, rfl, rfl, rfl⟩, rfl⟩
      · try simp only [decide_eq_false_iff_not] at h29
        try simp only [Int.toNat_natCast, dflt_sl, dflt_st, dflt_str, dflt_int, dflt_bool] at h29
        exact absurd hk h29
theorem take_pair {p q : PSt} {l : Lne} (h : aheadS p l (kindL (ls l.2.2.1)) = .inr q) (hk : kindL (ls l.2.2.1) = 4) (he : l.2.2.2 = true) (hb : PB p 900000) (hq : PB q 1000000) (hs : l.2.2.1.size ≤ 90000) : ACallO Tryz.prog 76 [.one (.own 0 0), .agg (toL rLne l)] (psO p) 5 (.one (.lit .nilIface)) (psO { beginS q l with blk := q.blk ++ [l.2.2.1] }) 5 := by
  have hi : (beginS q l).blk.length ≤ 1000000 := hq.blk
  refine acallo_of (rs := [4]) Tryz.func76 rfl rfl rfl teOk (by decide) rfl ?_
  refine acode_seq ?_
  refine acode_region ?_
  refine acode_seq ?_
  refine acode_region ?_
  refine Or.inl ?_
  refine And.intro (rfl) ?_
  refine Exists.intro _ (And.intro (kind_c l.2.2.1 (Nat.le_trans hs (by decide))) ?_)
  refine acode_seq ?_
  refine acode_seq ?_
  refine acode_region ?_
  refine Or.inr (Or.inl (Exists.intro [] (Exists.intro [0, 1, 2, 3, 4] (Exists.intro _ (Exists.intro _ (Exists.intro _ (Exists.intro _ (Exists.intro _ (And.intro (ahead_ok h hb hs) (And.intro rfl (And.intro (And.intro (And.intro rfl rfl) (And.intro (And.intro rfl rfl) (And.intro (And.intro rfl rfl) (And.intro (And.intro rfl rfl) (And.intro (And.intro rfl rfl) True.intro))))) (And.intro rfl ?_))))))))))))
  refine acode_seq ?_
  refine acode_region ?_
  refine acode_cond rfl (fun h15 => ?_) (fun h15 => ?_)
  · try simp only [Bool.not_eq_true'] at h15
    try simp only [Int.toNat_natCast, dflt_sl, dflt_st, dflt_str, dflt_int, dflt_bool] at h15
    cases h15
  · try simp only [Bool.not_eq_false'] at h15
    try simp only [Int.toNat_natCast, dflt_sl, dflt_st, dflt_str, dflt_int, dflt_bool] at h15
    refine acode_skip ?_
    refine acode_seq ?_
    refine acode_block ?_
    refine acode_seq ?_
    refine acode_region ?_
    refine And.intro (fun h => trivial) ?_
    refine And.intro (fun h => ⟨⟨h, trivial⟩, trivial⟩) ?_
    refine And.intro (fun h => ⟨⟨h, trivial⟩, trivial⟩) ?_
    refine And.intro (by first | (intro h; rw [h]; rfl) | (intro h; cases h)) ?_
    refine acode_cond rfl (fun h17 => ?_) (fun h17 => ?_)
    · try simp only [decide_eq_true_eq, Bool.not_eq_true', Bool.or_eq_true] at h17
      try simp only [Int.toNat_natCast, dflt_sl, dflt_st, dflt_str, dflt_int, dflt_bool] at h17
      exact absurd h17 (by simp [hk, he])
    · try simp only [decide_eq_false_iff_not, Bool.not_eq_false', Bool.or_eq_false_iff] at h17
      try simp only [Int.toNat_natCast, dflt_sl, dflt_st, dflt_str, dflt_int, dflt_bool] at h17
      refine acode_seq ?_
      refine acode_region ?_
      refine acode_cond rfl (fun h29 => ?_) (fun h29 => ?_)
      · try simp only [decide_eq_true_eq] at h29
        try simp only [Int.toNat_natCast, dflt_sl, dflt_st, dflt_str, dflt_int, dflt_bool] at h29
        exact absurd h29 (by rw [hk]; decide)
      · try simp only [decide_eq_false_iff_not] at h29
        try simp only [Int.toNat_natCast, dflt_sl, dflt_st, dflt_str, dflt_int, dflt_bool] at h29
        refine acode_seq ?_
        refine acode_region ?_
        refine acode_cond rfl (fun h45 => ?_) (fun h45 => ?_)
        · try simp only [decide_eq_true_eq] at h45
          try simp only [Int.toNat_natCast, dflt_sl, dflt_st, dflt_str, dflt_int, dflt_bool] at h45
          refine acode_region ?_
          refine Or.inr (Or.inl (Exists.intro [] (Exists.intro [0, 1, 2, 3, 4] (Exists.intro _ (Exists.intro _ (Exists.intro _ (Exists.intro _ (Exists.intro _ (And.intro (begin_c q l hq) (And.intro rfl (And.intro (And.intro (And.intro rfl rfl) (And.intro (And.intro rfl rfl) (And.intro (And.intro rfl rfl) (And.intro (And.intro rfl rfl) (And.intro (And.intro rfl rfl) True.intro))))) (And.intro rfl ?_))))))))))))
          refine acode_seq ?_
          refine acode_ord rfl ?_
          refine aord_light 0 rfl rfl rfl (by kernel_rfl) ?_
          refine aord_light 1 rfl rfl rfl (by kernel_rfl) ?_
          refine aord_light 2 rfl rfl rfl (by kernel_rfl) ?_
          refine aord_light 3 rfl rfl rfl (by kernel_rfl) ?_
          refine aord_light 5 rfl rfl rfl (by kernel_rfl) ?_
          refine aord_all [4, 6] (by kernel_rfl) rfl ?_
          refine And.intro ?_ ?_
          · refine aord_all [6] (by kernel_rfl) rfl ?_
            refine aord_all [7] (by kernel_rfl) rfl ?_
            refine aord_all [8] (by kernel_rfl) rfl ?_
            refine And.intro (by first | exact app_le (by first | omega | (simp only [List.length_cons, List.length_nil]; omega) | (simp; omega)) (by decide) | omega | assumption | decide | (simp only [Int.toNat_natCast, dflt_sl, dflt_st, dflt_str, dflt_int, dflt_bool]; omega) | (simp <;> omega)) ?_
            refine aord_light 9 rfl rfl rfl (by kernel_rfl) ?_
            refine aord_light 10 rfl rfl rfl (by kernel_rfl) ?_
            refine aord_all [11] (by kernel_rfl) rfl ?_
            refine aord_done (by kernel_rfl) ?_
            refine acode_seq ?_
            refine acode_region ?_
            refine acode_ret ?_
            exact ⟨rfl, ⟨rfl, rfl, rfl, rfl, rfl⟩, rfl⟩
          · refine aord_all [4, 7] (by kernel_rfl) rfl ?_
            refine And.intro ?_ ?_
            · refine aord_all [7] (by kernel_rfl) rfl ?_
              refine aord_all [8] (by kernel_rfl) rfl ?_
              refine And.intro (by first | exact app_le (by first | omega | (simp only [List.length_cons, List.length_nil]; omega) | (simp; omega)) (by decide) | omega | assumption | decide | (simp only [Int.toNat_natCast, dflt_sl, dflt_st, dflt_str, dflt_int, dflt_bool]; omega) | (simp <;> omega)) ?_
              refine aord_light 9 rfl rfl rfl (by kernel_rfl) ?_
              refine aord_light 10 rfl rfl rfl (by kernel_rfl) ?_
              refine aord_all [11] (by kernel_rfl) rfl ?_
              refine aord_done (by kernel_rfl) ?_
              refine acode_seq ?_
              refine acode_region ?_
              refine acode_ret ?_
              exact ⟨rfl, ⟨rfl, rfl, rfl, rfl, rfl⟩, rfl⟩
            · refine aord_all [4] (by kernel_rfl) rfl ?_
              refine aord_all [8] (by kernel_rfl) rfl ?_
              refine And.intro (by first | exact app_le (by first | omega | (simp only [List.length_cons, List.length_nil]; omega) | (simp; omega)) (by decide) | omega | assumption | decide | (simp only [Int.toNat_natCast, dflt_sl, dflt_st, dflt_str, dflt_int, dflt_bool]; omega) | (simp <;> omega)) ?_
              refine aord_light 9 rfl rfl rfl (by kernel_rfl) ?_
              refine aord_light 10 rfl rfl rfl (by kernel_rfl) ?_
              refine aord_all [11] (by kernel_rfl) rfl ?_
              refine aord_done (by kernel_rfl) ?_
              refine acode_seq ?_
              refine acode_region ?_
              refine acode_ret ?_
              exact ⟨rfl, ⟨rfl, rfl, rfl, rfl, rfl⟩, rfl⟩
        · try simp only [decide_eq_false_iff_not] at h45
          try simp only [Int.toNat_natCast, dflt_sl, dflt_st, dflt_str, dflt_int, dflt_bool] at h45
          exact absurd hk h45
theorem take_more {p q : PSt} {l : Lne} (h : aheadS p l (kindL (ls l.2.2.1)) = .inr q) (h5 : kindL (ls l.2.2.1) ≠ 5) (h1 : kindL (ls l.2.2.1) ≠ 1) (h4 : kindL (ls l.2.2.1) ≠ 4) (he : l.2.2.2 = true) (hb : PB p 900000) (hq : PB q 1000000) (hs : l.2.2.1.size ≤ 90000) : ACallO Tryz.prog 76 [.one (.own 0 0), .agg (toL rLne l)] (psO p) 5 (.one (.lit .nilIface)) (psO { q with blk := q.blk ++ [l.2.2.1] }) 5 := by
  have hi := hq.blk
  refine acallo_of (rs := [4]) Tryz.func76 rfl rfl rfl teOk (by decide) rfl ?_
  refine acode_seq ?_
  refine acode_region ?_
  refine acode_seq ?_
  refine acode_region ?_
  refine Or.inl ?_
  refine And.intro (rfl) ?_
  refine Exists.intro _ (And.intro (kind_c l.2.2.1 (Nat.le_trans hs (by decide))) ?_)
  refine acode_seq ?_
  refine acode_seq ?_
  refine acode_region ?_
  refine Or.inr (Or.inl (Exists.intro [] (Exists.intro [0, 1, 2, 3, 4] (Exists.intro _ (Exists.intro _ (Exists.intro _ (Exists.intro _ (Exists.intro _ (And.intro (ahead_ok h hb hs) (And.intro rfl (And.intro (And.intro (And.intro rfl rfl) (And.intro (And.intro rfl rfl) (And.intro (And.intro rfl rfl) (And.intro (And.intro rfl rfl) (And.intro (And.intro rfl rfl) True.intro))))) (And.intro rfl ?_))))))))))))
  refine acode_seq ?_
  refine acode_region ?_
  refine acode_cond rfl (fun h15 => ?_) (fun h15 => ?_)
  · try simp only [Bool.not_eq_true'] at h15
    try simp only [Int.toNat_natCast, dflt_sl, dflt_st, dflt_str, dflt_int, dflt_bool] at h15
    cases h15
  · try simp only [Bool.not_eq_false'] at h15
    try simp only [Int.toNat_natCast, dflt_sl, dflt_st, dflt_str, dflt_int, dflt_bool] at h15
    refine acode_skip ?_
    refine acode_seq ?_
    refine acode_block ?_
    refine acode_seq ?_
    refine acode_region ?_
    refine And.intro (fun h => trivial) ?_
    refine And.intro (fun h => ⟨⟨h, trivial⟩, trivial⟩) ?_
    refine And.intro (fun h => ⟨⟨h, trivial⟩, trivial⟩) ?_
    refine And.intro (by first | (intro h; rw [h]; rfl) | (intro h; cases h)) ?_
    refine acode_cond rfl (fun h17 => ?_) (fun h17 => ?_)
    · try simp only [decide_eq_true_eq, Bool.not_eq_true', Bool.or_eq_true] at h17
      try simp only [Int.toNat_natCast, dflt_sl, dflt_st, dflt_str, dflt_int, dflt_bool] at h17
      exact absurd h17 (by simp [h5, he])
    · try simp only [decide_eq_false_iff_not, Bool.not_eq_false', Bool.or_eq_false_iff] at h17
      try simp only [Int.toNat_natCast, dflt_sl, dflt_st, dflt_str, dflt_int, dflt_bool] at h17
      refine acode_seq ?_
      refine acode_region ?_
      refine acode_cond rfl (fun h29 => ?_) (fun h29 => ?_)
      · try simp only [decide_eq_true_eq] at h29
        try simp only [Int.toNat_natCast, dflt_sl, dflt_st, dflt_str, dflt_int, dflt_bool] at h29
        exact absurd h29 h1
      · try simp only [decide_eq_false_iff_not] at h29
        try simp only [Int.toNat_natCast, dflt_sl, dflt_st, dflt_str, dflt_int, dflt_bool] at h29
        refine acode_seq ?_
        refine acode_region ?_
        refine acode_cond rfl (fun h45 => ?_) (fun h45 => ?_)
        · try simp only [decide_eq_true_eq] at h45
          try simp only [Int.toNat_natCast, dflt_sl, dflt_st, dflt_str, dflt_int, dflt_bool] at h45
          exact absurd h45 h4
        · try simp only [decide_eq_false_iff_not] at h45
          try simp only [Int.toNat_natCast, dflt_sl, dflt_st, dflt_str, dflt_int, dflt_bool] at h45
          refine acode_skip ?_
          refine acode_seq ?_
          refine acode_ord rfl ?_
          refine aord_light 0 rfl rfl rfl (by kernel_rfl) ?_
          refine aord_light 1 rfl rfl rfl (by kernel_rfl) ?_
          refine aord_light 2 rfl rfl rfl (by kernel_rfl) ?_
          refine aord_light 3 rfl rfl rfl (by kernel_rfl) ?_
          refine aord_light 5 rfl rfl rfl (by kernel_rfl) ?_
          refine aord_all [4, 6] (by kernel_rfl) rfl ?_
          refine And.intro ?_ ?_
          · refine aord_all [6] (by kernel_rfl) rfl ?_
            refine aord_all [7] (by kernel_rfl) rfl ?_
            refine aord_all [8] (by kernel_rfl) rfl ?_
            refine And.intro (by first | exact app_le (by first | omega | (simp only [List.length_cons, List.length_nil]; omega) | (simp; omega)) (by decide) | omega | assumption | decide | (simp only [Int.toNat_natCast, dflt_sl, dflt_st, dflt_str, dflt_int, dflt_bool]; omega) | (simp <;> omega)) ?_
            refine aord_light 9 rfl rfl rfl (by kernel_rfl) ?_
            refine aord_light 10 rfl rfl rfl (by kernel_rfl) ?_
            refine aord_all [11] (by kernel_rfl) rfl ?_
            refine aord_done (by kernel_rfl) ?_
            refine acode_seq ?_
            refine acode_region ?_
            refine acode_ret ?_
            exact ⟨rfl, ⟨rfl, rfl, rfl, rfl, rfl⟩, rfl⟩
          · refine aord_all [4, 7] (by kernel_rfl) rfl ?_
            refine And.intro ?_ ?_
            · refine aord_all [7] (by kernel_rfl) rfl ?_
              refine aord_all [8] (by kernel_rfl) rfl ?_
              refine And.intro (by first | exact app_le (by first | omega | (simp only [List.length_cons, List.length_nil]; omega) | (simp; omega)) (by decide) | omega | assumption | decide | (simp only [Int.toNat_natCast, dflt_sl, dflt_st, dflt_str, dflt_int, dflt_bool]; omega) | (simp <;> omega)) ?_
              refine aord_light 9 rfl rfl rfl (by kernel_rfl) ?_
              refine aord_light 10 rfl rfl rfl (by kernel_rfl) ?_
              refine aord_all [11] (by kernel_rfl) rfl ?_
              refine aord_done (by kernel_rfl) ?_
              refine acode_seq ?_
              refine acode_region ?_
              refine acode_ret ?_
              exact ⟨rfl, ⟨rfl, rfl, rfl, rfl, rfl⟩, rfl⟩
            · refine aord_all [4] (by kernel_rfl) rfl ?_
              refine aord_all [8] (by kernel_rfl) rfl ?_
              refine And.intro (by first | exact app_le (by first | omega | (simp only [List.length_cons, List.length_nil]; omega) | (simp; omega)) (by decide) | omega | assumption | decide | (simp only [Int.toNat_natCast, dflt_sl, dflt_st, dflt_str, dflt_int, dflt_bool]; omega) | (simp <;> omega)) ?_
              refine aord_light 9 rfl rfl rfl (by kernel_rfl) ?_
              refine aord_light 10 rfl rfl rfl (by kernel_rfl) ?_
              refine aord_all [11] (by kernel_rfl) rfl ?_
              refine aord_done (by kernel_rfl) ?_
              refine acode_seq ?_
              refine acode_region ?_
              refine acode_ret ?_
              exact ⟨rfl, ⟨rfl, rfl, rfl, rfl, rfl⟩, rfl⟩
theorem take_ok {p q : PSt} {l : Lne} (h : takeS p l = .inr q) (hb : PB p 800000) (hs : l.2.2.1.size ≤ 90000) : ACallO Tryz.prog 76 [.one (.own 0 0), .agg (toL rLne l)] (psO p) 5 (.one (.lit .nilIface)) (psO q) 5 := by
  unfold takeS at h
  split at h
  · cases h
  · rename_i r e
    have hb' : PB p 900000 := hb.mono (by decide)
    have hr : PB r 1000000 := (aheadS_B hb e).mono (by omega)
    unfold lineS at h
    split at h
    · cases h
    · rename_i h0
      have h5 : kindL (ls l.2.2.1) ≠ 5 := fun e => h0 (.inl e)
      have he : l.2.2.2 = true := by
        cases e : l.2.2.2
        · exact absurd (.inr e) h0
        · rfl
      split at h
      · rename_i h1; cases h; exact take_blank e h1 he hb' (hr.mono (by decide)) hs
      · rename_i h1
        split at h
        · rename_i h4; cases h; exact take_pair e h4 he hb' hr hs
        · rename_i h4; cases h; exact take_more e h5 h1 h4 he hb' hr hs
theorem take_err {p : PSt} {l : Lne} {at_ n : Int} (h : takeS p l = .inl (at_, n)) (hb : PB p 800000) (hs : l.2.2.1.size ≤ 90000) : ACallO Tryz.prog 76 [.one (.own 0 0), .agg (toL rLne l)] (psO p) 5 (.one (errF at_ n)) [] 5 := by
  unfold takeS at h
  split at h
  · rename_i e; cases h; exact take_err1 e (hb.mono (by decide)) hs
  · rename_i r e
    unfold lineS at h
    split at h
    · rename_i h0; cases h; exact take_odd e h0 (hb.mono (by decide)) hs
    · split at h
      · cases h
      · split at h
        · cases h
        · cases h
end Q
end Ab
end Go.Proofs.YtklhlkhlndhepaaGreatDoor
namespace Go.Proofs.YtklhlkhlndhepaaGreatDoor
open Go.RowKit
namespace Ab
set_option maxRecDepth 100000
namespace Q
/-- A text's lines from one on: its number, where it begins, what it says, whether it is ended. -/
def linesR : Nat → Int → Int → List UInt8 → List Lne
  | 0, _, _, _ => []
  | f + 1, tot, no, s => match s with
    | [] => []
    | s => (no, tot - s.length, bytes (Lib.cut s [10]).1, (Lib.cut s [10]).2.2) :: linesR f tot (no + 1) (Lib.cut s [10]).2.1
def linesT (s : ByteArray) : List Lne := linesR s.size s.size 0 (ls s)
def itLs (s : ByteArray) : List (List A) := (linesT s).map fun l => [A.agg (toL rLne l)]
theorem cut_less {r : List UInt8} {c : UInt8} (h : r ≠ []) : (Lib.cut r [c]).2.1.length < r.length := by
  by_cases hm : c ∈ r
  · obtain ⟨a, b, rfl, hn⟩ := List.eq_append_cons_of_mem hm
    rw [cut_at hn, List.length_append, List.length_cons]
    show b.length < _
    omega
  · rw [cut_none hm]
    exact List.length_pos_iff.2 h
theorem le_refl {nx0 : Nat} {tm : Tm} {ob : Obs} {nx : Nat} : Le nx0 tm ob nx tm ob nx := ⟨fun _ _ ρ _ _ hs => ⟨ρ, hs⟩⟩
theorem split_iter (s : ByteArray) (hs : s.size ≤ 1000000) : AIter Tryz.prog 115 [.one (.addr .str s)] (itLs s) := by
  refine aiter_of Tryz.func115 rfl rfl rfl teOk rfl ?_
  intro l ι Pr J U n0 hU hab hy
  refine acodeY_seq ?_
  refine acodeY_seg hab hU rfl ?_
  refine acode_region ?_
  refine ⟨_, _, _, le_refl, ?_⟩
  refine acodeY_seq ?_
  refine acodeY_seg hab hU rfl ?_
  refine acode_region ?_
  refine ⟨_, _, _, le_refl, ?_⟩
  refine acodeY_block ?_
  refine acodeY_loop (κ := Nat × Nat × List UInt8 × ByteArray × Bool) (fun i => i.2.2.1.length ≤ i.1 ∧ i.2.1 + i.1 ≤ s.size ∧ i.2.1 ≤ (linesT s).length ∧ (linesT s).drop i.2.1 = linesR i.1 s.size i.2.1 i.2.2.1) (fun i => i.2.1) (fun i => [(0, .one (.lit (.func (.yield l) #[] #[]))), (1, .one (.addr .str s)), (3, .one (.own 0 0)), (4, is (bytes i.2.2.1))]) (fun i => [(0, .box 146 [.lit (.int .i64 i.2.1), .lit (.int .i64 (s.size - i.2.2.1.length)), .lit (.string i.2.2.2.1), .lit (.bool i.2.2.2.2)])]) 1 (fun i => i.1) (s.size, 0, ls s, ByteArray.empty, false) ⟨by rw [show (ls s).length = s.size from (size_list s).symm]; exact Nat.le_refl _, by simp, Nat.zero_le _, rfl⟩ hab hU (le_of ⟨rfl, rfl, rfl, by rw [bytes_ls]; rfl⟩ ?_ rfl) rfl ?_
  · show leO _ [(0, Ob.box 146 [_, C.lit (.int .i64 ((s.size : Int) - ((ls s).length : Nat))), _, _])]
    rw [show (ls s).length = s.size from (size_list s).symm, Int.sub_self]
    exact rfl
  intro i hi
  obtain ⟨f, k, r, t0, e0⟩ := i
  obtain ⟨h1, h2, h3, h4⟩ := hi
  simp only at h1 h2 h3 h4
  have hrs : r.length ≤ s.size := Nat.le_trans h1 (by omega)
  refine acodeY_seq ?_
  refine acodeY_seq ?_
  refine acodeY_seg hab hU rfl ?_
  refine acode_region ?_
  refine ⟨_, _, _, le_refl, ?_⟩
  refine acodeY_cond rfl (fun hc => ?_) (fun hc => ?_)
  · simp only at hc
    have hne : r ≠ [] := fun e => by
      have e' : bytes r = ⟨#[]⟩ := by rw [e]; rfl
      rw [e'] at hc
      simp at hc
    obtain ⟨f', hf⟩ : ∃ f', f = f' + 1 := ⟨f - 1, by have := List.length_pos_iff.2 hne; omega⟩
    subst hf
    have hd : (linesT s).drop k = ((k : Int), (s.size : Int) - r.length, bytes (Lib.cut r [10]).1, (Lib.cut r [10]).2.2) :: linesR f' s.size (k + 1 : Nat) (Lib.cut r [10]).2.1 := by
      rw [h4]
      cases r with
      | nil => exact absurd rfl hne
      | cons a r => rfl
    have hk : k < (linesT s).length := by
      rcases Nat.lt_or_ge k (linesT s).length with h | h
      · exact h
      · rw [List.drop_eq_nil_of_le h] at hd; cases hd
    have hget : (linesT s)[k] = ((k : Int), (s.size : Int) - r.length, bytes (Lib.cut r [10]).1, (Lib.cut r [10]).2.2) := by
      rw [List.drop_eq_getElem_cons hk] at hd
      exact (List.cons.inj hd).1
    have hdrop : (linesT s).drop (k + 1) = linesR f' s.size (k + 1 : Nat) (Lib.cut r [10]).2.1 := by
      rw [List.drop_eq_getElem_cons hk] at hd
      exact (List.cons.inj hd).2
    have hkx : k < (itLs s).length := by unfold itLs; rw [List.length_map]; exact hk
    have hx : (itLs s)[k] = [A.agg (toL rLne ((k : Int), (s.size : Int) - r.length, bytes (Lib.cut r [10]).1, (Lib.cut r [10]).2.2))] := by
      simp only [itLs, List.getElem_map, hget]
    have hcl : (Lib.cut r [10]).2.1.length < r.length := cut_less hne
    have hcc : ACall Tryz.prog 116 [is (bytes r), is ⟨#[10]⟩] (.tup [(false, [.lit (.string (bytes (Lib.cut r [10]).1))]), (false, [.lit (.string (bytes (Lib.cut r [10]).2.1))]), (false, [.lit (.bool (Lib.cut r [10]).2.2)])]) := by
      have := cut_c (bytes r) ⟨#[10]⟩ (by rw [bytes_size]; omega)
      rw [bytes_list] at this
      exact this
    generalize Lib.cut r [10] = c at *
    refine acodeY_skip ?_
    refine acodeY_block ?_
    refine acodeY_seq ?_
    refine acodeY_seg hab hU rfl ?_
    refine acode_region ?_
    refine Or.inl ?_
    refine And.intro (rfl) ?_
    refine Exists.intro _ (And.intro hcc ?_)
    refine ⟨_, _, _, le_refl, ?_⟩
    refine acodeY_seq ?_
    refine acodeY_seq ?_
    refine acodeY_yield (pre := [_, _]) (post := [_]) _ rfl rfl rfl hab hU hy hkx ?_
    refine ⟨_, _, _, le_refl, rfl, ?_, by rw [hx]; rfl, ?_⟩
    · rw [hx]
      rfl
    · intro st
      refine ⟨_, _, _, le_refl, ?_⟩
      refine acodeY_cond rfl (fun ht => ?_) (fun ht => ?_)
      · refine acodeY_ret ?_
        rw [Bool.not_not] at ht
        subst ht
        exact ⟨.inl rfl, fun e => by cases e⟩
      · rw [Bool.not_not] at ht
        subst ht
        refine acodeY_skip ?_
        refine acodeY_seq ?_
        refine acodeY_seg hab hU rfl ?_
        refine acode_region ?_
        refine And.intro (by simp only; omega) ?_
        refine ⟨_, _, _, le_refl, ?_⟩
        refine acodeY_seg hab hU rfl ?_
        refine acode_region ?_
        refine And.intro (by rw [bytes_size]; omega) ?_
        refine ⟨_, _, _, ?_, ⟨(f', k + 1, c.2.1, bytes c.1, c.2.2), ⟨by simp only; omega, by simp only; omega, hk, hdrop⟩, Nat.lt_succ_self _, rfl, rfl, rfl, rfl, rfl⟩⟩
        refine le_of ⟨rfl, rfl, rfl, rfl⟩ ?_ rfl
        show leO _ [(0, Ob.box 146 [C.lit (.int .i64 ((k + 1 : Nat) : Int)), C.lit (.int .i64 ((s.size : Int) - (c.2.1.length : Nat))), C.lit (.string (bytes c.1)), C.lit (.bool c.2.2)])]
        rw [← bytes_size c.2.1]
        exact rfl
  · have hr : r = [] := by
      simp only at hc
      have : bytes r = ⟨#[]⟩ := by simpa using hc
      have := congrArg (fun b => b.data.toList) this
      simpa [bytes_list] using this
    refine acodeY_exit ?_
    rw [hr] at h4
    have h5 : (linesT s).drop k = [] := by rw [h4]; cases f <;> rfl
    have h6 := List.drop_eq_nil_iff.1 h5
    exact ⟨.inr rfl, fun _ => by simp only [itLs, List.length_map]; omega⟩
end Q
end Ab
end Go.Proofs.YtklhlkhlndhepaaGreatDoor
namespace Go.Proofs.YtklhlkhlndhepaaGreatDoor
open Go.RowKit
namespace Ab
set_option maxRecDepth 100000
namespace Q
theorem split_c (s : ByteArray) : ACall Tryz.prog 75 [is s] (.one (.clo 115 (.addr .str s))) := by
  refine acall_of (rs := [2]) Tryz.func75 rfl rfl rfl teOk rfl ?_
  refine acode_seq ?_
  refine acode_region ?_
  refine acode_seq ?_
  refine acode_region ?_
  refine acode_frz [0] ?_
  refine acode_ret ?_
  rfl
def runS (p : PSt) : List Lne → (Int × Int) ⊕ PSt
  | [] => .inr p
  | l :: r => match takeS p l with
    | .inl e => .inl e
    | .inr q => runS q r
def parseS (s : ByteArray) : (Int × Int) ⊕ List Itm := match runS pst0 (linesT s) with
  | .inl e => .inl e
  | .inr p => match endS p with
    | .inl e => .inl e
    | .inr q => .inr q.its
def resP : (Int × Int) ⊕ List Itm → A
  | .inl e => .tup [(false, [.sl rItm []]), (false, [errF e.1 e.2])]
  | .inr l => .tup [(false, [.sl rItm l]), (false, [.lit .nilIface])]
theorem linesR_len : ∀ (f : Nat) (tot no : Int) (s : List UInt8), (linesR f tot no s).length ≤ s.length ∧ ((linesR f tot no s).map (·.2.2.1.size)).sum ≤ s.length
  | 0, _, _, _ => by simp [linesR]
  | f + 1, tot, no, [] => by simp [linesR]
  | f + 1, tot, no, a :: r => by
    obtain ⟨h1, h2⟩ := linesR_len f tot (no + 1) (Lib.cut (a :: r) [10]).2.1
    have h3 : (Lib.cut (a :: r) [10]).2.1.length < (a :: r).length := cut_less (by simp)
    have h4 : (Lib.cut (a :: r) [10]).1.length + (Lib.cut (a :: r) [10]).2.1.length ≤ (a :: r).length := by
      by_cases hm : (10 : UInt8) ∈ a :: r
      · obtain ⟨x, b, e, hn⟩ := List.eq_append_cons_of_mem hm
        rw [e, cut_at hn, List.length_append, List.length_cons]
        show x.length + b.length ≤ _
        omega
      · rw [cut_none hm]
        exact Nat.le_refl _
    unfold linesR
    simp only [List.length_cons, List.map_cons, List.sum_cons, bytes_size] at h3 h4 ⊢
    exact ⟨by omega, by omega⟩
theorem linesT_len (s : ByteArray) : (linesT s).length ≤ s.size ∧ ((linesT s).map (·.2.2.1.size)).sum ≤ s.size := by
  have := linesR_len s.size s.size 0 (ls s)
  rw [show (ls s).length = s.size from (size_list s).symm] at this
  exact this
def prP (L : List Lne) : Bool → Nat → PSt ⊕ (Int × Int) → Prop
  | false, k, .inl p => runS pst0 L = runS p (L.drop k) ∧ ∃ B, PB p B ∧ B + 3 * (L.drop k).length + 2 * ((L.drop k).map (·.2.2.1.size)).sum ≤ 600000
  | true, _, .inr e => runS pst0 L = .inl e
  | _, _, _ => False
def obP : PSt ⊕ (Int × Int) → Obs
  | .inl p => [(0, .box 69 [.lit (.slice none 0 0)]), (1, .box 42 [.lit .nilIface]), (2, .box 141 [.vec 4, .lit (.int .i64 p.frm), .lit (.bool p.full), .vec 5, .vec 6, .vec 7, .lit (.int .i64 p.recs)]), (3, .box 137 [.own 2 0]), (4, .vec 9 .str p.lns), (5, .vec 73 rItm p.its), (6, .vec 9 .str p.blk), (7, .vec 91 rFld p.flds)]
  | .inr e => [(0, .box 69 [.lit (.slice none 0 0)]), (1, .box 42 [errF e.1 e.2])]
theorem prP_next {L : List Lne} {k : Nat} {p q : PSt} {l : Lne} (hk : k < L.length) (hl : L[k] = l) (h : prP L false k (.inl p)) (ht : takeS p l = .inr q) : prP L false (k + 1) (.inl q) := by
  obtain ⟨h1, B, h2, h3⟩ := h
  rw [List.drop_eq_getElem_cons hk, hl] at h1 h3
  simp only [runS, ht] at h1
  simp only [List.length_cons, List.map_cons, List.sum_cons] at h3
  exact ⟨h1, _, takeS_B h2 ht, by omega⟩
theorem prP_stop {L : List Lne} {k : Nat} {p : PSt} {e : Int × Int} {l : Lne} (hk : k < L.length) (hl : L[k] = l) (h : prP L false k (.inl p)) (ht : takeS p l = .inl e) : prP L true (k + 1) (.inr e) := by
  obtain ⟨h1, B, h2, h3⟩ := h
  rw [List.drop_eq_getElem_cons hk, hl] at h1
  simp only [runS, ht] at h1
  exact h1
theorem prP_B {L : List Lne} {k : Nat} {p : PSt} {l : Lne} (hk : k < L.length) (hl : L[k] = l) (h : prP L false k (.inl p)) : PB p 800000 ∧ l.2.2.1.size ≤ 300000 := by
  obtain ⟨h1, B, h2, h3⟩ := h
  rw [List.drop_eq_getElem_cons hk, hl] at h3
  simp only [List.length_cons, List.map_cons, List.sum_cons] at h3
  exact ⟨h2.mono (by omega), by omega⟩
theorem prP_end {L : List Lne} {p : PSt} (h : prP L false L.length (.inl p)) : runS pst0 L = .inr p ∧ PB p 1000000 := by
  obtain ⟨h1, B, h2, h3⟩ := h
  rw [List.drop_length] at h1
  exact ⟨h1, h2.mono (by omega)⟩
theorem linesT_sz {s : ByteArray} {k : Nat} (hk : k < (linesT s).length) : ((linesT s)[k]).2.2.1.size ≤ s.size := by
  have h := (linesT_len s).2
  have h1 : (linesT s) = (linesT s).take k ++ (linesT s)[k] :: (linesT s).drop (k + 1) := by rw [← List.drop_eq_getElem_cons hk, List.take_append_drop]
  rw [h1, List.map_append, List.sum_append, List.map_cons, List.sum_cons] at h
  omega
theorem parse_a (s : ByteArray) (hs : s.size ≤ 60000) : ACall Tryz.prog 41 [is s] (resP (parseS s)) := by
  have hlen := linesT_len s
  refine acall_ofc (rs := [.cell 2 69, .cell 3 42]) Tryz.func41 rfl rfl rfl teOk rfl ?_
  refine acode_seq ?_
  refine acode_region ?_
  refine acode_seq ?_
  refine acode_seq ?_
  refine acode_region ?_
  refine acode_cond rfl (fun h10 => ?_) (fun h10 => ?_)
  · try simp only [decide_eq_true_eq] at h10
    try simp only [Int.toNat_natCast, dflt_sl, dflt_st, dflt_str, dflt_int, dflt_bool] at h10
    omega
  · try simp only [decide_eq_false_iff_not, Int.not_lt] at h10
    try simp only [Int.toNat_natCast, dflt_sl, dflt_st, dflt_str, dflt_int, dflt_bool] at h10
    refine acode_skip ?_
    refine acode_seq ?_
    refine acode_region ?_
    refine acode_seq ?_
    refine acode_seq ?_
    refine acode_nilcell 2 0 9 .str rfl rfl rfl ?_
    refine acode_nilcell 2 3 73 rItm rfl rfl rfl ?_
    refine acode_nilcell 2 4 9 .str rfl rfl rfl ?_
    refine acode_nilcell 2 5 91 rFld rfl rfl rfl ?_
    refine acode_region ?_
    refine Or.inl ?_
    refine And.intro (rfl) ?_
    refine Exists.intro _ (And.intro (split_c s) ?_)
    refine acode_block ?_
    refine acode_range (caps := [.one (.addr .str s)]) (xs := itLs s) [(2, .one (.own 0 0)), (3, .one (.own 1 0)), (4, .one (.own 3 0)), (15, .one (.clo 115 (.addr .str s)))] 8 (prP (linesT s)) obP (fun _ => .ret) (.inl pst0) rfl rfl (split_iter s (by omega)) (le_of ⟨rfl, rfl, rfl, rfl⟩ ⟨rfl, rfl, rfl, rfl, rfl, rfl, rfl, rfl⟩ rfl) ⟨rfl, 0, ⟨Nat.le_refl _, Nat.le_refl _, Nat.le_refl _, Nat.le_refl _, Nat.le_refl _, Nat.le_refl _, Int.le_refl _, Int.le_refl _⟩, by rw [List.drop_zero]; omega⟩ (fun k hk => by simp [itLs]) rfl rfl rfl (fun k i h => by cases i with | inl p => rfl | inr e => exact h.elim) rfl ?_ ?_ ?_
    · intro k i hk hp
      have hk2 : k < (linesT s).length := (by have := hk; unfold itLs at this; rwa [List.length_map] at this)
      rw [show (itLs s)[k] = [A.agg (toL rLne ((linesT s)[k]))] from by simp [itLs]]
      obtain ⟨l, hl⟩ : ∃ l, (linesT s)[k] = l := ⟨_, rfl⟩
      rw [hl]
      cases i with | inr e => exact hp.elim | inl p => ?_
      obtain ⟨hB, hz⟩ := prP_B hk2 hl hp
      have hz2 : l.2.2.1.size ≤ 90000 := (by have h1 := linesT_sz hk2; rw [hl] at h1; omega)
      refine acode_region ?_
      refine acode_block ?_
      refine acode_seq ?_
      rcases ht : takeS p l with ⟨at_, n⟩ | q
      · refine acode_region ?_
        refine Or.inr (Or.inl (Exists.intro [] (Exists.intro [2, 4, 5, 6, 7] (Exists.intro _ (Exists.intro _ (Exists.intro _ (Exists.intro _ (Exists.intro _ (And.intro (take_err ht hB hz2) (And.intro rfl (And.intro (And.intro (And.intro rfl rfl) (And.intro (And.intro rfl rfl) (And.intro (And.intro rfl rfl) (And.intro (And.intro rfl rfl) (And.intro (And.intro rfl rfl) True.intro))))) (And.intro rfl ?_))))))))))))
        refine acode_seq ?_
        refine acode_region ?_
        refine acode_cond rfl (fun h21 => ?_) (fun h21 => ?_)
        · skip
          refine acode_seq ?_
          refine acode_region ?_
          refine acode_ret ?_
          exact ⟨.inr (at_, n), prP_stop hk2 hl hp ht, rfl, le_of trivial ⟨rfl, rfl⟩ rfl⟩
        · try simp only [decide_eq_true_eq, decide_eq_false_iff_not, Bool.and_eq_true, Bool.not_eq_true', Bool.not_eq_false', Bool.or_eq_false_iff, Bool.or_eq_true, Bool.and_eq_false_iff, Int.not_lt, Int.not_le] at h21
          try simp only [Int.toNat_natCast, dflt_sl, dflt_st, dflt_str, dflt_int, dflt_bool] at h21
          cases h21
      · refine acode_region ?_
        refine Or.inr (Or.inl (Exists.intro [] (Exists.intro [2, 4, 5, 6, 7] (Exists.intro _ (Exists.intro _ (Exists.intro _ (Exists.intro _ (Exists.intro _ (And.intro (take_ok ht hB hz2) (And.intro rfl (And.intro (And.intro (And.intro rfl rfl) (And.intro (And.intro rfl rfl) (And.intro (And.intro rfl rfl) (And.intro (And.intro rfl rfl) (And.intro (And.intro rfl rfl) True.intro))))) (And.intro rfl ?_))))))))))))
        refine acode_seq ?_
        refine acode_region ?_
        refine acode_cond rfl (fun h21 => ?_) (fun h21 => ?_)
        · try simp only [Bool.not_eq_true'] at h21
          try simp only [Int.toNat_natCast, dflt_sl, dflt_st, dflt_str, dflt_int, dflt_bool] at h21
          cases h21
        · try simp only [Bool.not_eq_false'] at h21
          try simp only [Int.toNat_natCast, dflt_sl, dflt_st, dflt_str, dflt_int, dflt_bool] at h21
          refine acode_skip ?_
          exact ⟨.inl q, prP_next hk2 hl hp ht, le_of trivial ⟨rfl, rfl, rfl, rfl, rfl, rfl, rfl, rfl⟩ rfl⟩
    · intro i hp
      cases i with | inr e => exact hp.elim | inl p => ?_
      rw [show (itLs s).length = (linesT s).length from by simp [itLs]] at hp
      obtain ⟨hr, hB⟩ := prP_end hp
      refine acode_seq ?_
      refine acode_seq ?_
      rcases he : endS p with ⟨at_, n⟩ | q
      · refine acode_region ?_
        refine Or.inr (Or.inl (Exists.intro [] (Exists.intro [2, 4, 5, 6, 7] (Exists.intro _ (Exists.intro _ (Exists.intro _ (Exists.intro _ (Exists.intro _ (And.intro (end_err he hB) (And.intro rfl (And.intro (And.intro (And.intro rfl rfl) (And.intro (And.intro rfl rfl) (And.intro (And.intro rfl rfl) (And.intro (And.intro rfl rfl) (And.intro (And.intro rfl rfl) True.intro))))) (And.intro rfl ?_))))))))))))
        refine acode_seq ?_
        refine acode_region ?_
        refine acode_cond rfl (fun h26 => ?_) (fun h26 => ?_)
        · skip
          refine acode_seq ?_
          refine acode_region ?_
          refine acode_nilcell 0 0 73 rItm rfl rfl rfl ?_
          refine acode_ret ?_
          rw [show parseS s = .inl (at_, n) from by unfold parseS; rw [hr]; simp only [he]]
          exact rfl
        · try simp only [decide_eq_true_eq, decide_eq_false_iff_not, Bool.and_eq_true, Bool.not_eq_true', Bool.not_eq_false', Bool.or_eq_false_iff, Bool.or_eq_true, Bool.and_eq_false_iff, Int.not_lt, Int.not_le] at h26
          try simp only [Int.toNat_natCast, dflt_sl, dflt_st, dflt_str, dflt_int, dflt_bool] at h26
          cases h26
      · refine acode_region ?_
        refine Or.inr (Or.inl (Exists.intro [] (Exists.intro [2, 4, 5, 6, 7] (Exists.intro _ (Exists.intro _ (Exists.intro _ (Exists.intro _ (Exists.intro _ (And.intro (end_ok he hB) (And.intro rfl (And.intro (And.intro (And.intro rfl rfl) (And.intro (And.intro rfl rfl) (And.intro (And.intro rfl rfl) (And.intro (And.intro rfl rfl) (And.intro (And.intro rfl rfl) True.intro))))) (And.intro rfl ?_))))))))))))
        refine acode_seq ?_
        refine acode_region ?_
        refine acode_cond rfl (fun h26 => ?_) (fun h26 => ?_)
        · try simp only [Bool.not_eq_true'] at h26
          try simp only [Int.toNat_natCast, dflt_sl, dflt_st, dflt_str, dflt_int, dflt_bool] at h26
          cases h26
        · try simp only [Bool.not_eq_false'] at h26
          try simp only [Int.toNat_natCast, dflt_sl, dflt_st, dflt_str, dflt_int, dflt_bool] at h26
          refine acode_skip ?_
          refine acode_seq ?_
          refine acode_region ?_
          refine acode_ret ?_
          rw [show parseS s = .inr q.its from by unfold parseS; rw [hr]; simp only [he]]
          exact rfl
    · intro k i hp
      cases i with | inl p => exact hp.elim | inr e => ?_
      have hp : runS pst0 (linesT s) = .inl e := hp
      refine acode_nilcell 0 0 73 rItm rfl rfl rfl ?_
      refine acode_ret ?_
      rw [show parseS s = .inl e from by unfold parseS; rw [hp]]
      exact rfl
end Q
end Ab
end Go.Proofs.YtklhlkhlndhepaaGreatDoor
namespace Go.Proofs.YtklhlkhlndhepaaGreatDoor
open Go.RowKit
namespace Ab
set_option maxRecDepth 100000
namespace Q
end Q
end Ab
end Go.Proofs.YtklhlkhlndhepaaGreatDoor
namespace Go.Proofs.YtklhlkhlndhepaaGreatDoor
open Go.RowKit
namespace Ab
set_option maxRecDepth 100000
namespace Q
theorem alive_parse : parseS ⟨#[65, 58, 32, 49, 10, 35, 32, 120, 10, 10]⟩ = .inr [(3, ⟨#[65, 58, 32, 49, 10, 35, 32, 120, 10]⟩, [(⟨#[65]⟩, ⟨#[49]⟩)]), (1, ⟨#[10]⟩, [])] := by
  decide +kernel
end Q
end Ab
end Go.Proofs.YtklhlkhlndhepaaGreatDoor
namespace Go.Proofs.YtklhlkhlndhepaaGreatDoor
open Go.RowKit
namespace Ab
set_option maxRecDepth 100000
namespace Q
def oneL (k : Nat) : List UInt8 := (List.replicate k [65, 58, 10]).flatten
def manyL (k : Nat) : List UInt8 := (List.replicate k [65, 58, 10, 10]).flatten
def PClean (p : PSt) (r : Int) : Prop := p.lns = [] ∧ p.blk = [] ∧ p.flds = [] ∧ p.recs = r
theorem linesR_cons (f : Nat) (tot no : Int) (a : UInt8) (r : List UInt8) : linesR (f + 1) tot no (a :: r) = (no, tot - ((a :: r).length : Nat), bytes (Lib.cut (a :: r) [10]).1, (Lib.cut (a :: r) [10]).2.2) :: linesR f tot (no + 1) (Lib.cut (a :: r) [10]).2.1 := rfl
end Q
end Ab
end Go.Proofs.YtklhlkhlndhepaaGreatDoor
namespace Go.Proofs.YtklhlkhlndhepaaGreatDoor
open Go.RowKit
namespace Ab
set_option maxRecDepth 100000
namespace Q
/-- A text's lines, without their numbers. -/
def linesB : Nat → List UInt8 → List (ByteArray × Bool)
  | 0, _ => []
  | f + 1, s => match s with
    | [] => []
    | s => (bytes (Lib.cut s [10]).1, (Lib.cut s [10]).2.2) :: linesB f (Lib.cut s [10]).2.1
def glue : List (ByteArray × Bool) → List UInt8
  | [] => []
  | l :: r => ls l.1 ++ ((if l.2 then [10] else []) ++ glue r)
theorem cut_cases {a : UInt8} {s : List UInt8} {c : UInt8} : (∃ x b, a :: s = x ++ c :: b ∧ c ∉ x ∧ Lib.cut (a :: s) [c] = (x, b, true)) ∨ (c ∉ a :: s ∧ Lib.cut (a :: s) [c] = (a :: s, [], false)) := by
  by_cases hm : c ∈ a :: s
  · obtain ⟨x, b, e, hn⟩ := List.eq_append_cons_of_mem hm
    exact .inl ⟨x, b, e, hn, by rw [e]; exact cut_at hn⟩
  · exact .inr ⟨hm, cut_none hm⟩
/-- Two parsers that do alike: the second one began behind the items I, c stanzas later. -/
structure Rel (I : List Itm) (c : Int) (p q : PSt) : Prop where
  lns : p.lns = q.lns
  full : q.full = true → p.full = true
  its : p.its = I ++ q.its
  blk : p.blk = q.blk
  flds : p.flds = q.flds
  recs : p.recs = q.recs + c
  c0 : 0 ≤ c
  r4 : p.recs ≤ 400
  rf : p.flds ≠ [] → p.recs < 400
  rl : p.lns ≠ [] → p.full = false → p.recs < 400
section
variable {I : List Itm} {c : Int} {p q p1 : PSt}
end
end Q
end Ab
end Go.Proofs.YtklhlkhlndhepaaGreatDoor
namespace Go.Proofs.YtklhlkhlndhepaaGreatDoor
open Go.RowKit
namespace Ab
set_option maxRecDepth 100000
namespace Q
def szI (l : List Itm) : Nat := (l.map (·.2.1.size)).sum
def szB (l : List ByteArray) : Nat := (l.map (fun b => b.size + 1)).sum
def rawN (p : PSt) : Nat := szI p.its + szB p.blk
def Idle (p : PSt) : Prop := p.lns = [] ∧ p.blk = [] ∧ p.flds = []
def szL (L : List Lne) : Nat := (L.map (fun l => l.2.2.1.size + 1)).sum
end Q
end Ab
end Go.Proofs.YtklhlkhlndhepaaGreatDoor
namespace Go.Proofs.YtklhlkhlndhepaaGreatDoor
open Go.RowKit
namespace Ab
set_option maxRecDepth 100000
namespace Q
def more (l : Lne) : Bool := decide (kindL (ls l.2.2.1) = 3)
/-- The lines of the field that begins with the first of these. -/
def saidL (l : Lne) (r : List Lne) : List ByteArray := l.2.2.1 :: (r.takeWhile more).map (·.2.2.1)
/-- What is wrong at a line. -/
def wrongL (bh : Bool) (l : Lne) (r : List Lne) (fields recs : Int) : Int :=
  if kindL (ls l.2.2.1) = 5 ∨ (kindL (ls l.2.2.1) = 3 ∧ bh = false) ∨ l.2.2.2 = false then 2
  else if kindL (ls l.2.2.1) ≠ 4 then 0
  else if (unfoldL ((saidL l r).map ls)).2 ≠ 0 then (unfoldL ((saidL l r).map ls)).2
  else if 40 ≤ fields ∨ (fields = 0 ∧ 400 ≤ recs) then 11
  else 0
structure RSt where
  kind : Int
  raw : ByteArray
  flds : List Fld
  out : List Itm
  recs : Int
def fldOf (L : List ByteArray) : Fld := (bytes (unfoldL (L.map ls)).1.1, bytes (unfoldL (L.map ls)).1.2)
def stepR (t : RSt) (l : Lne) (r : List Lne) : RSt :=
  if kindL (ls l.2.2.1) = 1 then ⟨2, ByteArray.empty, [], (if t.raw = ByteArray.empty then t.out else t.out ++ [(t.kind, t.raw, t.flds)]) ++ [(1, l.2.2.1 ++ ⟨#[10]⟩, [])], t.recs⟩
  else if kindL (ls l.2.2.1) = 4 then ⟨3, t.raw ++ l.2.2.1 ++ ⟨#[10]⟩, t.flds ++ [fldOf (saidL l r)], t.out, if t.kind = 2 then t.recs + 1 else t.recs⟩
  else { t with raw := t.raw ++ l.2.2.1 ++ ⟨#[10]⟩ }
/-- A text's items, where it is wrong. -/
def runR (bh : Bool) (t : RSt) : List Lne → (Int × Int) ⊕ List Itm
  | [] => .inr (if t.raw = ByteArray.empty then t.out else t.out ++ [(t.kind, t.raw, t.flds)])
  | l :: r => if wrongL bh l r t.flds.length t.recs ≠ 0 then .inl (l.1, wrongL bh l r t.flds.length t.recs)
    else runR (decide (kindL (ls l.2.2.1) = 4) || decide (kindL (ls l.2.2.1) = 3)) (stepR t l r) r
def rst0 : RSt := ⟨2, ByteArray.empty, [], [], 0⟩
/-- What the parser comes to. -/
def outP (p : PSt) (L : List Lne) : (Int × Int) ⊕ List Itm := match runS p L with
  | .inl e => .inl e
  | .inr q => match endS q with
    | .inl e => .inl e
    | .inr q => .inr q.its
theorem outP_cons (p : PSt) (l : Lne) (r : List Lne) : outP p (l :: r) = match takeS p l with
    | .inl e => .inl e
    | .inr q => outP q r := by
  unfold outP
  simp only [runS]
  cases takeS p l <;> rfl
theorem parse_out (s : ByteArray) : parseS s = outP pst0 (linesT s) := rfl
/-- Only the last line may be without an end. -/
def Ends : List Lne → Prop
  | [] => True
  | l :: r => (l.2.2.2 = false → r = []) ∧ Ends r
theorem ends_linesR : ∀ (f : Nat) (tot no : Int) (s : List UInt8), Ends (linesR f tot no s)
  | 0, _, _, _ => trivial
  | f + 1, _, _, [] => trivial
  | f + 1, tot, no, a :: r => by
    rw [linesR_cons]
    refine ⟨fun h => ?_, ends_linesR f _ _ _⟩
    rcases cut_cases (a := a) (s := r) (c := 10) with ⟨x, b, e, _, hc⟩ | ⟨_, hc⟩
    · rw [hc] at h; cases h
    · rw [hc]; cases f <;> rfl
theorem not_more {l : Lne} (h : kindL (ls l.2.2.1) ≠ 3) (r : List Lne) : (l :: r).takeWhile more = [] := by
  rw [List.takeWhile_cons_of_neg (by unfold more; simp [h])]
theorem is_more {l : Lne} (h : kindL (ls l.2.2.1) = 3) (r : List Lne) : (l :: r).takeWhile more = l :: r.takeWhile more := by
  rw [List.takeWhile_cons_of_pos (by unfold more; simp [h])]
/-- A field that is wrong is told of once it ends. -/
theorem pend_err : ∀ (r : List Lne) (p : PSt) (at_ n : Int), Ends r → p.lns ≠ [] → (∀ q : PSt, q.lns = p.lns ++ (r.takeWhile more).map (·.2.2.1) → q.full = p.full → q.frm = p.frm → flushS q = .inl (at_, n)) → outP p r = .inl (at_, n)
  | [], p, at_, n, _, h0, hf => by
    have := hf p (by simp) rfl rfl
    unfold outP
    simp only [runS, endS, this]
  | l :: r, p, at_, n, hE, h0, hf => by
    rw [outP_cons]
    by_cases hm : kindL (ls l.2.2.1) = 3
    · rw [is_more hm] at hf
      by_cases he : l.2.2.2 = true
      · have ht : takeS p l = .inr { p with lns := p.lns ++ [l.2.2.1], blk := p.blk ++ [l.2.2.1] } := by
          unfold takeS
          simp only [hm]
          simp [aheadS, lineS, h0, he]
        rw [ht]
        exact pend_err r _ at_ n hE.2 (by simp) (fun q h1 h2 h3 => hf q (by rw [h1]; simp) h2 h3)
      · obtain rfl := hE.1 (by simpa using he)
        have hfp := hf { p with lns := p.lns ++ [l.2.2.1] } (by simp) rfl rfl
        have ht : takeS p l = .inl (at_, n) := by
          unfold takeS aheadS
          rw [if_pos hm, if_neg h0, if_neg he, hfp]
        rw [ht]
    · rw [not_more hm] at hf
      have hfp := hf p (by simp) rfl rfl
      have ht : takeS p l = .inl (at_, n) := by
        unfold takeS aheadS
        rw [if_neg hm]
        unfold endS
        rw [hfp]
        simp
      rw [ht]
def rawC (b : List ByteArray) : ByteArray := bytes (endL (b.map ls))
theorem rawC_snoc (b : List ByteArray) (x : ByteArray) : rawC (b ++ [x]) = rawC b ++ x ++ ⟨#[10]⟩ := by
  unfold rawC endL
  rw [List.map_append, List.flatMap_append, bytes_app, ByteArray.append_assoc]
  congr 1
  simp only [List.map_cons, List.map_nil, List.flatMap_cons, List.flatMap_nil, List.append_nil]
  rw [bytes_app, bytes_ls]
  rfl
theorem join_endL (c : UInt8) : ∀ (l : List (List UInt8)), l ≠ [] → Lib.join l [c] ++ [c] = l.flatMap fun s => s ++ [c]
  | [], h => absurd rfl h
  | [a], _ => by rw [Lib.join_one]; simp
  | a :: b :: r, _ => by
    have := join_endL c (b :: r) (by simp)
    rw [join_two, List.flatMap_cons, ← this]
    simp
theorem rawB_C {b : List ByteArray} (h : b ≠ []) : rawB b = rawC b := by
  unfold rawB rawC endL
  rw [show b.map ls = b.map (·.data.toList) from rfl, ← join_endL 10 (b.map (·.data.toList)) (by simpa using h), bytes_app]
  rfl
theorem rawC_nil {b : List ByteArray} : rawC b = ByteArray.empty ↔ b = [] := by
  refine ⟨fun h => ?_, fun h => by rw [h]; rfl⟩
  cases b with
  | nil => rfl
  | cons x r =>
    have := congrArg ByteArray.size h
    unfold rawC endL at this
    rw [bytes_size] at this
    simp at this
/-- What the document's answer and the parser have in common ahead of these lines. -/
structure Alike (p : PSt) (t : RSt) (bh : Bool) (L : List Lne) : Prop where
  its : t.out = p.its
  raw : t.raw = rawC p.blk
  bh : bh = true ↔ p.lns ≠ []
  flds : t.flds = p.flds ++ (if p.lns = [] then [] else [fldOf (p.lns ++ (L.takeWhile more).map (·.2.2.1))])
  kind : t.kind = if t.flds = [] then 2 else 3
  recs : t.recs = p.recs + (if t.flds = [] then 0 else 1)
  pend : p.lns ≠ [] → p.full = false ∧ (unfoldL ((p.lns ++ (L.takeWhile more).map (·.2.2.1)).map ls)).2 = 0
  blk0 : p.blk = [] → t.flds = []
  r4 : p.recs ≤ 400
  rf : t.flds ≠ [] → p.recs < 400
  f40 : t.flds.length ≤ 40
section
variable {p : PSt} {t : RSt} {bh : Bool} {L : List Lne}
theorem alike_flush (h : Alike p t bh L) (hL : L.takeWhile more = []) : ∃ q, flushS p = .inr q ∧ q.lns = [] ∧ q.flds = t.flds ∧ q.its = p.its ∧ q.blk = p.blk ∧ q.recs = p.recs := by
  by_cases h0 : p.lns = []
  · refine ⟨p, by unfold flushS; rw [if_pos h0], h0, ?_, rfl, rfl, rfl⟩
    rw [h.flds, if_pos h0, List.append_nil]
  · obtain ⟨h1, h2⟩ := h.pend h0
    rw [hL, List.map_nil, List.append_nil] at h2
    refine ⟨{ p with flds := p.flds ++ [(bytes (unfoldL (p.lns.map ls)).1.1, bytes (unfoldL (p.lns.map ls)).1.2)], lns := [] }, ?_, rfl, ?_, rfl, rfl, rfl⟩
    · unfold flushS
      rw [if_neg h0, if_neg (by rw [h2]; simp), if_neg (by rw [h1]; simp)]
    · rw [h.flds, if_neg h0, hL]
      simp [fldOf]
theorem alike_end (h : Alike p t bh L) (hL : L.takeWhile more = []) : ∃ q, endS p = .inr q ∧ q.lns = [] ∧ q.flds = [] ∧ q.blk = [] ∧ q.its = (if t.raw = ByteArray.empty then t.out else t.out ++ [(t.kind, t.raw, t.flds)]) ∧ q.recs = t.recs := by
  obtain ⟨q, f1, f2, f3, f4, f5, f6⟩ := alike_flush h hL
  refine ⟨closeS q, by unfold endS; rw [f1], ?_⟩
  unfold closeS
  by_cases hb : p.blk = []
  · have hraw : t.raw = ByteArray.empty := by rw [h.raw]; exact rawC_nil.2 hb
    rw [if_pos (f5.trans hb), if_pos hraw]
    refine ⟨f2, rfl, rfl, by rw [h.its]; exact f4, ?_⟩
    rw [h.recs, if_pos (h.blk0 hb), Int.add_zero]
    exact f6
  · have hraw : ¬ t.raw = ByteArray.empty := fun e => hb (rawC_nil.1 (by rw [← h.raw]; exact e))
    rw [if_neg (by rw [f5]; exact hb), if_neg hraw]
    refine ⟨f2, rfl, rfl, ?_, ?_⟩
    · simp only [h.its, h.kind, h.raw, rawB_C hb, f3, f4, f5]
    · simp only [f3, f6]
      rw [h.recs]
      by_cases hf : t.flds = []
      · simp [hf]
      · simp [hf]
end
theorem run_eq : ∀ (L : List Lne) (p : PSt) (t : RSt) (bh : Bool), Ends L → Alike p t bh L → outP p L = runR bh t L
  | [], p, t, bh, _, h => by
    obtain ⟨q, e, _, _, _, h1, _⟩ := alike_end h rfl
    unfold outP
    simp only [runS, e, h1]
    rfl
  | l :: r, p, t, bh, hE, h => by
    rw [outP_cons]
    unfold runR
    by_cases h3 : kindL (ls l.2.2.1) = 3
    · by_cases hb : p.lns = []
      · have hbh : bh = false := by
          cases bh
          · rfl
          · exact absurd hb (h.bh.1 rfl)
        have hw : wrongL bh l r t.flds.length t.recs = 2 := by
          unfold wrongL
          rw [if_pos (.inr (.inl ⟨h3, hbh⟩))]
        have ht : takeS p l = .inl (l.1, 2) := by
          unfold takeS aheadS
          rw [if_pos h3, if_pos hb]
        rw [hw, ht]
        rfl
      · have hbh : bh = true := h.bh.2 hb
        obtain ⟨h5, h6⟩ := h.pend hb
        rw [is_more h3] at h6
        by_cases he : l.2.2.2 = true
        · have hw : wrongL bh l r t.flds.length t.recs = 0 := by
            unfold wrongL
            rw [if_neg (by simp [h3, hbh, he]), if_pos (by rw [h3]; decide)]
          have ht : takeS p l = .inr { p with lns := p.lns ++ [l.2.2.1], blk := p.blk ++ [l.2.2.1] } := by
            unfold takeS
            simp only [h3]
            simp [aheadS, lineS, hb, he]
          rw [hw, ht, if_neg (by decide)]
          refine run_eq r _ _ _ hE.2 ?_
          have hfl := h.flds
          rw [if_neg hb, is_more h3] at hfl
          have hne : t.flds ≠ [] := by rw [hfl]; simp
          unfold stepR
          rw [if_neg (by rw [h3]; decide), if_neg (by rw [h3]; decide)]
          exact ⟨h.its, by simp only [h.raw, rawC_snoc], by simp [h3], by simp only; rw [hfl, if_neg (by simp)]; simp, h.kind, h.recs, fun _ => ⟨h5, by simpa using h6⟩, fun e => by simp at e, h.r4, h.rf, h.f40⟩
        · have he' : l.2.2.2 = false := by simpa using he
          obtain rfl := hE.1 he'
          have hw : wrongL bh l [] t.flds.length t.recs = 2 := by
            unfold wrongL
            rw [if_pos (.inr (.inr he'))]
          have ht : takeS p l = .inl (l.1, 2) := by
            have : aheadS p l 3 = .inr { p with flds := p.flds ++ [(bytes (unfoldL ((p.lns ++ [l.2.2.1]).map ls)).1.1, bytes (unfoldL ((p.lns ++ [l.2.2.1]).map ls)).1.2)], lns := [] } := by
              unfold aheadS
              rw [if_pos rfl, if_neg hb, if_neg he]
              unfold flushS
              simp only [List.takeWhile_nil, List.map_cons, List.map_nil] at h6
              rw [if_neg (by simp), if_neg (by simp only [ne_eq, h6]; simp), if_neg (by simp [h5])]
            unfold takeS
            rw [h3, this]
            simp [lineS, he']
          rw [hw, ht]
          rfl
    · have hno := not_more h3 r
      by_cases h1 : kindL (ls l.2.2.1) = 1
      · obtain ⟨q, e, e1, e2, e3, e4, e5⟩ := alike_end h hno
        by_cases he : l.2.2.2 = true
        · have hw : wrongL bh l r t.flds.length t.recs = 0 := by
            unfold wrongL
            rw [if_neg (by simp [h1, he]), if_pos (by rw [h1]; decide)]
          have ht : takeS p l = .inr { q with its := q.its ++ [(1, l.2.2.1 ++ ⟨#[10]⟩, [])] } := by
            unfold takeS aheadS
            rw [if_neg h3, if_pos h1, e]
            simp [lineS, h1, he]
          rw [hw, ht, if_neg (by decide)]
          refine run_eq r _ _ _ hE.2 ?_
          unfold stepR
          rw [if_pos h1]
          refine ⟨by simp only [e4], by rw [e3]; rfl, by simp [h1, e1], by simp [e1, e2], rfl, by simp [e5], fun h => absurd e1 h, fun _ => rfl, ?_, fun e => absurd rfl e, by simp⟩
          simp only [e5, h.recs]
          split
          · have := h.r4; omega
          · rename_i hf; have := h.rf hf; omega
        · have he' : l.2.2.2 = false := by simpa using he
          have hw : wrongL bh l r t.flds.length t.recs = 2 := by
            unfold wrongL
            rw [if_pos (.inr (.inr he'))]
          have ht : takeS p l = .inl (l.1, 2) := by
            unfold takeS aheadS
            rw [if_neg h3, if_pos h1, e]
            simp [lineS, he']
          rw [hw, ht]
          rfl
      · obtain ⟨q, f1, f2, f3, f4, f5, f6⟩ := alike_flush h hno
        have hah : aheadS p l (kindL (ls l.2.2.1)) = .inr q := by
          unfold aheadS
          rw [if_neg h3, if_neg h1, f1]
        by_cases hbad : kindL (ls l.2.2.1) = 5 ∨ l.2.2.2 = false
        · have hw : wrongL bh l r t.flds.length t.recs = 2 := by
            unfold wrongL
            rw [if_pos (hbad.elim .inl (fun h => .inr (.inr h)))]
          have ht : takeS p l = .inl (l.1, 2) := by
            unfold takeS lineS
            rw [hah]
            simp only
            rw [if_pos hbad]
          rw [hw, ht]
          rfl
        · have hb5 : kindL (ls l.2.2.1) ≠ 5 := fun e => hbad (.inl e)
          have he : l.2.2.2 = true := by
            cases e : l.2.2.2
            · exact absurd (.inr e) hbad
            · rfl
          by_cases h4 : kindL (ls l.2.2.1) = 4
          · have ht : takeS p l = .inr { beginS q l with blk := q.blk ++ [l.2.2.1] } := by
              unfold takeS lineS
              rw [hah]
              simp only
              rw [if_neg hbad, if_neg h1, if_pos h4]
            have hfull : ((decide ((q.flds.length : Int) = 40) || (decide ((q.flds.length : Int) = 0) && decide (q.recs = 400))) = true) ↔ (40 ≤ (t.flds.length : Int) ∨ ((t.flds.length : Int) = 0 ∧ 400 ≤ t.recs)) := by
              have g1 := h.f40
              have g2 := h.r4
              have g3 := h.recs
              rw [f3, f6]
              simp only [Bool.or_eq_true, Bool.and_eq_true, decide_eq_true_eq]
              constructor
              · rintro (g | ⟨g, g'⟩)
                · exact .inl (by omega)
                · refine .inr ⟨g, ?_⟩
                  rw [if_pos (List.eq_nil_of_length_eq_zero (by omega))] at g3
                  omega
              · rintro (g | ⟨g, g'⟩)
                · exact .inl (by omega)
                · refine .inr ⟨g, ?_⟩
                  rw [if_pos (List.eq_nil_of_length_eq_zero (by omega))] at g3
                  omega
            rw [ht]
            by_cases hu : (unfoldL ((saidL l r).map ls)).2 = 0
            · by_cases hfu : 40 ≤ (t.flds.length : Int) ∨ ((t.flds.length : Int) = 0 ∧ 400 ≤ t.recs)
              · have hw : wrongL bh l r t.flds.length t.recs = 11 := by
                  unfold wrongL
                  rw [if_neg (by simp [h4, he]), if_neg (by simp [h4]), if_neg (by simp [hu]), if_pos hfu]
                rw [hw, if_pos (by decide)]
                refine pend_err r _ l.1 11 hE.2 (by simp [beginS]) (fun q' g1 g2 g3 => ?_)
                have g1' : q'.lns = saidL l r := g1
                have g2' : q'.full = true := g2.trans (hfull.2 hfu)
                have g3' : q'.frm = l.1 := g3
                unfold flushS
                rw [g1', if_neg (by unfold saidL; simp), if_neg (by simp [hu]), if_pos g2', g3']
              · have hw : wrongL bh l r t.flds.length t.recs = 0 := by
                  unfold wrongL
                  rw [if_neg (by simp [h4, he]), if_neg (by simp [h4]), if_neg (by simp [hu]), if_neg hfu]
                rw [hw, if_neg (by decide)]
                refine run_eq r _ _ _ hE.2 ?_
                have hff : (decide ((q.flds.length : Int) = 40) || (decide ((q.flds.length : Int) = 0) && decide (q.recs = 400))) = false := by
                  cases e : (decide ((q.flds.length : Int) = 40) || (decide ((q.flds.length : Int) = 0) && decide (q.recs = 400)))
                  · rfl
                  · exact absurd (hfull.1 e) hfu
                unfold stepR
                rw [if_neg h1, if_pos h4]
                refine ⟨by simp only [beginS, h.its, f4], by simp only [h.raw, rawC_snoc, f5], by simp [h4, beginS], ?_, by simp, ?_, fun _ => ⟨hff, hu⟩, fun e => by simp at e, ?_, fun _ => ?_, ?_⟩
                · simp only [beginS, f3]
                  rw [if_neg (by simp)]
                  rfl
                · simp only [beginS, f6]
                  have g3 := h.recs
                  have g4 := h.kind
                  by_cases hf : t.flds = []
                  · rw [if_pos hf] at g3 g4
                    rw [if_pos g4, if_neg (by simp), g3]
                    omega
                  · rw [if_neg hf] at g3 g4
                    rw [if_neg (by rw [g4]; decide), if_neg (by simp), g3]
                · simp only [beginS, f6]; exact h.r4
                · simp only [beginS, f6]
                  by_cases hf : t.flds = []
                  · have g3 := h.recs
                    rw [if_pos hf] at g3
                    have : ¬ 400 ≤ t.recs := fun e => hfu (.inr ⟨by rw [hf]; rfl, e⟩)
                    omega
                  · exact h.rf hf
                · rw [List.length_append, List.length_singleton]
                  have : ¬ 40 ≤ (t.flds.length : Int) := fun e => hfu (.inl e)
                  omega
            · have hw : wrongL bh l r t.flds.length t.recs = (unfoldL ((saidL l r).map ls)).2 := by
                unfold wrongL
                rw [if_neg (by simp [h4, he]), if_neg (by simp [h4]), if_pos hu]
              rw [hw, if_pos hu]
              refine pend_err r _ l.1 _ hE.2 (by simp [beginS]) (fun q' g1 g2 g3 => ?_)
              have g1' : q'.lns = saidL l r := g1
              have g3' : q'.frm = l.1 := g3
              unfold flushS
              rw [g1', if_neg (by unfold saidL; simp), if_pos hu, g3']
          · have hw : wrongL bh l r t.flds.length t.recs = 0 := by
              unfold wrongL
              rw [if_neg (by simp [h3, hb5, he]), if_pos h4]
            have ht : takeS p l = .inr { q with blk := q.blk ++ [l.2.2.1] } := by
              unfold takeS lineS
              rw [hah]
              simp only
              rw [if_neg hbad, if_neg h1, if_neg h4]
            rw [hw, ht, if_neg (by decide)]
            refine run_eq r _ _ _ hE.2 ?_
            unfold stepR
            rw [if_neg h1, if_neg h4]
            exact ⟨by simp only [h.its, f4], by simp only [h.raw, rawC_snoc, f5], by simp [h3, h4, f2], by simp [f2, f3], h.kind, by simp only [f6]; exact h.recs, fun e => absurd f2 e, fun e => by simp at e, by simp only [f6]; exact h.r4, by simp only [f6]; exact h.rf, h.f40⟩
theorem parse_ref (s : ByteArray) : parseS s = runR false rst0 (linesT s) := by
  rw [parse_out]
  exact run_eq _ _ _ _ (ends_linesR _ _ _ _) ⟨rfl, rfl, by simp [pst0], by simp [rst0, pst0], rfl, rfl, fun e => absurd rfl e, fun _ => rfl, by decide, fun e => absurd rfl e, by simp [rst0]⟩
end Q
end Ab
end Go.Proofs.YtklhlkhlndhepaaGreatDoor
namespace Go.Proofs.YtklhlkhlndhepaaGreatDoor
open Go.RowKit
namespace Ab
set_option maxRecDepth 100000
namespace Q
def mkL (t : ByteArray) : Lne := (0, 0, t, true)
/-- What a parser comes to once its field is ended. -/
def Ready (p : PSt) (F : List Fld) : Prop := ∃ q, flushS p = .inr q ∧ q.lns = [] ∧ q.flds = F ∧ q.its = p.its ∧ q.recs = p.recs ∧ q.blk = p.blk
def foldsL (a b : List Fld) (n : List UInt8) : List ByteArray := bytes (35 :: n) :: ((a.flatMap fun f => lineB f.1 f.2) ++ (⟨#[]⟩ :: ((b.flatMap fun f => lineB f.1 f.2) ++ [bytes (35 :: n)])))
end Q
end Ab
end Go.Proofs.YtklhlkhlndhepaaGreatDoor
namespace Go.Proofs.YtklhlkhlndhepaaGreatDoor
open Go.RowKit
namespace Ab
set_option maxRecDepth 100000
namespace Q
end Q
end Ab
end Go.Proofs.YtklhlkhlndhepaaGreatDoor
namespace Go.Proofs.YtklhlkhlndhepaaGreatDoor
open Go.RowKit
namespace Ab
set_option maxRecDepth 100000
namespace Q
theorem no_step {l : List UInt8} {i : Nat} (h : (10 : UInt8) ∉ l.take i) (hi : i < l.length) (h2 : ¬ ((l.getD i 0).toNat : Int) = 10) : (10 : UInt8) ∉ l.take (i + 1) := by
  rw [List.take_succ_eq_append_getElem hi]
  simp only [List.mem_append, List.mem_singleton, not_or]
  refine ⟨h, fun e => h2 ?_⟩
  have : l.getD i 0 = 10 := by simp [List.getD, hi, ← e]
  rw [this]
  rfl
end Q
end Ab
end Go.Proofs.YtklhlkhlndhepaaGreatDoor
namespace Go.Proofs.YtklhlkhlndhepaaGreatDoor
open Go.RowKit
namespace Ab
set_option maxRecDepth 100000
namespace Q
theorem ext_drop (s : ByteArray) (n : Nat) : s.extract n s.size = bytes ((ls s).drop n) := by
  rw [← bytes_ls (s.extract n s.size)]
  congr 1
  exact drop_size s n
end Q
end Ab
end Go.Proofs.YtklhlkhlndhepaaGreatDoor
namespace Go.Proofs.YtklhlkhlndhepaaGreatDoor
open Go.RowKit
namespace Ab
set_option maxRecDepth 100000
namespace Q
structure SpI (s : ByteArray) (i at_ : Nat) (out : List Lne) : Prop where
  ai : at_ ≤ i
  is : i ≤ s.size
  no : (10 : UInt8) ∉ ((ls s).drop at_).take (i - at_)
  ol : out.length ≤ at_
  eq : ∃ f, ((ls s).drop at_).length ≤ f ∧ out ++ linesR f s.size out.length ((ls s).drop at_) = linesT s
theorem sp_0 (s : ByteArray) : SpI s 0 0 [] := ⟨Nat.le_refl _, Nat.zero_le _, by simp, Nat.le_refl _, s.size, by rw [List.drop_zero, show (ls s).length = s.size from (size_list s).symm]; exact Nat.le_refl _, rfl⟩
theorem sp_no {s : ByteArray} {i a : Nat} {out : List Lne} (h : SpI s i a out) (hi : i < s.size) (hc : ¬ (((ls s).getD i 0).toNat : Int) = 10) : SpI s (i + 1) a out := by
  have hl : i < (ls s).length := by rw [show (ls s).length = s.size from (size_list s).symm]; exact hi
  have ha := h.ai
  refine ⟨by omega, hi, ?_, h.ol, h.eq⟩
  rw [show i + 1 - a = (i - a) + 1 from by omega]
  refine no_step h.no (by rw [List.length_drop]; omega) ?_
  have : ((ls s).drop a).getD (i - a) 0 = (ls s).getD i 0 := by
    simp only [List.getD, List.getElem?_drop]
    rw [show a + (i - a) = i from by omega]
  rw [this]
  exact hc
theorem sp_yes {s : ByteArray} {i a : Nat} {out : List Lne} (h : SpI s i a out) (hi : i < s.size) (hc : (((ls s).getD i 0).toNat : Int) = 10) : SpI s (i + 1) (i + 1) (out ++ [((out.length : Int), (a : Int), s.extract a i, true)]) := by
  have hl : i < (ls s).length := by rw [show (ls s).length = s.size from (size_list s).symm]; exact hi
  have ha := h.ai
  have ho := h.ol
  obtain ⟨f, hf, e⟩ := h.eq
  have hb : (ls s).getD i 0 = 10 := by
    apply UInt8.toNat_inj.1
    have : ((ls s).getD i 0).toNat = 10 := by omega
    rw [this]; rfl
  have hr : (ls s).drop a = ((ls s).drop a).take (i - a) ++ 10 :: (ls s).drop (i + 1) := by
    conv => lhs; rw [← List.take_append_drop (i - a) ((ls s).drop a)]
    congr 1
    rw [List.drop_drop, show a + (i - a) = i from by omega, List.drop_eq_getElem_cons hl]
    congr 1
    rw [← hb, List.getD_eq_getElem?_getD, List.getElem?_eq_getElem hl]
    rfl
  have hc2 := cut_at (r := (ls s).drop (i + 1)) h.no
  rw [← hr] at hc2
  obtain ⟨y, w, hy⟩ : ∃ y w, (ls s).drop a = y :: w := by
    rw [hr]; cases ((ls s).drop a).take (i - a) <;> exact ⟨_, _, rfl⟩
  obtain ⟨f', rfl⟩ : ∃ f', f = f' + 1 := ⟨f - 1, by rw [hy, List.length_cons] at hf; omega⟩
  have hlen : ((ls s).drop a).length = s.size - a := by rw [List.length_drop, show (ls s).length = s.size from (size_list s).symm]
  refine ⟨Nat.le_refl _, hi, by simp, by rw [List.length_append, List.length_singleton]; omega, f', ?_, ?_⟩
  · rw [List.length_drop, show (ls s).length = s.size from (size_list s).symm]
    omega
  · rw [← e, List.append_assoc]
    congr 1
    rw [hy] at hc2 hlen ⊢
    rw [linesR_cons, hc2, hlen]
    simp only [List.singleton_append, List.length_append, List.length_singleton]
    congr 1
    refine Prod.ext rfl (Prod.ext (by simp only; omega) (Prod.ext ?_ rfl))
    show s.extract a i = bytes ((y :: w).take (i - a))
    rw [← hy]
    rw [← bytes_ls (s.extract a i)]
    congr 1
    exact extract_ls s a i
theorem sp_end {s : ByteArray} {a : Nat} {out : List Lne} (h : SpI s s.size a out) : (a < s.size → out ++ [((out.length : Int), (a : Int), s.extract a s.size, false)] = linesT s) ∧ (¬ a < s.size → out = linesT s) := by
  obtain ⟨f, hf, e⟩ := h.eq
  have hlen : ((ls s).drop a).length = s.size - a := by rw [List.length_drop, show (ls s).length = s.size from (size_list s).symm]
  have hno := h.no
  rw [List.take_of_length_le (by omega)] at hno
  refine ⟨fun hlt => ?_, fun hge => ?_⟩
  · rw [← e]
    congr 1
    obtain ⟨y, w, hy⟩ : ∃ y w, (ls s).drop a = y :: w := by
      cases e2 : (ls s).drop a with
      | nil => rw [e2] at hlen; simp at hlen; omega
      | cons y w => exact ⟨_, _, rfl⟩
    obtain ⟨f', rfl⟩ : ∃ f', f = f' + 1 := ⟨f - 1, by rw [hy, List.length_cons] at hf; omega⟩
    have hx : s.extract a s.size = bytes ((ls s).drop a) := ext_drop s a
    rw [hx]
    rw [hy] at hno hlen ⊢
    rw [linesR_cons, cut_none hno, hlen]
    rw [show linesR f' s.size ((out.length : Int) + 1) (y :: w, ([] : List UInt8), false).2.1 = [] from by cases f' <;> rfl]
    congr 1
    exact Prod.ext rfl (Prod.ext (by simp only; omega) rfl)
  · have : (ls s).drop a = [] := List.eq_nil_of_length_eq_zero (by omega)
    rw [← e, this]
    cases f <;> simp [linesR]
theorem refSplit_c (s : ByteArray) (hs : s.size ≤ 1000000) : ACall Tryz.prog 104 [is s] (.one (.sl rLne (linesT s))) := by
  refine acall_of (rs := [2]) Tryz.func104 rfl rfl rfl teOk rfl ?_
  refine acode_seq ?_
  refine acode_region ?_
  refine acode_seq ?_
  refine acode_region ?_
  refine acode_seq ?_
  refine acode_nilvec 3 184 rLne rfl ?_
  refine acode_region ?_
  refine acode_seq ?_
  refine acode_seq ?_
  refine acode_region ?_
  refine acode_block ?_
  refine acode_loopP (fun (u : Nat × Nat × List Lne) => SpI s u.1 u.2.1 u.2.2) (fun (u : Nat × Nat × List Lne) => [(0, is s), (3, .one (.vec 0)), (4, ii .i64 u.2.1), (5, ii .i64 u.1)]) (fun (u : Nat × Nat × List Lne) => [(0, .vec 184 rLne u.2.2)]) 1 (fun (u : Nat × Nat × List Lne) => s.size - u.1) (0, 0, []) (sp_0 s) (le_of ⟨rfl, rfl, rfl, rfl⟩ rfl rfl) ?_
  intro u hI0
  obtain ⟨i, a, out⟩ := u
  have hI : SpI s i a out := hI0
  have h1 := hI.ai
  have h2 := hI.is
  have h3 := hI.ol
  refine acode_seq ?_
  refine acode_seq ?_
  refine acode_region ?_
  refine acode_cond rfl (fun h9 => ?_) (fun h9 => ?_)
  · try simp only [decide_eq_true_eq] at h9
    try simp only [Int.toNat_natCast, dflt_sl, dflt_st, dflt_str, dflt_int, dflt_bool] at h9
    refine acode_skip ?_
    refine acode_seq ?_
    refine acode_block ?_
    refine acode_seq ?_
    refine acode_region ?_
    refine And.intro (by first | omega | assumption | decide | (simp only [Int.toNat_natCast, dflt_sl, dflt_st, dflt_str, dflt_int, dflt_bool]; omega) | (simp <;> omega)) ?_
    refine acode_cond rfl (fun h15 => ?_) (fun h15 => ?_)
    · try simp only [decide_eq_true_eq] at h15
      try simp only [Int.toNat_natCast] at h15
      refine acode_seq ?_
      refine acode_region ?_
      intro l7_2
      refine And.intro (by first | omega | assumption | decide | (simp only []; omega) | (simp <;> omega)) ?_
      refine And.intro (by first | exact app_le (by first | omega | (simp only [List.length_cons, List.length_nil]; omega) | (simp; omega)) (by decide) | omega | assumption | decide | (simp only [Int.toNat_natCast, dflt_sl, dflt_st, dflt_str, dflt_int, dflt_bool]; omega) | (simp <;> omega)) ?_
      refine acode_region ?_
      refine And.intro (by first | omega | assumption | decide | (simp only [Int.toNat_natCast, dflt_sl, dflt_st, dflt_str, dflt_int, dflt_bool]; omega) | (simp <;> omega)) ?_
      refine acode_region ?_
      refine And.intro (by first | omega | assumption | decide | (simp only [Int.toNat_natCast, dflt_sl, dflt_st, dflt_str, dflt_int, dflt_bool]; omega) | (simp <;> omega)) ?_
      exact ⟨(i + 1, i + 1, out ++ [((out.length : Int), (a : Int), s.extract a i, true)]), sp_yes hI (by omega) h15, by first | omega | (simp <;> omega), le_of ⟨rfl, rfl, rfl, rfl⟩ rfl rfl⟩
    · try simp only [decide_eq_false_iff_not] at h15
      try simp only [Int.toNat_natCast] at h15
      refine acode_skip ?_
      refine acode_region ?_
      refine And.intro (by first | omega | assumption | decide | (simp only [Int.toNat_natCast, dflt_sl, dflt_st, dflt_str, dflt_int, dflt_bool]; omega) | (simp <;> omega)) ?_
      exact ⟨(i + 1, a, out), sp_no hI (by omega) h15, by first | omega | (simp <;> omega), le_of ⟨rfl, rfl, rfl, rfl⟩ rfl rfl⟩
  · try simp only [decide_eq_false_iff_not, Int.not_lt] at h9
    try simp only [Int.toNat_natCast, dflt_sl, dflt_st, dflt_str, dflt_int, dflt_bool] at h9
    refine acode_exit ?_
    have hie : i = s.size := (by omega)
    subst hie
    have hE := sp_end hI
    refine acode_seq ?_
    refine acode_seq ?_
    refine acode_region ?_
    refine acode_cond rfl (fun h32 => ?_) (fun h32 => ?_)
    · try simp only [decide_eq_true_eq] at h32
      try simp only [Int.toNat_natCast, dflt_sl, dflt_st, dflt_str, dflt_int, dflt_bool] at h32
      refine acode_region ?_
      intro l10_2
      refine And.intro (by first | omega | assumption | decide | (simp only []; omega) | (simp <;> omega)) ?_
      refine And.intro (by first | exact app_le (by first | omega | (simp only [List.length_cons, List.length_nil]; omega) | (simp; omega)) (by decide) | omega | assumption | decide | (simp only [Int.toNat_natCast, dflt_sl, dflt_st, dflt_str, dflt_int, dflt_bool]; omega) | (simp <;> omega)) ?_
      refine acode_seq ?_
      refine acode_region ?_
      refine acode_ret ?_
      exact sl_eq (hE.1 (by omega))
    · try simp only [decide_eq_false_iff_not, Int.not_lt] at h32
      try simp only [Int.toNat_natCast, dflt_sl, dflt_st, dflt_str, dflt_int, dflt_bool] at h32
      refine acode_skip ?_
      refine acode_seq ?_
      refine acode_region ?_
      refine acode_ret ?_
      exact sl_eq (hE.2 (by omega))
def rawsL (l : List Itm) : List UInt8 := l.flatMap fun x => ls x.2.1
theorem refKindL_c (s : ByteArray) (hs : s.size ≤ 1000000000) : ACall Tryz.prog 105 [is s] (ii .i64 (kindL (ls s))) := refKind_c s hs
theorem beh_eq (k : List Int) (i : Nat) : (decide (0 < (i : Int)) && (decide (k.getD ((i : Int) - 1).toNat (Rd.int IntKind.i64).dflt = 4) || decide (k.getD ((i : Int) - 1).toNat (Rd.int IntKind.i64).dflt = 3))) = (decide (0 < i) && (decide (k.getD (i - 1) 0 = 4) || decide (k.getD (i - 1) 0 = 3))) := by
  have h : ((i : Int) - 1).toNat = i - 1 := by omega
  have h0 : decide (0 < (i : Int)) = decide (0 < i) := decide_eq_decide.2 (by omega)
  rw [h, h0]
  rfl
theorem behind_c (k : List Int) (i : Nat) (hi : i < k.length) (hk : k.length ≤ 1000000) : ACall Tryz.prog 139 [.one (.sl (.int .i64) k), ii .i64 i] (ib (decide (0 < i) && (decide (k.getD (i - 1) 0 = 4) || decide (k.getD (i - 1) 0 = 3)))) := by
  refine acall_of (rs := [4]) Tryz.func139 rfl rfl rfl teOk rfl ?_
  refine acode_seq ?_
  refine acode_region ?_
  refine acode_seq ?_
  refine acode_region ?_
  refine And.intro (fun h => trivial) ?_
  refine And.intro (fun h => trivial) ?_
  refine And.intro (fun h => ⟨⟨⟨h, trivial⟩, trivial⟩, by first | omega | decide | (simp only [Int.toNat_natCast, dflt_sl, dflt_st, dflt_str, dflt_int, dflt_bool]; omega) | (have h9 := of_decide_eq_true h; omega) | (simp [gq] at h; omega)⟩) ?_
  refine And.intro (fun h => ⟨⟨⟨h, trivial⟩, ⟨h, trivial⟩, trivial⟩, by first | omega | decide | (simp only [Int.toNat_natCast, dflt_sl, dflt_st, dflt_str, dflt_int, dflt_bool]; omega) | (have h9 := of_decide_eq_true h; omega) | (simp [gq] at h; omega)⟩) ?_
  refine And.intro (fun h => ⟨⟨h, trivial⟩, trivial⟩) ?_
  refine And.intro (fun h => ⟨⟨h, trivial⟩, trivial⟩) ?_
  refine And.intro (fun h => ⟨⟨h, trivial⟩, trivial⟩) ?_
  refine And.intro (fun h => trivial) ?_
  refine And.intro (fun h => trivial) ?_
  refine And.intro (fun h => ⟨⟨⟨h, trivial⟩, trivial⟩, by first | omega | decide | (simp only [Int.toNat_natCast, dflt_sl, dflt_st, dflt_str, dflt_int, dflt_bool]; omega) | (have h9 := of_decide_eq_true h; omega) | (simp [gq] at h; omega)⟩) ?_
  refine And.intro (fun h => ⟨⟨⟨h, trivial⟩, ⟨h, trivial⟩, trivial⟩, by first | omega | decide | (simp only [Int.toNat_natCast, dflt_sl, dflt_st, dflt_str, dflt_int, dflt_bool]; omega) | (have h9 := of_decide_eq_true h; omega) | (simp [gq] at h; omega)⟩) ?_
  refine And.intro (fun h => ⟨⟨h, trivial⟩, trivial⟩) ?_
  refine And.intro (fun h => ⟨⟨h, trivial⟩, trivial⟩) ?_
  refine And.intro (fun h => ⟨⟨⟨h, trivial⟩, trivial⟩, by first | exact fun h2 => h2 | (intro h2; rw [h, h2]; rfl) | (intro h2; cases h2) | (intro h2; simp_all [gq])⟩) ?_
  refine And.intro (by exact fun h => h) ?_
  refine acode_ret ?_
  exact ib_eq (beh_eq k i)
theorem getD_get {α : Type} {l : List α} {i : Nat} (h : i < l.length) (d : α) : l[i] = l.getD i d := by
  rw [List.getD_eq_getElem?_getD, List.getElem?_eq_getElem h]
  rfl
theorem kind_at {L : List Lne} {k : List Int} (hk : k = L.map (fun l => kindL (ls l.2.2.1))) {n : Nat} (h : n < L.length) : k.getD n 0 = kindL (ls (L.getD n ((0 : Int), (0 : Int), ByteArray.empty, false)).2.2.1) := by
  subst hk
  simp [List.getD, h]
theorem tw_stop {L : List Lne} {j : Nat} (h : (L.take j).all more = true) (hs : L.length ≤ j ∨ (j < L.length ∧ more (L.getD j ((0 : Int), (0 : Int), ByteArray.empty, false)) = false)) : L.takeWhile more = L.take j := by
  conv => lhs; rw [← List.take_append_drop j L]
  rw [List.takeWhile_append_of_pos (by simpa [List.all_eq_true] using h)]
  have : (L.drop j).takeWhile more = [] := by
    rcases hs with hs | ⟨hs, hm⟩
    · rw [List.drop_eq_nil_of_le hs]; rfl
    · rw [List.drop_eq_getElem_cons hs, List.takeWhile_cons_of_neg]
      rw [show L[j] = L.getD j ((0 : Int), (0 : Int), ByteArray.empty, false) from by simp [List.getD, hs], hm]
      decide
  rw [this, List.append_nil]
theorem drop_getL {L : List Lne} {i j : Nat} : (L.drop (i + 1)).getD j ((0 : Int), (0 : Int), ByteArray.empty, false) = L.getD (i + 1 + j) ((0 : Int), (0 : Int), ByteArray.empty, false) := by
  simp only [List.getD, List.getElem?_drop]
theorem tw_more {L : List Lne} {i j : Nat} (h : ((L.drop (i + 1)).take j).all more = true) (hj : j < L.length - (i + 1)) (hm : kindL (ls (L.getD (i + 1 + j) ((0 : Int), (0 : Int), ByteArray.empty, false)).2.2.1) = 3) : ((L.drop (i + 1)).take (j + 1)).all more = true := by
  have hlt : j < (L.drop (i + 1)).length := by rw [List.length_drop]; exact hj
  rw [List.take_succ_eq_append_getElem hlt, List.all_append, h]
  rw [getD_get hlt ((0 : Int), (0 : Int), ByteArray.empty, false), drop_getL]
  simp only [List.all_cons, List.all_nil, Bool.and_true, Bool.true_and]
  exact decide_eq_true hm
theorem said_next {L : List Lne} {i j : Nat} (hj : j < L.length - (i + 1)) : ((L.drop (i + 1)).take (j + 1)).map (·.2.2.1) = ((L.drop (i + 1)).take j).map (·.2.2.1) ++ [(L.getD (i + 1 + j) ((0 : Int), (0 : Int), ByteArray.empty, false)).2.2.1] := by
  have hlt : j < (L.drop (i + 1)).length := by rw [List.length_drop]; exact hj
  rw [List.take_succ_eq_append_getElem hlt, List.map_append]
  rw [getD_get hlt ((0 : Int), (0 : Int), ByteArray.empty, false), drop_getL]
  rfl
theorem said_c (L : List Lne) (k : List Int) (hk : k = L.map (fun l => kindL (ls l.2.2.1))) (i : Nat) (hi : i < L.length) (hL : L.length ≤ 1000000) : ACall Tryz.prog 108 [.one (.sl rLne L), .one (.sl (.int .i64) k), ii .i64 i] (.one (.sl .str (saidL (L.getD i ((0 : Int), (0 : Int), ByteArray.empty, false)) (L.drop (i + 1))))) := by
  have hkl : k.length = L.length := by rw [hk, List.length_map]
  refine acall_of (rs := [6]) Tryz.func108 rfl rfl rfl teOk rfl ?_
  refine acode_seq ?_
  refine acode_region ?_
  refine acode_seq ?_
  refine acode_region ?_
  refine And.intro (by first | omega | assumption | decide | (simp only [Int.toNat_natCast, dflt_sl, dflt_st, dflt_str, dflt_int, dflt_bool]; omega) | (simp <;> omega)) ?_
  refine acode_seq ?_
  refine acode_seq ?_
  refine acode_region ?_
  refine And.intro (by first | omega | assumption | decide | (simp only [Int.toNat_natCast, dflt_sl, dflt_st, dflt_str, dflt_int, dflt_bool]; omega) | (simp <;> omega)) ?_
  refine acode_block ?_
  refine acode_loopP (fun (j : Nat) => j ≤ L.length - (i + 1) ∧ ((L.drop (i + 1)).take j).all more = true) (fun (j : Nat) => [(0, .one (.sl rLne L)), (1, .one (.sl (.int .i64) k)), (7, .one (.vec 0)), (8, ii .i64 ((i : Int) + 1 + j))]) (fun (j : Nat) => [(0, .vec 9 .str ((L.getD i ((0 : Int), (0 : Int), ByteArray.empty, false)).2.2.1 :: ((L.drop (i + 1)).take j).map (·.2.2.1)))]) 1 (fun (j : Nat) => L.length - (i + 1) - j) 0 (⟨Nat.zero_le _, by simp⟩) (le_of ⟨rfl, rfl, rfl, (ii_eq (by omega))⟩ rfl rfl) ?_
  intro j hI0
  obtain ⟨hj, hall⟩ := hI0
  have ej : ((i : Int) + 1 + j).toNat = i + 1 + j := (by omega)
  refine acode_seq ?_
  refine acode_seq ?_
  refine acode_region ?_
  intro l3_2
  try simp only [Int.toNat_natCast, dflt_sl, dflt_st, dflt_str, dflt_int, dflt_bool] at l3_2
  refine And.intro (fun h => trivial) ?_
  refine And.intro (fun h => trivial) ?_
  refine And.intro (fun h => ⟨⟨⟨h, trivial⟩, ⟨h, trivial⟩, trivial⟩, by first | omega | decide | (simp only [Int.toNat_natCast, dflt_sl, dflt_st, dflt_str, dflt_int, dflt_bool]; omega) | (have h9 := of_decide_eq_true h; omega) | (simp [gq] at h; omega)⟩) ?_
  refine And.intro (fun h => ⟨⟨h, trivial⟩, trivial⟩) ?_
  refine And.intro (fun h => ⟨⟨h, trivial⟩, trivial⟩) ?_
  refine And.intro (by exact fun h => h) ?_
  refine acode_cond rfl (fun h27 => ?_) (fun h27 => ?_)
  · try simp only [decide_eq_true_eq, Bool.and_eq_true] at h27
    try simp only [dflt_int] at h27
    have hjl : j < L.length - (i + 1) := (by omega)
    rw [ej, kind_at hk (by omega)] at h27
    refine acode_skip ?_
    refine acode_seq ?_
    refine acode_block ?_
    refine acode_region ?_
    refine And.intro (by first | omega | assumption | decide | (simp only [Int.toNat_natCast, dflt_sl, dflt_st, dflt_str, dflt_int, dflt_bool]; omega) | (simp <;> omega)) ?_
    refine And.intro (by first | exact app_le (by first | omega | (simp only [List.length_cons, List.length_nil, List.length_map, List.length_take, List.length_drop]; omega) | (simp; omega)) (by decide) | omega | assumption | decide | (simp only [Int.toNat_natCast, dflt_sl, dflt_st, dflt_str, dflt_int, dflt_bool]; omega) | (simp <;> omega)) ?_
    refine acode_region ?_
    refine And.intro (by first | omega | assumption | decide | (simp only [Int.toNat_natCast, dflt_sl, dflt_st, dflt_str, dflt_int, dflt_bool]; omega) | (simp <;> omega)) ?_
    exact ⟨j + 1, ⟨by omega, tw_more hall hjl h27.2⟩, by first | omega | (simp <;> omega), le_of ⟨rfl, rfl, rfl, (ii_eq (by omega))⟩ (vec_eq (by rw [ej, said_next hjl]; rfl)) rfl⟩
  · try simp only [decide_eq_false_iff_not, Bool.and_eq_false_iff, Int.not_lt] at h27
    try simp only [dflt_int] at h27
    rw [ej] at h27
    refine acode_exit ?_
    refine acode_seq ?_
    refine acode_region ?_
    refine acode_ret ?_
    have htw := tw_stop hall (by rcases h27 with h27 | h27; exact .inl (by rw [List.length_drop]; omega); by_cases hjl : j < L.length - (i + 1); exact .inr ⟨by rw [List.length_drop]; exact hjl, by rw [drop_getL]; rw [kind_at hk (by omega)] at h27; unfold more; exact decide_eq_false h27⟩; exact .inl (by rw [List.length_drop]; omega))
    unfold saidL
    rw [htw]
    rfl
theorem unfold_any (l : List ByteArray) (hl : LinesOk l) : ACall Tryz.prog 107 [.one (.sl .str l)] (.tup [(true, [.lit (.string (fldOf l).1), .lit (.string (fldOf l).2)]), (false, [.lit (.int .i64 (unfoldL (l.map ls)).2)])]) := by
  cases l with
  | nil => exact refUnfold_e
  | cons a r => exact refUnfold_c a r hl
theorem wrong_c (L : List Lne) (k : List Int) (hk : k = L.map (fun l => kindL (ls l.2.2.1))) (i : Nat) (hi : i < L.length) (hL : L.length ≤ 1000000) (hz : LinesOk (saidL (L.getD i ((0 : Int), (0 : Int), ByteArray.empty, false)) (L.drop (i + 1)))) (fields recs : Int) (bh : Bool) (hbh : (decide (0 < i) && (decide (k.getD (i - 1) 0 = 4) || decide (k.getD (i - 1) 0 = 3))) = bh) : ACall Tryz.prog 106 [.one (.sl rLne L), .one (.sl (.int .i64) k), ii .i64 i, ii .i64 fields, ii .i64 recs] (ii .i64 (wrongL bh (L.getD i ((0 : Int), (0 : Int), ByteArray.empty, false)) (L.drop (i + 1)) fields recs)) := by
  have hkl : k.length = L.length := by rw [hk, List.length_map]
  have hki := kind_at hk hi
  have hbc := behind_c k i (by omega) (by omega)
  rw [hbh] at hbc
  refine acall_of (rs := [10]) Tryz.func106 rfl rfl rfl teOk rfl ?_
  refine acode_seq ?_
  refine acode_region ?_
  refine acode_seq ?_
  refine acode_seq ?_
  refine acode_region ?_
  refine And.intro (by first | omega | assumption | decide | (simp only [Int.toNat_natCast, dflt_sl, dflt_st, dflt_str, dflt_int, dflt_bool]; omega) | (simp <;> omega)) ?_
  refine And.intro (fun h => trivial) ?_
  refine And.intro (fun h => trivial) ?_
  refine And.intro (fun h => ⟨⟨⟨h, trivial⟩, ⟨h, trivial⟩, trivial⟩, by first | omega | decide | (simp only [Int.toNat_natCast, dflt_sl, dflt_st, dflt_str, dflt_int, dflt_bool]; omega) | (have h9 := of_decide_eq_true h; omega) | (simp [gq] at h; omega)⟩) ?_
  refine And.intro (fun h => ⟨⟨h, trivial⟩, trivial⟩) ?_
  refine And.intro (fun h => ⟨⟨h, trivial⟩, trivial⟩) ?_
  refine And.intro (fun h => ⟨⟨h, trivial⟩, trivial⟩) ?_
  refine And.intro (fun h => trivial) ?_
  refine And.intro (fun h => trivial) ?_
  refine And.intro (rfl) ?_
  refine Exists.intro _ (And.intro (fun h => ⟨⟨⟨h, trivial⟩, ⟨h, trivial⟩, trivial⟩, hbc⟩) ?_)
  refine And.intro (fun h => ⟨⟨h, trivial⟩, trivial⟩) ?_
  refine And.intro (fun h => ⟨⟨⟨h, trivial⟩, trivial⟩, by first | exact fun h2 => h2 | (intro h2; rw [h, h2]; rfl) | (intro h2; cases h2) | (intro h2; simp_all [gq])⟩) ?_
  refine And.intro (by first | (intro h; rw [h]; rfl) | (intro h; cases h)) ?_
  refine And.intro (fun h => trivial) ?_
  refine And.intro (fun h => trivial) ?_
  refine And.intro (fun h => ⟨⟨⟨h, trivial⟩, ⟨h, trivial⟩, trivial⟩, by first | omega | decide | (simp only [Int.toNat_natCast, dflt_sl, dflt_st, dflt_str, dflt_int, dflt_bool]; omega) | (have h9 := of_decide_eq_true h; omega) | (simp [gq] at h; omega)⟩) ?_
  refine And.intro (fun h => ⟨⟨h, trivial⟩, trivial⟩) ?_
  refine And.intro (fun h => ⟨⟨h, trivial⟩, trivial⟩) ?_
  refine And.intro (fun h => ⟨⟨h, trivial⟩, trivial⟩) ?_
  refine And.intro (by first | (intro h; rw [h]; rfl) | (intro h; cases h)) ?_
  refine acode_cond rfl (fun h38 => ?_) (fun h38 => ?_)
  · try simp only [decide_eq_true_eq, Bool.and_eq_true, Bool.not_eq_true', Bool.or_eq_true] at h38
    try simp only [Int.toNat_natCast, dflt_st, dflt_str, dflt_int, dflt_bool] at h38
    rw [hki] at h38
    refine acode_seq ?_
    refine acode_region ?_
    refine acode_ret ?_
    refine ii_eq (Eq.symm ?_)
    unfold wrongL
    exact if_pos (h38.elim (fun h => h.elim .inl (fun h => .inr (.inl h))) (fun h => .inr (.inr h)))
  · try simp only [decide_eq_false_iff_not, Bool.not_eq_false', Bool.or_eq_false_iff, Bool.and_eq_false_iff] at h38
    try simp only [Int.toNat_natCast, dflt_st, dflt_str, dflt_int, dflt_bool] at h38
    rw [hki] at h38
    have hneg : ¬ (kindL (ls (L.getD i ((0 : Int), (0 : Int), ByteArray.empty, false)).2.2.1) = 5 ∨ (kindL (ls (L.getD i ((0 : Int), (0 : Int), ByteArray.empty, false)).2.2.1) = 3 ∧ bh = false) ∨ (L.getD i ((0 : Int), (0 : Int), ByteArray.empty, false)).2.2.2 = false) := (by rintro (h|⟨h, h'⟩|h); exact h38.1.1 h; rcases h38.1.2 with g|g; exact g h; rw [g] at h'; cases h'; rw [h38.2] at h; cases h)
    refine acode_skip ?_
    refine acode_seq ?_
    refine acode_seq ?_
    refine acode_region ?_
    refine And.intro (by first | omega | assumption | decide | (simp only [Int.toNat_natCast, dflt_sl, dflt_st, dflt_str, dflt_int, dflt_bool]; omega) | (simp <;> omega)) ?_
    refine acode_cond rfl (fun h43 => ?_) (fun h43 => ?_)
    · try simp only [decide_eq_false_iff_not, Bool.not_eq_true'] at h43
      try simp only [Int.toNat_natCast, dflt_int] at h43
      rw [hki] at h43
      refine acode_seq ?_
      refine acode_region ?_
      refine acode_ret ?_
      refine ii_eq (Eq.symm ?_)
      unfold wrongL
      rw [if_neg hneg, if_pos h43]
    · try simp only [decide_eq_true_eq, Bool.not_eq_false'] at h43
      try simp only [Int.toNat_natCast, dflt_int] at h43
      rw [hki] at h43
      refine acode_skip ?_
      refine acode_seq ?_
      refine acode_seq ?_
      refine acode_region ?_
      refine Or.inl ?_
      refine And.intro (rfl) ?_
      refine Exists.intro _ (And.intro (said_c L k hk i hi hL) ?_)
      refine Or.inl ?_
      refine And.intro (rfl) ?_
      refine Exists.intro _ (And.intro (unfold_any _ hz) ?_)
      refine acode_seq ?_
      refine acode_region ?_
      refine acode_cond rfl (fun h53 => ?_) (fun h53 => ?_)
      · try simp only [decide_eq_false_iff_not, Bool.not_eq_true'] at h53
        try simp only [Int.toNat_natCast, dflt_sl, dflt_st, dflt_str, dflt_int, dflt_bool] at h53
        refine acode_seq ?_
        refine acode_region ?_
        refine acode_ret ?_
        refine ii_eq (Eq.symm ?_)
        unfold wrongL
        rw [if_neg hneg, if_neg (by rw [h43]; simp), if_pos h53]
      · try simp only [decide_eq_true_eq, Bool.not_eq_false'] at h53
        try simp only [Int.toNat_natCast, dflt_sl, dflt_st, dflt_str, dflt_int, dflt_bool] at h53
        refine acode_skip ?_
        refine acode_seq ?_
        refine acode_seq ?_
        refine acode_region ?_
        refine And.intro (fun h => trivial) ?_
        refine And.intro (fun h => ⟨⟨h, trivial⟩, trivial⟩) ?_
        refine And.intro (fun h => ⟨⟨h, trivial⟩, trivial⟩) ?_
        refine And.intro (fun h => trivial) ?_
        refine And.intro (fun h => ⟨⟨h, trivial⟩, trivial⟩) ?_
        refine And.intro (fun h => ⟨⟨⟨h, trivial⟩, trivial⟩, by first | exact fun h2 => h2 | (intro h2; rw [h, h2]; rfl) | (intro h2; cases h2) | (intro h2; simp_all [gq])⟩) ?_
        refine And.intro (by first | (intro h; rw [h]; rfl) | (intro h; cases h)) ?_
        refine acode_cond rfl (fun h64 => ?_) (fun h64 => ?_)
        · try simp only [decide_eq_true_eq, Bool.and_eq_true, Bool.or_eq_true] at h64
          try simp only [Int.toNat_natCast, dflt_sl, dflt_st, dflt_str, dflt_int, dflt_bool] at h64
          refine acode_seq ?_
          refine acode_region ?_
          refine acode_ret ?_
          refine ii_eq (Eq.symm ?_)
          unfold wrongL
          rw [if_neg hneg, if_neg (by rw [h43]; simp), if_neg (by rw [h53]; simp), if_pos h64]
        · try simp only [decide_eq_false_iff_not, Bool.or_eq_false_iff, Bool.and_eq_false_iff, Int.not_le] at h64
          try simp only [Int.toNat_natCast, dflt_sl, dflt_st, dflt_str, dflt_int, dflt_bool] at h64
          refine acode_skip ?_
          refine acode_seq ?_
          refine acode_region ?_
          refine acode_ret ?_
          refine ii_eq (Eq.symm ?_)
          unfold wrongL
          rw [if_neg hneg, if_neg (by rw [h43]; simp), if_neg (by rw [h53]; simp), if_neg (by rintro (h|⟨h, h'⟩); omega; rcases h64.2 with g|g; exact g h; omega)]
end Q
end Ab
end Go.Proofs.YtklhlkhlndhepaaGreatDoor
namespace Go.Proofs.YtklhlkhlndhepaaGreatDoor
open Go.RowKit
namespace Ab
set_option maxRecDepth 100000
namespace Q
theorem linesR_no : ∀ (f : Nat) (tot no : Int) (s : List UInt8) (i : Nat), i < (linesR f tot no s).length → ((linesR f tot no s).getD i ((0 : Int), (0 : Int), ByteArray.empty, false)).1 = no + i
  | 0, _, _, _, i, h => by simp [linesR] at h
  | f + 1, _, _, [], i, h => by simp [linesR] at h
  | f + 1, tot, no, a :: r, i, h => by
    rw [linesR_cons] at h ⊢
    cases i with
    | zero => simp
    | succ i =>
      have := linesR_no f tot (no + 1) (Lib.cut (a :: r) [10]).2.1 i (by simpa using h)
      rw [List.getD_cons_succ, this]
      omega
def bhI (k : List Int) (i : Nat) : Bool := decide (0 < i) && (decide (k.getD (i - 1) 0 = 4) || decide (k.getD (i - 1) 0 = 3))
/-- What the document's answer holds ahead of a line. -/
structure RI (L : List Lne) (k : List Int) (i : Nat) (t : RSt) : Prop where
  il : i ≤ L.length
  eq : runR false rst0 L = runR (bhI k i) t (L.drop i)
  r0 : 0 ≤ t.recs
  ri : t.recs ≤ i
  oi : t.out.length ≤ 2 * i
  fi : t.flds.length ≤ i
  rw_ : t.raw.size ≤ ((L.take i).map (fun l => l.2.2.1.size + 1)).sum
  rd : t.raw = ByteArray.empty ↔ t.raw.size = 0
theorem ri_0 (L : List Lne) (k : List Int) : RI L k 0 rst0 := ⟨Nat.zero_le _, rfl, Int.le_refl _, Int.le_refl _, Nat.le_refl _, Nat.le_refl _, Nat.zero_le _, ⟨fun _ => rfl, fun _ => rfl⟩⟩
theorem size0 (s : ByteArray) : s = ByteArray.empty ↔ s.size = 0 := by
  refine ⟨fun h => by rw [h]; rfl, fun h => ?_⟩
  rw [size_list] at h
  have := List.eq_nil_of_length_eq_zero h
  rw [← bytes_ls s, show ls s = [] from this]; rfl
theorem sum_succ (L : List Lne) (i : Nat) (h : i < L.length) : ((L.take (i + 1)).map (fun l => l.2.2.1.size + 1)).sum = ((L.take i).map (fun l => l.2.2.1.size + 1)).sum + ((L.getD i ((0 : Int), (0 : Int), ByteArray.empty, false)).2.2.1.size + 1) := by
  rw [List.take_succ_eq_append_getElem h, List.map_append, List.sum_append, ← getD_get h ((0 : Int), (0 : Int), ByteArray.empty, false)]
  simp
theorem ri_eq {L : List Lne} {k : List Int} {i : Nat} {t : RSt} (h : RI L k i t) (hi : i < L.length) : runR false rst0 L = if wrongL (bhI k i) (L.getD i ((0 : Int), (0 : Int), ByteArray.empty, false)) (L.drop (i + 1)) t.flds.length t.recs ≠ 0 then .inl ((L.getD i ((0 : Int), (0 : Int), ByteArray.empty, false)).1, wrongL (bhI k i) (L.getD i ((0 : Int), (0 : Int), ByteArray.empty, false)) (L.drop (i + 1)) t.flds.length t.recs) else runR (decide (kindL (ls (L.getD i ((0 : Int), (0 : Int), ByteArray.empty, false)).2.2.1) = 4) || decide (kindL (ls (L.getD i ((0 : Int), (0 : Int), ByteArray.empty, false)).2.2.1) = 3)) (stepR t (L.getD i ((0 : Int), (0 : Int), ByteArray.empty, false)) (L.drop (i + 1))) (L.drop (i + 1)) := by
  rw [h.eq, List.drop_eq_getElem_cons hi, getD_get hi ((0 : Int), (0 : Int), ByteArray.empty, false)]
  rfl
theorem bh_next {L : List Lne} {k : List Int} (hk : k = L.map (fun l => kindL (ls l.2.2.1))) {i : Nat} (hi : i < L.length) : bhI k (i + 1) = (decide (kindL (ls (L.getD i ((0 : Int), (0 : Int), ByteArray.empty, false)).2.2.1) = 4) || decide (kindL (ls (L.getD i ((0 : Int), (0 : Int), ByteArray.empty, false)).2.2.1) = 3)) := by
  unfold bhI
  rw [Nat.add_sub_cancel, kind_at hk hi]
  simp
theorem ri_next {L : List Lne} {k : List Int} (hk : k = L.map (fun l => kindL (ls l.2.2.1))) {i : Nat} {t : RSt} (h : RI L k i t) (hi : i < L.length) (hw : wrongL (bhI k i) (L.getD i ((0 : Int), (0 : Int), ByteArray.empty, false)) (L.drop (i + 1)) t.flds.length t.recs = 0) : RI L k (i + 1) (stepR t (L.getD i ((0 : Int), (0 : Int), ByteArray.empty, false)) (L.drop (i + 1))) := by
  have e := ri_eq h hi
  rw [if_neg (by rw [hw]; simp), ← bh_next hk hi] at e
  have h1 := h.r0
  have h2 := h.ri
  have h3 := h.oi
  have h4 := h.fi
  have h5 := h.rw_
  have h6 := sum_succ L i hi
  refine ⟨hi, e, ?_, ?_, ?_, ?_, ?_, size0 _⟩
  · unfold stepR
    split
    · exact h1
    · split
      · simp only; split <;> omega
      · exact h1
  · unfold stepR
    split
    · simp only; omega
    · split
      · simp only; split <;> omega
      · simp only; omega
  · unfold stepR
    split
    · simp only; split <;> simp <;> omega
    · split
      · simp only; omega
      · simp only; omega
  · unfold stepR
    split
    · simp
    · split
      · simp; omega
      · simp only; omega
  · rw [h6]
    have h10 : ByteArray.size ⟨#[10]⟩ = 1 := rfl
    unfold stepR
    split
    · simp
    · split
      · simp only [ByteArray.size_append]; omega
      · simp only [ByteArray.size_append]; omega
theorem said_ok {s : ByteArray} (hs : s.size ≤ 60000) {i : Nat} (hi : i < (linesT s).length) : LinesOk (saidL ((linesT s).getD i ((0 : Int), (0 : Int), ByteArray.empty, false)) ((linesT s).drop (i + 1))) := by
  obtain ⟨h1, h2⟩ := linesT_len s
  have h3 : ((((linesT s).drop (i + 1)).takeWhile more).map (·.2.2.1.size)).sum ≤ ((linesT s).map (·.2.2.1.size)).sum := by
    have e1 : (linesT s) = (linesT s).take (i + 1) ++ ((linesT s).drop (i + 1)) := (List.take_append_drop _ _).symm
    have e2 : (linesT s).drop (i + 1) = ((linesT s).drop (i + 1)).takeWhile more ++ ((linesT s).drop (i + 1)).dropWhile more := List.takeWhile_append_dropWhile.symm
    conv => rhs; rw [e1, e2]
    simp only [List.map_append, List.sum_append]
    omega
  have h4 : (((linesT s).drop (i + 1)).takeWhile more).length ≤ (linesT s).length := by
    have := (List.takeWhile_sublist more (l := (linesT s).drop (i + 1))).length_le
    rw [List.length_drop] at this
    omega
  have h5 := linesT_sz hi
  rw [getD_get hi ((0 : Int), (0 : Int), ByteArray.empty, false)] at h5
  unfold saidL
  refine ⟨by simp only [List.length_cons, List.length_map]; omega, ?_⟩
  simp only [List.map_cons, List.sum_cons, List.map_map]
  have : ((((linesT s).drop (i + 1)).takeWhile more).map ((fun x : ByteArray => x.size) ∘ fun x : Lne => x.2.2.1)).sum = ((((linesT s).drop (i + 1)).takeWhile more).map (·.2.2.1.size)).sum := rfl
  omega
def resR : (Int × Int) ⊕ List Itm → A
  | .inl e => .tup [(false, [.sl rItm []]), (false, [.lit (.int .i64 e.1)]), (false, [.lit (.int .i64 e.2)])]
  | .inr l => .tup [(false, [.sl rItm l]), (false, [.lit (.int .i64 (-9))]), (false, [.lit (.int .i64 0)])]
theorem sum_total (s : ByteArray) (i : Nat) : (((linesT s).take i).map (fun l => l.2.2.1.size + 1)).sum ≤ 2 * s.size := by
  obtain ⟨h1, h2⟩ := linesT_len s
  have e : ∀ L : List Lne, (L.map (fun l => l.2.2.1.size + 1)).sum = (L.map (·.2.2.1.size)).sum + L.length := by
    intro L
    induction L with
    | nil => rfl
    | cons a r ih => simp only [List.map_cons, List.sum_cons, List.length_cons, ih]; omega
  have h3 : (((linesT s).take i).map (fun l => l.2.2.1.size + 1)).sum ≤ ((linesT s).map (fun l => l.2.2.1.size + 1)).sum := by
    conv => rhs; rw [← List.take_append_drop i (linesT s)]
    rw [List.map_append, List.sum_append]
    omega
  rw [e (linesT s)] at h3
  omega
set_option maxHeartbeats 4000000 in
theorem refParse_a (s : ByteArray) (hs : s.size ≤ 60000) : ACall Tryz.prog 64 [is s] (resR (parseS s)) := by
  obtain ⟨hl1, hl2⟩ := linesT_len s
  have hsz : ∀ i, i < (linesT s).length → ((linesT s).getD i ((0 : Int), (0 : Int), ByteArray.empty, false)).2.2.1.size ≤ 60000 := fun i hi => by
    have := linesT_sz hi
    rw [getD_get hi ((0 : Int), (0 : Int), ByteArray.empty, false)] at this
    omega
  have hss := fun i hi => said_ok hs (i := i) hi
  have hno : ∀ i, i < (linesT s).length → ((linesT s).getD i ((0 : Int), (0 : Int), ByteArray.empty, false)).1 = i := fun i hi => by
    have := linesR_no s.size s.size 0 (ls s) i hi
    rw [Int.zero_add] at this
    exact this
  have hst := sum_total s
  rw [parse_ref]
  have hspl := refSplit_c s (by omega)
  generalize linesT s = L at *
  obtain ⟨k, hk⟩ : ∃ k, k = L.map (fun l => kindL (ls l.2.2.1)) := ⟨_, rfl⟩
  have hkl : k.length = L.length := by rw [hk, List.length_map]
  refine acall_of (rs := [2, 3, 4]) Tryz.func64 rfl rfl rfl teOk rfl ?_
  refine acode_seq ?_
  refine acode_region ?_
  refine acode_seq ?_
  refine acode_seq ?_
  refine acode_region ?_
  refine acode_cond rfl (fun h17 => ?_) (fun h17 => ?_)
  · try simp only [decide_eq_true_eq] at h17
    try simp only [Int.toNat_natCast, dflt_sl, dflt_st, dflt_str, dflt_int, dflt_bool] at h17
    omega
  · try simp only [decide_eq_false_iff_not, Int.not_lt] at h17
    try simp only [Int.toNat_natCast, dflt_sl, dflt_st, dflt_str, dflt_int, dflt_bool] at h17
    refine acode_skip ?_
    refine acode_seq ?_
    refine acode_region ?_
    refine Or.inl ?_
    refine And.intro (rfl) ?_
    refine Exists.intro _ (And.intro (hspl) ?_)
    refine acode_seq ?_
    refine acode_region ?_
    refine acode_seq ?_
    refine acode_seq ?_
    refine acode_nilvec 6 3 (.int .i64) rfl ?_
    refine acode_region ?_
    refine acode_block ?_
    refine acode_loopP (fun (i : Nat) => i ≤ L.length) (fun (i : Nat) => [(5, .one (.sl rLne L)), (6, .one (.vec 0)), (7, ii .i64 i)]) (fun (i : Nat) => [(0, .vec 3 (.int .i64) (k.take i))]) 1 (fun (i : Nat) => L.length - i) 0 (Nat.zero_le _) (le_of ⟨rfl, rfl, rfl⟩ rfl rfl) ?_
    intro i hI0
    refine acode_seq ?_
    refine acode_seq ?_
    refine acode_region ?_
    intro l6_2
    try simp only [Int.toNat_natCast, dflt_sl, dflt_st, dflt_str, dflt_int, dflt_bool] at l6_2
    refine acode_cond rfl (fun h23 => ?_) (fun h23 => ?_)
    · try simp only [decide_eq_true_eq] at h23
      try simp only [Int.toNat_natCast, dflt_sl, dflt_st, dflt_str, dflt_int, dflt_bool] at h23
      have hil : i < L.length := (by omega)
      have hi2 := hsz i hil
      refine acode_skip ?_
      refine acode_seq ?_
      refine acode_block ?_
      refine acode_region ?_
      refine And.intro (by first | omega | assumption | decide | (simp only [Int.toNat_natCast, dflt_sl, dflt_st, dflt_str, dflt_int, dflt_bool]; omega) | (simp <;> omega)) ?_
      refine Or.inl ?_
      refine And.intro (rfl) ?_
      refine Exists.intro _ (And.intro (refKindL_c (L.getD i ((0 : Int), (0 : Int), ByteArray.empty, false)).2.2.1 (by omega)) ?_)
      refine And.intro (by first | exact app_le (by first | omega | (simp only [List.length_cons, List.length_nil, List.length_take]; omega) | (simp; omega)) (by decide) | omega | assumption | decide | (simp only [Int.toNat_natCast, dflt_sl, dflt_st, dflt_str, dflt_int, dflt_bool]; omega) | (simp <;> omega)) ?_
      refine acode_region ?_
      refine And.intro (by first | omega | assumption | decide | (simp only [Int.toNat_natCast, dflt_sl, dflt_st, dflt_str, dflt_int, dflt_bool]; omega) | (simp <;> omega)) ?_
      exact ⟨i + 1, by omega, by first | omega | (simp <;> omega), le_of ⟨rfl, rfl, (ii_eq (by omega))⟩ (vec_eq (by rw [← take_snoc 0 (by omega : i < k.length), kind_at hk hil]; rfl)) rfl⟩
    · try simp only [decide_eq_false_iff_not, Int.not_lt] at h23
      try simp only [Int.toNat_natCast, dflt_sl, dflt_st, dflt_str, dflt_int, dflt_bool] at h23
      refine acode_exit ?_
      refine acode_seq ?_
      rw [List.take_of_length_le (by omega)]
      refine acode_frz [0] ?_
      refine acode_region ?_
      refine acode_seq ?_
      refine acode_region ?_
      refine acode_seq ?_
      refine acode_nilvec 8 73 rItm rfl ?_
      refine acode_nilcell 1 2 91 rFld rfl rfl rfl ?_
      refine acode_frz [3] ?_
      refine acode_region ?_
      refine acode_seq ?_
      refine acode_seq ?_
      refine acode_region ?_
      refine acode_block ?_
      refine acode_loopP (fun (u : Nat × RSt) => RI L k u.1 u.2) (fun (u : Nat × RSt) => [(5, .one (.sl rLne L)), (6, .one (.sl (.int .i64) k)), (8, .one (.vec 2)), (9, .one (.own 1 0)), (10, ii .i64 u.2.recs), (11, ii .i64 u.1)]) (fun (u : Nat × RSt) => [(1, .box 73 [.lit (.int .i64 u.2.kind), .lit (.string u.2.raw), .sl rFld u.2.flds]), (2, .vec 73 rItm u.2.out)]) 4 (fun (u : Nat × RSt) => L.length - u.1) (0, rst0) (ri_0 L k) (le_of ⟨rfl, rfl, rfl, rfl, rfl, rfl⟩ ⟨rfl, rfl⟩ rfl) ?_
      intro u hI2
      obtain ⟨i, t⟩ := u
      have hI : RI L k i t := hI2
      have g1 := hI.il
      have g2 := hI.r0
      have g3 := hI.ri
      have g4 := hI.oi
      have g5 := hI.fi
      have g6 := Nat.le_trans hI.rw_ (hst i)
      refine acode_seq ?_
      refine acode_seq ?_
      refine acode_region ?_
      intro l13_2
      try simp only [Int.toNat_natCast, dflt_sl, dflt_st, dflt_str, dflt_int, dflt_bool] at l13_2
      refine acode_cond rfl (fun h39 => ?_) (fun h39 => ?_)
      · try simp only [decide_eq_true_eq] at h39
        try simp only [Int.toNat_natCast, dflt_sl, dflt_st, dflt_str, dflt_int, dflt_bool] at h39
        have hil : i < L.length := (by omega)
        have hi2 := hsz i hil
        refine acode_skip ?_
        refine acode_seq ?_
        refine acode_block ?_
        refine acode_seq ?_
        refine acode_seq ?_
        refine acode_region ?_
        intro l15_5
        refine Or.inl ?_
        refine And.intro (rfl) ?_
        refine Exists.intro _ (And.intro (wrong_c L k hk i hil (by omega) (hss i hil) t.flds.length t.recs (bhI k i) rfl) ?_)
        refine acode_seq ?_
        refine acode_region ?_
        refine acode_cond rfl (fun h51 => ?_) (fun h51 => ?_)
        · try simp only [decide_eq_false_iff_not, Bool.not_eq_true'] at h51
          try simp only [Int.toNat_natCast, dflt_sl, dflt_st, dflt_str, dflt_int, dflt_bool] at h51
          refine acode_seq ?_
          refine acode_region ?_
          refine acode_nilvec 2 73 rItm rfl ?_
          refine acode_ret ?_
          rw [ri_eq hI hil, if_pos h51, hno i hil]
          rfl
        · try simp only [decide_eq_true_eq, Bool.not_eq_false'] at h51
          try simp only [Int.toNat_natCast, dflt_sl, dflt_st, dflt_str, dflt_int, dflt_bool] at h51
          have hN := ri_next hk hI hil h51
          refine acode_skip ?_
          refine acode_seq ?_
          refine acode_seq ?_
          refine acode_region ?_
          refine And.intro (by first | omega | assumption | decide | (simp only [Int.toNat_natCast, dflt_sl, dflt_st, dflt_str, dflt_int, dflt_bool]; omega) | (simp <;> omega)) ?_
          refine acode_cond rfl (fun h58 => ?_) (fun h58 => ?_)
          · try simp only [decide_eq_true_eq] at h58
            try simp only [Int.toNat_natCast, dflt_int] at h58
            rw [kind_at hk hil] at h58
            refine acode_seq ?_
            refine acode_seq ?_
            refine acode_region ?_
            refine acode_cond rfl (fun h61 => ?_) (fun h61 => ?_)
            · try simp only [decide_eq_false_iff_not, Bool.not_eq_true'] at h61
              try simp only [Int.toNat_natCast, dflt_sl, dflt_st, dflt_str, dflt_int, dflt_bool] at h61
              have hS : stepR t (L.getD i ((0 : Int), (0 : Int), ByteArray.empty, false)) (L.drop (i + 1)) = ⟨2, ByteArray.empty, [], t.out ++ [(t.kind, t.raw, t.flds)] ++ [(1, (L.getD i ((0 : Int), (0 : Int), ByteArray.empty, false)).2.2.1 ++ ⟨#[10]⟩, [])], t.recs⟩ := (by unfold stepR; rw [if_pos h58, if_neg (show ¬ t.raw = ByteArray.empty from h61)])
              refine acode_region ?_
              refine And.intro (by first | exact app_le (by first | omega | (simp only [List.length_cons, List.length_nil]; omega) | (simp; omega)) (by decide) | omega | assumption | decide | (simp only [Int.toNat_natCast, dflt_sl, dflt_st, dflt_str, dflt_int, dflt_bool]; omega) | (simp <;> omega)) ?_
              refine acode_seq ?_
              refine acode_region ?_
              refine And.intro (by first | omega | assumption | decide | (simp only [Int.toNat_natCast, dflt_sl, dflt_st, dflt_str, dflt_int, dflt_bool]; omega) | (simp <;> omega)) ?_
              refine And.intro (by show (L.getD i ((0 : Int), (0 : Int), ByteArray.empty, false)).2.2.1.size + 1 ≤ maxLen; unfold maxLen; omega) ?_
              refine And.intro (by exact app_le (by rw [List.length_append]; show t.out.length + 1 + 1 ≤ 1000000000; omega) (by decide)) ?_
              refine acode_seq ?_
              refine acode_region ?_
              refine acode_nilcell 1 2 91 rFld rfl rfl rfl ?_
              refine acode_frz [6] ?_
              refine acode_exit ?_
              refine acode_region ?_
              refine And.intro (by first | omega | assumption | decide | (simp only [Int.toNat_natCast, dflt_sl, dflt_st, dflt_str, dflt_int, dflt_bool]; omega) | (simp <;> omega)) ?_
              exact ⟨(i + 1, stepR t (L.getD i ((0 : Int), (0 : Int), ByteArray.empty, false)) (L.drop (i + 1))), hN, by first | omega | (simp <;> omega), le_of ⟨rfl, rfl, rfl, rfl, ((by rw [hS]; try rfl)), (ii_eq (by simp only; omega))⟩ ⟨((by rw [hS]; try rfl)), ((by rw [hS]; try rfl))⟩ rfl⟩
            · try simp only [decide_eq_true_eq, Bool.not_eq_false'] at h61
              try simp only [Int.toNat_natCast, dflt_sl, dflt_st, dflt_str, dflt_int, dflt_bool] at h61
              have hS : stepR t (L.getD i ((0 : Int), (0 : Int), ByteArray.empty, false)) (L.drop (i + 1)) = ⟨2, ByteArray.empty, [], t.out ++ [(1, (L.getD i ((0 : Int), (0 : Int), ByteArray.empty, false)).2.2.1 ++ ⟨#[10]⟩, [])], t.recs⟩ := (by unfold stepR; rw [if_pos h58, if_pos (show t.raw = ByteArray.empty from h61)])
              refine acode_skip ?_
              refine acode_seq ?_
              refine acode_region ?_
              refine And.intro (by first | omega | assumption | decide | (simp only [Int.toNat_natCast, dflt_sl, dflt_st, dflt_str, dflt_int, dflt_bool]; omega) | (simp <;> omega)) ?_
              refine And.intro (by show (L.getD i ((0 : Int), (0 : Int), ByteArray.empty, false)).2.2.1.size + 1 ≤ maxLen; unfold maxLen; omega) ?_
              refine And.intro (by first | exact app_le (by first | omega | (simp only [List.length_cons, List.length_nil]; omega) | (simp; omega)) (by decide) | omega | assumption | decide | (simp only [Int.toNat_natCast, dflt_sl, dflt_st, dflt_str, dflt_int, dflt_bool]; omega) | (simp <;> omega)) ?_
              refine acode_seq ?_
              refine acode_region ?_
              refine acode_nilcell 1 2 91 rFld rfl rfl rfl ?_
              refine acode_frz [5] ?_
              refine acode_exit ?_
              refine acode_region ?_
              refine And.intro (by first | omega | assumption | decide | (simp only [Int.toNat_natCast, dflt_sl, dflt_st, dflt_str, dflt_int, dflt_bool]; omega) | (simp <;> omega)) ?_
              exact ⟨(i + 1, stepR t (L.getD i ((0 : Int), (0 : Int), ByteArray.empty, false)) (L.drop (i + 1))), hN, by first | omega | (simp <;> omega), le_of ⟨rfl, rfl, rfl, rfl, ((by rw [hS]; try rfl)), (ii_eq (by simp only; omega))⟩ ⟨((by rw [hS]; try rfl)), ((by rw [hS]; try rfl))⟩ rfl⟩
          · try simp only [decide_eq_false_iff_not] at h58
            try simp only [Int.toNat_natCast, dflt_int] at h58
            rw [kind_at hk hil] at h58
            refine acode_skip ?_
            refine acode_cut (fun (u : Unit) => True) (fun (u : Unit) => [(5, .one (.sl rLne L)), (6, .one (.sl (.int .i64) k)), (8, .one (.vec 2)), (9, .one (.own 1 0)), (10, ii .i64 t.recs), (11, ii .i64 i)]) (fun (u : Unit) => [(1, .box 73 [.lit (.int .i64 t.kind), .lit (.string (t.raw ++ (L.getD i ((0 : Int), (0 : Int), ByteArray.empty, false)).2.2.1 ++ ⟨#[10]⟩)), .sl rFld t.flds]), (2, .vec 73 rItm t.out)]) 4 ?_ ?_
            · refine acode_ord rfl ?_
              refine aord_light 0 rfl rfl rfl (by kernel_rfl) ?_
              refine aord_light 2 rfl rfl rfl (by kernel_rfl) ?_
              refine aord_light 3 rfl rfl rfl (by kernel_rfl) ?_
              refine aord_light 4 rfl rfl rfl (by kernel_rfl) ?_
              refine And.intro (by first | omega | assumption | decide | (simp only [Int.toNat_natCast, dflt_sl, dflt_st, dflt_str, dflt_int, dflt_bool]; omega) | (simp <;> omega)) ?_
              refine aord_all [1, 5] (by kernel_rfl) rfl ?_
              refine And.intro ?_ ?_
              · refine aord_all [5] (by kernel_rfl) rfl ?_
                refine aord_all [6] (by kernel_rfl) rfl ?_
                refine aord_light 7 rfl rfl rfl (by kernel_rfl) ?_
                refine And.intro (by show t.raw.size + (L.getD i ((0 : Int), (0 : Int), ByteArray.empty, false)).2.2.1.size ≤ maxLen; unfold maxLen; omega) ?_
                refine aord_light 8 rfl rfl rfl (by kernel_rfl) ?_
                refine And.intro (by rw [ByteArray.size_append]; show t.raw.size + (L.getD i ((0 : Int), (0 : Int), ByteArray.empty, false)).2.2.1.size + 1 ≤ maxLen; unfold maxLen; omega) ?_
                refine aord_light 9 rfl rfl rfl (by kernel_rfl) ?_
                refine aord_all [10] (by kernel_rfl) rfl ?_
                refine aord_done (by kernel_rfl) ?_
                exact ⟨(), trivial, le_of ⟨rfl, rfl, rfl, rfl, rfl, rfl⟩ ⟨rfl, rfl⟩ rfl⟩
              · refine aord_all [1, 6] (by kernel_rfl) rfl ?_
                refine And.intro ?_ ?_
                · refine aord_all [6] (by kernel_rfl) rfl ?_
                  refine aord_light 7 rfl rfl rfl (by kernel_rfl) ?_
                  refine And.intro (by show t.raw.size + (L.getD i ((0 : Int), (0 : Int), ByteArray.empty, false)).2.2.1.size ≤ maxLen; unfold maxLen; omega) ?_
                  refine aord_light 8 rfl rfl rfl (by kernel_rfl) ?_
                  refine And.intro (by rw [ByteArray.size_append]; show t.raw.size + (L.getD i ((0 : Int), (0 : Int), ByteArray.empty, false)).2.2.1.size + 1 ≤ maxLen; unfold maxLen; omega) ?_
                  refine aord_light 9 rfl rfl rfl (by kernel_rfl) ?_
                  refine aord_all [10] (by kernel_rfl) rfl ?_
                  refine aord_done (by kernel_rfl) ?_
                  exact ⟨(), trivial, le_of ⟨rfl, rfl, rfl, rfl, rfl, rfl⟩ ⟨rfl, rfl⟩ rfl⟩
                · refine aord_all [1] (by kernel_rfl) rfl ?_
                  refine aord_light 7 rfl rfl rfl (by kernel_rfl) ?_
                  refine And.intro (by show t.raw.size + (L.getD i ((0 : Int), (0 : Int), ByteArray.empty, false)).2.2.1.size ≤ maxLen; unfold maxLen; omega) ?_
                  refine aord_light 8 rfl rfl rfl (by kernel_rfl) ?_
                  refine And.intro (by rw [ByteArray.size_append]; show t.raw.size + (L.getD i ((0 : Int), (0 : Int), ByteArray.empty, false)).2.2.1.size + 1 ≤ maxLen; unfold maxLen; omega) ?_
                  refine aord_light 9 rfl rfl rfl (by kernel_rfl) ?_
                  refine aord_all [10] (by kernel_rfl) rfl ?_
                  refine aord_done (by kernel_rfl) ?_
                  exact ⟨(), trivial, le_of ⟨rfl, rfl, rfl, rfl, rfl, rfl⟩ ⟨rfl, rfl⟩ rfl⟩
            · intro u hcut24
              refine acode_seq ?_
              refine acode_region ?_
              refine And.intro (by first | omega | assumption | decide | (simp only [Int.toNat_natCast, dflt_sl, dflt_st, dflt_str, dflt_int, dflt_bool]; omega) | (simp <;> omega)) ?_
              refine acode_cond rfl (fun h91 => ?_) (fun h91 => ?_)
              · try simp only [decide_eq_true_eq] at h91
                try simp only [Int.toNat_natCast, dflt_int] at h91
                rw [kind_at hk hil] at h91
                refine acode_cut (fun (rc : Int) => rc = (if t.kind = 2 then t.recs + 1 else t.recs)) (fun (rc : Int) => [(5, .one (.sl rLne L)), (6, .one (.sl (.int .i64) k)), (8, .one (.vec 2)), (9, .one (.own 1 0)), (10, ii .i64 rc), (11, ii .i64 i)]) (fun (rc : Int) => [(1, .box 73 [.lit (.int .i64 t.kind), .lit (.string (t.raw ++ (L.getD i ((0 : Int), (0 : Int), ByteArray.empty, false)).2.2.1 ++ ⟨#[10]⟩)), .sl rFld t.flds]), (2, .vec 73 rItm t.out)]) 4 ?_ ?_
                · refine acode_seq ?_
                  refine acode_region ?_
                  refine acode_cond rfl (fun h94 => ?_) (fun h94 => ?_)
                  · try simp only [decide_eq_true_eq] at h94
                    try simp only [Int.toNat_natCast, dflt_sl, dflt_st, dflt_str, dflt_int, dflt_bool] at h94
                    refine acode_region ?_
                    refine And.intro (by first | omega | assumption | decide | (simp only [Int.toNat_natCast, dflt_sl, dflt_st, dflt_str, dflt_int, dflt_bool]; omega) | (simp <;> omega)) ?_
                    exact ⟨t.recs + 1, (by rw [if_pos h94]), le_of ⟨rfl, rfl, rfl, rfl, rfl, rfl⟩ ⟨rfl, rfl⟩ rfl⟩
                  · try simp only [decide_eq_false_iff_not] at h94
                    try simp only [Int.toNat_natCast, dflt_sl, dflt_st, dflt_str, dflt_int, dflt_bool] at h94
                    refine acode_skip ?_
                    exact ⟨t.recs, (by rw [if_neg h94]), le_of ⟨rfl, rfl, rfl, rfl, rfl, rfl⟩ ⟨rfl, rfl⟩ rfl⟩
                · intro rc hcut27
                  have hS : stepR t (L.getD i ((0 : Int), (0 : Int), ByteArray.empty, false)) (L.drop (i + 1)) = ⟨3, t.raw ++ (L.getD i ((0 : Int), (0 : Int), ByteArray.empty, false)).2.2.1 ++ ⟨#[10]⟩, t.flds ++ [fldOf (saidL (L.getD i ((0 : Int), (0 : Int), ByteArray.empty, false)) (L.drop (i + 1)))], t.out, rc⟩ := (by unfold stepR; rw [if_neg h58, if_pos h91, hcut27])
                  refine acode_seq ?_
                  refine acode_region ?_
                  refine acode_seq ?_
                  refine acode_region ?_
                  refine Or.inl ?_
                  refine And.intro (rfl) ?_
                  refine Exists.intro _ (And.intro (said_c L k hk i hil (by omega)) ?_)
                  refine Or.inl ?_
                  refine And.intro (rfl) ?_
                  refine Exists.intro _ (And.intro (unfold_any _ (hss i hil)) ?_)
                  refine acode_ord rfl ?_
                  refine aord_light 1 rfl rfl rfl (by kernel_rfl) ?_
                  refine aord_all [0, 2, 4] (by kernel_rfl) rfl ?_
                  refine And.intro ?_ ?_
                  · refine aord_all [2, 4] (by kernel_rfl) rfl ?_
                    refine And.intro ?_ ?_
                    · refine aord_all [3, 4] (by kernel_rfl) rfl ?_
                      refine And.intro ?_ ?_
                      · refine And.intro (by first | exact app_le (by first | omega | (simp only [List.length_nil]; omega) | (simp; omega)) (by decide) | omega | assumption | decide | (simp only [Int.toNat_natCast, dflt_sl, dflt_st, dflt_str, dflt_int, dflt_bool]; omega) | (simp <;> omega)) ?_
                        refine aord_all [4] (by kernel_rfl) rfl ?_
                        refine aord_all [5] (by kernel_rfl) rfl ?_
                        refine aord_all [6] (by kernel_rfl) rfl ?_
                        refine And.intro (by exact app_le (show t.flds.length + 1 ≤ 1000000000 by omega) (by decide)) ?_
                        refine aord_light 7 rfl rfl rfl (by kernel_rfl) ?_
                        refine aord_all [8] (by kernel_rfl) rfl ?_
                        refine aord_done (by kernel_rfl) ?_
                        refine acode_frz [5, 6] ?_
                        refine acode_region ?_
                        refine And.intro (by first | omega | assumption | decide | (simp only [Int.toNat_natCast, dflt_sl, dflt_st, dflt_str, dflt_int, dflt_bool]; omega) | (simp <;> omega)) ?_
                        exact ⟨(i + 1, stepR t (L.getD i ((0 : Int), (0 : Int), ByteArray.empty, false)) (L.drop (i + 1))), hN, by first | omega | (simp <;> omega), le_of ⟨rfl, rfl, rfl, rfl, ((by rw [hS]; try rfl)), (ii_eq (by simp only; omega))⟩ ⟨((by rw [hS]; try rfl)), ((by rw [hS]; try rfl))⟩ rfl⟩
                      · refine aord_all [3, 5] (by kernel_rfl) rfl ?_
                        refine And.intro ?_ ?_
                        · refine And.intro (by first | exact app_le (by first | omega | (simp only [List.length_nil]; omega) | (simp; omega)) (by decide) | omega | assumption | decide | (simp only [Int.toNat_natCast, dflt_sl, dflt_st, dflt_str, dflt_int, dflt_bool]; omega) | (simp <;> omega)) ?_
                          refine aord_all [5] (by kernel_rfl) rfl ?_
                          refine aord_all [6] (by kernel_rfl) rfl ?_
                          refine And.intro (by exact app_le (show t.flds.length + 1 ≤ 1000000000 by omega) (by decide)) ?_
                          refine aord_light 7 rfl rfl rfl (by kernel_rfl) ?_
                          refine aord_all [8] (by kernel_rfl) rfl ?_
                          refine aord_done (by kernel_rfl) ?_
                          refine acode_frz [5, 6] ?_
                          refine acode_region ?_
                          refine And.intro (by first | omega | assumption | decide | (simp only [Int.toNat_natCast, dflt_sl, dflt_st, dflt_str, dflt_int, dflt_bool]; omega) | (simp <;> omega)) ?_
                          exact ⟨(i + 1, stepR t (L.getD i ((0 : Int), (0 : Int), ByteArray.empty, false)) (L.drop (i + 1))), hN, by first | omega | (simp <;> omega), le_of ⟨rfl, rfl, rfl, rfl, ((by rw [hS]; try rfl)), (ii_eq (by simp only; omega))⟩ ⟨((by rw [hS]; try rfl)), ((by rw [hS]; try rfl))⟩ rfl⟩
                        · refine aord_all [3] (by kernel_rfl) rfl ?_
                          refine And.intro (by first | exact app_le (by first | omega | (simp only [List.length_nil]; omega) | (simp; omega)) (by decide) | omega | assumption | decide | (simp only [Int.toNat_natCast, dflt_sl, dflt_st, dflt_str, dflt_int, dflt_bool]; omega) | (simp <;> omega)) ?_
                          refine aord_all [6] (by kernel_rfl) rfl ?_
                          refine And.intro (by exact app_le (show t.flds.length + 1 ≤ 1000000000 by omega) (by decide)) ?_
                          refine aord_light 7 rfl rfl rfl (by kernel_rfl) ?_
                          refine aord_all [8] (by kernel_rfl) rfl ?_
                          refine aord_done (by kernel_rfl) ?_
                          refine acode_frz [5, 6] ?_
                          refine acode_region ?_
                          refine And.intro (by first | omega | assumption | decide | (simp only [Int.toNat_natCast, dflt_sl, dflt_st, dflt_str, dflt_int, dflt_bool]; omega) | (simp <;> omega)) ?_
                          exact ⟨(i + 1, stepR t (L.getD i ((0 : Int), (0 : Int), ByteArray.empty, false)) (L.drop (i + 1))), hN, by first | omega | (simp <;> omega), le_of ⟨rfl, rfl, rfl, rfl, ((by rw [hS]; try rfl)), (ii_eq (by simp only; omega))⟩ ⟨((by rw [hS]; try rfl)), ((by rw [hS]; try rfl))⟩ rfl⟩
                    · refine aord_all [2, 5] (by kernel_rfl) rfl ?_
                      refine And.intro ?_ ?_
                      · refine aord_all [3, 5] (by kernel_rfl) rfl ?_
                        refine And.intro ?_ ?_
                        · refine And.intro (by first | exact app_le (by first | omega | (simp only [List.length_nil]; omega) | (simp; omega)) (by decide) | omega | assumption | decide | (simp only [Int.toNat_natCast, dflt_sl, dflt_st, dflt_str, dflt_int, dflt_bool]; omega) | (simp <;> omega)) ?_
                          refine aord_all [5] (by kernel_rfl) rfl ?_
                          refine aord_all [6] (by kernel_rfl) rfl ?_
                          refine And.intro (by exact app_le (show t.flds.length + 1 ≤ 1000000000 by omega) (by decide)) ?_
                          refine aord_light 7 rfl rfl rfl (by kernel_rfl) ?_
                          refine aord_all [8] (by kernel_rfl) rfl ?_
                          refine aord_done (by kernel_rfl) ?_
                          refine acode_frz [5, 6] ?_
                          refine acode_region ?_
                          refine And.intro (by first | omega | assumption | decide | (simp only [Int.toNat_natCast, dflt_sl, dflt_st, dflt_str, dflt_int, dflt_bool]; omega) | (simp <;> omega)) ?_
                          exact ⟨(i + 1, stepR t (L.getD i ((0 : Int), (0 : Int), ByteArray.empty, false)) (L.drop (i + 1))), hN, by first | omega | (simp <;> omega), le_of ⟨rfl, rfl, rfl, rfl, ((by rw [hS]; try rfl)), (ii_eq (by simp only; omega))⟩ ⟨((by rw [hS]; try rfl)), ((by rw [hS]; try rfl))⟩ rfl⟩
                        · refine aord_all [3] (by kernel_rfl) rfl ?_
                          refine And.intro (by first | exact app_le (by first | omega | (simp only [List.length_nil]; omega) | (simp; omega)) (by decide) | omega | assumption | decide | (simp only [Int.toNat_natCast, dflt_sl, dflt_st, dflt_str, dflt_int, dflt_bool]; omega) | (simp <;> omega)) ?_
                          refine aord_all [6] (by kernel_rfl) rfl ?_
                          refine And.intro (by exact app_le (show t.flds.length + 1 ≤ 1000000000 by omega) (by decide)) ?_
                          refine aord_light 7 rfl rfl rfl (by kernel_rfl) ?_
                          refine aord_all [8] (by kernel_rfl) rfl ?_
                          refine aord_done (by kernel_rfl) ?_
                          refine acode_frz [5, 6] ?_
                          refine acode_region ?_
                          refine And.intro (by first | omega | assumption | decide | (simp only [Int.toNat_natCast, dflt_sl, dflt_st, dflt_str, dflt_int, dflt_bool]; omega) | (simp <;> omega)) ?_
                          exact ⟨(i + 1, stepR t (L.getD i ((0 : Int), (0 : Int), ByteArray.empty, false)) (L.drop (i + 1))), hN, by first | omega | (simp <;> omega), le_of ⟨rfl, rfl, rfl, rfl, ((by rw [hS]; try rfl)), (ii_eq (by simp only; omega))⟩ ⟨((by rw [hS]; try rfl)), ((by rw [hS]; try rfl))⟩ rfl⟩
                      · refine aord_all [2] (by kernel_rfl) rfl ?_
                        refine aord_all [3] (by kernel_rfl) rfl ?_
                        refine And.intro (by first | exact app_le (by first | omega | (simp only [List.length_nil]; omega) | (simp; omega)) (by decide) | omega | assumption | decide | (simp only [Int.toNat_natCast, dflt_sl, dflt_st, dflt_str, dflt_int, dflt_bool]; omega) | (simp <;> omega)) ?_
                        refine aord_all [6] (by kernel_rfl) rfl ?_
                        refine And.intro (by exact app_le (show t.flds.length + 1 ≤ 1000000000 by omega) (by decide)) ?_
                        refine aord_light 7 rfl rfl rfl (by kernel_rfl) ?_
                        refine aord_all [8] (by kernel_rfl) rfl ?_
                        refine aord_done (by kernel_rfl) ?_
                        refine acode_frz [5, 6] ?_
                        refine acode_region ?_
                        refine And.intro (by first | omega | assumption | decide | (simp only [Int.toNat_natCast, dflt_sl, dflt_st, dflt_str, dflt_int, dflt_bool]; omega) | (simp <;> omega)) ?_
                        exact ⟨(i + 1, stepR t (L.getD i ((0 : Int), (0 : Int), ByteArray.empty, false)) (L.drop (i + 1))), hN, by first | omega | (simp <;> omega), le_of ⟨rfl, rfl, rfl, rfl, ((by rw [hS]; try rfl)), (ii_eq (by simp only; omega))⟩ ⟨((by rw [hS]; try rfl)), ((by rw [hS]; try rfl))⟩ rfl⟩
                  refine And.intro ?_ ?_
                  · refine aord_all [0, 4] (by kernel_rfl) rfl ?_
                    refine And.intro ?_ ?_
                    · refine aord_all [3, 4] (by kernel_rfl) rfl ?_
                      refine And.intro ?_ ?_
                      · refine And.intro (by first | exact app_le (by first | omega | (simp only [List.length_nil]; omega) | (simp; omega)) (by decide) | omega | assumption | decide | (simp only [Int.toNat_natCast, dflt_sl, dflt_st, dflt_str, dflt_int, dflt_bool]; omega) | (simp <;> omega)) ?_
                        refine aord_all [4] (by kernel_rfl) rfl ?_
                        refine aord_all [5] (by kernel_rfl) rfl ?_
                        refine aord_all [6] (by kernel_rfl) rfl ?_
                        refine And.intro (by exact app_le (show t.flds.length + 1 ≤ 1000000000 by omega) (by decide)) ?_
                        refine aord_light 7 rfl rfl rfl (by kernel_rfl) ?_
                        refine aord_all [8] (by kernel_rfl) rfl ?_
                        refine aord_done (by kernel_rfl) ?_
                        refine acode_frz [5, 6] ?_
                        refine acode_region ?_
                        refine And.intro (by first | omega | assumption | decide | (simp only [Int.toNat_natCast, dflt_sl, dflt_st, dflt_str, dflt_int, dflt_bool]; omega) | (simp <;> omega)) ?_
                        exact ⟨(i + 1, stepR t (L.getD i ((0 : Int), (0 : Int), ByteArray.empty, false)) (L.drop (i + 1))), hN, by first | omega | (simp <;> omega), le_of ⟨rfl, rfl, rfl, rfl, ((by rw [hS]; try rfl)), (ii_eq (by simp only; omega))⟩ ⟨((by rw [hS]; try rfl)), ((by rw [hS]; try rfl))⟩ rfl⟩
                      · refine aord_all [3, 5] (by kernel_rfl) rfl ?_
                        refine And.intro ?_ ?_
                        · refine And.intro (by first | exact app_le (by first | omega | (simp only [List.length_nil]; omega) | (simp; omega)) (by decide) | omega | assumption | decide | (simp only [Int.toNat_natCast, dflt_sl, dflt_st, dflt_str, dflt_int, dflt_bool]; omega) | (simp <;> omega)) ?_
                          refine aord_all [5] (by kernel_rfl) rfl ?_
                          refine aord_all [6] (by kernel_rfl) rfl ?_
                          refine And.intro (by exact app_le (show t.flds.length + 1 ≤ 1000000000 by omega) (by decide)) ?_
                          refine aord_light 7 rfl rfl rfl (by kernel_rfl) ?_
                          refine aord_all [8] (by kernel_rfl) rfl ?_
                          refine aord_done (by kernel_rfl) ?_
                          refine acode_frz [5, 6] ?_
                          refine acode_region ?_
                          refine And.intro (by first | omega | assumption | decide | (simp only [Int.toNat_natCast, dflt_sl, dflt_st, dflt_str, dflt_int, dflt_bool]; omega) | (simp <;> omega)) ?_
                          exact ⟨(i + 1, stepR t (L.getD i ((0 : Int), (0 : Int), ByteArray.empty, false)) (L.drop (i + 1))), hN, by first | omega | (simp <;> omega), le_of ⟨rfl, rfl, rfl, rfl, ((by rw [hS]; try rfl)), (ii_eq (by simp only; omega))⟩ ⟨((by rw [hS]; try rfl)), ((by rw [hS]; try rfl))⟩ rfl⟩
                        · refine aord_all [3] (by kernel_rfl) rfl ?_
                          refine And.intro (by first | exact app_le (by first | omega | (simp only [List.length_nil]; omega) | (simp; omega)) (by decide) | omega | assumption | decide | (simp only [Int.toNat_natCast, dflt_sl, dflt_st, dflt_str, dflt_int, dflt_bool]; omega) | (simp <;> omega)) ?_
                          refine aord_all [6] (by kernel_rfl) rfl ?_
                          refine And.intro (by exact app_le (show t.flds.length + 1 ≤ 1000000000 by omega) (by decide)) ?_
                          refine aord_light 7 rfl rfl rfl (by kernel_rfl) ?_
                          refine aord_all [8] (by kernel_rfl) rfl ?_
                          refine aord_done (by kernel_rfl) ?_
                          refine acode_frz [5, 6] ?_
                          refine acode_region ?_
                          refine And.intro (by first | omega | assumption | decide | (simp only [Int.toNat_natCast, dflt_sl, dflt_st, dflt_str, dflt_int, dflt_bool]; omega) | (simp <;> omega)) ?_
                          exact ⟨(i + 1, stepR t (L.getD i ((0 : Int), (0 : Int), ByteArray.empty, false)) (L.drop (i + 1))), hN, by first | omega | (simp <;> omega), le_of ⟨rfl, rfl, rfl, rfl, ((by rw [hS]; try rfl)), (ii_eq (by simp only; omega))⟩ ⟨((by rw [hS]; try rfl)), ((by rw [hS]; try rfl))⟩ rfl⟩
                    · refine aord_all [0, 5] (by kernel_rfl) rfl ?_
                      refine And.intro ?_ ?_
                      · refine aord_all [3, 5] (by kernel_rfl) rfl ?_
                        refine And.intro ?_ ?_
                        · refine And.intro (by first | exact app_le (by first | omega | (simp only [List.length_nil]; omega) | (simp; omega)) (by decide) | omega | assumption | decide | (simp only [Int.toNat_natCast, dflt_sl, dflt_st, dflt_str, dflt_int, dflt_bool]; omega) | (simp <;> omega)) ?_
                          refine aord_all [5] (by kernel_rfl) rfl ?_
                          refine aord_all [6] (by kernel_rfl) rfl ?_
                          refine And.intro (by exact app_le (show t.flds.length + 1 ≤ 1000000000 by omega) (by decide)) ?_
                          refine aord_light 7 rfl rfl rfl (by kernel_rfl) ?_
                          refine aord_all [8] (by kernel_rfl) rfl ?_
                          refine aord_done (by kernel_rfl) ?_
                          refine acode_frz [5, 6] ?_
                          refine acode_region ?_
                          refine And.intro (by first | omega | assumption | decide | (simp only [Int.toNat_natCast, dflt_sl, dflt_st, dflt_str, dflt_int, dflt_bool]; omega) | (simp <;> omega)) ?_
                          exact ⟨(i + 1, stepR t (L.getD i ((0 : Int), (0 : Int), ByteArray.empty, false)) (L.drop (i + 1))), hN, by first | omega | (simp <;> omega), le_of ⟨rfl, rfl, rfl, rfl, ((by rw [hS]; try rfl)), (ii_eq (by simp only; omega))⟩ ⟨((by rw [hS]; try rfl)), ((by rw [hS]; try rfl))⟩ rfl⟩
                        · refine aord_all [3] (by kernel_rfl) rfl ?_
                          refine And.intro (by first | exact app_le (by first | omega | (simp only [List.length_nil]; omega) | (simp; omega)) (by decide) | omega | assumption | decide | (simp only [Int.toNat_natCast, dflt_sl, dflt_st, dflt_str, dflt_int, dflt_bool]; omega) | (simp <;> omega)) ?_
                          refine aord_all [6] (by kernel_rfl) rfl ?_
                          refine And.intro (by exact app_le (show t.flds.length + 1 ≤ 1000000000 by omega) (by decide)) ?_
                          refine aord_light 7 rfl rfl rfl (by kernel_rfl) ?_
                          refine aord_all [8] (by kernel_rfl) rfl ?_
                          refine aord_done (by kernel_rfl) ?_
                          refine acode_frz [5, 6] ?_
                          refine acode_region ?_
                          refine And.intro (by first | omega | assumption | decide | (simp only [Int.toNat_natCast, dflt_sl, dflt_st, dflt_str, dflt_int, dflt_bool]; omega) | (simp <;> omega)) ?_
                          exact ⟨(i + 1, stepR t (L.getD i ((0 : Int), (0 : Int), ByteArray.empty, false)) (L.drop (i + 1))), hN, by first | omega | (simp <;> omega), le_of ⟨rfl, rfl, rfl, rfl, ((by rw [hS]; try rfl)), (ii_eq (by simp only; omega))⟩ ⟨((by rw [hS]; try rfl)), ((by rw [hS]; try rfl))⟩ rfl⟩
                      · refine aord_all [0] (by kernel_rfl) rfl ?_
                        refine aord_all [3] (by kernel_rfl) rfl ?_
                        refine And.intro (by first | exact app_le (by first | omega | (simp only [List.length_nil]; omega) | (simp; omega)) (by decide) | omega | assumption | decide | (simp only [Int.toNat_natCast, dflt_sl, dflt_st, dflt_str, dflt_int, dflt_bool]; omega) | (simp <;> omega)) ?_
                        refine aord_all [6] (by kernel_rfl) rfl ?_
                        refine And.intro (by exact app_le (show t.flds.length + 1 ≤ 1000000000 by omega) (by decide)) ?_
                        refine aord_light 7 rfl rfl rfl (by kernel_rfl) ?_
                        refine aord_all [8] (by kernel_rfl) rfl ?_
                        refine aord_done (by kernel_rfl) ?_
                        refine acode_frz [5, 6] ?_
                        refine acode_region ?_
                        refine And.intro (by first | omega | assumption | decide | (simp only [Int.toNat_natCast, dflt_sl, dflt_st, dflt_str, dflt_int, dflt_bool]; omega) | (simp <;> omega)) ?_
                        exact ⟨(i + 1, stepR t (L.getD i ((0 : Int), (0 : Int), ByteArray.empty, false)) (L.drop (i + 1))), hN, by first | omega | (simp <;> omega), le_of ⟨rfl, rfl, rfl, rfl, ((by rw [hS]; try rfl)), (ii_eq (by simp only; omega))⟩ ⟨((by rw [hS]; try rfl)), ((by rw [hS]; try rfl))⟩ rfl⟩
                  · refine aord_all [0, 2, 5] (by kernel_rfl) rfl ?_
                    refine And.intro ?_ ?_
                    · refine aord_all [2, 5] (by kernel_rfl) rfl ?_
                      refine And.intro ?_ ?_
                      · refine aord_all [3, 5] (by kernel_rfl) rfl ?_
                        refine And.intro ?_ ?_
                        · refine And.intro (by first | exact app_le (by first | omega | (simp only [List.length_nil]; omega) | (simp; omega)) (by decide) | omega | assumption | decide | (simp only [Int.toNat_natCast, dflt_sl, dflt_st, dflt_str, dflt_int, dflt_bool]; omega) | (simp <;> omega)) ?_
                          refine aord_all [5] (by kernel_rfl) rfl ?_
                          refine aord_all [6] (by kernel_rfl) rfl ?_
                          refine And.intro (by exact app_le (show t.flds.length + 1 ≤ 1000000000 by omega) (by decide)) ?_
                          refine aord_light 7 rfl rfl rfl (by kernel_rfl) ?_
                          refine aord_all [8] (by kernel_rfl) rfl ?_
                          refine aord_done (by kernel_rfl) ?_
                          refine acode_frz [5, 6] ?_
                          refine acode_region ?_
                          refine And.intro (by first | omega | assumption | decide | (simp only [Int.toNat_natCast, dflt_sl, dflt_st, dflt_str, dflt_int, dflt_bool]; omega) | (simp <;> omega)) ?_
                          exact ⟨(i + 1, stepR t (L.getD i ((0 : Int), (0 : Int), ByteArray.empty, false)) (L.drop (i + 1))), hN, by first | omega | (simp <;> omega), le_of ⟨rfl, rfl, rfl, rfl, ((by rw [hS]; try rfl)), (ii_eq (by simp only; omega))⟩ ⟨((by rw [hS]; try rfl)), ((by rw [hS]; try rfl))⟩ rfl⟩
                        · refine aord_all [3] (by kernel_rfl) rfl ?_
                          refine And.intro (by first | exact app_le (by first | omega | (simp only [List.length_nil]; omega) | (simp; omega)) (by decide) | omega | assumption | decide | (simp only [Int.toNat_natCast, dflt_sl, dflt_st, dflt_str, dflt_int, dflt_bool]; omega) | (simp <;> omega)) ?_
                          refine aord_all [6] (by kernel_rfl) rfl ?_
                          refine And.intro (by exact app_le (show t.flds.length + 1 ≤ 1000000000 by omega) (by decide)) ?_
                          refine aord_light 7 rfl rfl rfl (by kernel_rfl) ?_
                          refine aord_all [8] (by kernel_rfl) rfl ?_
                          refine aord_done (by kernel_rfl) ?_
                          refine acode_frz [5, 6] ?_
                          refine acode_region ?_
                          refine And.intro (by first | omega | assumption | decide | (simp only [Int.toNat_natCast, dflt_sl, dflt_st, dflt_str, dflt_int, dflt_bool]; omega) | (simp <;> omega)) ?_
                          exact ⟨(i + 1, stepR t (L.getD i ((0 : Int), (0 : Int), ByteArray.empty, false)) (L.drop (i + 1))), hN, by first | omega | (simp <;> omega), le_of ⟨rfl, rfl, rfl, rfl, ((by rw [hS]; try rfl)), (ii_eq (by simp only; omega))⟩ ⟨((by rw [hS]; try rfl)), ((by rw [hS]; try rfl))⟩ rfl⟩
                      · refine aord_all [2] (by kernel_rfl) rfl ?_
                        refine aord_all [3] (by kernel_rfl) rfl ?_
                        refine And.intro (by first | exact app_le (by first | omega | (simp only [List.length_nil]; omega) | (simp; omega)) (by decide) | omega | assumption | decide | (simp only [Int.toNat_natCast, dflt_sl, dflt_st, dflt_str, dflt_int, dflt_bool]; omega) | (simp <;> omega)) ?_
                        refine aord_all [6] (by kernel_rfl) rfl ?_
                        refine And.intro (by exact app_le (show t.flds.length + 1 ≤ 1000000000 by omega) (by decide)) ?_
                        refine aord_light 7 rfl rfl rfl (by kernel_rfl) ?_
                        refine aord_all [8] (by kernel_rfl) rfl ?_
                        refine aord_done (by kernel_rfl) ?_
                        refine acode_frz [5, 6] ?_
                        refine acode_region ?_
                        refine And.intro (by first | omega | assumption | decide | (simp only [Int.toNat_natCast, dflt_sl, dflt_st, dflt_str, dflt_int, dflt_bool]; omega) | (simp <;> omega)) ?_
                        exact ⟨(i + 1, stepR t (L.getD i ((0 : Int), (0 : Int), ByteArray.empty, false)) (L.drop (i + 1))), hN, by first | omega | (simp <;> omega), le_of ⟨rfl, rfl, rfl, rfl, ((by rw [hS]; try rfl)), (ii_eq (by simp only; omega))⟩ ⟨((by rw [hS]; try rfl)), ((by rw [hS]; try rfl))⟩ rfl⟩
                    refine And.intro ?_ ?_
                    · refine aord_all [0, 5] (by kernel_rfl) rfl ?_
                      refine And.intro ?_ ?_
                      · refine aord_all [3, 5] (by kernel_rfl) rfl ?_
                        refine And.intro ?_ ?_
                        · refine And.intro (by first | exact app_le (by first | omega | (simp only [List.length_nil]; omega) | (simp; omega)) (by decide) | omega | assumption | decide | (simp only [Int.toNat_natCast, dflt_sl, dflt_st, dflt_str, dflt_int, dflt_bool]; omega) | (simp <;> omega)) ?_
                          refine aord_all [5] (by kernel_rfl) rfl ?_
                          refine aord_all [6] (by kernel_rfl) rfl ?_
                          refine And.intro (by exact app_le (show t.flds.length + 1 ≤ 1000000000 by omega) (by decide)) ?_
                          refine aord_light 7 rfl rfl rfl (by kernel_rfl) ?_
                          refine aord_all [8] (by kernel_rfl) rfl ?_
                          refine aord_done (by kernel_rfl) ?_
                          refine acode_frz [5, 6] ?_
                          refine acode_region ?_
                          refine And.intro (by first | omega | assumption | decide | (simp only [Int.toNat_natCast, dflt_sl, dflt_st, dflt_str, dflt_int, dflt_bool]; omega) | (simp <;> omega)) ?_
                          exact ⟨(i + 1, stepR t (L.getD i ((0 : Int), (0 : Int), ByteArray.empty, false)) (L.drop (i + 1))), hN, by first | omega | (simp <;> omega), le_of ⟨rfl, rfl, rfl, rfl, ((by rw [hS]; try rfl)), (ii_eq (by simp only; omega))⟩ ⟨((by rw [hS]; try rfl)), ((by rw [hS]; try rfl))⟩ rfl⟩
                        · refine aord_all [3] (by kernel_rfl) rfl ?_
                          refine And.intro (by first | exact app_le (by first | omega | (simp only [List.length_nil]; omega) | (simp; omega)) (by decide) | omega | assumption | decide | (simp only [Int.toNat_natCast, dflt_sl, dflt_st, dflt_str, dflt_int, dflt_bool]; omega) | (simp <;> omega)) ?_
                          refine aord_all [6] (by kernel_rfl) rfl ?_
                          refine And.intro (by exact app_le (show t.flds.length + 1 ≤ 1000000000 by omega) (by decide)) ?_
                          refine aord_light 7 rfl rfl rfl (by kernel_rfl) ?_
                          refine aord_all [8] (by kernel_rfl) rfl ?_
                          refine aord_done (by kernel_rfl) ?_
                          refine acode_frz [5, 6] ?_
                          refine acode_region ?_
                          refine And.intro (by first | omega | assumption | decide | (simp only [Int.toNat_natCast, dflt_sl, dflt_st, dflt_str, dflt_int, dflt_bool]; omega) | (simp <;> omega)) ?_
                          exact ⟨(i + 1, stepR t (L.getD i ((0 : Int), (0 : Int), ByteArray.empty, false)) (L.drop (i + 1))), hN, by first | omega | (simp <;> omega), le_of ⟨rfl, rfl, rfl, rfl, ((by rw [hS]; try rfl)), (ii_eq (by simp only; omega))⟩ ⟨((by rw [hS]; try rfl)), ((by rw [hS]; try rfl))⟩ rfl⟩
                      · refine aord_all [0] (by kernel_rfl) rfl ?_
                        refine aord_all [3] (by kernel_rfl) rfl ?_
                        refine And.intro (by first | exact app_le (by first | omega | (simp only [List.length_nil]; omega) | (simp; omega)) (by decide) | omega | assumption | decide | (simp only [Int.toNat_natCast, dflt_sl, dflt_st, dflt_str, dflt_int, dflt_bool]; omega) | (simp <;> omega)) ?_
                        refine aord_all [6] (by kernel_rfl) rfl ?_
                        refine And.intro (by exact app_le (show t.flds.length + 1 ≤ 1000000000 by omega) (by decide)) ?_
                        refine aord_light 7 rfl rfl rfl (by kernel_rfl) ?_
                        refine aord_all [8] (by kernel_rfl) rfl ?_
                        refine aord_done (by kernel_rfl) ?_
                        refine acode_frz [5, 6] ?_
                        refine acode_region ?_
                        refine And.intro (by first | omega | assumption | decide | (simp only [Int.toNat_natCast, dflt_sl, dflt_st, dflt_str, dflt_int, dflt_bool]; omega) | (simp <;> omega)) ?_
                        exact ⟨(i + 1, stepR t (L.getD i ((0 : Int), (0 : Int), ByteArray.empty, false)) (L.drop (i + 1))), hN, by first | omega | (simp <;> omega), le_of ⟨rfl, rfl, rfl, rfl, ((by rw [hS]; try rfl)), (ii_eq (by simp only; omega))⟩ ⟨((by rw [hS]; try rfl)), ((by rw [hS]; try rfl))⟩ rfl⟩
                    · refine aord_all [0, 2] (by kernel_rfl) rfl ?_
                      refine And.intro ?_ ?_
                      · refine aord_all [2] (by kernel_rfl) rfl ?_
                        refine aord_all [3] (by kernel_rfl) rfl ?_
                        refine And.intro (by first | exact app_le (by first | omega | (simp only [List.length_nil]; omega) | (simp; omega)) (by decide) | omega | assumption | decide | (simp only [Int.toNat_natCast, dflt_sl, dflt_st, dflt_str, dflt_int, dflt_bool]; omega) | (simp <;> omega)) ?_
                        refine aord_all [6] (by kernel_rfl) rfl ?_
                        refine And.intro (by exact app_le (show t.flds.length + 1 ≤ 1000000000 by omega) (by decide)) ?_
                        refine aord_light 7 rfl rfl rfl (by kernel_rfl) ?_
                        refine aord_all [8] (by kernel_rfl) rfl ?_
                        refine aord_done (by kernel_rfl) ?_
                        refine acode_frz [5, 6] ?_
                        refine acode_region ?_
                        refine And.intro (by first | omega | assumption | decide | (simp only [Int.toNat_natCast, dflt_sl, dflt_st, dflt_str, dflt_int, dflt_bool]; omega) | (simp <;> omega)) ?_
                        exact ⟨(i + 1, stepR t (L.getD i ((0 : Int), (0 : Int), ByteArray.empty, false)) (L.drop (i + 1))), hN, by first | omega | (simp <;> omega), le_of ⟨rfl, rfl, rfl, rfl, ((by rw [hS]; try rfl)), (ii_eq (by simp only; omega))⟩ ⟨((by rw [hS]; try rfl)), ((by rw [hS]; try rfl))⟩ rfl⟩
                      · refine aord_all [0] (by kernel_rfl) rfl ?_
                        refine aord_all [3] (by kernel_rfl) rfl ?_
                        refine And.intro (by first | exact app_le (by first | omega | (simp only [List.length_nil]; omega) | (simp; omega)) (by decide) | omega | assumption | decide | (simp only [Int.toNat_natCast, dflt_sl, dflt_st, dflt_str, dflt_int, dflt_bool]; omega) | (simp <;> omega)) ?_
                        refine aord_all [6] (by kernel_rfl) rfl ?_
                        refine And.intro (by exact app_le (show t.flds.length + 1 ≤ 1000000000 by omega) (by decide)) ?_
                        refine aord_light 7 rfl rfl rfl (by kernel_rfl) ?_
                        refine aord_all [8] (by kernel_rfl) rfl ?_
                        refine aord_done (by kernel_rfl) ?_
                        refine acode_frz [5, 6] ?_
                        refine acode_region ?_
                        refine And.intro (by first | omega | assumption | decide | (simp only [Int.toNat_natCast, dflt_sl, dflt_st, dflt_str, dflt_int, dflt_bool]; omega) | (simp <;> omega)) ?_
                        exact ⟨(i + 1, stepR t (L.getD i ((0 : Int), (0 : Int), ByteArray.empty, false)) (L.drop (i + 1))), hN, by first | omega | (simp <;> omega), le_of ⟨rfl, rfl, rfl, rfl, ((by rw [hS]; try rfl)), (ii_eq (by simp only; omega))⟩ ⟨((by rw [hS]; try rfl)), ((by rw [hS]; try rfl))⟩ rfl⟩
              · try simp only [decide_eq_false_iff_not] at h91
                try simp only [Int.toNat_natCast, dflt_int] at h91
                rw [kind_at hk hil] at h91
                have hS : stepR t (L.getD i ((0 : Int), (0 : Int), ByteArray.empty, false)) (L.drop (i + 1)) = { t with raw := t.raw ++ (L.getD i ((0 : Int), (0 : Int), ByteArray.empty, false)).2.2.1 ++ ⟨#[10]⟩ } := (by unfold stepR; rw [if_neg h58, if_neg h91])
                refine acode_skip ?_
                refine acode_region ?_
                refine And.intro (by first | omega | assumption | decide | (simp only [Int.toNat_natCast, dflt_sl, dflt_st, dflt_str, dflt_int, dflt_bool]; omega) | (simp <;> omega)) ?_
                exact ⟨(i + 1, stepR t (L.getD i ((0 : Int), (0 : Int), ByteArray.empty, false)) (L.drop (i + 1))), hN, by first | omega | (simp <;> omega), le_of ⟨rfl, rfl, rfl, rfl, ((by rw [hS]; try rfl)), (ii_eq (by simp only; omega))⟩ ⟨((by rw [hS]; try rfl)), ((by rw [hS]; try rfl))⟩ rfl⟩
      · try simp only [decide_eq_false_iff_not, Int.not_lt] at h39
        try simp only [Int.toNat_natCast, dflt_sl, dflt_st, dflt_str, dflt_int, dflt_bool] at h39
        refine acode_exit ?_
        have hd : L.drop i = [] := List.drop_eq_nil_of_le (by omega)
        have hE := hI.eq
        rw [hd] at hE
        refine acode_seq ?_
        refine acode_seq ?_
        refine acode_region ?_
        refine acode_cond rfl (fun h116 => ?_) (fun h116 => ?_)
        · try simp only [decide_eq_false_iff_not, Bool.not_eq_true'] at h116
          try simp only [Int.toNat_natCast, dflt_sl, dflt_st, dflt_str, dflt_int, dflt_bool] at h116
          refine acode_region ?_
          refine And.intro (by first | exact app_le (by first | omega | (simp only [List.length_cons, List.length_nil]; omega) | (simp; omega)) (by decide) | omega | assumption | decide | (simp only [Int.toNat_natCast, dflt_sl, dflt_st, dflt_str, dflt_int, dflt_bool]; omega) | (simp <;> omega)) ?_
          refine acode_seq ?_
          refine acode_region ?_
          refine acode_ret ?_
          rw [hE]
          unfold runR
          rw [if_neg (show ¬ t.raw = ByteArray.empty from h116)]
          rfl
        · try simp only [decide_eq_true_eq, Bool.not_eq_false'] at h116
          try simp only [Int.toNat_natCast, dflt_sl, dflt_st, dflt_str, dflt_int, dflt_bool] at h116
          refine acode_skip ?_
          refine acode_seq ?_
          refine acode_region ?_
          refine acode_ret ?_
          rw [hE]
          unfold runR
          rw [if_pos (show t.raw = ByteArray.empty from h116)]
          rfl
end Q
end Ab
end Go.Proofs.YtklhlkhlndhepaaGreatDoor
namespace Go.Proofs.YtklhlkhlndhepaaGreatDoor
open Go.RowKit
namespace Ab
set_option maxRecDepth 100000
namespace Q
abbrev rRow : Rd (List Fld) := .sl rFld
def recsL (l : List Itm) : List (List Fld) := (l.filter fun x => decide (x.1 = 3)).map (·.2.2)
def contP (p : PSt) : List UInt8 := rawsL p.its ++ endL (p.blk.map ls)
theorem runR_ne : ∀ (L : List Lne) (t : RSt) (bh : Bool) (e : Int × Int), runR bh t L = .inl e → e.2 ≠ 0
  | [], t, bh, e, h => by unfold runR at h; cases h
  | l :: r, t, bh, e, h => by
    unfold runR at h
    split at h
    · rename_i hw; cases h; exact hw
    · exact runR_ne r _ _ e h
theorem items_flds {s : ByteArray} {l : List Itm} (hs : s.size ≤ 60000) (hp : parseS s = .inr l) : l.length ≤ 1000000 ∧ ∀ x ∈ l, x.2.2.length ≤ 1000000 := by
  have h0 := parse_ref s
  rw [hp] at h0
  obtain ⟨h1, _⟩ := linesT_len s
  have key : ∀ (L : List Lne) (t : RSt) (bh : Bool) (l : List Itm), runR bh t L = .inr l → l.length ≤ t.out.length + 1 + 2 * L.length ∧ ∀ (B : Nat), t.flds.length + L.length ≤ B → (∀ x ∈ t.out, x.2.2.length ≤ B) → ∀ x ∈ l, x.2.2.length ≤ B := by
    intro L
    induction L with
    | nil =>
      intro t bh l h
      unfold runR at h
      cases h
      refine ⟨by split <;> simp, fun B hB ho x hx => ?_⟩
      split at hx
      · exact ho x hx
      · rcases List.mem_append.1 hx with hx | hx
        · exact ho x hx
        · rw [List.mem_singleton.1 hx]; simpa using hB
    | cons a r ih =>
      intro t bh l h
      unfold runR at h
      split at h
      · cases h
      · obtain ⟨i1, i2⟩ := ih _ _ _ h
        have so : (stepR t a r).out.length ≤ t.out.length + 2 := by
          unfold stepR
          split
          · simp only; split <;> simp
          · split <;> simp
        have sf : (stepR t a r).flds.length ≤ t.flds.length + 1 := by
          unfold stepR
          split
          · simp
          · split <;> simp
        refine ⟨by rw [List.length_cons]; omega, fun B hB ho => i2 B (by rw [List.length_cons] at hB; omega) (fun x hx => ?_)⟩
        have hB2 : t.flds.length ≤ B := by omega
        unfold stepR at hx
        split at hx
        · simp only at hx
          rcases List.mem_append.1 hx with hx | hx
          · split at hx
            · exact ho x hx
            · rcases List.mem_append.1 hx with hx | hx
              · exact ho x hx
              · rw [List.mem_singleton.1 hx]; exact hB2
          · rw [List.mem_singleton.1 hx]; exact Nat.zero_le _
        · split at hx
          · exact ho x hx
          · exact ho x hx
  obtain ⟨k1, k2⟩ := key _ _ _ _ h0.symm
  refine ⟨by simp only [rst0, List.length_nil] at k1; omega, k2 1000000 (by simp only [rst0, List.length_nil]; omega) (fun x hx => by cases hx)⟩
end Q
end Ab
end Go.Proofs.YtklhlkhlndhepaaGreatDoor
namespace Go.Proofs.YtklhlkhlndhepaaGreatDoor
open Go.RowKit
namespace Ab
set_option maxRecDepth 100000
namespace Q
/-- Items put apart: behind an item of this kind (1: a blank one, or none). -/
def apartK (k : Int) : List Itm → List Itm
  | [] => []
  | x :: r => if k ≠ 1 ∧ x.1 ≠ 1 then (1, ⟨#[10]⟩, []) :: x :: apartK x.1 r else x :: apartK x.1 r
def apartL (l : List Itm) : List Itm := apartK 1 l
/-- No two neighbours that aren't blank, behind an item of this kind; the last one's kind. -/
def altK (k : Int) : List Itm → Prop
  | [] => True
  | x :: r => (k = 1 ∨ x.1 = 1) ∧ altK x.1 r
def lastK (k : Int) : List Itm → Int
  | [] => k
  | x :: r => lastK x.1 r
def AltP (p : PSt) : Prop := altK 1 p.its ∧ lastK 1 p.its = 1
end Q
end Ab
end Go.Proofs.YtklhlkhlndhepaaGreatDoor
namespace Go.Proofs.YtklhlkhlndhepaaGreatDoor
open Go.RowKit
namespace Ab
set_option maxRecDepth 100000
namespace Q
/-- Two parsers that do alike, the other way about: the first one goes on where there is room. -/
structure Fwd (I : List Itm) (c : Int) (p q : PSt) : Prop where
  lns : p.lns = q.lns
  full : q.lns ≠ [] → q.full = false → p.full = false
  its : p.its = I ++ q.its
  blk : p.blk = q.blk
  flds : p.flds = q.flds
  recs : p.recs = q.recs + c
  c0 : 0 ≤ c
section
variable {I : List Itm} {c : Int} {p q q1 : PSt}
end
/-- A block: lines that are parsed to just this item. -/
def Blk (x : Itm) : Prop := ∃ (L : List Lne) (q qe : PSt), (∀ l ∈ L, l.2.2.2 = true ∧ (10 : UInt8) ∉ ls l.2.2.1) ∧ runS pst0 L = .inr q ∧ q.its = [] ∧ q.recs = 0 ∧ endS q = .inr qe ∧ qe.its = [x] ∧ glue (L.map (·.2.2)) = ls x.2.1
/-- How far the blocks are known: those that are put down, and the one that is under way. -/
def Par (p : PSt) : Prop := ∃ (I : List Itm) (c : Int) (L : List Lne) (q : PSt), Rel I c p q ∧ runS pst0 L = .inr q ∧ q.its = [] ∧ q.recs = 0 ∧ (∀ l ∈ L, l.2.2.2 = true ∧ (10 : UInt8) ∉ ls l.2.2.1) ∧ ∀ x ∈ I, x.1 ≠ 1 → Blk x
theorem filter_at {α : Type} (p : α → Bool) (d : α) : ∀ (l : List α) (j : Nat), j < l.length → p (l.getD j d) = true → ((l.take j).filter p).length < (l.filter p).length ∧ (l.filter p).getD ((l.take j).filter p).length d = l.getD j d
  | [], j, h, _ => by simp at h
  | x :: r, 0, h, hp => by
    have hp : p x = true := by simpa using hp
    simp [hp]
  | x :: r, j + 1, h, hp => by
    obtain ⟨h1, h2⟩ := filter_at p d r j (by simpa using h) (by simpa using hp)
    rw [List.take_succ_cons, List.filter_cons, List.filter_cons]
    by_cases hx : p x = true
    · simp only [hx, if_true, List.length_cons, List.getD_cons_succ]
      exact ⟨by omega, h2⟩
    · simp only [hx, List.getD_cons_succ]
      exact ⟨h1, h2⟩
def mix1 (l : List Itm) (k : Nat) : List Itm := if k < l.length ∧ (l.getD k ((0 : Int), ByteArray.empty, ([] : List Fld))).1 ≠ 1 then [l.getD k ((0 : Int), ByteArray.empty, ([] : List Fld))] else []
def mixL (turn : Bool) (l m : List Itm) (i : Nat) : List Itm := (List.range i).flatMap fun k => mix1 l k ++ if turn then mix1 m k else []
end Q
end Ab
end Go.Proofs.YtklhlkhlndhepaaGreatDoor
namespace Go.Proofs.YtklhlkhlndhepaaGreatDoor
open Go.RowKit
namespace Ab
set_option maxRecDepth 100000
namespace Q
abbrev Ent := Itm × Int
abbrev rEnt : Rd Ent := .st rItm (.int .i64)
abbrev Lst := List Ent × Int × Int
abbrev rLst (k : Nat) : Rd Lst := .st (.slk k rEnt) (.st (.int .i64) (.int .i64))
abbrev Stz := Int × List Fld
abbrev rStz : Rd Stz := .st (.int .i64) (.sl rFld)
def isRec (x : Itm) : Bool := decide (x.1 = 3)
def cntR (l : List Itm) : Nat := (l.filter isRec).length
/-- Items, the stanzas numbered from n on. -/
def numI (n : Int) : List Itm → List Ent
  | [] => []
  | x :: r => match isRec x with
    | true => (x, n) :: numI (n + 1) r
    | false => (x, 0) :: numI n r
theorem cntR_app (a b : List Itm) : cntR (a ++ b) = cntR a + cntR b := by simp [cntR]
theorem numI_snoc : ∀ (l : List Itm) (n : Int) (x : Itm), numI n (l ++ [x]) = numI n l ++ [(x, if isRec x then n + cntR l else 0)]
  | [], n, x => by
    cases h : isRec x <;> simp [numI, h, cntR]
  | y :: r, n, x => by
    have ih := fun m => numI_snoc r m x
    cases h : isRec y with
    | true =>
      have e : n + 1 + (cntR r : Int) = n + (cntR (y :: r) : Int) := by simp [cntR, h]; omega
      simp only [List.cons_append, numI, h, ih, e]
    | false =>
      have e : (cntR r : Int) = (cntR (y :: r) : Int) := by simp [cntR, h]
      simp only [List.cons_append, numI, h, ih, e]
theorem numI_len : ∀ (l : List Itm) (n : Int), (numI n l).length = l.length
  | [], _ => rfl
  | x :: r, n => by
    unfold numI
    split <;> simp [numI_len r]
def ofT (l : List Itm) : Lst := (numI 1 l, 1 + (cntR l : Int), (cntR l : Int))
def hasId (id : Int) (e : Ent) : Bool := decide (e.2 = id)
/-- Where a stanza's entry stands; -1: there is none. -/
def atE (es : List Ent) (id : Int) : Int := if id < 1 then -1 else ixOf (hasId id) es
def replE (es : List Ent) (i : Nat) (x : Itm) : List Ent := es.set i (x, (es.getD i (((0 : Int), ByteArray.empty, ([] : List Fld)), (0 : Int))).2)
def delE (es : List Ent) (i : Nat) : List Ent := es.take i ++ es.drop (i + 1)
def insE (es : List Ent) (i : Nat) (e : Ent) : List Ent := es.take i ++ e :: es.drop i
def live (e : Ent) : Bool := decide (0 < e.2)
def stzOf (e : Ent) : Stz := (e.2, e.1.2.2)
def stzL (es : List Ent) : List Stz := (es.filter live).map stzOf
def itmL (es : List Ent) : List Itm := es.map (·.1)
/-- Which one a stanza is. -/
def plcL (es : List Ent) (id : Int) : Int := ixOf (hasId id) (es.filter live)
def rowsL (es : List Ent) : List (List Fld) := (stzL es).map (·.2)
def getL (es : List Ent) (id : Int) : List Fld := (es.getD (atE es id).toNat (((0 : Int), ByteArray.empty, ([] : List Fld)), (0 : Int))).1.2.2
def rawL (es : List Ent) (id : Int) : ByteArray := (es.getD (atE es id).toNat (((0 : Int), ByteArray.empty, ([] : List Fld)), (0 : Int))).1.2.1
def txtL (es : List Ent) : List UInt8 := rawsL (apartL (itmL es))
end Q
end Ab
end Go.Proofs.YtklhlkhlndhepaaGreatDoor
namespace Go.Proofs.YtklhlkhlndhepaaGreatDoor
open Go.RowKit
namespace Ab
set_option maxRecDepth 100000
namespace Q
theorem cntR_at {l : List Itm} {i : Nat} (h : i < l.length) : cntR (l.take (i + 1)) = cntR (l.take i) + if isRec (l.getD i ((0 : Int), ByteArray.empty, ([] : List Fld))) then 1 else 0 := by
  rw [← take_snoc ((0 : Int), ByteArray.empty, ([] : List Fld)) h, cntR_app]
  generalize l.getD i ((0 : Int), ByteArray.empty, ([] : List Fld)) = x
  cases hk : isRec x
  · simp [cntR, hk]
  · simp [cntR, hk]
theorem numI_at {l : List Itm} {i : Nat} (h : i < l.length) : numI 1 (l.take (i + 1)) = numI 1 (l.take i) ++ [(l.getD i ((0 : Int), ByteArray.empty, ([] : List Fld)), if isRec (l.getD i ((0 : Int), ByteArray.empty, ([] : List Fld))) then 1 + (cntR (l.take i) : Int) else 0)] := by
  rw [← take_snoc ((0 : Int), ByteArray.empty, ([] : List Fld)) h]
  exact numI_snoc (l.take i) 1 _
theorem cntR_le (l : List Itm) : cntR l ≤ l.length := List.length_filter_le _ _
def lsO (l : Lst) : Obs := [(0, .box 113 [.vec 1, .lit (.int .i64 l.2.1), .lit (.int .i64 l.2.2)]), (1, .vec 115 rEnt l.1)]
theorem lbox_eq {a b c d : Int} (h1 : a = c) (h2 : b = d) : some (Ob.box 113 [.vec 1, .lit (.int .i64 a), .lit (.int .i64 b)]) = some (Ob.box 113 [.vec 1, .lit (.int .i64 c), .lit (.int .i64 d)]) := by rw [h1, h2]
theorem of_ok (s : ByteArray) (hs : s.size ≤ 60000) {l : List Itm} (hp : parseS s = .inr l) : ACallO Tryz.prog 22 [is s] [] 0 (.tup [(false, [.own 0 0]), (false, [.lit .nilIface])]) (lsO (ofT l)) 2 := by
  have hpa := parse_a s hs
  rw [hp] at hpa
  obtain ⟨hl1, hl2⟩ := items_flds hs hp
  refine acallo_of (rs := [2, 3]) Tryz.func22 rfl rfl rfl teOk (by decide) rfl ?_
  refine acode_seq ?_
  refine acode_region ?_
  refine acode_seq ?_
  refine acode_region ?_
  refine Or.inl ?_
  refine And.intro (rfl) ?_
  refine Exists.intro _ (And.intro (hpa) ?_)
  refine acode_seq ?_
  refine acode_seq ?_
  refine acode_region ?_
  refine acode_cond rfl (fun h16 => ?_) (fun h16 => ?_)
  · try simp only [Bool.not_eq_true'] at h16
    try simp only [Int.toNat_natCast, dflt_sl, dflt_st, dflt_str, dflt_int, dflt_bool] at h16
    cases h16
  · try simp only [Bool.not_eq_false'] at h16
    try simp only [Int.toNat_natCast, dflt_sl, dflt_st, dflt_str, dflt_int, dflt_bool] at h16
    refine acode_skip ?_
    refine acode_seq ?_
    refine acode_region ?_
    refine acode_seq ?_
    refine acode_seq ?_
    refine acode_nilcell 0 0 115 rEnt rfl rfl rfl ?_
    refine acode_region ?_
    intro l5_1
    try simp only [Int.toNat_natCast, dflt_sl, dflt_st, dflt_str, dflt_int, dflt_bool] at l5_1
    refine acode_block ?_
    refine acode_loopP (fun (i : Nat) => i ≤ l.length) (fun (i : Nat) => [(0, is s), (6, .one (.own 0 0)), (20, .one (.sl rItm l)), (21, ii .i64 l.length), (22, ii .i64 i)]) (fun (i : Nat) => [(0, .box 113 [.vec 1, .lit (.int .i64 (1 + (cntR (l.take i) : Int))), .lit (.int .i64 (cntR (l.take i)))]), (1, .vec 115 rEnt (numI 1 (l.take i)))]) 2 (fun (i : Nat) => l.length - i) 0 (Nat.zero_le _) (le_of ⟨rfl, rfl, rfl, rfl, rfl⟩ ⟨rfl, rfl⟩ rfl) ?_
    intro i hI0
    refine acode_seq ?_
    refine acode_region ?_
    refine acode_seq ?_
    refine acode_cond rfl (fun h23 => ?_) (fun h23 => ?_)
    · try simp only [decide_eq_true_eq] at h23
      try simp only [Int.toNat_natCast, dflt_sl, dflt_st, dflt_str, dflt_int, dflt_bool] at h23
      have hil : i < l.length := (by omega)
      have hsn := numI_at hil
      have hcn := cntR_at hil
      have hcl := cntR_le (l.take i)
      rw [List.length_take] at hcl
      refine acode_skip ?_
      refine acode_seq ?_
      refine acode_block ?_
      refine acode_seq ?_
      refine acode_region ?_
      refine And.intro (by first | omega | assumption | decide | (simp only [Int.toNat_natCast, dflt_sl, dflt_st, dflt_str, dflt_int, dflt_bool]; omega) | (simp <;> omega)) ?_
      refine acode_seq ?_
      refine acode_region ?_
      refine acode_seq ?_
      refine acode_seq ?_
      refine acode_region ?_
      refine acode_cond rfl (fun h30 => ?_) (fun h30 => ?_)
      · try simp only [decide_eq_true_eq] at h30
        try simp only [Int.toNat_natCast, dflt_sl, dflt_st, dflt_str, dflt_int] at h30
        have hk : isRec (l.getD i ((0 : Int), ByteArray.empty, ([] : List Fld))) = true := decide_eq_true h30
        rw [hk, if_pos rfl] at hsn hcn
        refine acode_seq ?_
        refine acode_region ?_
        refine acode_seq ?_
        refine acode_region ?_
        refine And.intro (by first | omega | assumption | decide | (simp only [Int.toNat_natCast, dflt_sl, dflt_st, dflt_str, dflt_int, dflt_bool]; omega) | (simp <;> omega)) ?_
        refine acode_region ?_
        refine And.intro (by first | omega | assumption | decide | (simp only [Int.toNat_natCast, dflt_sl, dflt_st, dflt_str, dflt_int, dflt_bool]; omega) | (simp <;> omega)) ?_
        refine acode_ord rfl ?_
        refine aord_light 0 rfl rfl rfl (by kernel_rfl) ?_
        refine aord_light 1 rfl rfl rfl (by kernel_rfl) ?_
        refine aord_light 2 rfl rfl rfl (by kernel_rfl) ?_
        refine aord_light 3 rfl rfl rfl (by kernel_rfl) ?_
        refine aord_all [4, 5] (by kernel_rfl) rfl ?_
        refine And.intro ?_ ?_
        · refine aord_all [5] (by kernel_rfl) rfl ?_
          refine aord_all [6] (by kernel_rfl) rfl ?_
          refine aord_all [7] (by kernel_rfl) rfl ?_
          refine And.intro (by exact app_le (show (numI 1 (l.take i)).length + 1 ≤ 1000000000 by rw [numI_len, List.length_take]; omega) (by decide)) ?_
          refine aord_light 8 rfl rfl rfl (by kernel_rfl) ?_
          refine aord_light 9 rfl rfl rfl (by kernel_rfl) ?_
          refine aord_all [10] (by kernel_rfl) rfl ?_
          refine aord_done (by kernel_rfl) ?_
          refine acode_region ?_
          refine And.intro (by first | omega | assumption | decide | (simp only [Int.toNat_natCast, dflt_sl, dflt_st, dflt_str, dflt_int, dflt_bool]; omega) | (simp <;> omega)) ?_
          exact ⟨i + 1, by omega, by first | omega | (simp <;> omega), le_of ⟨rfl, rfl, rfl, rfl, rfl⟩ ⟨(lbox_eq (by omega) (by omega)), (vec_eq (by rw [hsn]; exact rfl))⟩ rfl⟩
        · refine aord_all [4, 6] (by kernel_rfl) rfl ?_
          refine And.intro ?_ ?_
          · refine aord_all [6] (by kernel_rfl) rfl ?_
            refine aord_all [7] (by kernel_rfl) rfl ?_
            refine And.intro (by exact app_le (show (numI 1 (l.take i)).length + 1 ≤ 1000000000 by rw [numI_len, List.length_take]; omega) (by decide)) ?_
            refine aord_light 8 rfl rfl rfl (by kernel_rfl) ?_
            refine aord_light 9 rfl rfl rfl (by kernel_rfl) ?_
            refine aord_all [10] (by kernel_rfl) rfl ?_
            refine aord_done (by kernel_rfl) ?_
            refine acode_region ?_
            refine And.intro (by first | omega | assumption | decide | (simp only [Int.toNat_natCast, dflt_sl, dflt_st, dflt_str, dflt_int, dflt_bool]; omega) | (simp <;> omega)) ?_
            exact ⟨i + 1, by omega, by first | omega | (simp <;> omega), le_of ⟨rfl, rfl, rfl, rfl, rfl⟩ ⟨(lbox_eq (by omega) (by omega)), (vec_eq (by rw [hsn]; exact rfl))⟩ rfl⟩
          · refine aord_all [4] (by kernel_rfl) rfl ?_
            refine aord_all [7] (by kernel_rfl) rfl ?_
            refine And.intro (by exact app_le (show (numI 1 (l.take i)).length + 1 ≤ 1000000000 by rw [numI_len, List.length_take]; omega) (by decide)) ?_
            refine aord_light 8 rfl rfl rfl (by kernel_rfl) ?_
            refine aord_light 9 rfl rfl rfl (by kernel_rfl) ?_
            refine aord_all [10] (by kernel_rfl) rfl ?_
            refine aord_done (by kernel_rfl) ?_
            refine acode_region ?_
            refine And.intro (by first | omega | assumption | decide | (simp only [Int.toNat_natCast, dflt_sl, dflt_st, dflt_str, dflt_int, dflt_bool]; omega) | (simp <;> omega)) ?_
            exact ⟨i + 1, by omega, by first | omega | (simp <;> omega), le_of ⟨rfl, rfl, rfl, rfl, rfl⟩ ⟨(lbox_eq (by omega) (by omega)), (vec_eq (by rw [hsn]; exact rfl))⟩ rfl⟩
      · try simp only [decide_eq_false_iff_not] at h30
        try simp only [Int.toNat_natCast, dflt_sl, dflt_st, dflt_str, dflt_int] at h30
        have hk : isRec (l.getD i ((0 : Int), ByteArray.empty, ([] : List Fld))) = false := decide_eq_false h30
        rw [hk, if_neg Bool.false_ne_true] at hsn hcn
        refine acode_skip ?_
        refine acode_ord rfl ?_
        refine aord_light 0 rfl rfl rfl (by kernel_rfl) ?_
        refine aord_light 1 rfl rfl rfl (by kernel_rfl) ?_
        refine aord_light 2 rfl rfl rfl (by kernel_rfl) ?_
        refine aord_light 3 rfl rfl rfl (by kernel_rfl) ?_
        refine aord_all [4, 5] (by kernel_rfl) rfl ?_
        refine And.intro ?_ ?_
        · refine aord_all [5] (by kernel_rfl) rfl ?_
          refine aord_all [6] (by kernel_rfl) rfl ?_
          refine aord_all [7] (by kernel_rfl) rfl ?_
          refine And.intro (by exact app_le (show (numI 1 (l.take i)).length + 1 ≤ 1000000000 by rw [numI_len, List.length_take]; omega) (by decide)) ?_
          refine aord_light 8 rfl rfl rfl (by kernel_rfl) ?_
          refine aord_light 9 rfl rfl rfl (by kernel_rfl) ?_
          refine aord_all [10] (by kernel_rfl) rfl ?_
          refine aord_done (by kernel_rfl) ?_
          refine acode_region ?_
          refine And.intro (by first | omega | assumption | decide | (simp only [Int.toNat_natCast, dflt_sl, dflt_st, dflt_str, dflt_int, dflt_bool]; omega) | (simp <;> omega)) ?_
          exact ⟨i + 1, by omega, by first | omega | (simp <;> omega), le_of ⟨rfl, rfl, rfl, rfl, rfl⟩ ⟨(lbox_eq (by omega) (by omega)), (vec_eq (by rw [hsn]; exact rfl))⟩ rfl⟩
        · refine aord_all [4, 6] (by kernel_rfl) rfl ?_
          refine And.intro ?_ ?_
          · refine aord_all [6] (by kernel_rfl) rfl ?_
            refine aord_all [7] (by kernel_rfl) rfl ?_
            refine And.intro (by exact app_le (show (numI 1 (l.take i)).length + 1 ≤ 1000000000 by rw [numI_len, List.length_take]; omega) (by decide)) ?_
            refine aord_light 8 rfl rfl rfl (by kernel_rfl) ?_
            refine aord_light 9 rfl rfl rfl (by kernel_rfl) ?_
            refine aord_all [10] (by kernel_rfl) rfl ?_
            refine aord_done (by kernel_rfl) ?_
            refine acode_region ?_
            refine And.intro (by first | omega | assumption | decide | (simp only [Int.toNat_natCast, dflt_sl, dflt_st, dflt_str, dflt_int, dflt_bool]; omega) | (simp <;> omega)) ?_
            exact ⟨i + 1, by omega, by first | omega | (simp <;> omega), le_of ⟨rfl, rfl, rfl, rfl, rfl⟩ ⟨(lbox_eq (by omega) (by omega)), (vec_eq (by rw [hsn]; exact rfl))⟩ rfl⟩
          · refine aord_all [4] (by kernel_rfl) rfl ?_
            refine aord_all [7] (by kernel_rfl) rfl ?_
            refine And.intro (by exact app_le (show (numI 1 (l.take i)).length + 1 ≤ 1000000000 by rw [numI_len, List.length_take]; omega) (by decide)) ?_
            refine aord_light 8 rfl rfl rfl (by kernel_rfl) ?_
            refine aord_light 9 rfl rfl rfl (by kernel_rfl) ?_
            refine aord_all [10] (by kernel_rfl) rfl ?_
            refine aord_done (by kernel_rfl) ?_
            refine acode_region ?_
            refine And.intro (by first | omega | assumption | decide | (simp only [Int.toNat_natCast, dflt_sl, dflt_st, dflt_str, dflt_int, dflt_bool]; omega) | (simp <;> omega)) ?_
            exact ⟨i + 1, by omega, by first | omega | (simp <;> omega), le_of ⟨rfl, rfl, rfl, rfl, rfl⟩ ⟨(lbox_eq (by omega) (by omega)), (vec_eq (by rw [hsn]; exact rfl))⟩ rfl⟩
    · try simp only [decide_eq_false_iff_not, Int.not_lt] at h23
      try simp only [Int.toNat_natCast, dflt_sl, dflt_st, dflt_str, dflt_int, dflt_bool] at h23
      refine acode_exit ?_
      refine acode_seq ?_
      refine acode_region ?_
      refine acode_ret ?_
      rw [List.take_of_length_le (by omega)]
      exact ⟨rfl, ⟨rfl, rfl⟩, rfl⟩
theorem of_err (s : ByteArray) (hs : s.size ≤ 60000) {at_ n : Int} (hp : parseS s = .inl (at_, n)) : ACall Tryz.prog 22 [is s] (.tup [(false, [.lit (.pointer none)]), (false, [errF at_ n])]) := by
  have hpa := parse_a s hs
  rw [hp] at hpa
  refine acall_of (rs := [2, 3]) Tryz.func22 rfl rfl rfl teOk rfl ?_
  refine acode_seq ?_
  refine acode_region ?_
  refine acode_seq ?_
  refine acode_region ?_
  refine Or.inl ?_
  refine And.intro (rfl) ?_
  refine Exists.intro _ (And.intro (hpa) ?_)
  refine acode_seq ?_
  refine acode_seq ?_
  refine acode_region ?_
  refine acode_cond rfl (fun h16 => ?_) (fun h16 => ?_)
  · skip
    refine acode_seq ?_
    refine acode_region ?_
    refine acode_ret ?_
    rfl
  · try simp only [decide_eq_true_eq, decide_eq_false_iff_not, Bool.and_eq_true, Bool.not_eq_true', Bool.not_eq_false', Bool.or_eq_false_iff, Bool.or_eq_true, Bool.and_eq_false_iff, Int.not_lt, Int.not_le] at h16
    try simp only [Int.toNat_natCast, dflt_sl, dflt_st, dflt_str, dflt_int, dflt_bool] at h16
    cases h16
end Q
end Ab
end Go.Proofs.YtklhlkhlndhepaaGreatDoor
namespace Go.Proofs.YtklhlkhlndhepaaGreatDoor
open Go.RowKit
namespace Ab
set_option maxRecDepth 100000
namespace Q
def itEs (es : List Ent) : List (List A) := (es.filter live).map fun e => [A.agg (toL rEnt e)]
def cntL (es : List Ent) : Nat := (es.filter live).length
theorem cntL_snoc {es : List Ent} {i : Nat} (h : i < es.length) : cntL (es.take (i + 1)) = cntL (es.take i) + if live (es.getD i (((0 : Int), ByteArray.empty, ([] : List Fld)), (0 : Int))) then 1 else 0 := by
  unfold cntL
  rw [← take_snoc (((0 : Int), ByteArray.empty, ([] : List Fld)), (0 : Int)) h, List.filter_append, List.length_append]
  generalize es.getD i (((0 : Int), ByteArray.empty, ([] : List Fld)), (0 : Int)) = x
  cases hk : live x <;> simp [hk]
theorem itEs_at {es : List Ent} {i : Nat} (h : i < es.length) (hl : live (es.getD i (((0 : Int), ByteArray.empty, ([] : List Fld)), (0 : Int))) = true) : ∃ hk : cntL (es.take i) < (itEs es).length, (itEs es)[cntL (es.take i)] = [A.agg (toL rEnt (es.getD i (((0 : Int), ByteArray.empty, ([] : List Fld)), (0 : Int))))] := by
  obtain ⟨h1, h2⟩ := filter_at live (((0 : Int), ByteArray.empty, ([] : List Fld)), (0 : Int)) es i h hl
  have h1' : cntL (es.take i) < (es.filter live).length := h1
  refine ⟨by unfold itEs; rw [List.length_map]; exact h1', ?_⟩
  have h3 : (es.filter live)[cntL (es.take i)]'h1' = es.getD i (((0 : Int), ByteArray.empty, ([] : List Fld)), (0 : Int)) := (getD_get h1' (((0 : Int), ByteArray.empty, ([] : List Fld)), (0 : Int))).trans h2
  exact (List.getElem_map (fun e => [A.agg (toL rEnt e)])).trans (congrArg (fun e => [A.agg (toL rEnt e)]) h3)
theorem all_iter {k : Nat} (es : List Ent) (n m : Int) : AIter Tryz.prog 123 [.one (.ref (.adk k (rLst k) (es, n, m)))] (itEs es) := by
  refine aiter_of Tryz.func123 rfl rfl rfl teOk rfl ?_
  intro l ι Pr J U n0 hU hab hy
  refine acodeY_seq ?_
  refine acodeY_seq ?_
  refine acodeY_seg hab hU rfl ?_
  refine acode_region ?_
  refine ⟨_, _, _, le_refl, ?_⟩
  refine acodeY_cond rfl (fun h6 => ?_) (fun h6 => ?_)
  · simp at h6
  refine acodeY_skip ?_
  refine acodeY_seq ?_
  refine acodeY_seg hab hU rfl ?_
  refine acode_region ?_
  intro hln
  have hln : es.length ≤ 9223372036854775807 := hln
  refine ⟨_, _, _, le_refl, ?_⟩
  refine acodeY_block ?_
  refine acodeY_loop (κ := Nat) (fun i => i ≤ es.length) (fun i => cntL (es.take i)) (fun i => [(0, .one (.lit (.func (.yield l) #[] #[]))), (10, .one (.slk k rEnt es)), (11, ii .i64 es.length), (12, ii .i64 i)]) (fun _ => []) 0 (fun i => es.length - i) 0 (Nat.zero_le _) hab hU (le_of ⟨rfl, rfl, rfl, rfl⟩ trivial rfl) rfl ?_
  intro i hi
  have hi : i ≤ es.length := hi
  refine acodeY_lowQ hab hU ?_
  refine acodeY_seq ?_
  refine acodeY_seg hab hU rfl ?_
  refine acode_region ?_
  refine ⟨_, _, _, le_refl, ?_⟩
  refine acodeY_seq ?_
  refine acodeY_cond rfl (fun h13 => ?_) (fun h13 => ?_)
  · simp only [decide_eq_true_eq] at h13
    have hlt : i < es.length := by omega
    have hsn := cntL_snoc hlt
    refine acodeY_skip ?_
    refine acodeY_seq ?_
    refine acodeY_block ?_
    refine acodeY_seq ?_
    refine acodeY_seg hab hU rfl ?_
    refine acode_region ?_
    refine And.intro (by omega) ?_
    refine ⟨_, _, _, le_refl, ?_⟩
    refine acodeY_seq ?_
    refine acodeY_yieldG (pre := [_, _, _, _, _, _]) (post := [_, _]) _ (live (es.getD i (((0 : Int), ByteArray.empty, ([] : List Fld)), (0 : Int)))) rfl rfl rfl rfl rfl hab hU hy ?_
    refine And.intro (fun _ => trivial) ?_
    refine And.intro (fun _ => trivial) ?_
    refine ⟨_, _, _, le_refl, ⟨_, rfl, rfl⟩, fun hq => ?_, fun hq => ?_⟩
    · obtain ⟨hk, hx⟩ := itEs_at hlt hq
      refine ⟨hk, ⟨⟨hq, trivial⟩, ⟨hq, trivial⟩, trivial⟩, rfl, hx.symm, by rw [hx]; rfl, fun st => ?_⟩
      refine And.intro (fun _ => ⟨⟨rfl, trivial⟩, trivial⟩) ?_
      refine And.intro (fun h => h) ?_
      refine ⟨_, _, _, le_refl, ?_⟩
      refine acodeY_cond rfl (fun h24 => ?_) (fun h24 => ?_)
      · have h24 : (live (es.getD i (((0 : Int), ByteArray.empty, ([] : List Fld)), (0 : Int))) && !!st) = true := h24
        rw [hq, Bool.true_and, Bool.not_not] at h24
        subst h24
        refine acodeY_ret ?_
        exact ⟨_, .inl rfl, .inl rfl, fun e => by cases e⟩
      · have h24 : (live (es.getD i (((0 : Int), ByteArray.empty, ([] : List Fld)), (0 : Int))) && !!st) = false := h24
        rw [hq, Bool.true_and, Bool.not_not] at h24
        subst h24
        refine acodeY_skip ?_
        refine acodeY_seg hab hU rfl ?_
        refine acode_region ?_
        refine And.intro (by omega) ?_
        refine ⟨_, _, _, le_of (tm' := [(0, .one (.lit (.func (.yield l) #[] #[]))), (10, .one (.slk k rEnt es)), (11, ii .i64 es.length), (12, ii .i64 (i + 1 : Nat))]) (ob' := []) (nx' := 1) ⟨rfl, rfl, rfl, ii_eq (by omega)⟩ trivial rfl, 0, .inr rfl, ⟨i + 1, hlt, by omega, rfl, ?_, rfl, rfl, rfl⟩⟩
        rw [hsn, if_pos hq]
    · refine And.intro (fun h => absurd (h.symm.trans hq) (by decide)) ?_
      refine And.intro (fun h => h) ?_
      refine ⟨_, _, _, le_refl, ?_⟩
      refine acodeY_cond rfl (fun h24 => ?_) (fun h24 => ?_)
      · have h24 : (live (es.getD i (((0 : Int), ByteArray.empty, ([] : List Fld)), (0 : Int))) && _) = true := h24
        rw [hq] at h24
        cases h24
      · refine acodeY_skip ?_
        refine acodeY_seg hab hU rfl ?_
        refine acode_region ?_
        refine And.intro (by omega) ?_
        refine ⟨_, _, _, le_of (tm' := [(0, .one (.lit (.func (.yield l) #[] #[]))), (10, .one (.slk k rEnt es)), (11, ii .i64 es.length), (12, ii .i64 (i + 1 : Nat))]) (ob' := []) (nx' := 1) ⟨rfl, rfl, rfl, ii_eq (by omega)⟩ trivial rfl, 0, .inr rfl, ⟨i + 1, hlt, by omega, rfl, ?_, rfl, rfl, rfl⟩⟩
        rw [hsn, if_neg (by rw [hq]; decide)]
        rfl
  · simp only [decide_eq_false_iff_not] at h13
    refine acodeY_exit ?_
    refine ⟨_, .inl rfl, .inr rfl, fun _ => ?_⟩
    rw [List.take_of_length_le (by omega)]
    simp only [itEs, List.length_map, cntL]
theorem allN_iter : AIter Tryz.prog 123 [.one (.ref (.lit (.pointer none)))] [] := by
  refine aiter_of Tryz.func123 rfl rfl rfl teOk rfl ?_
  intro l ι Pr J U n0 hU hab hy
  refine acodeY_seq ?_
  refine acodeY_seq ?_
  refine acodeY_seg hab hU rfl ?_
  refine acode_region ?_
  refine ⟨_, _, _, le_refl, ?_⟩
  refine acodeY_cond rfl (fun h6 => ?_) (fun h6 => ?_)
  · refine acodeY_ret ?_
    exact ⟨.inl rfl, fun _ => rfl⟩
  · simp at h6
theorem all_c {k : Nat} (L : Lst) : ACall Tryz.prog 78 [.one (.adk k (rLst k) L)] (.one (.clo 123 (.ref (.adk k (rLst k) L)))) := by
  refine acall_of (rs := [2]) Tryz.func78 rfl rfl rfl teOk rfl ?_
  refine acode_seq ?_
  refine acode_region ?_
  refine acode_seq ?_
  refine acode_region ?_
  refine acode_frz [0] ?_
  refine acode_ret ?_
  rfl
theorem allN_c : ACall Tryz.prog 78 [.one (.lit (.pointer none))] (.one (.clo 123 (.ref (.lit (.pointer none))))) := by
  refine acall_of (rs := [2]) Tryz.func78 rfl rfl rfl teOk rfl ?_
  refine acode_seq ?_
  refine acode_region ?_
  refine acode_seq ?_
  refine acode_region ?_
  refine acode_frz [0] ?_
  refine acode_ret ?_
  rfl
end Q
end Ab
end Go.Proofs.YtklhlkhlndhepaaGreatDoor
namespace Go.Proofs.YtklhlkhlndhepaaGreatDoor
open Go.RowKit
namespace Ab
set_option maxRecDepth 100000
namespace Q
def recsT (l : List Itm) : List (List Fld) := (l.filter fun x => decide (x.1 = 3)).map (·.2.2)
def fldL (a : List Fld) : List ByteArray := a.flatMap fun f => lineB f.1 f.2
/-- The lines of a list's text. -/
def textT : List (List Fld) → List ByteArray
  | [] => []
  | [a] => fldL a
  | a :: b :: r => fldL a ++ (⟨#[]⟩ :: textT (b :: r))
def GoodS (a : List Fld) : Prop := a ≠ [] ∧ a.length ≤ 40 ∧ ∀ f ∈ a, checkF f = 0
end Q
end Ab
end Go.Proofs.YtklhlkhlndhepaaGreatDoor
namespace Go.Proofs.YtklhlkhlndhepaaGreatDoor
open Go.RowKit
namespace Ab
set_option maxRecDepth 100000
namespace Q
def badAt : Int → List Fld → Int × Int
  | _, [] => (-9, 0)
  | i, f :: r => if checkF f ≠ 0 then (i, checkF f) else badAt (i + 1) r
/-- Where fields aren't a stanza's, an error's number. -/
def chkR (l : List Fld) : Int × Int := if l = [] then (-9, 2) else if 40 < l.length then (-9, 11) else badAt 0 l
def chkA (l : List Fld) : C := if (chkR l).2 = 0 then .lit .nilIface else if (chkR l).1 = -9 then errN (chkR l).2 else errF (chkR l).1 (chkR l).2
end Q
end Ab
end Go.Proofs.YtklhlkhlndhepaaGreatDoor
namespace Go.Proofs.YtklhlkhlndhepaaGreatDoor
open Go.RowKit
namespace Ab
set_option maxRecDepth 100000
namespace Q
theorem clone_c {k : Nat} (l : List Fld) (hl : l.length ≤ 1000000) : ACall Tryz.prog 62 [.one (.slk k rFld l)] (.one (.sl rFld l)) := by
  refine acall_of (rs := [2]) Tryz.func62 rfl rfl rfl teOk rfl ?_
  refine acode_seq ?_
  refine acode_region ?_
  refine acode_seq ?_
  refine acode_seq ?_
  refine acode_isnil (q := k) [_] _ (R := rFld) (xs := l) rfl rfl rfl rfl (e := 91) rfl rfl ?_
  refine ⟨rfl, fun b hb => ?_⟩
  refine acode_cond rfl (fun h4 => ?_) (fun h4 => ?_)
  · have hl0 := hb h4
    subst hl0
    refine acode_seq ?_
    refine acode_region ?_
    refine acode_nilvec 2 91 rFld rfl ?_
    refine acode_ret ?_
    rfl
  · refine acode_skip ?_
    refine acode_seq ?_
    refine acode_region ?_
    refine And.intro (by first | exact app_le (show l.length ≤ 1000000000 by omega) (by decide) | exact app_le (show 0 + l.length ≤ 1000000000 by omega) (by decide)) ?_
    refine acode_ret ?_
    rfl
def al6 : List (List Fld) := [[(⟨#[65]⟩, ⟨#[49]⟩)], [(⟨#[66]⟩, ⟨#[50]⟩)]]
end Q
end Ab
end Go.Proofs.YtklhlkhlndhepaaGreatDoor
namespace Go.Proofs.YtklhlkhlndhepaaGreatDoor
open Go.RowKit
namespace Ab
set_option maxRecDepth 100000
namespace Q
theorem itEs_len (es : List Ent) : (itEs es).length = (es.filter live).length := List.length_map _
theorem itEs_get (es : List Ent) {i : Nat} (h : i < (itEs es).length) : ∃ e ∈ es, (es.filter live).getD i (((0 : Int), ByteArray.empty, ([] : List Fld)), (0 : Int)) = e ∧ i < (es.filter live).length ∧ (itEs es)[i] = [A.agg (toL rEnt e)] := by
  have h1 : i < (es.filter live).length := by rw [← itEs_len]; exact h
  refine ⟨_, (List.mem_filter.1 (getD_mem h1 (((0 : Int), ByteArray.empty, ([] : List Fld)), (0 : Int)))).1, rfl, h1, ?_⟩
  exact (List.getElem_map (fun e => [A.agg (toL rEnt e)])).trans (congrArg (fun e => [A.agg (toL rEnt e)]) (getD_get h1 (((0 : Int), ByteArray.empty, ([] : List Fld)), (0 : Int))))
def stT (es : List Ent) (i : Nat) : List Stz := ((es.filter live).take i).map stzOf
theorem stT_snoc {es : List Ent} {i : Nat} (h : i < (es.filter live).length) : stT es (i + 1) = stT es i ++ [stzOf ((es.filter live).getD i (((0 : Int), ByteArray.empty, ([] : List Fld)), (0 : Int)))] := by
  unfold stT
  rw [← take_snoc (((0 : Int), ByteArray.empty, ([] : List Fld)), (0 : Int)) h, List.map_append]
  rfl
theorem stT_len {es : List Ent} {i : Nat} : (stT es i).length ≤ i := by
  unfold stT
  rw [List.length_map, List.length_take]
  omega
theorem live_len (es : List Ent) : (es.filter live).length ≤ es.length := List.length_filter_le _ _
theorem stanzasL_c {k : Nat} (es : List Ent) (n m : Int) (hl : es.length ≤ 1000000) (hf : ∀ e ∈ es, e.1.2.2.length ≤ 1000000) : ACall Tryz.prog 43 [.one (.adk k (rLst k) (es, n, m))] (.one (.sl rStz (stzL es))) := by
  have hll := live_len es
  refine acall_of (rs := [2]) Tryz.func43 rfl rfl rfl teOk rfl ?_
  refine acode_seq ?_
  refine acode_region ?_
  refine acode_seq ?_
  refine acode_region ?_
  refine acode_seq ?_
  refine acode_seq ?_
  refine acode_region ?_
  refine Or.inl ?_
  refine And.intro (rfl) ?_
  refine Exists.intro _ (And.intro (all_c (es, n, m)) ?_)
  refine acode_block ?_
  refine acode_nilcell 0 0 27 rStz rfl rfl rfl ?_
  refine acode_range (caps := [.one (.ref (.adk k (rLst k) (es, n, m)))]) (xs := itEs es) [(3, .one (.own 0 0)), (6, .one (.clo 123 (.ref (.adk k (rLst k) (es, n, m)))))] 2 (fun st j (i : Nat) => st = false ∧ i = j) (fun i => [(0, .box 36 [.vec 1]), (1, .vec 27 rStz (stT es i))]) (fun _ => .ret) 0 rfl rfl (all_iter es n m) (le_of ⟨rfl, rfl⟩ ⟨rfl, rfl⟩ rfl) ⟨rfl, rfl⟩ (fun j hj => by simp [itEs]) rfl rfl rfl (fun _ _ _ => rfl) rfl ?_ ?_ ?_
  · intro j i hk hp
    obtain ⟨_, rfl⟩ := hp
    obtain ⟨e, he, hg, hi, hx⟩ := itEs_get es hk
    rw [hx]
    have hsn := stT_snoc hi
    rw [hg] at hsn
    have hsl := @stT_len es i
    refine acode_region ?_
    refine acode_block ?_
    refine acode_ord rfl ?_
    refine aord_light 1 rfl rfl rfl (by kernel_rfl) ?_
    refine aord_light 3 rfl rfl rfl (by kernel_rfl) ?_
    refine aord_light 4 rfl rfl rfl (by kernel_rfl) ?_
    refine aord_all [0, 2, 5] (by kernel_rfl) rfl ?_
    refine And.intro ?_ ?_
    · refine aord_all [2, 5] (by kernel_rfl) rfl ?_
      refine And.intro ?_ ?_
      · refine aord_all [5] (by kernel_rfl) rfl ?_
        refine aord_all [6] (by kernel_rfl) rfl ?_
        refine Or.inl ?_
        refine And.intro (rfl) ?_
        refine Exists.intro _ (And.intro (clone_c e.1.2.2 (hf e he)) ?_)
        refine aord_all [7] (by kernel_rfl) rfl ?_
        refine aord_all [8] (by kernel_rfl) rfl ?_
        refine aord_all [9] (by kernel_rfl) rfl ?_
        refine And.intro (by exact app_le (show (stT es i).length + 1 ≤ 1000000000 by omega) (by decide)) ?_
        refine aord_all [10] (by kernel_rfl) rfl ?_
        refine aord_done (by kernel_rfl) ?_
        exact ⟨i + 1, ⟨rfl, rfl⟩, le_of trivial ⟨rfl, vec_eq (by rw [hsn]; exact rfl)⟩ rfl⟩
      · refine aord_all [2, 6] (by kernel_rfl) rfl ?_
        refine And.intro ?_ ?_
        · refine aord_all [6] (by kernel_rfl) rfl ?_
          refine Or.inl ?_
          refine And.intro (rfl) ?_
          refine Exists.intro _ (And.intro (clone_c e.1.2.2 (hf e he)) ?_)
          refine aord_all [7] (by kernel_rfl) rfl ?_
          refine aord_all [8] (by kernel_rfl) rfl ?_
          refine aord_all [9] (by kernel_rfl) rfl ?_
          refine And.intro (by exact app_le (show (stT es i).length + 1 ≤ 1000000000 by omega) (by decide)) ?_
          refine aord_all [10] (by kernel_rfl) rfl ?_
          refine aord_done (by kernel_rfl) ?_
          exact ⟨i + 1, ⟨rfl, rfl⟩, le_of trivial ⟨rfl, vec_eq (by rw [hsn]; exact rfl)⟩ rfl⟩
        · refine Or.inl ?_
          refine And.intro (rfl) ?_
          refine Exists.intro _ (And.intro (clone_c e.1.2.2 (hf e he)) ?_)
          refine aord_all [2] (by kernel_rfl) rfl ?_
          refine aord_all [7] (by kernel_rfl) rfl ?_
          refine aord_all [8] (by kernel_rfl) rfl ?_
          refine aord_all [9] (by kernel_rfl) rfl ?_
          refine And.intro (by exact app_le (show (stT es i).length + 1 ≤ 1000000000 by omega) (by decide)) ?_
          refine aord_all [10] (by kernel_rfl) rfl ?_
          refine aord_done (by kernel_rfl) ?_
          exact ⟨i + 1, ⟨rfl, rfl⟩, le_of trivial ⟨rfl, vec_eq (by rw [hsn]; exact rfl)⟩ rfl⟩
    refine And.intro ?_ ?_
    · refine aord_all [0, 5] (by kernel_rfl) rfl ?_
      refine And.intro ?_ ?_
      · refine aord_all [5] (by kernel_rfl) rfl ?_
        refine aord_all [6] (by kernel_rfl) rfl ?_
        refine Or.inl ?_
        refine And.intro (rfl) ?_
        refine Exists.intro _ (And.intro (clone_c e.1.2.2 (hf e he)) ?_)
        refine aord_all [7] (by kernel_rfl) rfl ?_
        refine aord_all [8] (by kernel_rfl) rfl ?_
        refine aord_all [9] (by kernel_rfl) rfl ?_
        refine And.intro (by exact app_le (show (stT es i).length + 1 ≤ 1000000000 by omega) (by decide)) ?_
        refine aord_all [10] (by kernel_rfl) rfl ?_
        refine aord_done (by kernel_rfl) ?_
        exact ⟨i + 1, ⟨rfl, rfl⟩, le_of trivial ⟨rfl, vec_eq (by rw [hsn]; exact rfl)⟩ rfl⟩
      · refine aord_all [0, 6] (by kernel_rfl) rfl ?_
        refine And.intro ?_ ?_
        · refine aord_all [6] (by kernel_rfl) rfl ?_
          refine Or.inl ?_
          refine And.intro (rfl) ?_
          refine Exists.intro _ (And.intro (clone_c e.1.2.2 (hf e he)) ?_)
          refine aord_all [7] (by kernel_rfl) rfl ?_
          refine aord_all [8] (by kernel_rfl) rfl ?_
          refine aord_all [9] (by kernel_rfl) rfl ?_
          refine And.intro (by exact app_le (show (stT es i).length + 1 ≤ 1000000000 by omega) (by decide)) ?_
          refine aord_all [10] (by kernel_rfl) rfl ?_
          refine aord_done (by kernel_rfl) ?_
          exact ⟨i + 1, ⟨rfl, rfl⟩, le_of trivial ⟨rfl, vec_eq (by rw [hsn]; exact rfl)⟩ rfl⟩
        · refine Or.inl ?_
          refine And.intro (rfl) ?_
          refine Exists.intro _ (And.intro (clone_c e.1.2.2 (hf e he)) ?_)
          refine aord_all [0, 7] (by kernel_rfl) rfl ?_
          refine And.intro ?_ ?_
          · refine aord_all [7] (by kernel_rfl) rfl ?_
            refine aord_all [8] (by kernel_rfl) rfl ?_
            refine aord_all [9] (by kernel_rfl) rfl ?_
            refine And.intro (by exact app_le (show (stT es i).length + 1 ≤ 1000000000 by omega) (by decide)) ?_
            refine aord_all [10] (by kernel_rfl) rfl ?_
            refine aord_done (by kernel_rfl) ?_
            exact ⟨i + 1, ⟨rfl, rfl⟩, le_of trivial ⟨rfl, vec_eq (by rw [hsn]; exact rfl)⟩ rfl⟩
          · refine aord_all [0, 8] (by kernel_rfl) rfl ?_
            refine And.intro ?_ ?_
            · refine aord_all [8] (by kernel_rfl) rfl ?_
              refine aord_all [9] (by kernel_rfl) rfl ?_
              refine And.intro (by exact app_le (show (stT es i).length + 1 ≤ 1000000000 by omega) (by decide)) ?_
              refine aord_all [10] (by kernel_rfl) rfl ?_
              refine aord_done (by kernel_rfl) ?_
              exact ⟨i + 1, ⟨rfl, rfl⟩, le_of trivial ⟨rfl, vec_eq (by rw [hsn]; exact rfl)⟩ rfl⟩
            · refine aord_all [0] (by kernel_rfl) rfl ?_
              refine aord_all [9] (by kernel_rfl) rfl ?_
              refine And.intro (by exact app_le (show (stT es i).length + 1 ≤ 1000000000 by omega) (by decide)) ?_
              refine aord_all [10] (by kernel_rfl) rfl ?_
              refine aord_done (by kernel_rfl) ?_
              exact ⟨i + 1, ⟨rfl, rfl⟩, le_of trivial ⟨rfl, vec_eq (by rw [hsn]; exact rfl)⟩ rfl⟩
    · refine aord_all [0, 2, 6] (by kernel_rfl) rfl ?_
      refine And.intro ?_ ?_
      · refine aord_all [2, 6] (by kernel_rfl) rfl ?_
        refine And.intro ?_ ?_
        · refine aord_all [6] (by kernel_rfl) rfl ?_
          refine Or.inl ?_
          refine And.intro (rfl) ?_
          refine Exists.intro _ (And.intro (clone_c e.1.2.2 (hf e he)) ?_)
          refine aord_all [7] (by kernel_rfl) rfl ?_
          refine aord_all [8] (by kernel_rfl) rfl ?_
          refine aord_all [9] (by kernel_rfl) rfl ?_
          refine And.intro (by exact app_le (show (stT es i).length + 1 ≤ 1000000000 by omega) (by decide)) ?_
          refine aord_all [10] (by kernel_rfl) rfl ?_
          refine aord_done (by kernel_rfl) ?_
          exact ⟨i + 1, ⟨rfl, rfl⟩, le_of trivial ⟨rfl, vec_eq (by rw [hsn]; exact rfl)⟩ rfl⟩
        · refine Or.inl ?_
          refine And.intro (rfl) ?_
          refine Exists.intro _ (And.intro (clone_c e.1.2.2 (hf e he)) ?_)
          refine aord_all [2] (by kernel_rfl) rfl ?_
          refine aord_all [7] (by kernel_rfl) rfl ?_
          refine aord_all [8] (by kernel_rfl) rfl ?_
          refine aord_all [9] (by kernel_rfl) rfl ?_
          refine And.intro (by exact app_le (show (stT es i).length + 1 ≤ 1000000000 by omega) (by decide)) ?_
          refine aord_all [10] (by kernel_rfl) rfl ?_
          refine aord_done (by kernel_rfl) ?_
          exact ⟨i + 1, ⟨rfl, rfl⟩, le_of trivial ⟨rfl, vec_eq (by rw [hsn]; exact rfl)⟩ rfl⟩
      refine And.intro ?_ ?_
      · refine aord_all [0, 6] (by kernel_rfl) rfl ?_
        refine And.intro ?_ ?_
        · refine aord_all [6] (by kernel_rfl) rfl ?_
          refine Or.inl ?_
          refine And.intro (rfl) ?_
          refine Exists.intro _ (And.intro (clone_c e.1.2.2 (hf e he)) ?_)
          refine aord_all [7] (by kernel_rfl) rfl ?_
          refine aord_all [8] (by kernel_rfl) rfl ?_
          refine aord_all [9] (by kernel_rfl) rfl ?_
          refine And.intro (by exact app_le (show (stT es i).length + 1 ≤ 1000000000 by omega) (by decide)) ?_
          refine aord_all [10] (by kernel_rfl) rfl ?_
          refine aord_done (by kernel_rfl) ?_
          exact ⟨i + 1, ⟨rfl, rfl⟩, le_of trivial ⟨rfl, vec_eq (by rw [hsn]; exact rfl)⟩ rfl⟩
        · refine Or.inl ?_
          refine And.intro (rfl) ?_
          refine Exists.intro _ (And.intro (clone_c e.1.2.2 (hf e he)) ?_)
          refine aord_all [0, 7] (by kernel_rfl) rfl ?_
          refine And.intro ?_ ?_
          · refine aord_all [7] (by kernel_rfl) rfl ?_
            refine aord_all [8] (by kernel_rfl) rfl ?_
            refine aord_all [9] (by kernel_rfl) rfl ?_
            refine And.intro (by exact app_le (show (stT es i).length + 1 ≤ 1000000000 by omega) (by decide)) ?_
            refine aord_all [10] (by kernel_rfl) rfl ?_
            refine aord_done (by kernel_rfl) ?_
            exact ⟨i + 1, ⟨rfl, rfl⟩, le_of trivial ⟨rfl, vec_eq (by rw [hsn]; exact rfl)⟩ rfl⟩
          · refine aord_all [0, 8] (by kernel_rfl) rfl ?_
            refine And.intro ?_ ?_
            · refine aord_all [8] (by kernel_rfl) rfl ?_
              refine aord_all [9] (by kernel_rfl) rfl ?_
              refine And.intro (by exact app_le (show (stT es i).length + 1 ≤ 1000000000 by omega) (by decide)) ?_
              refine aord_all [10] (by kernel_rfl) rfl ?_
              refine aord_done (by kernel_rfl) ?_
              exact ⟨i + 1, ⟨rfl, rfl⟩, le_of trivial ⟨rfl, vec_eq (by rw [hsn]; exact rfl)⟩ rfl⟩
            · refine aord_all [0] (by kernel_rfl) rfl ?_
              refine aord_all [9] (by kernel_rfl) rfl ?_
              refine And.intro (by exact app_le (show (stT es i).length + 1 ≤ 1000000000 by omega) (by decide)) ?_
              refine aord_all [10] (by kernel_rfl) rfl ?_
              refine aord_done (by kernel_rfl) ?_
              exact ⟨i + 1, ⟨rfl, rfl⟩, le_of trivial ⟨rfl, vec_eq (by rw [hsn]; exact rfl)⟩ rfl⟩
      · refine Or.inl ?_
        refine And.intro (rfl) ?_
        refine Exists.intro _ (And.intro (clone_c e.1.2.2 (hf e he)) ?_)
        refine aord_all [0, 2] (by kernel_rfl) rfl ?_
        refine And.intro ?_ ?_
        · refine aord_all [2] (by kernel_rfl) rfl ?_
          refine aord_all [7] (by kernel_rfl) rfl ?_
          refine aord_all [8] (by kernel_rfl) rfl ?_
          refine aord_all [9] (by kernel_rfl) rfl ?_
          refine And.intro (by exact app_le (show (stT es i).length + 1 ≤ 1000000000 by omega) (by decide)) ?_
          refine aord_all [10] (by kernel_rfl) rfl ?_
          refine aord_done (by kernel_rfl) ?_
          exact ⟨i + 1, ⟨rfl, rfl⟩, le_of trivial ⟨rfl, vec_eq (by rw [hsn]; exact rfl)⟩ rfl⟩
        · refine aord_all [0, 7] (by kernel_rfl) rfl ?_
          refine And.intro ?_ ?_
          · refine aord_all [7] (by kernel_rfl) rfl ?_
            refine aord_all [8] (by kernel_rfl) rfl ?_
            refine aord_all [9] (by kernel_rfl) rfl ?_
            refine And.intro (by exact app_le (show (stT es i).length + 1 ≤ 1000000000 by omega) (by decide)) ?_
            refine aord_all [10] (by kernel_rfl) rfl ?_
            refine aord_done (by kernel_rfl) ?_
            exact ⟨i + 1, ⟨rfl, rfl⟩, le_of trivial ⟨rfl, vec_eq (by rw [hsn]; exact rfl)⟩ rfl⟩
          · refine aord_all [0, 8] (by kernel_rfl) rfl ?_
            refine And.intro ?_ ?_
            · refine aord_all [8] (by kernel_rfl) rfl ?_
              refine aord_all [9] (by kernel_rfl) rfl ?_
              refine And.intro (by exact app_le (show (stT es i).length + 1 ≤ 1000000000 by omega) (by decide)) ?_
              refine aord_all [10] (by kernel_rfl) rfl ?_
              refine aord_done (by kernel_rfl) ?_
              exact ⟨i + 1, ⟨rfl, rfl⟩, le_of trivial ⟨rfl, vec_eq (by rw [hsn]; exact rfl)⟩ rfl⟩
            · refine aord_all [0] (by kernel_rfl) rfl ?_
              refine aord_all [9] (by kernel_rfl) rfl ?_
              refine And.intro (by exact app_le (show (stT es i).length + 1 ≤ 1000000000 by omega) (by decide)) ?_
              refine aord_all [10] (by kernel_rfl) rfl ?_
              refine aord_done (by kernel_rfl) ?_
              exact ⟨i + 1, ⟨rfl, rfl⟩, le_of trivial ⟨rfl, vec_eq (by rw [hsn]; exact rfl)⟩ rfl⟩
  · intro i hp
    obtain ⟨_, rfl⟩ := hp
    refine acode_seq ?_
    refine acode_region ?_
    refine acode_ret ?_
    rw [show stT es (itEs es).length = stzL es from by unfold stT stzL; rw [itEs_len, List.take_length]]
    exact rfl
  · intro j i hp
    exact absurd hp.1 (by decide)
theorem stanzasN_c : ACall Tryz.prog 43 [.one (.lit (.pointer none))] (.one (.sl rStz [])) := by
  refine acall_of (rs := [2]) Tryz.func43 rfl rfl rfl teOk rfl ?_
  refine acode_seq ?_
  refine acode_region ?_
  refine acode_seq ?_
  refine acode_region ?_
  refine acode_seq ?_
  refine acode_seq ?_
  refine acode_region ?_
  refine Or.inl ?_
  refine And.intro (rfl) ?_
  refine Exists.intro _ (And.intro (allN_c) ?_)
  refine acode_block ?_
  refine acode_nilcell 0 0 27 rStz rfl rfl rfl ?_
  refine acode_range (caps := [.one (.ref (.lit (.pointer none)))]) (xs := []) [(3, .one (.own 0 0)), (6, .one (.clo 123 (.ref (.lit (.pointer none)))))] 2 (fun st j (i : Nat) => st = false ∧ i = j) (fun _ => [(0, .box 36 [.vec 1]), (1, .vec 27 rStz [])]) (fun _ => .ret) 0 rfl rfl allN_iter (le_of ⟨rfl, rfl⟩ ⟨rfl, rfl⟩ rfl) ⟨rfl, rfl⟩ (fun j hj => by cases hj) rfl rfl rfl (fun _ _ _ => rfl) rfl ?_ ?_ ?_
  · intro j i hk hp
    cases hk
  · intro i hp
    obtain ⟨_, rfl⟩ := hp
    refine acode_seq ?_
    refine acode_region ?_
    refine acode_ret ?_
    exact rfl
  · intro j i hp
    exact absurd hp.1 (by decide)
end Q
end Ab
end Go.Proofs.YtklhlkhlndhepaaGreatDoor
