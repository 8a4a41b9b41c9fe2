/-
  The texts of this proof, joined: abstract values, the library, the functions of the program and what they compute (part 7). No condition.
-/
import Derived.Shelf.Vars
import Derived.KernelRfl
import Derived.Test.YtnimhpgacmojiaaGreatDoorK1
import Derived.Test.YtnimhpgacmojiaaGreatDoorK2
import Derived.Test.YtnimhpgacmojiaaGreatDoorK3
import Derived.Test.YtnimhpgacmojiaaGreatDoorK4
import Derived.Test.YtnimhpgacmojiaaGreatDoorK5
import Derived.Test.YtnimhpgacmojiaaGreatDoorK6
namespace Go.Proofs.YtnimhpgacmojiaaGreatDoor
open Go.RowKit
namespace Ab
set_option maxRecDepth 100000
namespace Q
def doB (num at_ id bad at2 want : Int) : Bool := ((true && decide (num = bad)) && decide (at_ = at2)) && decide (id = want)
theorem doDel_no (es : List Ent) (n m id : Int) (f : List Fld) (ms : List Ent) (mn : Int) (hf : FldsOk f) (hml : ms.length ≤ 1000000) (h : atE es id < 0) : ACallO Tryz.prog 36 [.one (.own 0 0), .agg (toL rRL (ms, mn)), .agg (toL rEdt ((2 : Int), id, f))] (lsO (es, n, m)) 2 (.tup [(true, toL rRL (refDel (ms, mn) id).1), (false, [.lit (.bool (doB 7 (-9) 0 (refDel (ms, mn) id).2 (-9) 0))])]) (lsO (es, n, m)) 2 := by
  have hfl := fieldsk_c (κ := 1) f f
  rw [decide_eq_true rfl] at hfl
  have hcp := copiesF_o f (Nat.le_trans hf.1 (by decide))
  have hsp := spoilF_o f (Nat.le_trans hf.1 (by decide))
  have hdl := lDel_no es n m id h
  have hrf := refDel_c ms mn id hml
  refine acallo_ofc (t := 6) (ty := 63) (u := 7) Tryz.func36 rfl rfl rfl teOk rfl rfl ?_
  refine acode_seq ?_
  refine acode_region ?_
  refine acode_seq ?_
  refine acode_region ?_
  refine Or.inr (Or.inl (Exists.intro [] (Exists.intro [] (Exists.intro _ (Exists.intro _ (Exists.intro _ (Exists.intro _ (Exists.intro _ (And.intro (hcp) (And.intro rfl (And.intro True.intro (And.intro rfl ?_))))))))))))
  refine acode_seq ?_
  refine acode_region ?_
  refine acode_seq ?_
  refine acode_region ?_
  refine acode_seq ?_
  refine acode_seq ?_
  refine acode_region ?_
  refine acode_block ?_
  refine acode_seq ?_
  refine acode_region ?_
  refine acode_cond rfl (fun h39 => ?_) (fun h39 => ?_)
  ·try simp only [decide_eq_true_eq] at h39
   try simp only [Int.toNat_natCast, dflt_sl, dflt_st, dflt_str, dflt_int, dflt_bool] at h39
   simp at h39
  ·try simp only [decide_eq_false_iff_not] at h39
   try simp only [Int.toNat_natCast, dflt_sl, dflt_st, dflt_str, dflt_int, dflt_bool] at h39
   refine acode_seq ?_
   refine acode_region ?_
   refine acode_cond rfl (fun h56 => ?_) (fun h56 => ?_)
   ·try simp only [decide_eq_true_eq] at h56
    try simp only [Int.toNat_natCast, dflt_sl, dflt_st, dflt_str, dflt_int, dflt_bool] at h56
    refine acode_seq ?_
    refine acode_region ?_
    refine Or.inr (Or.inl (Exists.intro [] (Exists.intro [0, 1] (Exists.intro _ (Exists.intro _ (Exists.intro _ (Exists.intro _ (Exists.intro _ (And.intro (hdl) (And.intro rfl (And.intro (And.intro (And.intro rfl rfl) (And.intro (And.intro rfl rfl) True.intro)) (And.intro rfl ?_))))))))))))
    refine acode_region ?_
    refine Or.inl ?_
    refine And.intro (rfl) ?_
    refine Exists.intro _ (And.intro (hrf) ?_)
    refine acode_seq ?_
    refine acode_region ?_
    refine Or.inr (Or.inr (Or.inl ?_))
    refine And.intro rfl ?_
    refine Exists.intro _ (And.intro (hfl) ?_)
    refine acode_seq ?_
    refine acode_region ?_
    refine Or.inr (Or.inl (Exists.intro [] (Exists.intro [5] (Exists.intro _ (Exists.intro _ (Exists.intro _ (Exists.intro _ (Exists.intro _ (And.intro (hsp) (And.intro rfl (And.intro (And.intro (And.intro rfl rfl) True.intro) (And.intro rfl ?_))))))))))))
    refine acode_seq ?_
    refine acode_ord rfl ?_
    refine aord_light 1 rfl rfl rfl (by kernel_rfl) ?_
    refine aord_light 2 rfl rfl rfl (by kernel_rfl) ?_
    refine aord_lightG 3 rfl rfl rfl (by kernel_rfl) ?_
    refine And.intro (fun h => trivial) ?_
    refine aord_lightG 5 rfl rfl rfl (by kernel_rfl) ?_
    refine And.intro (fun h => trivial) ?_
    refine aord_all [0, 4] (by kernel_rfl) rfl ?_
    refine And.intro ?_ ?_
    ·refine aord_all [4] (by kernel_rfl) rfl ?_
     refine Or.inl ?_
     refine And.intro (rfl) ?_
     refine Exists.intro _ (And.intro (fun h => ⟨⟨⟨h, trivial⟩, trivial⟩, num_errno 7 (by decide)⟩) ?_)
     refine aord_lightG 6 rfl rfl rfl (by kernel_rfl) ?_
     refine And.intro (fun h => ⟨⟨h, trivial⟩, ⟨h, trivial⟩, trivial⟩) ?_
     refine aord_light 7 rfl rfl rfl (by kernel_rfl) ?_
     refine And.intro (by exact fun h => h) ?_
     refine aord_light 8 rfl rfl rfl (by kernel_rfl) ?_
     refine aord_lightG 9 rfl rfl rfl (by kernel_rfl) ?_
     refine And.intro (fun h => trivial) ?_
     refine aord_lightG 11 rfl rfl rfl (by kernel_rfl) ?_
     refine And.intro (fun h => trivial) ?_
     refine aord_all [10] (by kernel_rfl) rfl ?_
     refine Or.inl ?_
     refine And.intro (rfl) ?_
     refine Exists.intro _ (And.intro (fun h => ⟨⟨⟨h, trivial⟩, trivial⟩, at_errno 7⟩) ?_)
     refine aord_lightG 12 rfl rfl rfl (by kernel_rfl) ?_
     refine And.intro (fun h => ⟨⟨h, trivial⟩, ⟨h, trivial⟩, trivial⟩) ?_
     refine aord_light 13 rfl rfl rfl (by kernel_rfl) ?_
     refine And.intro (by exact fun h => h) ?_
     refine aord_light 14 rfl rfl rfl (by kernel_rfl) ?_
     refine aord_lightG 15 rfl rfl rfl (by kernel_rfl) ?_
     refine And.intro (fun h => trivial) ?_
     refine aord_lightG 16 rfl rfl rfl (by kernel_rfl) ?_
     refine And.intro (fun h => trivial) ?_
     refine aord_lightG 17 rfl rfl rfl (by kernel_rfl) ?_
     refine And.intro (fun h => ⟨⟨h, trivial⟩, ⟨h, trivial⟩, trivial⟩) ?_
     refine aord_light 18 rfl rfl rfl (by kernel_rfl) ?_
     refine And.intro (by exact fun h => h) ?_
     refine aord_all [19] (by kernel_rfl) rfl ?_
     refine aord_light 20 rfl rfl rfl (by kernel_rfl) ?_
     refine aord_done (by kernel_rfl) ?_
     refine acode_ret ?_
     exact ⟨rfl, ⟨rfl, rfl⟩, rfl⟩
    ·refine Or.inl ?_
     refine And.intro (rfl) ?_
     refine Exists.intro _ (And.intro (fun h => ⟨⟨⟨h, trivial⟩, trivial⟩, num_errno 7 (by decide)⟩) ?_)
     refine aord_lightG 6 rfl rfl rfl (by kernel_rfl) ?_
     refine And.intro (fun h => ⟨⟨h, trivial⟩, ⟨h, trivial⟩, trivial⟩) ?_
     refine aord_light 7 rfl rfl rfl (by kernel_rfl) ?_
     refine And.intro (by exact fun h => h) ?_
     refine aord_light 8 rfl rfl rfl (by kernel_rfl) ?_
     refine aord_lightG 9 rfl rfl rfl (by kernel_rfl) ?_
     refine And.intro (fun h => trivial) ?_
     refine aord_lightG 11 rfl rfl rfl (by kernel_rfl) ?_
     refine And.intro (fun h => trivial) ?_
     refine aord_all [0, 10] (by kernel_rfl) rfl ?_
     refine And.intro ?_ ?_
     ·refine aord_all [10] (by kernel_rfl) rfl ?_
      refine Or.inl ?_
      refine And.intro (rfl) ?_
      refine Exists.intro _ (And.intro (fun h => ⟨⟨⟨h, trivial⟩, trivial⟩, at_errno 7⟩) ?_)
      refine aord_lightG 12 rfl rfl rfl (by kernel_rfl) ?_
      refine And.intro (fun h => ⟨⟨h, trivial⟩, ⟨h, trivial⟩, trivial⟩) ?_
      refine aord_light 13 rfl rfl rfl (by kernel_rfl) ?_
      refine And.intro (by exact fun h => h) ?_
      refine aord_light 14 rfl rfl rfl (by kernel_rfl) ?_
      refine aord_lightG 15 rfl rfl rfl (by kernel_rfl) ?_
      refine And.intro (fun h => trivial) ?_
      refine aord_lightG 16 rfl rfl rfl (by kernel_rfl) ?_
      refine And.intro (fun h => trivial) ?_
      refine aord_lightG 17 rfl rfl rfl (by kernel_rfl) ?_
      refine And.intro (fun h => ⟨⟨h, trivial⟩, ⟨h, trivial⟩, trivial⟩) ?_
      refine aord_light 18 rfl rfl rfl (by kernel_rfl) ?_
      refine And.intro (by exact fun h => h) ?_
      refine aord_all [19] (by kernel_rfl) rfl ?_
      refine aord_light 20 rfl rfl rfl (by kernel_rfl) ?_
      refine aord_done (by kernel_rfl) ?_
      refine acode_ret ?_
      exact ⟨rfl, ⟨rfl, rfl⟩, rfl⟩
     ·refine Or.inl ?_
      refine And.intro (rfl) ?_
      refine Exists.intro _ (And.intro (fun h => ⟨⟨⟨h, trivial⟩, trivial⟩, at_errno 7⟩) ?_)
      refine aord_lightG 12 rfl rfl rfl (by kernel_rfl) ?_
      refine And.intro (fun h => ⟨⟨h, trivial⟩, ⟨h, trivial⟩, trivial⟩) ?_
      refine aord_light 13 rfl rfl rfl (by kernel_rfl) ?_
      refine And.intro (by exact fun h => h) ?_
      refine aord_light 14 rfl rfl rfl (by kernel_rfl) ?_
      refine aord_lightG 15 rfl rfl rfl (by kernel_rfl) ?_
      refine And.intro (fun h => trivial) ?_
      refine aord_lightG 16 rfl rfl rfl (by kernel_rfl) ?_
      refine And.intro (fun h => trivial) ?_
      refine aord_lightG 17 rfl rfl rfl (by kernel_rfl) ?_
      refine And.intro (fun h => ⟨⟨h, trivial⟩, ⟨h, trivial⟩, trivial⟩) ?_
      refine aord_light 18 rfl rfl rfl (by kernel_rfl) ?_
      refine And.intro (by exact fun h => h) ?_
      refine aord_all [0] (by kernel_rfl) rfl ?_
      refine aord_all [19] (by kernel_rfl) rfl ?_
      refine aord_light 20 rfl rfl rfl (by kernel_rfl) ?_
      refine aord_done (by kernel_rfl) ?_
      refine acode_ret ?_
      exact ⟨rfl, ⟨rfl, rfl⟩, rfl⟩
   ·try simp only [decide_eq_false_iff_not] at h56
    try simp only [Int.toNat_natCast, dflt_sl, dflt_st, dflt_str, dflt_int, dflt_bool] at h56
    simp at h56
theorem doDel_ok (es : List Ent) (n m id : Int) (f : List Fld) (ms : List Ent) (mn : Int) (hf : FldsOk f) (hml : ms.length ≤ 1000000) (i : Nat) (hi : i < es.length) (h : atE es id = i) (hm : 0 ≤ m ∧ m ≤ 1000000) (hl : es.length ≤ 1000000) : ACallO Tryz.prog 36 [.one (.own 0 0), .agg (toL rRL (ms, mn)), .agg (toL rEdt ((2 : Int), id, f))] (lsO (es, n, m)) 2 (.tup [(true, toL rRL (refDel (ms, mn) id).1), (false, [.lit (.bool (doB 0 (-9) 0 (refDel (ms, mn) id).2 (-9) 0))])]) (lsO (delE es i, n, m - 1)) 2 := by
  have hfl := fieldsk_c (κ := 1) f f
  rw [decide_eq_true rfl] at hfl
  have hcp := copiesF_o f (Nat.le_trans hf.1 (by decide))
  have hsp := spoilF_o f (Nat.le_trans hf.1 (by decide))
  have hdl := lDel_ok es n m id i hi h hm hl
  have hrf := refDel_c ms mn id hml
  refine acallo_ofc (t := 6) (ty := 63) (u := 7) Tryz.func36 rfl rfl rfl teOk rfl rfl ?_
  refine acode_seq ?_
  refine acode_region ?_
  refine acode_seq ?_
  refine acode_region ?_
  refine Or.inr (Or.inl (Exists.intro [] (Exists.intro [] (Exists.intro _ (Exists.intro _ (Exists.intro _ (Exists.intro _ (Exists.intro _ (And.intro (hcp) (And.intro rfl (And.intro True.intro (And.intro rfl ?_))))))))))))
  refine acode_seq ?_
  refine acode_region ?_
  refine acode_seq ?_
  refine acode_region ?_
  refine acode_seq ?_
  refine acode_seq ?_
  refine acode_region ?_
  refine acode_block ?_
  refine acode_seq ?_
  refine acode_region ?_
  refine acode_cond rfl (fun h39 => ?_) (fun h39 => ?_)
  ·try simp only [decide_eq_true_eq] at h39
   try simp only [Int.toNat_natCast, dflt_sl, dflt_st, dflt_str, dflt_int, dflt_bool] at h39
   simp at h39
  ·try simp only [decide_eq_false_iff_not] at h39
   try simp only [Int.toNat_natCast, dflt_sl, dflt_st, dflt_str, dflt_int, dflt_bool] at h39
   refine acode_seq ?_
   refine acode_region ?_
   refine acode_cond rfl (fun h56 => ?_) (fun h56 => ?_)
   ·try simp only [decide_eq_true_eq] at h56
    try simp only [Int.toNat_natCast, dflt_sl, dflt_st, dflt_str, dflt_int, dflt_bool] at h56
    refine acode_seq ?_
    refine acode_region ?_
    refine Or.inr (Or.inl (Exists.intro [] (Exists.intro [0, 1] (Exists.intro _ (Exists.intro _ (Exists.intro _ (Exists.intro _ (Exists.intro _ (And.intro (hdl) (And.intro rfl (And.intro (And.intro (And.intro rfl rfl) (And.intro (And.intro rfl rfl) True.intro)) (And.intro rfl ?_))))))))))))
    refine acode_region ?_
    refine Or.inl ?_
    refine And.intro (rfl) ?_
    refine Exists.intro _ (And.intro (hrf) ?_)
    refine acode_seq ?_
    refine acode_region ?_
    refine Or.inr (Or.inr (Or.inl ?_))
    refine And.intro rfl ?_
    refine Exists.intro _ (And.intro (hfl) ?_)
    refine acode_seq ?_
    refine acode_region ?_
    refine Or.inr (Or.inl (Exists.intro [] (Exists.intro [5] (Exists.intro _ (Exists.intro _ (Exists.intro _ (Exists.intro _ (Exists.intro _ (And.intro (hsp) (And.intro rfl (And.intro (And.intro (And.intro rfl rfl) True.intro) (And.intro rfl ?_))))))))))))
    refine acode_seq ?_
    refine acode_ord rfl ?_
    refine aord_light 1 rfl rfl rfl (by kernel_rfl) ?_
    refine aord_light 2 rfl rfl rfl (by kernel_rfl) ?_
    refine aord_lightG 3 rfl rfl rfl (by kernel_rfl) ?_
    refine And.intro (fun h => trivial) ?_
    refine aord_lightG 5 rfl rfl rfl (by kernel_rfl) ?_
    refine And.intro (fun h => trivial) ?_
    refine aord_all [0, 4] (by kernel_rfl) rfl ?_
    refine And.intro ?_ ?_
    ·refine aord_all [4] (by kernel_rfl) rfl ?_
     refine Or.inl ?_
     refine And.intro (rfl) ?_
     refine Exists.intro _ (And.intro (fun h => ⟨⟨⟨h, trivial⟩, trivial⟩, num_nil⟩) ?_)
     refine aord_lightG 6 rfl rfl rfl (by kernel_rfl) ?_
     refine And.intro (fun h => ⟨⟨h, trivial⟩, ⟨h, trivial⟩, trivial⟩) ?_
     refine aord_light 7 rfl rfl rfl (by kernel_rfl) ?_
     refine And.intro (by exact fun h => h) ?_
     refine aord_light 8 rfl rfl rfl (by kernel_rfl) ?_
     refine aord_lightG 9 rfl rfl rfl (by kernel_rfl) ?_
     refine And.intro (fun h => trivial) ?_
     refine aord_lightG 11 rfl rfl rfl (by kernel_rfl) ?_
     refine And.intro (fun h => trivial) ?_
     refine aord_all [10] (by kernel_rfl) rfl ?_
     refine Or.inl ?_
     refine And.intro (rfl) ?_
     refine Exists.intro _ (And.intro (fun h => ⟨⟨⟨h, trivial⟩, trivial⟩, at_nil⟩) ?_)
     refine aord_lightG 12 rfl rfl rfl (by kernel_rfl) ?_
     refine And.intro (fun h => ⟨⟨h, trivial⟩, ⟨h, trivial⟩, trivial⟩) ?_
     refine aord_light 13 rfl rfl rfl (by kernel_rfl) ?_
     refine And.intro (by exact fun h => h) ?_
     refine aord_light 14 rfl rfl rfl (by kernel_rfl) ?_
     refine aord_lightG 15 rfl rfl rfl (by kernel_rfl) ?_
     refine And.intro (fun h => trivial) ?_
     refine aord_lightG 16 rfl rfl rfl (by kernel_rfl) ?_
     refine And.intro (fun h => trivial) ?_
     refine aord_lightG 17 rfl rfl rfl (by kernel_rfl) ?_
     refine And.intro (fun h => ⟨⟨h, trivial⟩, ⟨h, trivial⟩, trivial⟩) ?_
     refine aord_light 18 rfl rfl rfl (by kernel_rfl) ?_
     refine And.intro (by exact fun h => h) ?_
     refine aord_all [19] (by kernel_rfl) rfl ?_
     refine aord_light 20 rfl rfl rfl (by kernel_rfl) ?_
     refine aord_done (by kernel_rfl) ?_
     refine acode_ret ?_
     exact ⟨rfl, ⟨rfl, rfl⟩, rfl⟩
    ·refine Or.inl ?_
     refine And.intro (rfl) ?_
     refine Exists.intro _ (And.intro (fun h => ⟨⟨⟨h, trivial⟩, trivial⟩, num_nil⟩) ?_)
     refine aord_lightG 6 rfl rfl rfl (by kernel_rfl) ?_
     refine And.intro (fun h => ⟨⟨h, trivial⟩, ⟨h, trivial⟩, trivial⟩) ?_
     refine aord_light 7 rfl rfl rfl (by kernel_rfl) ?_
     refine And.intro (by exact fun h => h) ?_
     refine aord_light 8 rfl rfl rfl (by kernel_rfl) ?_
     refine aord_lightG 9 rfl rfl rfl (by kernel_rfl) ?_
     refine And.intro (fun h => trivial) ?_
     refine aord_lightG 11 rfl rfl rfl (by kernel_rfl) ?_
     refine And.intro (fun h => trivial) ?_
     refine aord_all [0, 10] (by kernel_rfl) rfl ?_
     refine And.intro ?_ ?_
     ·refine aord_all [10] (by kernel_rfl) rfl ?_
      refine Or.inl ?_
      refine And.intro (rfl) ?_
      refine Exists.intro _ (And.intro (fun h => ⟨⟨⟨h, trivial⟩, trivial⟩, at_nil⟩) ?_)
      refine aord_lightG 12 rfl rfl rfl (by kernel_rfl) ?_
      refine And.intro (fun h => ⟨⟨h, trivial⟩, ⟨h, trivial⟩, trivial⟩) ?_
      refine aord_light 13 rfl rfl rfl (by kernel_rfl) ?_
      refine And.intro (by exact fun h => h) ?_
      refine aord_light 14 rfl rfl rfl (by kernel_rfl) ?_
      refine aord_lightG 15 rfl rfl rfl (by kernel_rfl) ?_
      refine And.intro (fun h => trivial) ?_
      refine aord_lightG 16 rfl rfl rfl (by kernel_rfl) ?_
      refine And.intro (fun h => trivial) ?_
      refine aord_lightG 17 rfl rfl rfl (by kernel_rfl) ?_
      refine And.intro (fun h => ⟨⟨h, trivial⟩, ⟨h, trivial⟩, trivial⟩) ?_
      refine aord_light 18 rfl rfl rfl (by kernel_rfl) ?_
      refine And.intro (by exact fun h => h) ?_
      refine aord_all [19] (by kernel_rfl) rfl ?_
      refine aord_light 20 rfl rfl rfl (by kernel_rfl) ?_
      refine aord_done (by kernel_rfl) ?_
      refine acode_ret ?_
      exact ⟨rfl, ⟨rfl, rfl⟩, rfl⟩
     ·refine Or.inl ?_
      refine And.intro (rfl) ?_
      refine Exists.intro _ (And.intro (fun h => ⟨⟨⟨h, trivial⟩, trivial⟩, at_nil⟩) ?_)
      refine aord_lightG 12 rfl rfl rfl (by kernel_rfl) ?_
      refine And.intro (fun h => ⟨⟨h, trivial⟩, ⟨h, trivial⟩, trivial⟩) ?_
      refine aord_light 13 rfl rfl rfl (by kernel_rfl) ?_
      refine And.intro (by exact fun h => h) ?_
      refine aord_light 14 rfl rfl rfl (by kernel_rfl) ?_
      refine aord_lightG 15 rfl rfl rfl (by kernel_rfl) ?_
      refine And.intro (fun h => trivial) ?_
      refine aord_lightG 16 rfl rfl rfl (by kernel_rfl) ?_
      refine And.intro (fun h => trivial) ?_
      refine aord_lightG 17 rfl rfl rfl (by kernel_rfl) ?_
      refine And.intro (fun h => ⟨⟨h, trivial⟩, ⟨h, trivial⟩, trivial⟩) ?_
      refine aord_light 18 rfl rfl rfl (by kernel_rfl) ?_
      refine And.intro (by exact fun h => h) ?_
      refine aord_all [0] (by kernel_rfl) rfl ?_
      refine aord_all [19] (by kernel_rfl) rfl ?_
      refine aord_light 20 rfl rfl rfl (by kernel_rfl) ?_
      refine aord_done (by kernel_rfl) ?_
      refine acode_ret ?_
      exact ⟨rfl, ⟨rfl, rfl⟩, rfl⟩
   ·try simp only [decide_eq_false_iff_not] at h56
    try simp only [Int.toNat_natCast, dflt_sl, dflt_st, dflt_str, dflt_int, dflt_bool] at h56
    simp at h56
theorem doRep_no (es : List Ent) (n m id : Int) (f : List Fld) (ms : List Ent) (mn : Int) (hf : FldsOk f) (hml : ms.length ≤ 1000000) (h : atE es id < 0) : ACallO Tryz.prog 36 [.one (.own 0 0), .agg (toL rRL (ms, mn)), .agg (toL rEdt ((1 : Int), id, f))] (lsO (es, n, m)) 2 (.tup [(true, toL rRL (refRep (ms, mn) id f).1), (false, [.lit (.bool (doB 7 (-9) 0 (refRep (ms, mn) id f).2.2 (refRep (ms, mn) id f).2.1 0))])]) (lsO (es, n, m)) 2 := by
  have hfl := fieldsk_c (κ := 1) f f
  rw [decide_eq_true rfl] at hfl
  have hcp := copiesF_o f (Nat.le_trans hf.1 (by decide))
  have hsp := spoilF_o f (Nat.le_trans hf.1 (by decide))
  have hrp := (lRep_no (κ := 1) es n m id f h).x
  have hrf := refRep_c ms mn id f hf hml
  refine acallo_ofc (t := 6) (ty := 63) (u := 7) Tryz.func36 rfl rfl rfl teOk rfl rfl ?_
  refine acode_seq ?_
  refine acode_region ?_
  refine acode_seq ?_
  refine acode_region ?_
  refine Or.inr (Or.inl (Exists.intro [] (Exists.intro [] (Exists.intro _ (Exists.intro _ (Exists.intro _ (Exists.intro _ (Exists.intro _ (And.intro (hcp) (And.intro rfl (And.intro True.intro (And.intro rfl ?_))))))))))))
  refine acode_seq ?_
  refine acode_region ?_
  refine acode_seq ?_
  refine acode_region ?_
  refine acode_seq ?_
  refine acode_seq ?_
  refine acode_region ?_
  refine acode_block ?_
  refine acode_seq ?_
  refine acode_region ?_
  refine acode_cond rfl (fun h39 => ?_) (fun h39 => ?_)
  ·try simp only [decide_eq_true_eq] at h39
   try simp only [Int.toNat_natCast, dflt_sl, dflt_st, dflt_str, dflt_int, dflt_bool] at h39
   refine acode_seq ?_
   refine acode_region ?_
   refine Or.inr (Or.inr (Or.inr (Exists.intro [0, 1] (Exists.intro [] (Exists.intro _ (Exists.intro _ (Exists.intro _ (Exists.intro _ (Exists.intro _ (And.intro (hrp) (And.intro rfl (And.intro (And.intro (And.intro rfl rfl) (And.intro (And.intro rfl rfl) True.intro)) (And.intro rfl ?_)))))))))))))
   refine acode_region ?_
   refine Or.inl ?_
   refine And.intro (rfl) ?_
   refine Exists.intro _ (And.intro (hrf) ?_)
   refine acode_seq ?_
   refine acode_region ?_
   refine Or.inr (Or.inr (Or.inl ?_))
   refine And.intro rfl ?_
   refine Exists.intro _ (And.intro (hfl) ?_)
   refine acode_seq ?_
   refine acode_region ?_
   refine Or.inr (Or.inl (Exists.intro [] (Exists.intro [5] (Exists.intro _ (Exists.intro _ (Exists.intro _ (Exists.intro _ (Exists.intro _ (And.intro (hsp) (And.intro rfl (And.intro (And.intro (And.intro rfl rfl) True.intro) (And.intro rfl ?_))))))))))))
   refine acode_seq ?_
   refine acode_ord rfl ?_
   refine aord_light 1 rfl rfl rfl (by kernel_rfl) ?_
   refine aord_light 2 rfl rfl rfl (by kernel_rfl) ?_
   refine aord_lightG 3 rfl rfl rfl (by kernel_rfl) ?_
   refine And.intro (fun h => trivial) ?_
   refine aord_lightG 5 rfl rfl rfl (by kernel_rfl) ?_
   refine And.intro (fun h => trivial) ?_
   refine aord_all [0, 4] (by kernel_rfl) rfl ?_
   refine And.intro ?_ ?_
   ·refine aord_all [4] (by kernel_rfl) rfl ?_
    refine Or.inl ?_
    refine And.intro (rfl) ?_
    refine Exists.intro _ (And.intro (fun h => ⟨⟨⟨h, trivial⟩, trivial⟩, num_errno 7 (by decide)⟩) ?_)
    refine aord_lightG 6 rfl rfl rfl (by kernel_rfl) ?_
    refine And.intro (fun h => ⟨⟨h, trivial⟩, ⟨h, trivial⟩, trivial⟩) ?_
    refine aord_light 7 rfl rfl rfl (by kernel_rfl) ?_
    refine And.intro (by exact fun h => h) ?_
    refine aord_light 8 rfl rfl rfl (by kernel_rfl) ?_
    refine aord_lightG 9 rfl rfl rfl (by kernel_rfl) ?_
    refine And.intro (fun h => trivial) ?_
    refine aord_lightG 11 rfl rfl rfl (by kernel_rfl) ?_
    refine And.intro (fun h => trivial) ?_
    refine aord_all [10] (by kernel_rfl) rfl ?_
    refine Or.inl ?_
    refine And.intro (rfl) ?_
    refine Exists.intro _ (And.intro (fun h => ⟨⟨⟨h, trivial⟩, trivial⟩, at_errno 7⟩) ?_)
    refine aord_lightG 12 rfl rfl rfl (by kernel_rfl) ?_
    refine And.intro (fun h => ⟨⟨h, trivial⟩, ⟨h, trivial⟩, trivial⟩) ?_
    refine aord_light 13 rfl rfl rfl (by kernel_rfl) ?_
    refine And.intro (by exact fun h => h) ?_
    refine aord_light 14 rfl rfl rfl (by kernel_rfl) ?_
    refine aord_lightG 15 rfl rfl rfl (by kernel_rfl) ?_
    refine And.intro (fun h => trivial) ?_
    refine aord_lightG 16 rfl rfl rfl (by kernel_rfl) ?_
    refine And.intro (fun h => trivial) ?_
    refine aord_lightG 17 rfl rfl rfl (by kernel_rfl) ?_
    refine And.intro (fun h => ⟨⟨h, trivial⟩, ⟨h, trivial⟩, trivial⟩) ?_
    refine aord_light 18 rfl rfl rfl (by kernel_rfl) ?_
    refine And.intro (by exact fun h => h) ?_
    refine aord_all [19] (by kernel_rfl) rfl ?_
    refine aord_light 20 rfl rfl rfl (by kernel_rfl) ?_
    refine aord_done (by kernel_rfl) ?_
    refine acode_ret ?_
    exact ⟨rfl, ⟨rfl, rfl⟩, rfl⟩
   ·refine Or.inl ?_
    refine And.intro (rfl) ?_
    refine Exists.intro _ (And.intro (fun h => ⟨⟨⟨h, trivial⟩, trivial⟩, num_errno 7 (by decide)⟩) ?_)
    refine aord_lightG 6 rfl rfl rfl (by kernel_rfl) ?_
    refine And.intro (fun h => ⟨⟨h, trivial⟩, ⟨h, trivial⟩, trivial⟩) ?_
    refine aord_light 7 rfl rfl rfl (by kernel_rfl) ?_
    refine And.intro (by exact fun h => h) ?_
    refine aord_light 8 rfl rfl rfl (by kernel_rfl) ?_
    refine aord_lightG 9 rfl rfl rfl (by kernel_rfl) ?_
    refine And.intro (fun h => trivial) ?_
    refine aord_lightG 11 rfl rfl rfl (by kernel_rfl) ?_
    refine And.intro (fun h => trivial) ?_
    refine aord_all [0, 10] (by kernel_rfl) rfl ?_
    refine And.intro ?_ ?_
    ·refine aord_all [10] (by kernel_rfl) rfl ?_
     refine Or.inl ?_
     refine And.intro (rfl) ?_
     refine Exists.intro _ (And.intro (fun h => ⟨⟨⟨h, trivial⟩, trivial⟩, at_errno 7⟩) ?_)
     refine aord_lightG 12 rfl rfl rfl (by kernel_rfl) ?_
     refine And.intro (fun h => ⟨⟨h, trivial⟩, ⟨h, trivial⟩, trivial⟩) ?_
     refine aord_light 13 rfl rfl rfl (by kernel_rfl) ?_
     refine And.intro (by exact fun h => h) ?_
     refine aord_light 14 rfl rfl rfl (by kernel_rfl) ?_
     refine aord_lightG 15 rfl rfl rfl (by kernel_rfl) ?_
     refine And.intro (fun h => trivial) ?_
     refine aord_lightG 16 rfl rfl rfl (by kernel_rfl) ?_
     refine And.intro (fun h => trivial) ?_
     refine aord_lightG 17 rfl rfl rfl (by kernel_rfl) ?_
     refine And.intro (fun h => ⟨⟨h, trivial⟩, ⟨h, trivial⟩, trivial⟩) ?_
     refine aord_light 18 rfl rfl rfl (by kernel_rfl) ?_
     refine And.intro (by exact fun h => h) ?_
     refine aord_all [19] (by kernel_rfl) rfl ?_
     refine aord_light 20 rfl rfl rfl (by kernel_rfl) ?_
     refine aord_done (by kernel_rfl) ?_
     refine acode_ret ?_
     exact ⟨rfl, ⟨rfl, rfl⟩, rfl⟩
    ·refine Or.inl ?_
     refine And.intro (rfl) ?_
     refine Exists.intro _ (And.intro (fun h => ⟨⟨⟨h, trivial⟩, trivial⟩, at_errno 7⟩) ?_)
     refine aord_lightG 12 rfl rfl rfl (by kernel_rfl) ?_
     refine And.intro (fun h => ⟨⟨h, trivial⟩, ⟨h, trivial⟩, trivial⟩) ?_
     refine aord_light 13 rfl rfl rfl (by kernel_rfl) ?_
     refine And.intro (by exact fun h => h) ?_
     refine aord_light 14 rfl rfl rfl (by kernel_rfl) ?_
     refine aord_lightG 15 rfl rfl rfl (by kernel_rfl) ?_
     refine And.intro (fun h => trivial) ?_
     refine aord_lightG 16 rfl rfl rfl (by kernel_rfl) ?_
     refine And.intro (fun h => trivial) ?_
     refine aord_lightG 17 rfl rfl rfl (by kernel_rfl) ?_
     refine And.intro (fun h => ⟨⟨h, trivial⟩, ⟨h, trivial⟩, trivial⟩) ?_
     refine aord_light 18 rfl rfl rfl (by kernel_rfl) ?_
     refine And.intro (by exact fun h => h) ?_
     refine aord_all [0] (by kernel_rfl) rfl ?_
     refine aord_all [19] (by kernel_rfl) rfl ?_
     refine aord_light 20 rfl rfl rfl (by kernel_rfl) ?_
     refine aord_done (by kernel_rfl) ?_
     refine acode_ret ?_
     exact ⟨rfl, ⟨rfl, rfl⟩, rfl⟩
  ·try simp only [decide_eq_false_iff_not] at h39
   try simp only [Int.toNat_natCast, dflt_sl, dflt_st, dflt_str, dflt_int, dflt_bool] at h39
   simp at h39
theorem doRep_chk_n (es : List Ent) (n m id : Int) (f : List Fld) (ms : List Ent) (mn : Int) (hf : FldsOk f) (hml : ms.length ≤ 1000000) (h : 0 ≤ atE es id) (hc : (chkR f).2 ≠ 0) (k9 : Int) (hck : chkA f = errN k9) (h9 : k9 ≠ 0) : ACallO Tryz.prog 36 [.one (.own 0 0), .agg (toL rRL (ms, mn)), .agg (toL rEdt ((1 : Int), id, f))] (lsO (es, n, m)) 2 (.tup [(true, toL rRL (refRep (ms, mn) id f).1), (false, [.lit (.bool (doB k9 (-9) 0 (refRep (ms, mn) id f).2.2 (refRep (ms, mn) id f).2.1 0))])]) (lsO (es, n, m)) 2 := by
  have hfl := fieldsk_c (κ := 1) f f
  rw [decide_eq_true rfl] at hfl
  have hcp := copiesF_o f (Nat.le_trans hf.1 (by decide))
  have hsp := spoilF_o f (Nat.le_trans hf.1 (by decide))
  have hrp := (lRep_bad (κ := 1) es n m id f h hf hc).x
  rw [hck] at hrp
  have hrf := refRep_c ms mn id f hf hml
  refine acallo_ofc (t := 6) (ty := 63) (u := 7) Tryz.func36 rfl rfl rfl teOk rfl rfl ?_
  refine acode_seq ?_
  refine acode_region ?_
  refine acode_seq ?_
  refine acode_region ?_
  refine Or.inr (Or.inl (Exists.intro [] (Exists.intro [] (Exists.intro _ (Exists.intro _ (Exists.intro _ (Exists.intro _ (Exists.intro _ (And.intro (hcp) (And.intro rfl (And.intro True.intro (And.intro rfl ?_))))))))))))
  refine acode_seq ?_
  refine acode_region ?_
  refine acode_seq ?_
  refine acode_region ?_
  refine acode_seq ?_
  refine acode_seq ?_
  refine acode_region ?_
  refine acode_block ?_
  refine acode_seq ?_
  refine acode_region ?_
  refine acode_cond rfl (fun h39 => ?_) (fun h39 => ?_)
  ·try simp only [decide_eq_true_eq] at h39
   try simp only [Int.toNat_natCast, dflt_sl, dflt_st, dflt_str, dflt_int, dflt_bool] at h39
   refine acode_seq ?_
   refine acode_region ?_
   refine Or.inr (Or.inr (Or.inr (Exists.intro [0, 1] (Exists.intro [] (Exists.intro _ (Exists.intro _ (Exists.intro _ (Exists.intro _ (Exists.intro _ (And.intro (hrp) (And.intro rfl (And.intro (And.intro (And.intro rfl rfl) (And.intro (And.intro rfl rfl) True.intro)) (And.intro rfl ?_)))))))))))))
   refine acode_region ?_
   refine Or.inl ?_
   refine And.intro (rfl) ?_
   refine Exists.intro _ (And.intro (hrf) ?_)
   refine acode_seq ?_
   refine acode_region ?_
   refine Or.inr (Or.inr (Or.inl ?_))
   refine And.intro rfl ?_
   refine Exists.intro _ (And.intro (hfl) ?_)
   refine acode_seq ?_
   refine acode_region ?_
   refine Or.inr (Or.inl (Exists.intro [] (Exists.intro [5] (Exists.intro _ (Exists.intro _ (Exists.intro _ (Exists.intro _ (Exists.intro _ (And.intro (hsp) (And.intro rfl (And.intro (And.intro (And.intro rfl rfl) True.intro) (And.intro rfl ?_))))))))))))
   refine acode_seq ?_
   refine acode_ord rfl ?_
   refine aord_light 1 rfl rfl rfl (by kernel_rfl) ?_
   refine aord_light 2 rfl rfl rfl (by kernel_rfl) ?_
   refine aord_lightG 3 rfl rfl rfl (by kernel_rfl) ?_
   refine And.intro (fun h => trivial) ?_
   refine aord_lightG 5 rfl rfl rfl (by kernel_rfl) ?_
   refine And.intro (fun h => trivial) ?_
   refine aord_all [0, 4] (by kernel_rfl) rfl ?_
   refine And.intro ?_ ?_
   ·refine aord_all [4] (by kernel_rfl) rfl ?_
    refine Or.inl ?_
    refine And.intro (rfl) ?_
    refine Exists.intro _ (And.intro (fun h => ⟨⟨⟨h, trivial⟩, trivial⟩, num_errno k9 h9⟩) ?_)
    refine aord_lightG 6 rfl rfl rfl (by kernel_rfl) ?_
    refine And.intro (fun h => ⟨⟨h, trivial⟩, ⟨h, trivial⟩, trivial⟩) ?_
    refine aord_light 7 rfl rfl rfl (by kernel_rfl) ?_
    refine And.intro (by exact fun h => h) ?_
    refine aord_light 8 rfl rfl rfl (by kernel_rfl) ?_
    refine aord_lightG 9 rfl rfl rfl (by kernel_rfl) ?_
    refine And.intro (fun h => trivial) ?_
    refine aord_lightG 11 rfl rfl rfl (by kernel_rfl) ?_
    refine And.intro (fun h => trivial) ?_
    refine aord_all [10] (by kernel_rfl) rfl ?_
    refine Or.inl ?_
    refine And.intro (rfl) ?_
    refine Exists.intro _ (And.intro (fun h => ⟨⟨⟨h, trivial⟩, trivial⟩, at_errno k9⟩) ?_)
    refine aord_lightG 12 rfl rfl rfl (by kernel_rfl) ?_
    refine And.intro (fun h => ⟨⟨h, trivial⟩, ⟨h, trivial⟩, trivial⟩) ?_
    refine aord_light 13 rfl rfl rfl (by kernel_rfl) ?_
    refine And.intro (by exact fun h => h) ?_
    refine aord_light 14 rfl rfl rfl (by kernel_rfl) ?_
    refine aord_lightG 15 rfl rfl rfl (by kernel_rfl) ?_
    refine And.intro (fun h => trivial) ?_
    refine aord_lightG 16 rfl rfl rfl (by kernel_rfl) ?_
    refine And.intro (fun h => trivial) ?_
    refine aord_lightG 17 rfl rfl rfl (by kernel_rfl) ?_
    refine And.intro (fun h => ⟨⟨h, trivial⟩, ⟨h, trivial⟩, trivial⟩) ?_
    refine aord_light 18 rfl rfl rfl (by kernel_rfl) ?_
    refine And.intro (by exact fun h => h) ?_
    refine aord_all [19] (by kernel_rfl) rfl ?_
    refine aord_light 20 rfl rfl rfl (by kernel_rfl) ?_
    refine aord_done (by kernel_rfl) ?_
    refine acode_ret ?_
    exact ⟨rfl, ⟨rfl, rfl⟩, rfl⟩
   ·refine Or.inl ?_
    refine And.intro (rfl) ?_
    refine Exists.intro _ (And.intro (fun h => ⟨⟨⟨h, trivial⟩, trivial⟩, num_errno k9 h9⟩) ?_)
    refine aord_lightG 6 rfl rfl rfl (by kernel_rfl) ?_
    refine And.intro (fun h => ⟨⟨h, trivial⟩, ⟨h, trivial⟩, trivial⟩) ?_
    refine aord_light 7 rfl rfl rfl (by kernel_rfl) ?_
    refine And.intro (by exact fun h => h) ?_
    refine aord_light 8 rfl rfl rfl (by kernel_rfl) ?_
    refine aord_lightG 9 rfl rfl rfl (by kernel_rfl) ?_
    refine And.intro (fun h => trivial) ?_
    refine aord_lightG 11 rfl rfl rfl (by kernel_rfl) ?_
    refine And.intro (fun h => trivial) ?_
    refine aord_all [0, 10] (by kernel_rfl) rfl ?_
    refine And.intro ?_ ?_
    ·refine aord_all [10] (by kernel_rfl) rfl ?_
     refine Or.inl ?_
     refine And.intro (rfl) ?_
     refine Exists.intro _ (And.intro (fun h => ⟨⟨⟨h, trivial⟩, trivial⟩, at_errno k9⟩) ?_)
     refine aord_lightG 12 rfl rfl rfl (by kernel_rfl) ?_
     refine And.intro (fun h => ⟨⟨h, trivial⟩, ⟨h, trivial⟩, trivial⟩) ?_
     refine aord_light 13 rfl rfl rfl (by kernel_rfl) ?_
     refine And.intro (by exact fun h => h) ?_
     refine aord_light 14 rfl rfl rfl (by kernel_rfl) ?_
     refine aord_lightG 15 rfl rfl rfl (by kernel_rfl) ?_
     refine And.intro (fun h => trivial) ?_
     refine aord_lightG 16 rfl rfl rfl (by kernel_rfl) ?_
     refine And.intro (fun h => trivial) ?_
     refine aord_lightG 17 rfl rfl rfl (by kernel_rfl) ?_
     refine And.intro (fun h => ⟨⟨h, trivial⟩, ⟨h, trivial⟩, trivial⟩) ?_
     refine aord_light 18 rfl rfl rfl (by kernel_rfl) ?_
     refine And.intro (by exact fun h => h) ?_
     refine aord_all [19] (by kernel_rfl) rfl ?_
     refine aord_light 20 rfl rfl rfl (by kernel_rfl) ?_
     refine aord_done (by kernel_rfl) ?_
     refine acode_ret ?_
     exact ⟨rfl, ⟨rfl, rfl⟩, rfl⟩
    ·refine Or.inl ?_
     refine And.intro (rfl) ?_
     refine Exists.intro _ (And.intro (fun h => ⟨⟨⟨h, trivial⟩, trivial⟩, at_errno k9⟩) ?_)
     refine aord_lightG 12 rfl rfl rfl (by kernel_rfl) ?_
     refine And.intro (fun h => ⟨⟨h, trivial⟩, ⟨h, trivial⟩, trivial⟩) ?_
     refine aord_light 13 rfl rfl rfl (by kernel_rfl) ?_
     refine And.intro (by exact fun h => h) ?_
     refine aord_light 14 rfl rfl rfl (by kernel_rfl) ?_
     refine aord_lightG 15 rfl rfl rfl (by kernel_rfl) ?_
     refine And.intro (fun h => trivial) ?_
     refine aord_lightG 16 rfl rfl rfl (by kernel_rfl) ?_
     refine And.intro (fun h => trivial) ?_
     refine aord_lightG 17 rfl rfl rfl (by kernel_rfl) ?_
     refine And.intro (fun h => ⟨⟨h, trivial⟩, ⟨h, trivial⟩, trivial⟩) ?_
     refine aord_light 18 rfl rfl rfl (by kernel_rfl) ?_
     refine And.intro (by exact fun h => h) ?_
     refine aord_all [0] (by kernel_rfl) rfl ?_
     refine aord_all [19] (by kernel_rfl) rfl ?_
     refine aord_light 20 rfl rfl rfl (by kernel_rfl) ?_
     refine aord_done (by kernel_rfl) ?_
     refine acode_ret ?_
     exact ⟨rfl, ⟨rfl, rfl⟩, rfl⟩
  ·try simp only [decide_eq_false_iff_not] at h39
   try simp only [Int.toNat_natCast, dflt_sl, dflt_st, dflt_str, dflt_int, dflt_bool] at h39
   simp at h39
theorem doRep_chk_f (es : List Ent) (n m id : Int) (f : List Fld) (ms : List Ent) (mn : Int) (hf : FldsOk f) (hml : ms.length ≤ 1000000) (h : 0 ≤ atE es id) (hc : (chkR f).2 ≠ 0) (a9 k9 : Int) (hck : chkA f = errF a9 k9) (h9 : k9 ≠ 0) : ACallO Tryz.prog 36 [.one (.own 0 0), .agg (toL rRL (ms, mn)), .agg (toL rEdt ((1 : Int), id, f))] (lsO (es, n, m)) 2 (.tup [(true, toL rRL (refRep (ms, mn) id f).1), (false, [.lit (.bool (doB k9 a9 0 (refRep (ms, mn) id f).2.2 (refRep (ms, mn) id f).2.1 0))])]) (lsO (es, n, m)) 2 := by
  have hfl := fieldsk_c (κ := 1) f f
  rw [decide_eq_true rfl] at hfl
  have hcp := copiesF_o f (Nat.le_trans hf.1 (by decide))
  have hsp := spoilF_o f (Nat.le_trans hf.1 (by decide))
  have hrp := (lRep_bad (κ := 1) es n m id f h hf hc).x
  rw [hck] at hrp
  have hrf := refRep_c ms mn id f hf hml
  refine acallo_ofc (t := 6) (ty := 63) (u := 7) Tryz.func36 rfl rfl rfl teOk rfl rfl ?_
  refine acode_seq ?_
  refine acode_region ?_
  refine acode_seq ?_
  refine acode_region ?_
  refine Or.inr (Or.inl (Exists.intro [] (Exists.intro [] (Exists.intro _ (Exists.intro _ (Exists.intro _ (Exists.intro _ (Exists.intro _ (And.intro (hcp) (And.intro rfl (And.intro True.intro (And.intro rfl ?_))))))))))))
  refine acode_seq ?_
  refine acode_region ?_
  refine acode_seq ?_
  refine acode_region ?_
  refine acode_seq ?_
  refine acode_seq ?_
  refine acode_region ?_
  refine acode_block ?_
  refine acode_seq ?_
  refine acode_region ?_
  refine acode_cond rfl (fun h39 => ?_) (fun h39 => ?_)
  ·try simp only [decide_eq_true_eq] at h39
   try simp only [Int.toNat_natCast, dflt_sl, dflt_st, dflt_str, dflt_int, dflt_bool] at h39
   refine acode_seq ?_
   refine acode_region ?_
   refine Or.inr (Or.inr (Or.inr (Exists.intro [0, 1] (Exists.intro [] (Exists.intro _ (Exists.intro _ (Exists.intro _ (Exists.intro _ (Exists.intro _ (And.intro (hrp) (And.intro rfl (And.intro (And.intro (And.intro rfl rfl) (And.intro (And.intro rfl rfl) True.intro)) (And.intro rfl ?_)))))))))))))
   refine acode_region ?_
   refine Or.inl ?_
   refine And.intro (rfl) ?_
   refine Exists.intro _ (And.intro (hrf) ?_)
   refine acode_seq ?_
   refine acode_region ?_
   refine Or.inr (Or.inr (Or.inl ?_))
   refine And.intro rfl ?_
   refine Exists.intro _ (And.intro (hfl) ?_)
   refine acode_seq ?_
   refine acode_region ?_
   refine Or.inr (Or.inl (Exists.intro [] (Exists.intro [5] (Exists.intro _ (Exists.intro _ (Exists.intro _ (Exists.intro _ (Exists.intro _ (And.intro (hsp) (And.intro rfl (And.intro (And.intro (And.intro rfl rfl) True.intro) (And.intro rfl ?_))))))))))))
   refine acode_seq ?_
   refine acode_ord rfl ?_
   refine aord_light 1 rfl rfl rfl (by kernel_rfl) ?_
   refine aord_light 2 rfl rfl rfl (by kernel_rfl) ?_
   refine aord_lightG 3 rfl rfl rfl (by kernel_rfl) ?_
   refine And.intro (fun h => trivial) ?_
   refine aord_lightG 5 rfl rfl rfl (by kernel_rfl) ?_
   refine And.intro (fun h => trivial) ?_
   refine aord_all [0, 4] (by kernel_rfl) rfl ?_
   refine And.intro ?_ ?_
   ·refine aord_all [4] (by kernel_rfl) rfl ?_
    refine Or.inl ?_
    refine And.intro (rfl) ?_
    refine Exists.intro _ (And.intro (fun h => ⟨⟨⟨h, trivial⟩, trivial⟩, num_fault a9 k9 h9⟩) ?_)
    refine aord_lightG 6 rfl rfl rfl (by kernel_rfl) ?_
    refine And.intro (fun h => ⟨⟨h, trivial⟩, ⟨h, trivial⟩, trivial⟩) ?_
    refine aord_light 7 rfl rfl rfl (by kernel_rfl) ?_
    refine And.intro (by exact fun h => h) ?_
    refine aord_light 8 rfl rfl rfl (by kernel_rfl) ?_
    refine aord_lightG 9 rfl rfl rfl (by kernel_rfl) ?_
    refine And.intro (fun h => trivial) ?_
    refine aord_lightG 11 rfl rfl rfl (by kernel_rfl) ?_
    refine And.intro (fun h => trivial) ?_
    refine aord_all [10] (by kernel_rfl) rfl ?_
    refine Or.inl ?_
    refine And.intro (rfl) ?_
    refine Exists.intro _ (And.intro (fun h => ⟨⟨⟨h, trivial⟩, trivial⟩, at_fault a9 k9⟩) ?_)
    refine aord_lightG 12 rfl rfl rfl (by kernel_rfl) ?_
    refine And.intro (fun h => ⟨⟨h, trivial⟩, ⟨h, trivial⟩, trivial⟩) ?_
    refine aord_light 13 rfl rfl rfl (by kernel_rfl) ?_
    refine And.intro (by exact fun h => h) ?_
    refine aord_light 14 rfl rfl rfl (by kernel_rfl) ?_
    refine aord_lightG 15 rfl rfl rfl (by kernel_rfl) ?_
    refine And.intro (fun h => trivial) ?_
    refine aord_lightG 16 rfl rfl rfl (by kernel_rfl) ?_
    refine And.intro (fun h => trivial) ?_
    refine aord_lightG 17 rfl rfl rfl (by kernel_rfl) ?_
    refine And.intro (fun h => ⟨⟨h, trivial⟩, ⟨h, trivial⟩, trivial⟩) ?_
    refine aord_light 18 rfl rfl rfl (by kernel_rfl) ?_
    refine And.intro (by exact fun h => h) ?_
    refine aord_all [19] (by kernel_rfl) rfl ?_
    refine aord_light 20 rfl rfl rfl (by kernel_rfl) ?_
    refine aord_done (by kernel_rfl) ?_
    refine acode_ret ?_
    exact ⟨rfl, ⟨rfl, rfl⟩, rfl⟩
   ·refine Or.inl ?_
    refine And.intro (rfl) ?_
    refine Exists.intro _ (And.intro (fun h => ⟨⟨⟨h, trivial⟩, trivial⟩, num_fault a9 k9 h9⟩) ?_)
    refine aord_lightG 6 rfl rfl rfl (by kernel_rfl) ?_
    refine And.intro (fun h => ⟨⟨h, trivial⟩, ⟨h, trivial⟩, trivial⟩) ?_
    refine aord_light 7 rfl rfl rfl (by kernel_rfl) ?_
    refine And.intro (by exact fun h => h) ?_
    refine aord_light 8 rfl rfl rfl (by kernel_rfl) ?_
    refine aord_lightG 9 rfl rfl rfl (by kernel_rfl) ?_
    refine And.intro (fun h => trivial) ?_
    refine aord_lightG 11 rfl rfl rfl (by kernel_rfl) ?_
    refine And.intro (fun h => trivial) ?_
    refine aord_all [0, 10] (by kernel_rfl) rfl ?_
    refine And.intro ?_ ?_
    ·refine aord_all [10] (by kernel_rfl) rfl ?_
     refine Or.inl ?_
     refine And.intro (rfl) ?_
     refine Exists.intro _ (And.intro (fun h => ⟨⟨⟨h, trivial⟩, trivial⟩, at_fault a9 k9⟩) ?_)
     refine aord_lightG 12 rfl rfl rfl (by kernel_rfl) ?_
     refine And.intro (fun h => ⟨⟨h, trivial⟩, ⟨h, trivial⟩, trivial⟩) ?_
     refine aord_light 13 rfl rfl rfl (by kernel_rfl) ?_
     refine And.intro (by exact fun h => h) ?_
     refine aord_light 14 rfl rfl rfl (by kernel_rfl) ?_
     refine aord_lightG 15 rfl rfl rfl (by kernel_rfl) ?_
     refine And.intro (fun h => trivial) ?_
     refine aord_lightG 16 rfl rfl rfl (by kernel_rfl) ?_
     refine And.intro (fun h => trivial) ?_
     refine aord_lightG 17 rfl rfl rfl (by kernel_rfl) ?_
     refine And.intro (fun h => ⟨⟨h, trivial⟩, ⟨h, trivial⟩, trivial⟩) ?_
     refine aord_light 18 rfl rfl rfl (by kernel_rfl) ?_
     refine And.intro (by exact fun h => h) ?_
     refine aord_all [19] (by kernel_rfl) rfl ?_
     refine aord_light 20 rfl rfl rfl (by kernel_rfl) ?_
     refine aord_done (by kernel_rfl) ?_
     refine acode_ret ?_
     exact ⟨rfl, ⟨rfl, rfl⟩, rfl⟩
    ·refine Or.inl ?_
     refine And.intro (rfl) ?_
     refine Exists.intro _ (And.intro (fun h => ⟨⟨⟨h, trivial⟩, trivial⟩, at_fault a9 k9⟩) ?_)
     refine aord_lightG 12 rfl rfl rfl (by kernel_rfl) ?_
     refine And.intro (fun h => ⟨⟨h, trivial⟩, ⟨h, trivial⟩, trivial⟩) ?_
     refine aord_light 13 rfl rfl rfl (by kernel_rfl) ?_
     refine And.intro (by exact fun h => h) ?_
     refine aord_light 14 rfl rfl rfl (by kernel_rfl) ?_
     refine aord_lightG 15 rfl rfl rfl (by kernel_rfl) ?_
     refine And.intro (fun h => trivial) ?_
     refine aord_lightG 16 rfl rfl rfl (by kernel_rfl) ?_
     refine And.intro (fun h => trivial) ?_
     refine aord_lightG 17 rfl rfl rfl (by kernel_rfl) ?_
     refine And.intro (fun h => ⟨⟨h, trivial⟩, ⟨h, trivial⟩, trivial⟩) ?_
     refine aord_light 18 rfl rfl rfl (by kernel_rfl) ?_
     refine And.intro (by exact fun h => h) ?_
     refine aord_all [0] (by kernel_rfl) rfl ?_
     refine aord_all [19] (by kernel_rfl) rfl ?_
     refine aord_light 20 rfl rfl rfl (by kernel_rfl) ?_
     refine aord_done (by kernel_rfl) ?_
     refine acode_ret ?_
     exact ⟨rfl, ⟨rfl, rfl⟩, rfl⟩
  ·try simp only [decide_eq_false_iff_not] at h39
   try simp only [Int.toNat_natCast, dflt_sl, dflt_st, dflt_str, dflt_int, dflt_bool] at h39
   simp at h39
theorem doRep_ok (es : List Ent) (n m id : Int) (f : List Fld) (ms : List Ent) (mn : Int) (hf : FldsOk f) (hml : ms.length ≤ 1000000) (i : Nat) (hi : i < es.length) (h : atE es id = i) (hc : (chkR f).2 = 0) : ACallO Tryz.prog 36 [.one (.own 0 0), .agg (toL rRL (ms, mn)), .agg (toL rEdt ((1 : Int), id, f))] (lsO (es, n, m)) 2 (.tup [(true, toL rRL (refRep (ms, mn) id f).1), (false, [.lit (.bool (doB 0 (-9) 0 (refRep (ms, mn) id f).2.2 (refRep (ms, mn) id f).2.1 0))])]) (lsO (replE es i (itmOf f), n, m)) 2 := by
  have hfl := fieldsk_c (κ := 1) f f
  rw [decide_eq_true rfl] at hfl
  have hcp := copiesF_o f (Nat.le_trans hf.1 (by decide))
  have hsp := spoilF_o f (Nat.le_trans hf.1 (by decide))
  have hrp := (lRep_ok (κ := 1) es n m id f i hi h hf hc).x
  have hrf := refRep_c ms mn id f hf hml
  refine acallo_ofc (t := 6) (ty := 63) (u := 7) Tryz.func36 rfl rfl rfl teOk rfl rfl ?_
  refine acode_seq ?_
  refine acode_region ?_
  refine acode_seq ?_
  refine acode_region ?_
  refine Or.inr (Or.inl (Exists.intro [] (Exists.intro [] (Exists.intro _ (Exists.intro _ (Exists.intro _ (Exists.intro _ (Exists.intro _ (And.intro (hcp) (And.intro rfl (And.intro True.intro (And.intro rfl ?_))))))))))))
  refine acode_seq ?_
  refine acode_region ?_
  refine acode_seq ?_
  refine acode_region ?_
  refine acode_seq ?_
  refine acode_seq ?_
  refine acode_region ?_
  refine acode_block ?_
  refine acode_seq ?_
  refine acode_region ?_
  refine acode_cond rfl (fun h39 => ?_) (fun h39 => ?_)
  ·try simp only [decide_eq_true_eq] at h39
   try simp only [Int.toNat_natCast, dflt_sl, dflt_st, dflt_str, dflt_int, dflt_bool] at h39
   refine acode_seq ?_
   refine acode_region ?_
   refine Or.inr (Or.inr (Or.inr (Exists.intro [0, 1] (Exists.intro [] (Exists.intro _ (Exists.intro _ (Exists.intro _ (Exists.intro _ (Exists.intro _ (And.intro (hrp) (And.intro rfl (And.intro (And.intro (And.intro rfl rfl) (And.intro (And.intro rfl rfl) True.intro)) (And.intro rfl ?_)))))))))))))
   refine acode_region ?_
   refine Or.inl ?_
   refine And.intro (rfl) ?_
   refine Exists.intro _ (And.intro (hrf) ?_)
   refine acode_seq ?_
   refine acode_region ?_
   refine Or.inr (Or.inr (Or.inl ?_))
   refine And.intro rfl ?_
   refine Exists.intro _ (And.intro (hfl) ?_)
   refine acode_seq ?_
   refine acode_region ?_
   refine Or.inr (Or.inl (Exists.intro [] (Exists.intro [5] (Exists.intro _ (Exists.intro _ (Exists.intro _ (Exists.intro _ (Exists.intro _ (And.intro (hsp) (And.intro rfl (And.intro (And.intro (And.intro rfl rfl) True.intro) (And.intro rfl ?_))))))))))))
   refine acode_seq ?_
   refine acode_ord rfl ?_
   refine aord_light 1 rfl rfl rfl (by kernel_rfl) ?_
   refine aord_light 2 rfl rfl rfl (by kernel_rfl) ?_
   refine aord_lightG 3 rfl rfl rfl (by kernel_rfl) ?_
   refine And.intro (fun h => trivial) ?_
   refine aord_lightG 5 rfl rfl rfl (by kernel_rfl) ?_
   refine And.intro (fun h => trivial) ?_
   refine aord_all [0, 4] (by kernel_rfl) rfl ?_
   refine And.intro ?_ ?_
   ·refine aord_all [4] (by kernel_rfl) rfl ?_
    refine Or.inl ?_
    refine And.intro (rfl) ?_
    refine Exists.intro _ (And.intro (fun h => ⟨⟨⟨h, trivial⟩, trivial⟩, num_nil⟩) ?_)
    refine aord_lightG 6 rfl rfl rfl (by kernel_rfl) ?_
    refine And.intro (fun h => ⟨⟨h, trivial⟩, ⟨h, trivial⟩, trivial⟩) ?_
    refine aord_light 7 rfl rfl rfl (by kernel_rfl) ?_
    refine And.intro (by exact fun h => h) ?_
    refine aord_light 8 rfl rfl rfl (by kernel_rfl) ?_
    refine aord_lightG 9 rfl rfl rfl (by kernel_rfl) ?_
    refine And.intro (fun h => trivial) ?_
    refine aord_lightG 11 rfl rfl rfl (by kernel_rfl) ?_
    refine And.intro (fun h => trivial) ?_
    refine aord_all [10] (by kernel_rfl) rfl ?_
    refine Or.inl ?_
    refine And.intro (rfl) ?_
    refine Exists.intro _ (And.intro (fun h => ⟨⟨⟨h, trivial⟩, trivial⟩, at_nil⟩) ?_)
    refine aord_lightG 12 rfl rfl rfl (by kernel_rfl) ?_
    refine And.intro (fun h => ⟨⟨h, trivial⟩, ⟨h, trivial⟩, trivial⟩) ?_
    refine aord_light 13 rfl rfl rfl (by kernel_rfl) ?_
    refine And.intro (by exact fun h => h) ?_
    refine aord_light 14 rfl rfl rfl (by kernel_rfl) ?_
    refine aord_lightG 15 rfl rfl rfl (by kernel_rfl) ?_
    refine And.intro (fun h => trivial) ?_
    refine aord_lightG 16 rfl rfl rfl (by kernel_rfl) ?_
    refine And.intro (fun h => trivial) ?_
    refine aord_lightG 17 rfl rfl rfl (by kernel_rfl) ?_
    refine And.intro (fun h => ⟨⟨h, trivial⟩, ⟨h, trivial⟩, trivial⟩) ?_
    refine aord_light 18 rfl rfl rfl (by kernel_rfl) ?_
    refine And.intro (by exact fun h => h) ?_
    refine aord_all [19] (by kernel_rfl) rfl ?_
    refine aord_light 20 rfl rfl rfl (by kernel_rfl) ?_
    refine aord_done (by kernel_rfl) ?_
    refine acode_ret ?_
    exact ⟨rfl, ⟨rfl, rfl⟩, rfl⟩
   ·refine Or.inl ?_
    refine And.intro (rfl) ?_
    refine Exists.intro _ (And.intro (fun h => ⟨⟨⟨h, trivial⟩, trivial⟩, num_nil⟩) ?_)
    refine aord_lightG 6 rfl rfl rfl (by kernel_rfl) ?_
    refine And.intro (fun h => ⟨⟨h, trivial⟩, ⟨h, trivial⟩, trivial⟩) ?_
    refine aord_light 7 rfl rfl rfl (by kernel_rfl) ?_
    refine And.intro (by exact fun h => h) ?_
    refine aord_light 8 rfl rfl rfl (by kernel_rfl) ?_
    refine aord_lightG 9 rfl rfl rfl (by kernel_rfl) ?_
    refine And.intro (fun h => trivial) ?_
    refine aord_lightG 11 rfl rfl rfl (by kernel_rfl) ?_
    refine And.intro (fun h => trivial) ?_
    refine aord_all [0, 10] (by kernel_rfl) rfl ?_
    refine And.intro ?_ ?_
    ·refine aord_all [10] (by kernel_rfl) rfl ?_
     refine Or.inl ?_
     refine And.intro (rfl) ?_
     refine Exists.intro _ (And.intro (fun h => ⟨⟨⟨h, trivial⟩, trivial⟩, at_nil⟩) ?_)
     refine aord_lightG 12 rfl rfl rfl (by kernel_rfl) ?_
     refine And.intro (fun h => ⟨⟨h, trivial⟩, ⟨h, trivial⟩, trivial⟩) ?_
     refine aord_light 13 rfl rfl rfl (by kernel_rfl) ?_
     refine And.intro (by exact fun h => h) ?_
     refine aord_light 14 rfl rfl rfl (by kernel_rfl) ?_
     refine aord_lightG 15 rfl rfl rfl (by kernel_rfl) ?_
     refine And.intro (fun h => trivial) ?_
     refine aord_lightG 16 rfl rfl rfl (by kernel_rfl) ?_
     refine And.intro (fun h => trivial) ?_
     refine aord_lightG 17 rfl rfl rfl (by kernel_rfl) ?_
     refine And.intro (fun h => ⟨⟨h, trivial⟩, ⟨h, trivial⟩, trivial⟩) ?_
     refine aord_light 18 rfl rfl rfl (by kernel_rfl) ?_
     refine And.intro (by exact fun h => h) ?_
     refine aord_all [19] (by kernel_rfl) rfl ?_
     refine aord_light 20 rfl rfl rfl (by kernel_rfl) ?_
     refine aord_done (by kernel_rfl) ?_
     refine acode_ret ?_
     exact ⟨rfl, ⟨rfl, rfl⟩, rfl⟩
    ·refine Or.inl ?_
     refine And.intro (rfl) ?_
     refine Exists.intro _ (And.intro (fun h => ⟨⟨⟨h, trivial⟩, trivial⟩, at_nil⟩) ?_)
     refine aord_lightG 12 rfl rfl rfl (by kernel_rfl) ?_
     refine And.intro (fun h => ⟨⟨h, trivial⟩, ⟨h, trivial⟩, trivial⟩) ?_
     refine aord_light 13 rfl rfl rfl (by kernel_rfl) ?_
     refine And.intro (by exact fun h => h) ?_
     refine aord_light 14 rfl rfl rfl (by kernel_rfl) ?_
     refine aord_lightG 15 rfl rfl rfl (by kernel_rfl) ?_
     refine And.intro (fun h => trivial) ?_
     refine aord_lightG 16 rfl rfl rfl (by kernel_rfl) ?_
     refine And.intro (fun h => trivial) ?_
     refine aord_lightG 17 rfl rfl rfl (by kernel_rfl) ?_
     refine And.intro (fun h => ⟨⟨h, trivial⟩, ⟨h, trivial⟩, trivial⟩) ?_
     refine aord_light 18 rfl rfl rfl (by kernel_rfl) ?_
     refine And.intro (by exact fun h => h) ?_
     refine aord_all [0] (by kernel_rfl) rfl ?_
     refine aord_all [19] (by kernel_rfl) rfl ?_
     refine aord_light 20 rfl rfl rfl (by kernel_rfl) ?_
     refine aord_done (by kernel_rfl) ?_
     refine acode_ret ?_
     exact ⟨rfl, ⟨rfl, rfl⟩, rfl⟩
  ·try simp only [decide_eq_false_iff_not] at h39
   try simp only [Int.toNat_natCast, dflt_sl, dflt_st, dflt_str, dflt_int, dflt_bool] at h39
   simp at h39
theorem doIns_no (es : List Ent) (n m id : Int) (f : List Fld) (ms : List Ent) (mn : Int) (hf : FldsOk f) (hml : ms.length ≤ 1000000) (k : Int) (hk1 : k ≠ 1) (hk2 : k ≠ 2) (hmn : 0 ≤ mn ∧ mn ≤ 1000000000) (h : atE es id < 0) (h0 : id ≠ 0) : ACallO Tryz.prog 36 [.one (.own 0 0), .agg (toL rRL (ms, mn)), .agg (toL rEdt ((k : Int), id, f))] (lsO (es, n, m)) 2 (.tup [(true, toL rRL (refIns (ms, mn) id f).1), (false, [.lit (.bool (doB 7 (-9) 0 (refIns (ms, mn) id f).2.2.2 (refIns (ms, mn) id f).2.2.1 (refIns (ms, mn) id f).2.1))])]) (lsO (es, n, m)) 2 := by
  have hfl := fieldsk_c (κ := 1) f f
  rw [decide_eq_true rfl] at hfl
  have hcp := copiesF_o f (Nat.le_trans hf.1 (by decide))
  have hsp := spoilF_o f (Nat.le_trans hf.1 (by decide))
  have hin := (lIns_no (κ := 1) es n m id f h h0).x
  have hrf := refIns_c ms mn id f hf hml hmn
  refine acallo_ofc (t := 6) (ty := 63) (u := 7) Tryz.func36 rfl rfl rfl teOk rfl rfl ?_
  refine acode_seq ?_
  refine acode_region ?_
  refine acode_seq ?_
  refine acode_region ?_
  refine Or.inr (Or.inl (Exists.intro [] (Exists.intro [] (Exists.intro _ (Exists.intro _ (Exists.intro _ (Exists.intro _ (Exists.intro _ (And.intro (hcp) (And.intro rfl (And.intro True.intro (And.intro rfl ?_))))))))))))
  refine acode_seq ?_
  refine acode_region ?_
  refine acode_seq ?_
  refine acode_region ?_
  refine acode_seq ?_
  refine acode_seq ?_
  refine acode_region ?_
  refine acode_block ?_
  refine acode_seq ?_
  refine acode_region ?_
  refine acode_cond rfl (fun h39 => ?_) (fun h39 => ?_)
  ·try simp only [decide_eq_true_eq] at h39
   try simp only [Int.toNat_natCast, dflt_sl, dflt_st, dflt_str, dflt_int, dflt_bool] at h39
   exact absurd h39 hk1
  ·try simp only [decide_eq_false_iff_not] at h39
   try simp only [Int.toNat_natCast, dflt_sl, dflt_st, dflt_str, dflt_int, dflt_bool] at h39
   refine acode_seq ?_
   refine acode_region ?_
   refine acode_cond rfl (fun h56 => ?_) (fun h56 => ?_)
   ·try simp only [decide_eq_true_eq] at h56
    try simp only [Int.toNat_natCast, dflt_sl, dflt_st, dflt_str, dflt_int, dflt_bool] at h56
    exact absurd h56 hk2
   ·try simp only [decide_eq_false_iff_not] at h56
    try simp only [Int.toNat_natCast, dflt_sl, dflt_st, dflt_str, dflt_int, dflt_bool] at h56
    refine acode_seq ?_
    refine acode_region ?_
    refine Or.inr (Or.inr (Or.inr (Exists.intro [0, 1] (Exists.intro [] (Exists.intro _ (Exists.intro _ (Exists.intro _ (Exists.intro _ (Exists.intro _ (And.intro (hin) (And.intro rfl (And.intro (And.intro (And.intro rfl rfl) (And.intro (And.intro rfl rfl) True.intro)) (And.intro rfl ?_)))))))))))))
    refine acode_region ?_
    refine Or.inl ?_
    refine And.intro (rfl) ?_
    refine Exists.intro _ (And.intro (hrf) ?_)
    refine acode_seq ?_
    refine acode_region ?_
    refine Or.inr (Or.inr (Or.inl ?_))
    refine And.intro rfl ?_
    refine Exists.intro _ (And.intro (hfl) ?_)
    refine acode_seq ?_
    refine acode_region ?_
    refine Or.inr (Or.inl (Exists.intro [] (Exists.intro [5] (Exists.intro _ (Exists.intro _ (Exists.intro _ (Exists.intro _ (Exists.intro _ (And.intro (hsp) (And.intro rfl (And.intro (And.intro (And.intro rfl rfl) True.intro) (And.intro rfl ?_))))))))))))
    refine acode_seq ?_
    refine acode_ord rfl ?_
    refine aord_light 1 rfl rfl rfl (by kernel_rfl) ?_
    refine aord_light 2 rfl rfl rfl (by kernel_rfl) ?_
    refine aord_lightG 3 rfl rfl rfl (by kernel_rfl) ?_
    refine And.intro (fun h => trivial) ?_
    refine aord_lightG 5 rfl rfl rfl (by kernel_rfl) ?_
    refine And.intro (fun h => trivial) ?_
    refine aord_all [0, 4] (by kernel_rfl) rfl ?_
    refine And.intro ?_ ?_
    ·refine aord_all [4] (by kernel_rfl) rfl ?_
     refine Or.inl ?_
     refine And.intro (rfl) ?_
     refine Exists.intro _ (And.intro (fun h => ⟨⟨⟨h, trivial⟩, trivial⟩, num_errno 7 (by decide)⟩) ?_)
     refine aord_lightG 6 rfl rfl rfl (by kernel_rfl) ?_
     refine And.intro (fun h => ⟨⟨h, trivial⟩, ⟨h, trivial⟩, trivial⟩) ?_
     refine aord_light 7 rfl rfl rfl (by kernel_rfl) ?_
     refine And.intro (by exact fun h => h) ?_
     refine aord_light 8 rfl rfl rfl (by kernel_rfl) ?_
     refine aord_lightG 9 rfl rfl rfl (by kernel_rfl) ?_
     refine And.intro (fun h => trivial) ?_
     refine aord_lightG 11 rfl rfl rfl (by kernel_rfl) ?_
     refine And.intro (fun h => trivial) ?_
     refine aord_all [10] (by kernel_rfl) rfl ?_
     refine Or.inl ?_
     refine And.intro (rfl) ?_
     refine Exists.intro _ (And.intro (fun h => ⟨⟨⟨h, trivial⟩, trivial⟩, at_errno 7⟩) ?_)
     refine aord_lightG 12 rfl rfl rfl (by kernel_rfl) ?_
     refine And.intro (fun h => ⟨⟨h, trivial⟩, ⟨h, trivial⟩, trivial⟩) ?_
     refine aord_light 13 rfl rfl rfl (by kernel_rfl) ?_
     refine And.intro (by exact fun h => h) ?_
     refine aord_light 14 rfl rfl rfl (by kernel_rfl) ?_
     refine aord_lightG 15 rfl rfl rfl (by kernel_rfl) ?_
     refine And.intro (fun h => trivial) ?_
     refine aord_lightG 16 rfl rfl rfl (by kernel_rfl) ?_
     refine And.intro (fun h => trivial) ?_
     refine aord_lightG 17 rfl rfl rfl (by kernel_rfl) ?_
     refine And.intro (fun h => ⟨⟨h, trivial⟩, ⟨h, trivial⟩, trivial⟩) ?_
     refine aord_light 18 rfl rfl rfl (by kernel_rfl) ?_
     refine And.intro (by exact fun h => h) ?_
     refine aord_all [19] (by kernel_rfl) rfl ?_
     refine aord_light 20 rfl rfl rfl (by kernel_rfl) ?_
     refine aord_done (by kernel_rfl) ?_
     refine acode_ret ?_
     exact ⟨rfl, ⟨rfl, rfl⟩, rfl⟩
    ·refine Or.inl ?_
     refine And.intro (rfl) ?_
     refine Exists.intro _ (And.intro (fun h => ⟨⟨⟨h, trivial⟩, trivial⟩, num_errno 7 (by decide)⟩) ?_)
     refine aord_lightG 6 rfl rfl rfl (by kernel_rfl) ?_
     refine And.intro (fun h => ⟨⟨h, trivial⟩, ⟨h, trivial⟩, trivial⟩) ?_
     refine aord_light 7 rfl rfl rfl (by kernel_rfl) ?_
     refine And.intro (by exact fun h => h) ?_
     refine aord_light 8 rfl rfl rfl (by kernel_rfl) ?_
     refine aord_lightG 9 rfl rfl rfl (by kernel_rfl) ?_
     refine And.intro (fun h => trivial) ?_
     refine aord_lightG 11 rfl rfl rfl (by kernel_rfl) ?_
     refine And.intro (fun h => trivial) ?_
     refine aord_all [0, 10] (by kernel_rfl) rfl ?_
     refine And.intro ?_ ?_
     ·refine aord_all [10] (by kernel_rfl) rfl ?_
      refine Or.inl ?_
      refine And.intro (rfl) ?_
      refine Exists.intro _ (And.intro (fun h => ⟨⟨⟨h, trivial⟩, trivial⟩, at_errno 7⟩) ?_)
      refine aord_lightG 12 rfl rfl rfl (by kernel_rfl) ?_
      refine And.intro (fun h => ⟨⟨h, trivial⟩, ⟨h, trivial⟩, trivial⟩) ?_
      refine aord_light 13 rfl rfl rfl (by kernel_rfl) ?_
      refine And.intro (by exact fun h => h) ?_
      refine aord_light 14 rfl rfl rfl (by kernel_rfl) ?_
      refine aord_lightG 15 rfl rfl rfl (by kernel_rfl) ?_
      refine And.intro (fun h => trivial) ?_
      refine aord_lightG 16 rfl rfl rfl (by kernel_rfl) ?_
      refine And.intro (fun h => trivial) ?_
      refine aord_lightG 17 rfl rfl rfl (by kernel_rfl) ?_
      refine And.intro (fun h => ⟨⟨h, trivial⟩, ⟨h, trivial⟩, trivial⟩) ?_
      refine aord_light 18 rfl rfl rfl (by kernel_rfl) ?_
      refine And.intro (by exact fun h => h) ?_
      refine aord_all [19] (by kernel_rfl) rfl ?_
      refine aord_light 20 rfl rfl rfl (by kernel_rfl) ?_
      refine aord_done (by kernel_rfl) ?_
      refine acode_ret ?_
      exact ⟨rfl, ⟨rfl, rfl⟩, rfl⟩
     ·refine Or.inl ?_
      refine And.intro (rfl) ?_
      refine Exists.intro _ (And.intro (fun h => ⟨⟨⟨h, trivial⟩, trivial⟩, at_errno 7⟩) ?_)
      refine aord_lightG 12 rfl rfl rfl (by kernel_rfl) ?_
      refine And.intro (fun h => ⟨⟨h, trivial⟩, ⟨h, trivial⟩, trivial⟩) ?_
      refine aord_light 13 rfl rfl rfl (by kernel_rfl) ?_
      refine And.intro (by exact fun h => h) ?_
      refine aord_light 14 rfl rfl rfl (by kernel_rfl) ?_
      refine aord_lightG 15 rfl rfl rfl (by kernel_rfl) ?_
      refine And.intro (fun h => trivial) ?_
      refine aord_lightG 16 rfl rfl rfl (by kernel_rfl) ?_
      refine And.intro (fun h => trivial) ?_
      refine aord_lightG 17 rfl rfl rfl (by kernel_rfl) ?_
      refine And.intro (fun h => ⟨⟨h, trivial⟩, ⟨h, trivial⟩, trivial⟩) ?_
      refine aord_light 18 rfl rfl rfl (by kernel_rfl) ?_
      refine And.intro (by exact fun h => h) ?_
      refine aord_all [0] (by kernel_rfl) rfl ?_
      refine aord_all [19] (by kernel_rfl) rfl ?_
      refine aord_light 20 rfl rfl rfl (by kernel_rfl) ?_
      refine aord_done (by kernel_rfl) ?_
      refine acode_ret ?_
      exact ⟨rfl, ⟨rfl, rfl⟩, rfl⟩
theorem doIns_chk_n (es : List Ent) (n m id : Int) (f : List Fld) (ms : List Ent) (mn : Int) (hf : FldsOk f) (hml : ms.length ≤ 1000000) (k : Int) (hk1 : k ≠ 1) (hk2 : k ≠ 2) (hmn : 0 ≤ mn ∧ mn ≤ 1000000000) (h : ¬ (atE es id < 0 ∧ id ≠ 0)) (hc : (chkR f).2 ≠ 0) (k9 : Int) (hck : chkA f = errN k9) (h9 : k9 ≠ 0) : ACallO Tryz.prog 36 [.one (.own 0 0), .agg (toL rRL (ms, mn)), .agg (toL rEdt ((k : Int), id, f))] (lsO (es, n, m)) 2 (.tup [(true, toL rRL (refIns (ms, mn) id f).1), (false, [.lit (.bool (doB k9 (-9) 0 (refIns (ms, mn) id f).2.2.2 (refIns (ms, mn) id f).2.2.1 (refIns (ms, mn) id f).2.1))])]) (lsO (es, n, m)) 2 := by
  have hfl := fieldsk_c (κ := 1) f f
  rw [decide_eq_true rfl] at hfl
  have hcp := copiesF_o f (Nat.le_trans hf.1 (by decide))
  have hsp := spoilF_o f (Nat.le_trans hf.1 (by decide))
  have hin := (lIns_bad (κ := 1) es n m id f h hf hc).x
  rw [hck] at hin
  have hrf := refIns_c ms mn id f hf hml hmn
  refine acallo_ofc (t := 6) (ty := 63) (u := 7) Tryz.func36 rfl rfl rfl teOk rfl rfl ?_
  refine acode_seq ?_
  refine acode_region ?_
  refine acode_seq ?_
  refine acode_region ?_
  refine Or.inr (Or.inl (Exists.intro [] (Exists.intro [] (Exists.intro _ (Exists.intro _ (Exists.intro _ (Exists.intro _ (Exists.intro _ (And.intro (hcp) (And.intro rfl (And.intro True.intro (And.intro rfl ?_))))))))))))
  refine acode_seq ?_
  refine acode_region ?_
  refine acode_seq ?_
  refine acode_region ?_
  refine acode_seq ?_
  refine acode_seq ?_
  refine acode_region ?_
  refine acode_block ?_
  refine acode_seq ?_
  refine acode_region ?_
  refine acode_cond rfl (fun h39 => ?_) (fun h39 => ?_)
  ·try simp only [decide_eq_true_eq] at h39
   try simp only [Int.toNat_natCast, dflt_sl, dflt_st, dflt_str, dflt_int, dflt_bool] at h39
   exact absurd h39 hk1
  ·try simp only [decide_eq_false_iff_not] at h39
   try simp only [Int.toNat_natCast, dflt_sl, dflt_st, dflt_str, dflt_int, dflt_bool] at h39
   refine acode_seq ?_
   refine acode_region ?_
   refine acode_cond rfl (fun h56 => ?_) (fun h56 => ?_)
   ·try simp only [decide_eq_true_eq] at h56
    try simp only [Int.toNat_natCast, dflt_sl, dflt_st, dflt_str, dflt_int, dflt_bool] at h56
    exact absurd h56 hk2
   ·try simp only [decide_eq_false_iff_not] at h56
    try simp only [Int.toNat_natCast, dflt_sl, dflt_st, dflt_str, dflt_int, dflt_bool] at h56
    refine acode_seq ?_
    refine acode_region ?_
    refine Or.inr (Or.inr (Or.inr (Exists.intro [0, 1] (Exists.intro [] (Exists.intro _ (Exists.intro _ (Exists.intro _ (Exists.intro _ (Exists.intro _ (And.intro (hin) (And.intro rfl (And.intro (And.intro (And.intro rfl rfl) (And.intro (And.intro rfl rfl) True.intro)) (And.intro rfl ?_)))))))))))))
    refine acode_region ?_
    refine Or.inl ?_
    refine And.intro (rfl) ?_
    refine Exists.intro _ (And.intro (hrf) ?_)
    refine acode_seq ?_
    refine acode_region ?_
    refine Or.inr (Or.inr (Or.inl ?_))
    refine And.intro rfl ?_
    refine Exists.intro _ (And.intro (hfl) ?_)
    refine acode_seq ?_
    refine acode_region ?_
    refine Or.inr (Or.inl (Exists.intro [] (Exists.intro [5] (Exists.intro _ (Exists.intro _ (Exists.intro _ (Exists.intro _ (Exists.intro _ (And.intro (hsp) (And.intro rfl (And.intro (And.intro (And.intro rfl rfl) True.intro) (And.intro rfl ?_))))))))))))
    refine acode_seq ?_
    refine acode_ord rfl ?_
    refine aord_light 1 rfl rfl rfl (by kernel_rfl) ?_
    refine aord_light 2 rfl rfl rfl (by kernel_rfl) ?_
    refine aord_lightG 3 rfl rfl rfl (by kernel_rfl) ?_
    refine And.intro (fun h => trivial) ?_
    refine aord_lightG 5 rfl rfl rfl (by kernel_rfl) ?_
    refine And.intro (fun h => trivial) ?_
    refine aord_all [0, 4] (by kernel_rfl) rfl ?_
    refine And.intro ?_ ?_
    ·refine aord_all [4] (by kernel_rfl) rfl ?_
     refine Or.inl ?_
     refine And.intro (rfl) ?_
     refine Exists.intro _ (And.intro (fun h => ⟨⟨⟨h, trivial⟩, trivial⟩, num_errno k9 h9⟩) ?_)
     refine aord_lightG 6 rfl rfl rfl (by kernel_rfl) ?_
     refine And.intro (fun h => ⟨⟨h, trivial⟩, ⟨h, trivial⟩, trivial⟩) ?_
     refine aord_light 7 rfl rfl rfl (by kernel_rfl) ?_
     refine And.intro (by exact fun h => h) ?_
     refine aord_light 8 rfl rfl rfl (by kernel_rfl) ?_
     refine aord_lightG 9 rfl rfl rfl (by kernel_rfl) ?_
     refine And.intro (fun h => trivial) ?_
     refine aord_lightG 11 rfl rfl rfl (by kernel_rfl) ?_
     refine And.intro (fun h => trivial) ?_
     refine aord_all [10] (by kernel_rfl) rfl ?_
     refine Or.inl ?_
     refine And.intro (rfl) ?_
     refine Exists.intro _ (And.intro (fun h => ⟨⟨⟨h, trivial⟩, trivial⟩, at_errno k9⟩) ?_)
     refine aord_lightG 12 rfl rfl rfl (by kernel_rfl) ?_
     refine And.intro (fun h => ⟨⟨h, trivial⟩, ⟨h, trivial⟩, trivial⟩) ?_
     refine aord_light 13 rfl rfl rfl (by kernel_rfl) ?_
     refine And.intro (by exact fun h => h) ?_
     refine aord_light 14 rfl rfl rfl (by kernel_rfl) ?_
     refine aord_lightG 15 rfl rfl rfl (by kernel_rfl) ?_
     refine And.intro (fun h => trivial) ?_
     refine aord_lightG 16 rfl rfl rfl (by kernel_rfl) ?_
     refine And.intro (fun h => trivial) ?_
     refine aord_lightG 17 rfl rfl rfl (by kernel_rfl) ?_
     refine And.intro (fun h => ⟨⟨h, trivial⟩, ⟨h, trivial⟩, trivial⟩) ?_
     refine aord_light 18 rfl rfl rfl (by kernel_rfl) ?_
     refine And.intro (by exact fun h => h) ?_
     refine aord_all [19] (by kernel_rfl) rfl ?_
     refine aord_light 20 rfl rfl rfl (by kernel_rfl) ?_
     refine aord_done (by kernel_rfl) ?_
     refine acode_ret ?_
     exact ⟨rfl, ⟨rfl, rfl⟩, rfl⟩
    ·refine Or.inl ?_
     refine And.intro (rfl) ?_
     refine Exists.intro _ (And.intro (fun h => ⟨⟨⟨h, trivial⟩, trivial⟩, num_errno k9 h9⟩) ?_)
     refine aord_lightG 6 rfl rfl rfl (by kernel_rfl) ?_
     refine And.intro (fun h => ⟨⟨h, trivial⟩, ⟨h, trivial⟩, trivial⟩) ?_
     refine aord_light 7 rfl rfl rfl (by kernel_rfl) ?_
     refine And.intro (by exact fun h => h) ?_
     refine aord_light 8 rfl rfl rfl (by kernel_rfl) ?_
     refine aord_lightG 9 rfl rfl rfl (by kernel_rfl) ?_
     refine And.intro (fun h => trivial) ?_
     refine aord_lightG 11 rfl rfl rfl (by kernel_rfl) ?_
     refine And.intro (fun h => trivial) ?_
     refine aord_all [0, 10] (by kernel_rfl) rfl ?_
     refine And.intro ?_ ?_
     ·refine aord_all [10] (by kernel_rfl) rfl ?_
      refine Or.inl ?_
      refine And.intro (rfl) ?_
      refine Exists.intro _ (And.intro (fun h => ⟨⟨⟨h, trivial⟩, trivial⟩, at_errno k9⟩) ?_)
      refine aord_lightG 12 rfl rfl rfl (by kernel_rfl) ?_
      refine And.intro (fun h => ⟨⟨h, trivial⟩, ⟨h, trivial⟩, trivial⟩) ?_
      refine aord_light 13 rfl rfl rfl (by kernel_rfl) ?_
      refine And.intro (by exact fun h => h) ?_
      refine aord_light 14 rfl rfl rfl (by kernel_rfl) ?_
      refine aord_lightG 15 rfl rfl rfl (by kernel_rfl) ?_
      refine And.intro (fun h => trivial) ?_
      refine aord_lightG 16 rfl rfl rfl (by kernel_rfl) ?_
      refine And.intro (fun h => trivial) ?_
      refine aord_lightG 17 rfl rfl rfl (by kernel_rfl) ?_
      refine And.intro (fun h => ⟨⟨h, trivial⟩, ⟨h, trivial⟩, trivial⟩) ?_
      refine aord_light 18 rfl rfl rfl (by kernel_rfl) ?_
      refine And.intro (by exact fun h => h) ?_
      refine aord_all [19] (by kernel_rfl) rfl ?_
      refine aord_light 20 rfl rfl rfl (by kernel_rfl) ?_
      refine aord_done (by kernel_rfl) ?_
      refine acode_ret ?_
      exact ⟨rfl, ⟨rfl, rfl⟩, rfl⟩
     ·refine Or.inl ?_
      refine And.intro (rfl) ?_
      refine Exists.intro _ (And.intro (fun h => ⟨⟨⟨h, trivial⟩, trivial⟩, at_errno k9⟩) ?_)
      refine aord_lightG 12 rfl rfl rfl (by kernel_rfl) ?_
      refine And.intro (fun h => ⟨⟨h, trivial⟩, ⟨h, trivial⟩, trivial⟩) ?_
      refine aord_light 13 rfl rfl rfl (by kernel_rfl) ?_
      refine And.intro (by exact fun h => h) ?_
      refine aord_light 14 rfl rfl rfl (by kernel_rfl) ?_
      refine aord_lightG 15 rfl rfl rfl (by kernel_rfl) ?_
      refine And.intro (fun h => trivial) ?_
      refine aord_lightG 16 rfl rfl rfl (by kernel_rfl) ?_
      refine And.intro (fun h => trivial) ?_
      refine aord_lightG 17 rfl rfl rfl (by kernel_rfl) ?_
      refine And.intro (fun h => ⟨⟨h, trivial⟩, ⟨h, trivial⟩, trivial⟩) ?_
      refine aord_light 18 rfl rfl rfl (by kernel_rfl) ?_
      refine And.intro (by exact fun h => h) ?_
      refine aord_all [0] (by kernel_rfl) rfl ?_
      refine aord_all [19] (by kernel_rfl) rfl ?_
      refine aord_light 20 rfl rfl rfl (by kernel_rfl) ?_
      refine aord_done (by kernel_rfl) ?_
      refine acode_ret ?_
      exact ⟨rfl, ⟨rfl, rfl⟩, rfl⟩
theorem doIns_chk_f (es : List Ent) (n m id : Int) (f : List Fld) (ms : List Ent) (mn : Int) (hf : FldsOk f) (hml : ms.length ≤ 1000000) (k : Int) (hk1 : k ≠ 1) (hk2 : k ≠ 2) (hmn : 0 ≤ mn ∧ mn ≤ 1000000000) (h : ¬ (atE es id < 0 ∧ id ≠ 0)) (hc : (chkR f).2 ≠ 0) (a9 k9 : Int) (hck : chkA f = errF a9 k9) (h9 : k9 ≠ 0) : ACallO Tryz.prog 36 [.one (.own 0 0), .agg (toL rRL (ms, mn)), .agg (toL rEdt ((k : Int), id, f))] (lsO (es, n, m)) 2 (.tup [(true, toL rRL (refIns (ms, mn) id f).1), (false, [.lit (.bool (doB k9 a9 0 (refIns (ms, mn) id f).2.2.2 (refIns (ms, mn) id f).2.2.1 (refIns (ms, mn) id f).2.1))])]) (lsO (es, n, m)) 2 := by
  have hfl := fieldsk_c (κ := 1) f f
  rw [decide_eq_true rfl] at hfl
  have hcp := copiesF_o f (Nat.le_trans hf.1 (by decide))
  have hsp := spoilF_o f (Nat.le_trans hf.1 (by decide))
  have hin := (lIns_bad (κ := 1) es n m id f h hf hc).x
  rw [hck] at hin
  have hrf := refIns_c ms mn id f hf hml hmn
  refine acallo_ofc (t := 6) (ty := 63) (u := 7) Tryz.func36 rfl rfl rfl teOk rfl rfl ?_
  refine acode_seq ?_
  refine acode_region ?_
  refine acode_seq ?_
  refine acode_region ?_
  refine Or.inr (Or.inl (Exists.intro [] (Exists.intro [] (Exists.intro _ (Exists.intro _ (Exists.intro _ (Exists.intro _ (Exists.intro _ (And.intro (hcp) (And.intro rfl (And.intro True.intro (And.intro rfl ?_))))))))))))
  refine acode_seq ?_
  refine acode_region ?_
  refine acode_seq ?_
  refine acode_region ?_
  refine acode_seq ?_
  refine acode_seq ?_
  refine acode_region ?_
  refine acode_block ?_
  refine acode_seq ?_
  refine acode_region ?_
  refine acode_cond rfl (fun h39 => ?_) (fun h39 => ?_)
  ·try simp only [decide_eq_true_eq] at h39
   try simp only [Int.toNat_natCast, dflt_sl, dflt_st, dflt_str, dflt_int, dflt_bool] at h39
   exact absurd h39 hk1
  ·try simp only [decide_eq_false_iff_not] at h39
   try simp only [Int.toNat_natCast, dflt_sl, dflt_st, dflt_str, dflt_int, dflt_bool] at h39
   refine acode_seq ?_
   refine acode_region ?_
   refine acode_cond rfl (fun h56 => ?_) (fun h56 => ?_)
   ·try simp only [decide_eq_true_eq] at h56
    try simp only [Int.toNat_natCast, dflt_sl, dflt_st, dflt_str, dflt_int, dflt_bool] at h56
    exact absurd h56 hk2
   ·try simp only [decide_eq_false_iff_not] at h56
    try simp only [Int.toNat_natCast, dflt_sl, dflt_st, dflt_str, dflt_int, dflt_bool] at h56
    refine acode_seq ?_
    refine acode_region ?_
    refine Or.inr (Or.inr (Or.inr (Exists.intro [0, 1] (Exists.intro [] (Exists.intro _ (Exists.intro _ (Exists.intro _ (Exists.intro _ (Exists.intro _ (And.intro (hin) (And.intro rfl (And.intro (And.intro (And.intro rfl rfl) (And.intro (And.intro rfl rfl) True.intro)) (And.intro rfl ?_)))))))))))))
    refine acode_region ?_
    refine Or.inl ?_
    refine And.intro (rfl) ?_
    refine Exists.intro _ (And.intro (hrf) ?_)
    refine acode_seq ?_
    refine acode_region ?_
    refine Or.inr (Or.inr (Or.inl ?_))
    refine And.intro rfl ?_
    refine Exists.intro _ (And.intro (hfl) ?_)
    refine acode_seq ?_
    refine acode_region ?_
    refine Or.inr (Or.inl (Exists.intro [] (Exists.intro [5] (Exists.intro _ (Exists.intro _ (Exists.intro _ (Exists.intro _ (Exists.intro _ (And.intro (hsp) (And.intro rfl (And.intro (And.intro (And.intro rfl rfl) True.intro) (And.intro rfl ?_))))))))))))
    refine acode_seq ?_
    refine acode_ord rfl ?_
    refine aord_light 1 rfl rfl rfl (by kernel_rfl) ?_
    refine aord_light 2 rfl rfl rfl (by kernel_rfl) ?_
    refine aord_lightG 3 rfl rfl rfl (by kernel_rfl) ?_
    refine And.intro (fun h => trivial) ?_
    refine aord_lightG 5 rfl rfl rfl (by kernel_rfl) ?_
    refine And.intro (fun h => trivial) ?_
    refine aord_all [0, 4] (by kernel_rfl) rfl ?_
    refine And.intro ?_ ?_
    ·refine aord_all [4] (by kernel_rfl) rfl ?_
     refine Or.inl ?_
     refine And.intro (rfl) ?_
     refine Exists.intro _ (And.intro (fun h => ⟨⟨⟨h, trivial⟩, trivial⟩, num_fault a9 k9 h9⟩) ?_)
     refine aord_lightG 6 rfl rfl rfl (by kernel_rfl) ?_
     refine And.intro (fun h => ⟨⟨h, trivial⟩, ⟨h, trivial⟩, trivial⟩) ?_
     refine aord_light 7 rfl rfl rfl (by kernel_rfl) ?_
     refine And.intro (by exact fun h => h) ?_
     refine aord_light 8 rfl rfl rfl (by kernel_rfl) ?_
     refine aord_lightG 9 rfl rfl rfl (by kernel_rfl) ?_
     refine And.intro (fun h => trivial) ?_
     refine aord_lightG 11 rfl rfl rfl (by kernel_rfl) ?_
     refine And.intro (fun h => trivial) ?_
     refine aord_all [10] (by kernel_rfl) rfl ?_
     refine Or.inl ?_
     refine And.intro (rfl) ?_
     refine Exists.intro _ (And.intro (fun h => ⟨⟨⟨h, trivial⟩, trivial⟩, at_fault a9 k9⟩) ?_)
     refine aord_lightG 12 rfl rfl rfl (by kernel_rfl) ?_
     refine And.intro (fun h => ⟨⟨h, trivial⟩, ⟨h, trivial⟩, trivial⟩) ?_
     refine aord_light 13 rfl rfl rfl (by kernel_rfl) ?_
     refine And.intro (by exact fun h => h) ?_
     refine aord_light 14 rfl rfl rfl (by kernel_rfl) ?_
     refine aord_lightG 15 rfl rfl rfl (by kernel_rfl) ?_
     refine And.intro (fun h => trivial) ?_
     refine aord_lightG 16 rfl rfl rfl (by kernel_rfl) ?_
     refine And.intro (fun h => trivial) ?_
     refine aord_lightG 17 rfl rfl rfl (by kernel_rfl) ?_
     refine And.intro (fun h => ⟨⟨h, trivial⟩, ⟨h, trivial⟩, trivial⟩) ?_
     refine aord_light 18 rfl rfl rfl (by kernel_rfl) ?_
     refine And.intro (by exact fun h => h) ?_
     refine aord_all [19] (by kernel_rfl) rfl ?_
     refine aord_light 20 rfl rfl rfl (by kernel_rfl) ?_
     refine aord_done (by kernel_rfl) ?_
     refine acode_ret ?_
     exact ⟨rfl, ⟨rfl, rfl⟩, rfl⟩
    ·refine Or.inl ?_
     refine And.intro (rfl) ?_
     refine Exists.intro _ (And.intro (fun h => ⟨⟨⟨h, trivial⟩, trivial⟩, num_fault a9 k9 h9⟩) ?_)
     refine aord_lightG 6 rfl rfl rfl (by kernel_rfl) ?_
     refine And.intro (fun h => ⟨⟨h, trivial⟩, ⟨h, trivial⟩, trivial⟩) ?_
     refine aord_light 7 rfl rfl rfl (by kernel_rfl) ?_
     refine And.intro (by exact fun h => h) ?_
     refine aord_light 8 rfl rfl rfl (by kernel_rfl) ?_
     refine aord_lightG 9 rfl rfl rfl (by kernel_rfl) ?_
     refine And.intro (fun h => trivial) ?_
     refine aord_lightG 11 rfl rfl rfl (by kernel_rfl) ?_
     refine And.intro (fun h => trivial) ?_
     refine aord_all [0, 10] (by kernel_rfl) rfl ?_
     refine And.intro ?_ ?_
     ·refine aord_all [10] (by kernel_rfl) rfl ?_
      refine Or.inl ?_
      refine And.intro (rfl) ?_
      refine Exists.intro _ (And.intro (fun h => ⟨⟨⟨h, trivial⟩, trivial⟩, at_fault a9 k9⟩) ?_)
      refine aord_lightG 12 rfl rfl rfl (by kernel_rfl) ?_
      refine And.intro (fun h => ⟨⟨h, trivial⟩, ⟨h, trivial⟩, trivial⟩) ?_
      refine aord_light 13 rfl rfl rfl (by kernel_rfl) ?_
      refine And.intro (by exact fun h => h) ?_
      refine aord_light 14 rfl rfl rfl (by kernel_rfl) ?_
      refine aord_lightG 15 rfl rfl rfl (by kernel_rfl) ?_
      refine And.intro (fun h => trivial) ?_
      refine aord_lightG 16 rfl rfl rfl (by kernel_rfl) ?_
      refine And.intro (fun h => trivial) ?_
      refine aord_lightG 17 rfl rfl rfl (by kernel_rfl) ?_
      refine And.intro (fun h => ⟨⟨h, trivial⟩, ⟨h, trivial⟩, trivial⟩) ?_
      refine aord_light 18 rfl rfl rfl (by kernel_rfl) ?_
      refine And.intro (by exact fun h => h) ?_
      refine aord_all [19] (by kernel_rfl) rfl ?_
      refine aord_light 20 rfl rfl rfl (by kernel_rfl) ?_
      refine aord_done (by kernel_rfl) ?_
      refine acode_ret ?_
      exact ⟨rfl, ⟨rfl, rfl⟩, rfl⟩
     ·refine Or.inl ?_
      refine And.intro (rfl) ?_
      refine Exists.intro _ (And.intro (fun h => ⟨⟨⟨h, trivial⟩, trivial⟩, at_fault a9 k9⟩) ?_)
      refine aord_lightG 12 rfl rfl rfl (by kernel_rfl) ?_
      refine And.intro (fun h => ⟨⟨h, trivial⟩, ⟨h, trivial⟩, trivial⟩) ?_
      refine aord_light 13 rfl rfl rfl (by kernel_rfl) ?_
      refine And.intro (by exact fun h => h) ?_
      refine aord_light 14 rfl rfl rfl (by kernel_rfl) ?_
      refine aord_lightG 15 rfl rfl rfl (by kernel_rfl) ?_
      refine And.intro (fun h => trivial) ?_
      refine aord_lightG 16 rfl rfl rfl (by kernel_rfl) ?_
      refine And.intro (fun h => trivial) ?_
      refine aord_lightG 17 rfl rfl rfl (by kernel_rfl) ?_
      refine And.intro (fun h => ⟨⟨h, trivial⟩, ⟨h, trivial⟩, trivial⟩) ?_
      refine aord_light 18 rfl rfl rfl (by kernel_rfl) ?_
      refine And.intro (by exact fun h => h) ?_
      refine aord_all [0] (by kernel_rfl) rfl ?_
      refine aord_all [19] (by kernel_rfl) rfl ?_
      refine aord_light 20 rfl rfl rfl (by kernel_rfl) ?_
      refine aord_done (by kernel_rfl) ?_
      refine acode_ret ?_
      exact ⟨rfl, ⟨rfl, rfl⟩, rfl⟩
theorem doIns_full (es : List Ent) (n m id : Int) (f : List Fld) (ms : List Ent) (mn : Int) (hf : FldsOk f) (hml : ms.length ≤ 1000000) (k : Int) (hk1 : k ≠ 1) (hk2 : k ≠ 2) (hmn : 0 ≤ mn ∧ mn ≤ 1000000000) (h : ¬ (atE es id < 0 ∧ id ≠ 0)) (hc : (chkR f).2 = 0) (hm : 400 ≤ m) : ACallO Tryz.prog 36 [.one (.own 0 0), .agg (toL rRL (ms, mn)), .agg (toL rEdt ((k : Int), id, f))] (lsO (es, n, m)) 2 (.tup [(true, toL rRL (refIns (ms, mn) id f).1), (false, [.lit (.bool (doB 11 (-9) 0 (refIns (ms, mn) id f).2.2.2 (refIns (ms, mn) id f).2.2.1 (refIns (ms, mn) id f).2.1))])]) (lsO (es, n, m)) 2 := by
  have hfl := fieldsk_c (κ := 1) f f
  rw [decide_eq_true rfl] at hfl
  have hcp := copiesF_o f (Nat.le_trans hf.1 (by decide))
  have hsp := spoilF_o f (Nat.le_trans hf.1 (by decide))
  have hin := (lIns_full (κ := 1) es n m id f h hf hc hm).x
  have hrf := refIns_c ms mn id f hf hml hmn
  refine acallo_ofc (t := 6) (ty := 63) (u := 7) Tryz.func36 rfl rfl rfl teOk rfl rfl ?_
  refine acode_seq ?_
  refine acode_region ?_
  refine acode_seq ?_
  refine acode_region ?_
  refine Or.inr (Or.inl (Exists.intro [] (Exists.intro [] (Exists.intro _ (Exists.intro _ (Exists.intro _ (Exists.intro _ (Exists.intro _ (And.intro (hcp) (And.intro rfl (And.intro True.intro (And.intro rfl ?_))))))))))))
  refine acode_seq ?_
  refine acode_region ?_
  refine acode_seq ?_
  refine acode_region ?_
  refine acode_seq ?_
  refine acode_seq ?_
  refine acode_region ?_
  refine acode_block ?_
  refine acode_seq ?_
  refine acode_region ?_
  refine acode_cond rfl (fun h39 => ?_) (fun h39 => ?_)
  ·try simp only [decide_eq_true_eq] at h39
   try simp only [Int.toNat_natCast, dflt_sl, dflt_st, dflt_str, dflt_int, dflt_bool] at h39
   exact absurd h39 hk1
  ·try simp only [decide_eq_false_iff_not] at h39
   try simp only [Int.toNat_natCast, dflt_sl, dflt_st, dflt_str, dflt_int, dflt_bool] at h39
   refine acode_seq ?_
   refine acode_region ?_
   refine acode_cond rfl (fun h56 => ?_) (fun h56 => ?_)
   ·try simp only [decide_eq_true_eq] at h56
    try simp only [Int.toNat_natCast, dflt_sl, dflt_st, dflt_str, dflt_int, dflt_bool] at h56
    exact absurd h56 hk2
   ·try simp only [decide_eq_false_iff_not] at h56
    try simp only [Int.toNat_natCast, dflt_sl, dflt_st, dflt_str, dflt_int, dflt_bool] at h56
    refine acode_seq ?_
    refine acode_region ?_
    refine Or.inr (Or.inr (Or.inr (Exists.intro [0, 1] (Exists.intro [] (Exists.intro _ (Exists.intro _ (Exists.intro _ (Exists.intro _ (Exists.intro _ (And.intro (hin) (And.intro rfl (And.intro (And.intro (And.intro rfl rfl) (And.intro (And.intro rfl rfl) True.intro)) (And.intro rfl ?_)))))))))))))
    refine acode_region ?_
    refine Or.inl ?_
    refine And.intro (rfl) ?_
    refine Exists.intro _ (And.intro (hrf) ?_)
    refine acode_seq ?_
    refine acode_region ?_
    refine Or.inr (Or.inr (Or.inl ?_))
    refine And.intro rfl ?_
    refine Exists.intro _ (And.intro (hfl) ?_)
    refine acode_seq ?_
    refine acode_region ?_
    refine Or.inr (Or.inl (Exists.intro [] (Exists.intro [5] (Exists.intro _ (Exists.intro _ (Exists.intro _ (Exists.intro _ (Exists.intro _ (And.intro (hsp) (And.intro rfl (And.intro (And.intro (And.intro rfl rfl) True.intro) (And.intro rfl ?_))))))))))))
    refine acode_seq ?_
    refine acode_ord rfl ?_
    refine aord_light 1 rfl rfl rfl (by kernel_rfl) ?_
    refine aord_light 2 rfl rfl rfl (by kernel_rfl) ?_
    refine aord_lightG 3 rfl rfl rfl (by kernel_rfl) ?_
    refine And.intro (fun h => trivial) ?_
    refine aord_lightG 5 rfl rfl rfl (by kernel_rfl) ?_
    refine And.intro (fun h => trivial) ?_
    refine aord_all [0, 4] (by kernel_rfl) rfl ?_
    refine And.intro ?_ ?_
    ·refine aord_all [4] (by kernel_rfl) rfl ?_
     refine Or.inl ?_
     refine And.intro (rfl) ?_
     refine Exists.intro _ (And.intro (fun h => ⟨⟨⟨h, trivial⟩, trivial⟩, num_errno 11 (by decide)⟩) ?_)
     refine aord_lightG 6 rfl rfl rfl (by kernel_rfl) ?_
     refine And.intro (fun h => ⟨⟨h, trivial⟩, ⟨h, trivial⟩, trivial⟩) ?_
     refine aord_light 7 rfl rfl rfl (by kernel_rfl) ?_
     refine And.intro (by exact fun h => h) ?_
     refine aord_light 8 rfl rfl rfl (by kernel_rfl) ?_
     refine aord_lightG 9 rfl rfl rfl (by kernel_rfl) ?_
     refine And.intro (fun h => trivial) ?_
     refine aord_lightG 11 rfl rfl rfl (by kernel_rfl) ?_
     refine And.intro (fun h => trivial) ?_
     refine aord_all [10] (by kernel_rfl) rfl ?_
     refine Or.inl ?_
     refine And.intro (rfl) ?_
     refine Exists.intro _ (And.intro (fun h => ⟨⟨⟨h, trivial⟩, trivial⟩, at_errno 11⟩) ?_)
     refine aord_lightG 12 rfl rfl rfl (by kernel_rfl) ?_
     refine And.intro (fun h => ⟨⟨h, trivial⟩, ⟨h, trivial⟩, trivial⟩) ?_
     refine aord_light 13 rfl rfl rfl (by kernel_rfl) ?_
     refine And.intro (by exact fun h => h) ?_
     refine aord_light 14 rfl rfl rfl (by kernel_rfl) ?_
     refine aord_lightG 15 rfl rfl rfl (by kernel_rfl) ?_
     refine And.intro (fun h => trivial) ?_
     refine aord_lightG 16 rfl rfl rfl (by kernel_rfl) ?_
     refine And.intro (fun h => trivial) ?_
     refine aord_lightG 17 rfl rfl rfl (by kernel_rfl) ?_
     refine And.intro (fun h => ⟨⟨h, trivial⟩, ⟨h, trivial⟩, trivial⟩) ?_
     refine aord_light 18 rfl rfl rfl (by kernel_rfl) ?_
     refine And.intro (by exact fun h => h) ?_
     refine aord_all [19] (by kernel_rfl) rfl ?_
     refine aord_light 20 rfl rfl rfl (by kernel_rfl) ?_
     refine aord_done (by kernel_rfl) ?_
     refine acode_ret ?_
     exact ⟨rfl, ⟨rfl, rfl⟩, rfl⟩
    ·refine Or.inl ?_
     refine And.intro (rfl) ?_
     refine Exists.intro _ (And.intro (fun h => ⟨⟨⟨h, trivial⟩, trivial⟩, num_errno 11 (by decide)⟩) ?_)
     refine aord_lightG 6 rfl rfl rfl (by kernel_rfl) ?_
     refine And.intro (fun h => ⟨⟨h, trivial⟩, ⟨h, trivial⟩, trivial⟩) ?_
     refine aord_light 7 rfl rfl rfl (by kernel_rfl) ?_
     refine And.intro (by exact fun h => h) ?_
     refine aord_light 8 rfl rfl rfl (by kernel_rfl) ?_
     refine aord_lightG 9 rfl rfl rfl (by kernel_rfl) ?_
     refine And.intro (fun h => trivial) ?_
     refine aord_lightG 11 rfl rfl rfl (by kernel_rfl) ?_
     refine And.intro (fun h => trivial) ?_
     refine aord_all [0, 10] (by kernel_rfl) rfl ?_
     refine And.intro ?_ ?_
     ·refine aord_all [10] (by kernel_rfl) rfl ?_
      refine Or.inl ?_
      refine And.intro (rfl) ?_
      refine Exists.intro _ (And.intro (fun h => ⟨⟨⟨h, trivial⟩, trivial⟩, at_errno 11⟩) ?_)
      refine aord_lightG 12 rfl rfl rfl (by kernel_rfl) ?_
      refine And.intro (fun h => ⟨⟨h, trivial⟩, ⟨h, trivial⟩, trivial⟩) ?_
      refine aord_light 13 rfl rfl rfl (by kernel_rfl) ?_
      refine And.intro (by exact fun h => h) ?_
      refine aord_light 14 rfl rfl rfl (by kernel_rfl) ?_
      refine aord_lightG 15 rfl rfl rfl (by kernel_rfl) ?_
      refine And.intro (fun h => trivial) ?_
      refine aord_lightG 16 rfl rfl rfl (by kernel_rfl) ?_
      refine And.intro (fun h => trivial) ?_
      refine aord_lightG 17 rfl rfl rfl (by kernel_rfl) ?_
      refine And.intro (fun h => ⟨⟨h, trivial⟩, ⟨h, trivial⟩, trivial⟩) ?_
      refine aord_light 18 rfl rfl rfl (by kernel_rfl) ?_
      refine And.intro (by exact fun h => h) ?_
      refine aord_all [19] (by kernel_rfl) rfl ?_
      refine aord_light 20 rfl rfl rfl (by kernel_rfl) ?_
      refine aord_done (by kernel_rfl) ?_
      refine acode_ret ?_
      exact ⟨rfl, ⟨rfl, rfl⟩, rfl⟩
     ·refine Or.inl ?_
      refine And.intro (rfl) ?_
      refine Exists.intro _ (And.intro (fun h => ⟨⟨⟨h, trivial⟩, trivial⟩, at_errno 11⟩) ?_)
      refine aord_lightG 12 rfl rfl rfl (by kernel_rfl) ?_
      refine And.intro (fun h => ⟨⟨h, trivial⟩, ⟨h, trivial⟩, trivial⟩) ?_
      refine aord_light 13 rfl rfl rfl (by kernel_rfl) ?_
      refine And.intro (by exact fun h => h) ?_
      refine aord_light 14 rfl rfl rfl (by kernel_rfl) ?_
      refine aord_lightG 15 rfl rfl rfl (by kernel_rfl) ?_
      refine And.intro (fun h => trivial) ?_
      refine aord_lightG 16 rfl rfl rfl (by kernel_rfl) ?_
      refine And.intro (fun h => trivial) ?_
      refine aord_lightG 17 rfl rfl rfl (by kernel_rfl) ?_
      refine And.intro (fun h => ⟨⟨h, trivial⟩, ⟨h, trivial⟩, trivial⟩) ?_
      refine aord_light 18 rfl rfl rfl (by kernel_rfl) ?_
      refine And.intro (by exact fun h => h) ?_
      refine aord_all [0] (by kernel_rfl) rfl ?_
      refine aord_all [19] (by kernel_rfl) rfl ?_
      refine aord_light 20 rfl rfl rfl (by kernel_rfl) ?_
      refine aord_done (by kernel_rfl) ?_
      refine acode_ret ?_
      exact ⟨rfl, ⟨rfl, rfl⟩, rfl⟩
theorem doIns_ok (es : List Ent) (n m id : Int) (f : List Fld) (ms : List Ent) (mn : Int) (hf : FldsOk f) (hml : ms.length ≤ 1000000) (k : Int) (hk1 : k ≠ 1) (hk2 : k ≠ 2) (hmn : 0 ≤ mn ∧ mn ≤ 1000000000) (j : Nat) (hj : j ≤ es.length) (h : ¬ (atE es id < 0 ∧ id ≠ 0)) (ha : atE es id + 1 = (j : Int)) (hc : (chkR f).2 = 0) (hm : 0 ≤ m ∧ m < 400) (hn : 0 ≤ n ∧ n ≤ 1000000000) (hl : es.length ≤ 1000000) : ACallO Tryz.prog 36 [.one (.own 0 0), .agg (toL rRL (ms, mn)), .agg (toL rEdt ((k : Int), id, f))] (lsO (es, n, m)) 2 (.tup [(true, toL rRL (refIns (ms, mn) id f).1), (false, [.lit (.bool (doB 0 (-9) n (refIns (ms, mn) id f).2.2.2 (refIns (ms, mn) id f).2.2.1 (refIns (ms, mn) id f).2.1))])]) (lsO (insE es j (itmOf f, n), n + 1, m + 1)) 2 := by
  have hfl := fieldsk_c (κ := 1) f f
  rw [decide_eq_true rfl] at hfl
  have hcp := copiesF_o f (Nat.le_trans hf.1 (by decide))
  have hsp := spoilF_o f (Nat.le_trans hf.1 (by decide))
  have hin := (lIns_ok (κ := 1) es n m id f j hj h ha hf hc hm hn hl).x
  have hrf := refIns_c ms mn id f hf hml hmn
  refine acallo_ofc (t := 6) (ty := 63) (u := 7) Tryz.func36 rfl rfl rfl teOk rfl rfl ?_
  refine acode_seq ?_
  refine acode_region ?_
  refine acode_seq ?_
  refine acode_region ?_
  refine Or.inr (Or.inl (Exists.intro [] (Exists.intro [] (Exists.intro _ (Exists.intro _ (Exists.intro _ (Exists.intro _ (Exists.intro _ (And.intro (hcp) (And.intro rfl (And.intro True.intro (And.intro rfl ?_))))))))))))
  refine acode_seq ?_
  refine acode_region ?_
  refine acode_seq ?_
  refine acode_region ?_
  refine acode_seq ?_
  refine acode_seq ?_
  refine acode_region ?_
  refine acode_block ?_
  refine acode_seq ?_
  refine acode_region ?_
  refine acode_cond rfl (fun h39 => ?_) (fun h39 => ?_)
  ·try simp only [decide_eq_true_eq] at h39
   try simp only [Int.toNat_natCast, dflt_sl, dflt_st, dflt_str, dflt_int, dflt_bool] at h39
   exact absurd h39 hk1
  ·try simp only [decide_eq_false_iff_not] at h39
   try simp only [Int.toNat_natCast, dflt_sl, dflt_st, dflt_str, dflt_int, dflt_bool] at h39
   refine acode_seq ?_
   refine acode_region ?_
   refine acode_cond rfl (fun h56 => ?_) (fun h56 => ?_)
   ·try simp only [decide_eq_true_eq] at h56
    try simp only [Int.toNat_natCast, dflt_sl, dflt_st, dflt_str, dflt_int, dflt_bool] at h56
    exact absurd h56 hk2
   ·try simp only [decide_eq_false_iff_not] at h56
    try simp only [Int.toNat_natCast, dflt_sl, dflt_st, dflt_str, dflt_int, dflt_bool] at h56
    refine acode_seq ?_
    refine acode_region ?_
    refine Or.inr (Or.inr (Or.inr (Exists.intro [0, 1] (Exists.intro [] (Exists.intro _ (Exists.intro _ (Exists.intro _ (Exists.intro _ (Exists.intro _ (And.intro (hin) (And.intro rfl (And.intro (And.intro (And.intro rfl rfl) (And.intro (And.intro rfl rfl) True.intro)) (And.intro rfl ?_)))))))))))))
    refine acode_region ?_
    refine Or.inl ?_
    refine And.intro (rfl) ?_
    refine Exists.intro _ (And.intro (hrf) ?_)
    refine acode_seq ?_
    refine acode_region ?_
    refine Or.inr (Or.inr (Or.inl ?_))
    refine And.intro rfl ?_
    refine Exists.intro _ (And.intro (hfl) ?_)
    refine acode_seq ?_
    refine acode_region ?_
    refine Or.inr (Or.inl (Exists.intro [] (Exists.intro [5] (Exists.intro _ (Exists.intro _ (Exists.intro _ (Exists.intro _ (Exists.intro _ (And.intro (hsp) (And.intro rfl (And.intro (And.intro (And.intro rfl rfl) True.intro) (And.intro rfl ?_))))))))))))
    refine acode_seq ?_
    refine acode_ord rfl ?_
    refine aord_light 1 rfl rfl rfl (by kernel_rfl) ?_
    refine aord_light 2 rfl rfl rfl (by kernel_rfl) ?_
    refine aord_lightG 3 rfl rfl rfl (by kernel_rfl) ?_
    refine And.intro (fun h => trivial) ?_
    refine aord_lightG 5 rfl rfl rfl (by kernel_rfl) ?_
    refine And.intro (fun h => trivial) ?_
    refine aord_all [0, 4] (by kernel_rfl) rfl ?_
    refine And.intro ?_ ?_
    ·refine aord_all [4] (by kernel_rfl) rfl ?_
     refine Or.inl ?_
     refine And.intro (rfl) ?_
     refine Exists.intro _ (And.intro (fun h => ⟨⟨⟨h, trivial⟩, trivial⟩, num_nil⟩) ?_)
     refine aord_lightG 6 rfl rfl rfl (by kernel_rfl) ?_
     refine And.intro (fun h => ⟨⟨h, trivial⟩, ⟨h, trivial⟩, trivial⟩) ?_
     refine aord_light 7 rfl rfl rfl (by kernel_rfl) ?_
     refine And.intro (by exact fun h => h) ?_
     refine aord_light 8 rfl rfl rfl (by kernel_rfl) ?_
     refine aord_lightG 9 rfl rfl rfl (by kernel_rfl) ?_
     refine And.intro (fun h => trivial) ?_
     refine aord_lightG 11 rfl rfl rfl (by kernel_rfl) ?_
     refine And.intro (fun h => trivial) ?_
     refine aord_all [10] (by kernel_rfl) rfl ?_
     refine Or.inl ?_
     refine And.intro (rfl) ?_
     refine Exists.intro _ (And.intro (fun h => ⟨⟨⟨h, trivial⟩, trivial⟩, at_nil⟩) ?_)
     refine aord_lightG 12 rfl rfl rfl (by kernel_rfl) ?_
     refine And.intro (fun h => ⟨⟨h, trivial⟩, ⟨h, trivial⟩, trivial⟩) ?_
     refine aord_light 13 rfl rfl rfl (by kernel_rfl) ?_
     refine And.intro (by exact fun h => h) ?_
     refine aord_light 14 rfl rfl rfl (by kernel_rfl) ?_
     refine aord_lightG 15 rfl rfl rfl (by kernel_rfl) ?_
     refine And.intro (fun h => trivial) ?_
     refine aord_lightG 16 rfl rfl rfl (by kernel_rfl) ?_
     refine And.intro (fun h => trivial) ?_
     refine aord_lightG 17 rfl rfl rfl (by kernel_rfl) ?_
     refine And.intro (fun h => ⟨⟨h, trivial⟩, ⟨h, trivial⟩, trivial⟩) ?_
     refine aord_light 18 rfl rfl rfl (by kernel_rfl) ?_
     refine And.intro (by exact fun h => h) ?_
     refine aord_all [19] (by kernel_rfl) rfl ?_
     refine aord_light 20 rfl rfl rfl (by kernel_rfl) ?_
     refine aord_done (by kernel_rfl) ?_
     refine acode_ret ?_
     exact ⟨rfl, ⟨rfl, rfl⟩, rfl⟩
    ·refine Or.inl ?_
     refine And.intro (rfl) ?_
     refine Exists.intro _ (And.intro (fun h => ⟨⟨⟨h, trivial⟩, trivial⟩, num_nil⟩) ?_)
     refine aord_lightG 6 rfl rfl rfl (by kernel_rfl) ?_
     refine And.intro (fun h => ⟨⟨h, trivial⟩, ⟨h, trivial⟩, trivial⟩) ?_
     refine aord_light 7 rfl rfl rfl (by kernel_rfl) ?_
     refine And.intro (by exact fun h => h) ?_
     refine aord_light 8 rfl rfl rfl (by kernel_rfl) ?_
     refine aord_lightG 9 rfl rfl rfl (by kernel_rfl) ?_
     refine And.intro (fun h => trivial) ?_
     refine aord_lightG 11 rfl rfl rfl (by kernel_rfl) ?_
     refine And.intro (fun h => trivial) ?_
     refine aord_all [0, 10] (by kernel_rfl) rfl ?_
     refine And.intro ?_ ?_
     ·refine aord_all [10] (by kernel_rfl) rfl ?_
      refine Or.inl ?_
      refine And.intro (rfl) ?_
      refine Exists.intro _ (And.intro (fun h => ⟨⟨⟨h, trivial⟩, trivial⟩, at_nil⟩) ?_)
      refine aord_lightG 12 rfl rfl rfl (by kernel_rfl) ?_
      refine And.intro (fun h => ⟨⟨h, trivial⟩, ⟨h, trivial⟩, trivial⟩) ?_
      refine aord_light 13 rfl rfl rfl (by kernel_rfl) ?_
      refine And.intro (by exact fun h => h) ?_
      refine aord_light 14 rfl rfl rfl (by kernel_rfl) ?_
      refine aord_lightG 15 rfl rfl rfl (by kernel_rfl) ?_
      refine And.intro (fun h => trivial) ?_
      refine aord_lightG 16 rfl rfl rfl (by kernel_rfl) ?_
      refine And.intro (fun h => trivial) ?_
      refine aord_lightG 17 rfl rfl rfl (by kernel_rfl) ?_
      refine And.intro (fun h => ⟨⟨h, trivial⟩, ⟨h, trivial⟩, trivial⟩) ?_
      refine aord_light 18 rfl rfl rfl (by kernel_rfl) ?_
      refine And.intro (by exact fun h => h) ?_
      refine aord_all [19] (by kernel_rfl) rfl ?_
      refine aord_light 20 rfl rfl rfl (by kernel_rfl) ?_
      refine aord_done (by kernel_rfl) ?_
      refine acode_ret ?_
      exact ⟨rfl, ⟨rfl, rfl⟩, rfl⟩
     ·refine Or.inl ?_
      refine And.intro (rfl) ?_
      refine Exists.intro _ (And.intro (fun h => ⟨⟨⟨h, trivial⟩, trivial⟩, at_nil⟩) ?_)
      refine aord_lightG 12 rfl rfl rfl (by kernel_rfl) ?_
      refine And.intro (fun h => ⟨⟨h, trivial⟩, ⟨h, trivial⟩, trivial⟩) ?_
      refine aord_light 13 rfl rfl rfl (by kernel_rfl) ?_
      refine And.intro (by exact fun h => h) ?_
      refine aord_light 14 rfl rfl rfl (by kernel_rfl) ?_
      refine aord_lightG 15 rfl rfl rfl (by kernel_rfl) ?_
      refine And.intro (fun h => trivial) ?_
      refine aord_lightG 16 rfl rfl rfl (by kernel_rfl) ?_
      refine And.intro (fun h => trivial) ?_
      refine aord_lightG 17 rfl rfl rfl (by kernel_rfl) ?_
      refine And.intro (fun h => ⟨⟨h, trivial⟩, ⟨h, trivial⟩, trivial⟩) ?_
      refine aord_light 18 rfl rfl rfl (by kernel_rfl) ?_
      refine And.intro (by exact fun h => h) ?_
      refine aord_all [0] (by kernel_rfl) rfl ?_
      refine aord_all [19] (by kernel_rfl) rfl ?_
      refine aord_light 20 rfl rfl rfl (by kernel_rfl) ?_
      refine aord_done (by kernel_rfl) ?_
      refine acode_ret ?_
      exact ⟨rfl, ⟨rfl, rfl⟩, rfl⟩
end Q
end Ab
end Go.Proofs.YtnimhpgacmojiaaGreatDoor
namespace Go.Proofs.YtnimhpgacmojiaaGreatDoor
open Go.RowKit
namespace Ab
set_option maxRecDepth 100000
namespace Q
theorem acallo_arg {P : Program} {f : FuncId} {xs ys : List A} {ob ob' : Obs} {m m' : Nat} {r : A} (h : ∀ ok ρ w vs, RepAs ok ρ w xs vs → RepAs ok ρ w ys vs) (hc : ACallO P f ys ob m r ob' m') : ACallO P f xs ob m r ob' m' :=
  ⟨hc.1, fun cx ρ w vs h1 h2 h3 h4 h5 => hc.2 cx ρ w vs h1 h2 h3 h4 (h _ _ _ _ h5)⟩
theorem chk_shape {f : List Fld} (h : (chkR f).2 ≠ 0) : (∃ k9, chkA f = errN k9 ∧ k9 ≠ 0 ∧ (-9 : Int) = (chkR f).1 ∧ k9 = (chkR f).2) ∨ ∃ a9 k9, chkA f = errF a9 k9 ∧ k9 ≠ 0 ∧ a9 = (chkR f).1 ∧ k9 = (chkR f).2 := by
  obtain ⟨e, he, hs⟩ := chk_bad h
  rcases hs with ⟨n, hn, rfl, hr⟩ | ⟨i, n, hn, rfl, hr⟩
  · exact .inl ⟨n, he, hn, by rw [hr], by rw [hr]⟩
  · exact .inr ⟨i, n, he, hn, by rw [hr], by rw [hr]⟩
theorem doB_true {a b c d e f : Int} (h1 : a = d) (h2 : b = e) (h3 : c = f) : doB a b c d e f = true := by
  subst h1 h2 h3
  simp [doB]
theorem do_ref {c : Nat} (L : Lst) (M : RLs) (e : Edt) (h : LOk c L) (hc : c ≤ 200000) (hf : FldsOk e.2.2) (hml : M.1.length ≤ 1000000) (hmn : 0 ≤ M.2 ∧ M.2 ≤ 1000000000) :
    ∃ b, ACallO Tryz.prog 36 [.one (.own 0 0), .agg (toL rRL M), .agg (toL rEdt e)] (lsO L) 2 (.tup [(true, toL rRL (refDo M e)), (false, [.lit (.bool b)])]) (lsO (doL L e)) 2 ∧ (M = (L.1, L.2.1) → b = true) := by
  obtain ⟨es, n, m⟩ := L
  obtain ⟨ms, mn⟩ := M
  obtain ⟨k, id, f⟩ := e
  have hmany := h.many
  have hnx := h.next
  have hln := h.len
  have hids := ids_len es
  have hil := List.length_filter_le live es
  simp only at hmany hnx hln hf hml hmn
  unfold doL refDo
  simp only
  by_cases h1 : k = 1
  · subst h1
    simp only [if_pos]
    by_cases h0 : atE es id < 0
    · simp only [if_pos h0]
      exact ⟨_, doRep_no es n m id f ms mn hf hml h0, fun e => by cases e; exact doB_true (by simp [refRep, h0]) (by simp [refRep, h0]) rfl⟩
    · simp only [if_neg h0]
      by_cases hck : (chkR f).2 ≠ 0
      · simp only [if_pos hck]
        rcases chk_shape hck with ⟨k9, g1, g2, g3, g4⟩ | ⟨a9, k9, g1, g2, g3, g4⟩
        · exact ⟨_, doRep_chk_n es n m id f ms mn hf hml (by omega) hck k9 g1 g2, fun e => by cases e; exact doB_true (by simp [refRep, h0, hck, g4]) (by simp [refRep, h0, hck, g3]) rfl⟩
        · exact ⟨_, doRep_chk_f es n m id f ms mn hf hml (by omega) hck a9 k9 g1 g2, fun e => by cases e; exact doB_true (by simp [refRep, h0, hck, g4]) (by simp [refRep, h0, hck, g3]) rfl⟩
      · simp only [if_neg hck]
        have hck : (chkR f).2 = 0 := Classical.not_not.1 hck
        obtain ⟨i, hi, he, _, _⟩ := at_lt h0
        rw [he, Int.toNat_natCast]
        exact ⟨_, doRep_ok es n m id f ms mn hf hml i hi he hck, fun e => by cases e; exact doB_true (by simp [refRep, h0, hck]) (by simp [refRep, h0, hck]) rfl⟩
  · by_cases h2 : k = 2
    · subst h2
      simp only [if_neg h1, if_pos]
      by_cases h0 : atE es id < 0
      · simp only [if_pos h0]
        exact ⟨_, doDel_no es n m id f ms mn hf hml h0, fun e => by cases e; exact doB_true (by simp [refDel, h0]) rfl rfl⟩
      · simp only [if_neg h0]
        obtain ⟨i, hi, he, _, _⟩ := at_lt h0
        rw [he, Int.toNat_natCast]
        exact ⟨_, doDel_ok es n m id f ms mn hf hml i hi he (by omega) (by omega), fun e => by cases e; exact doB_true (by simp [refDel, h0]) rfl rfl⟩
    · simp only [if_neg h1, if_neg h2]
      by_cases h0 : atE es id < 0 ∧ id ≠ 0
      · simp only [if_pos h0]
        exact ⟨_, doIns_no es n m id f ms mn hf hml k h1 h2 hmn h0.1 h0.2, fun e => by cases e; exact doB_true (by simp only [refIns, if_pos h0]) (by simp only [refIns, if_pos h0]) (by simp only [refIns, if_pos h0])⟩
      · simp only [if_neg h0]
        by_cases hck : (chkR f).2 ≠ 0
        · simp only [if_pos hck]
          rcases chk_shape hck with ⟨k9, g1, g2, g3, g4⟩ | ⟨a9, k9, g1, g2, g3, g4⟩
          · exact ⟨_, doIns_chk_n es n m id f ms mn hf hml k h1 h2 hmn h0 hck k9 g1 g2, fun e => by cases e; exact doB_true (by simp only [refIns, if_neg h0, if_pos hck, g4]) (by simp only [refIns, if_neg h0, if_pos hck, g3]) (by simp only [refIns, if_neg h0, if_pos hck])⟩
          · exact ⟨_, doIns_chk_f es n m id f ms mn hf hml k h1 h2 hmn h0 hck a9 k9 g1 g2, fun e => by cases e; exact doB_true (by simp only [refIns, if_neg h0, if_pos hck, g4]) (by simp only [refIns, if_neg h0, if_pos hck, g3]) (by simp only [refIns, if_neg h0, if_pos hck])⟩
        · simp only [if_neg hck]
          have hck' : (chkR f).2 = 0 := Classical.not_not.1 hck
          by_cases h4 : 400 ≤ m
          · simp only [if_pos h4]
            have h5 : 400 ≤ ((es.filter live).length : Int) := by omega
            exact ⟨_, doIns_full es n m id f ms mn hf hml k h1 h2 hmn h0 hck' h4, fun e => by cases e; exact doB_true (by simp only [refIns, if_neg h0, if_neg hck, if_pos h5]) (by simp only [refIns, if_neg h0, if_neg hck, if_pos h5]) (by simp only [refIns, if_neg h0, if_neg hck, if_pos h5])⟩
          · simp only [if_neg h4]
            have h5 : ¬ 400 ≤ ((es.filter live).length : Int) := by omega
            obtain ⟨j, hj, hje⟩ : ∃ j : Nat, j ≤ es.length ∧ atE es id + 1 = (j : Int) := by
              rcases at_cases es id with ⟨h1, _⟩ | ⟨i, h1, h2, _⟩
              · exact ⟨0, Nat.zero_le _, by omega⟩
              · exact ⟨i + 1, by omega, by omega⟩
            rw [hje, Int.toNat_natCast]
            exact ⟨_, doIns_ok es n m id f ms mn hf hml k h1 h2 hmn j hj h0 hje hck' (by omega) (by omega) (by omega), fun e => by cases e; exact doB_true (by simp only [refIns, if_neg h0, if_neg hck, if_neg h5]) (by simp only [refIns, if_neg h0, if_neg hck, if_neg h5]) (by simp only [refIns, if_neg h0, if_neg hck, if_neg h5])⟩
theorem do_any {c : Nat} (L : Lst) (e : Edt) (h : LOk c L) (hc : c ≤ 200000) (hf : FldsOk e.2.2) :
    ∃ b, ACallO Tryz.prog 36 [.one (.own 0 0), .agg zRL, .agg (toL rEdt e)] (lsO L) 2 (.tup [(true, toL rRL (refDo (([] : List Ent), (0 : Int)) e)), (false, [.lit (.bool b)])]) (lsO (doL L e)) 2 := by
  obtain ⟨b, hb, _⟩ := do_ref L (([] : List Ent), (0 : Int)) e h hc hf (by decide) (by decide)
  refine ⟨b, acallo_arg (fun ok ρ w vs hv => ?_) hb⟩
  obtain ⟨v, t, rfl, h0, v1, t1, rfl, h1, h3⟩ := hv
  obtain ⟨us, he, x, r2, rfl, hx, hr2⟩ := h1
  exact ⟨v, _, rfl, h0, v1, t1, rfl, ⟨_, he, x, r2, rfl, by rw [show x = _ from hx]; exact slOk_nil, hr2⟩, h3⟩
def plays (L : Lst) (s : List Edt) (i : Nat) : Lst := (s.take i).foldl doL L
theorem plays_snoc (L : Lst) {s : List Edt} {i : Nat} (h : i < s.length) : plays L s (i + 1) = doL (plays L s i) (s.getD i ((0 : Int), (0 : Int), ([] : List Fld))) := by
  unfold plays
  rw [← take_snoc ((0 : Int), (0 : Int), ([] : List Fld)) h, List.foldl_append]
  rfl
theorem plays_ok {c : Nat} {L : Lst} {s : List Edt} (h : LOk c L) (hf : ∀ e ∈ s, FldsOk e.2.2) : ∀ i, i ≤ s.length → LOk (c + i) (plays L s i)
  | 0, _ => by simpa [plays] using h
  | i + 1, hi => by
    rw [plays_snoc L (by omega)]
    exact doL_ok (plays_ok h hf i (by omega)) (hf _ (getD_mem (by omega) ((0 : Int), (0 : Int), ([] : List Fld))))
theorem heavy_ok {s : List Edt} (h : heavyB s = false) : s.length ≤ 51 ∧ ∀ e ∈ s, muchB e.2.2 = false := by
  unfold heavyB at h
  simp only [Bool.or_eq_false_iff, decide_eq_false_iff_not] at h
  exact ⟨by omega, fun e he => by simpa using List.any_eq_false.1 h.2 e he⟩
theorem items_len {s : ByteArray} {l : List Itm} (hp : parseS s = .inr l) : l.length ≤ 2 * s.size + 1 := by
  have h0 := parse_ref s
  rw [hp] at h0
  obtain ⟨h1, _⟩ := linesT_len s
  have key : ∀ (L : List Lne) (t : RSt) (bh : Bool) (l : List Itm), runR bh t L = .inr l → l.length ≤ t.out.length + 1 + 2 * L.length := by
    intro L
    induction L with
    | nil =>
      intro t bh l h
      unfold runR at h
      cases h
      split <;> simp
    | cons a r ih =>
      intro t bh l h
      unfold runR at h
      split at h
      · cases h
      · have i1 := ih _ _ _ h
        have so : (stepR t a r).out.length ≤ t.out.length + 2 := by
          unfold stepR
          split
          · simp only; split <;> simp
          · split <;> simp
        rw [List.length_cons]; omega
  have k1 := key _ _ _ _ h0.symm
  simp only [rst0, List.length_nil] at k1
  omega
theorem of_lok {s : ByteArray} {l : List Itm} (hs : s.size ≤ 4000) (hp : parseS s = .inr l) : LOk 9000 (ofT l) := by
  have h1 := items_len hp
  exact ofT_ok (by omega) fun x hx => fldsOk_of (items_small hp x hx).1 (items_small hp x hx).2
theorem LOk.f1 {c : Nat} {L : Lst} (h : LOk c L) : ∀ e ∈ L.1, e.1.2.2.length ≤ 1000000 := fun e he => Nat.le_trans (h.flds e he).1 (by decide)
end Q
end Ab
end Go.Proofs.YtnimhpgacmojiaaGreatDoor
namespace Go.Proofs.YtnimhpgacmojiaaGreatDoor
open Go.RowKit
namespace Ab
set_option maxRecDepth 100000
namespace Q
theorem a1_parse7 : parseS ⟨#[65, 58, 32, 49, 10]⟩ = .inr [(3, ⟨#[65, 58, 32, 49, 10]⟩, [(⟨#[65]⟩, ⟨#[49]⟩)])] := by decide +kernel
def al0 : List Ent := [((3, ⟨#[65, 58, 32, 49, 10]⟩, [(⟨#[65]⟩, ⟨#[49]⟩)]), 1)]
def alF : List Fld := [(⟨#[66]⟩, ⟨#[50]⟩)]
def al1 : List Ent := insE al0 0 (itmOf alF, 2)
theorem alive7_c : ACall Tryz.prog 32 [] (ib true) := by
  have hof := of_ok ⟨#[65, 58, 32, 49, 10]⟩ (by decide) a1_parse7
  rw [show ofT [(3, ⟨#[65, 58, 32, 49, 10]⟩, [(⟨#[65]⟩, ⟨#[49]⟩)])] = (al0, 2, 1) from rfl] at hof
  have hins := (lIns_ok (κ := 1) al0 2 1 0 alF 0 (by decide) (by decide) (by decide) ⟨by decide, by decide⟩ (by decide +kernel) ⟨by decide, by decide⟩ ⟨by decide, by decide⟩ (by decide)).x
  have htx := textL_c (k := 1) al1 3 2 (by decide) (by decide) (by decide +kernel)
  rw [show bytes (txtL al1) = ⟨#[66, 58, 32, 50, 10, 10, 65, 58, 32, 49, 10]⟩ from by decide +kernel] at htx
  refine acall_of (rs := [0]) Tryz.func32 rfl rfl rfl teOk rfl ?_
  refine acode_seq ?_
  refine acode_region ?_
  refine acode_seq ?_
  refine acode_region ?_
  refine Or.inr (Or.inl (Exists.intro [] (Exists.intro [] (Exists.intro _ (Exists.intro _ (Exists.intro _ (Exists.intro _ (Exists.intro _ (And.intro (hof) (And.intro rfl (And.intro True.intro (And.intro rfl ?_))))))))))))
  refine acode_seq ?_
  refine acode_seq ?_
  refine acode_region ?_
  refine And.intro (fun h => trivial) ?_
  refine And.intro (fun h => ⟨⟨h, trivial⟩, trivial⟩) ?_
  refine And.intro (by first | (intro h; rw [h]; rfl) | (intro h; cases h)) ?_
  refine acode_cond rfl (fun h13 => ?_) (fun h13 => ?_)
  ·try simp only [Bool.not_eq_true', Bool.or_eq_true] at h13
   try simp only [Int.toNat_natCast, dflt_sl, dflt_st, dflt_str, dflt_int, dflt_bool] at h13
   simp at h13
  ·try simp only [Bool.not_eq_false', Bool.or_eq_false_iff] at h13
   try simp only [Int.toNat_natCast, dflt_sl, dflt_st, dflt_str, dflt_int, dflt_bool] at h13
   refine acode_skip ?_
   refine acode_seq ?_
   refine acode_region ?_
   refine Or.inr (Or.inr (Or.inr (Exists.intro [0, 1] (Exists.intro [] (Exists.intro _ (Exists.intro _ (Exists.intro _ (Exists.intro _ (Exists.intro _ (And.intro (hins) (And.intro rfl (And.intro (And.intro (And.intro rfl rfl) (And.intro (And.intro rfl rfl) True.intro)) (And.intro rfl ?_)))))))))))))
   refine acode_seq ?_
   refine acode_region ?_
   refine And.intro (fun h => trivial) ?_
   refine And.intro (fun h => ⟨⟨h, trivial⟩, trivial⟩) ?_
   refine And.intro (by exact fun h => h) ?_
   refine And.intro (fun h => trivial) ?_
   refine Or.inl ?_
   refine And.intro (rfl) ?_
   refine Exists.intro _ (And.intro (fun h => ⟨⟨⟨h, trivial⟩, trivial⟩, htx⟩) ?_)
   refine And.intro (fun h => ⟨⟨h, trivial⟩, trivial⟩) ?_
   refine And.intro (by exact fun h => h) ?_
   refine And.intro (fun h => trivial) ?_
   refine Or.inl ?_
   refine And.intro (rfl) ?_
   refine Exists.intro _ (And.intro (fun h => ⟨⟨⟨h, trivial⟩, trivial⟩, len_c al1 3 2⟩) ?_)
   refine And.intro (fun h => ⟨⟨h, trivial⟩, trivial⟩) ?_
   refine And.intro (by exact fun h => h) ?_
   refine acode_ret ?_
   rfl
end Q
end Ab
end Go.Proofs.YtnimhpgacmojiaaGreatDoor
namespace Go.Proofs.YtnimhpgacmojiaaGreatDoor
open Go.RowKit
namespace Ab
set_option maxRecDepth 100000
namespace Q
structure SeenI (es : List Ent) (n : Int) (i : Nat) (sn : List Bool) : Prop where
  le : i ≤ (stzL es).length
  len : sn.length = n.toNat
  seen : ∀ k : Nat, sn.getD k false = true → ∃ j, j < i ∧ ((stzL es).getD j ((0 : Int), ([] : List Fld))).1 = k
theorem SeenI.next {es : List Ent} {n : Int} {i : Nat} {sn : List Bool} (h : SeenI es n i sn) (hi : i < (stzL es).length) (hp : 0 < ((stzL es).getD i ((0 : Int), ([] : List Fld))).1) : SeenI es n (i + 1) (sn.set (((stzL es).getD i ((0 : Int), ([] : List Fld))).1).toNat true) := by
  refine ⟨hi, by rw [List.length_set]; exact h.len, fun k hk => ?_⟩
  by_cases e : (((stzL es).getD i ((0 : Int), ([] : List Fld))).1).toNat = k
  · exact ⟨i, Nat.lt_succ_self _, by omega⟩
  · rw [List.getD_eq_getElem?_getD, List.getElem?_set_ne e, ← List.getD_eq_getElem?_getD] at hk
    obtain ⟨j, hj, h2⟩ := h.seen k hk
    exact ⟨j, by omega, h2⟩
theorem lsbox_eq {L M : Lst} (h : M = L) : some (Ob.box 125 [.vec 1, .lit (.int .i64 L.2.1), .lit (.int .i64 L.2.2)]) = some (Ob.box 125 [.vec 1, .lit (.int .i64 M.2.1), .lit (.int .i64 M.2.2)]) := by rw [h]
theorem lsvec_eq {L M : Lst} (h : M = L) : some (Ob.vec 127 rEnt L.1) = some (Ob.vec 127 rEnt M.1) := by rw [h]
end Q
end Ab
end Go.Proofs.YtnimhpgacmojiaaGreatDoor
namespace Go.Proofs.YtnimhpgacmojiaaGreatDoor
open Go.RowKit
namespace Ab
set_option maxRecDepth 100000
namespace Q
def BlankI (x : Itm) : Prop := ∃ t : ByteArray, x = (1, t ++ ⟨#[10]⟩, []) ∧ kindL (ls t) = 1 ∧ (10 : UInt8) ∉ ls t
def Good1 (x : Itm) : Prop := BlankI x ∨ (x.1 ≠ 1 ∧ Blk x)
def BIP (p : PSt) : Prop := (∀ x ∈ p.its, x.1 = 1 → BlankI x) ∧ p.recs = (cntR p.its : Int)
theorem isRec1 (t : ByteArray) : isRec (1, t, []) = false := by unfold isRec; simp
theorem close_bi {p : PSt} (h : BIP p) : BIP (closeS p) := by
  unfold closeS
  split
  · exact h
  · by_cases hf : p.flds = []
    · simp only [if_pos hf]
      refine ⟨fun x hx hx1 => ?_, ?_⟩
      · rcases List.mem_append.1 hx with hx | hx
        · exact h.1 x hx hx1
        · rw [List.mem_singleton.1 hx] at hx1; cases hx1
      · simp only [cntR_app]
        rw [h.2]
        simp [cntR, isRec]
    · simp only [if_neg hf]
      refine ⟨fun x hx hx1 => ?_, ?_⟩
      · rcases List.mem_append.1 hx with hx | hx
        · exact h.1 x hx hx1
        · rw [List.mem_singleton.1 hx] at hx1; cases hx1
      · simp only [cntR_app]
        rw [h.2]
        simp [cntR, isRec]
theorem flush_bi {p q : PSt} (h : BIP p) (hf : flushS p = .inr q) : BIP q := by
  unfold BIP
  rw [(flush_same hf).1, flush_recs hf]
  exact h
theorem end_bi {p q : PSt} (h : BIP p) (hf : endS p = .inr q) : BIP q := by
  unfold endS at hf
  cases e : flushS p with
  | inl x => rw [e] at hf; cases hf
  | inr r => rw [e] at hf; cases hf; exact close_bi (flush_bi h e)
theorem take_bi {p q : PSt} {l : Lne} (h : BIP p) (hf : takeS p l = .inr q) (hn : (10 : UInt8) ∉ ls l.2.2.1) : BIP q := by
  unfold takeS at hf
  cases e : aheadS p l (kindL (ls l.2.2.1)) with
  | inl x => rw [e] at hf; cases hf
  | inr r =>
    rw [e] at hf
    have hr : BIP r := by
      unfold aheadS at e
      split at e
      · split at e
        · cases e
        · split at e
          · cases e; exact h
          · exact flush_bi (p := { p with lns := p.lns ++ [l.2.2.1] }) h e
      · split at e
        · exact end_bi h e
        · exact flush_bi h e
    simp only at hf
    unfold lineS at hf
    split at hf
    · cases hf
    · split at hf
      · rename_i hk
        cases hf
        refine ⟨fun x hx hx1 => ?_, ?_⟩
        · rcases List.mem_append.1 hx with hx | hx
          · exact hr.1 x hx hx1
          · exact ⟨l.2.2.1, List.mem_singleton.1 hx, hk, hn⟩
        · simp only [cntR_app]
          rw [hr.2]
          simp [cntR, isRec1]
      · split at hf
        · cases hf; exact hr
        · cases hf; exact hr
theorem run_bi : ∀ (L : List Lne) (p q : PSt), BIP p → runS p L = .inr q → (∀ l ∈ L, (10 : UInt8) ∉ ls l.2.2.1) → BIP q
  | [], p, q, hp, h, _ => by cases h; exact hp
  | l :: r, p, q, hp, h, hn => by
    simp only [runS] at h
    cases e : takeS p l with
    | inl x => rw [e] at h; cases h
    | inr p1 =>
      rw [e] at h
      exact run_bi r p1 q (take_bi hp e (hn l List.mem_cons_self)) h (fun x hx => hn x (List.mem_cons_of_mem _ hx))
theorem parse_good {s : ByteArray} {l : List Itm} (hp : parseS s = .inr l) : (∀ x ∈ l, Good1 x) ∧ cntR l ≤ 400 := by
  have hb := parse_blks hp
  unfold parseS at hp
  cases e : runS pst0 (linesT s) with
  | inl x => rw [e] at hp; cases hp
  | inr p =>
    rw [e] at hp
    simp only at hp
    cases e2 : endS p with
    | inl x => rw [e2] at hp; cases hp
    | inr q =>
      rw [e2] at hp
      cases hp
      have hno : ∀ l ∈ linesT s, (10 : UInt8) ∉ ls l.2.2.1 := fun l hl => by
        have h1 : l.2.2 ∈ (linesT s).map (·.2.2) := List.mem_map_of_mem hl
        rw [lines_text] at h1
        exact linesB_no _ _ _ h1
      have h1 : BIP q := end_bi (run_bi _ _ _ ⟨(fun _ h => by cases h), rfl⟩ e hno) e2
      have h2 := (end_par (run_par _ _ _ ⟨[], 0, [], pst0, rel_0, rfl, rfl, rfl, (fun _ h => by cases h), (fun _ h => by cases h)⟩ e hno) e2).2.2.2
      refine ⟨fun x hx => ?_, by have := h1.2; omega⟩
      by_cases hx1 : x.1 = 1
      · exact .inl (h1.1 x hx hx1)
      · exact .inr ⟨hx1, hb x hx hx1⟩
def HF (p : PSt) : Prop := p.lns ≠ [] ∨ p.flds ≠ []
theorem flush_hf {p q : PSt} (h : HF p) (hf : flushS p = .inr q) : q.flds ≠ [] := by
  unfold flushS at hf
  split at hf
  · rename_i h0
    cases hf
    exact h.elim (fun e => absurd h0 e) id
  · split at hf
    · cases hf
    · split at hf
      · cases hf
      · cases hf; simp
theorem take_hf {p q : PSt} {l : Lne} (hf : takeS p l = .inr q) (hk : kindL (ls l.2.2.1) ≠ 1) (h : HF p ∨ kindL (ls l.2.2.1) = 4) : HF q := by
  unfold takeS at hf
  cases e : aheadS p l (kindL (ls l.2.2.1)) with
  | inl x => rw [e] at hf; cases hf
  | inr r =>
    rw [e] at hf
    have hr : HF p → HF r := fun h => by
      unfold aheadS at e
      split at e
      · split at e
        · cases e
        · split at e
          · cases e; exact .inl (by simp)
          · exact .inr (flush_hf (p := { p with lns := p.lns ++ [l.2.2.1] }) (.inl (by simp)) e)
      · try rw [if_neg hk] at e
        exact .inr (flush_hf h e)
    simp only at hf
    unfold lineS at hf
    split at hf
    · cases hf
    · try rw [if_neg hk] at hf
      split at hf
      · cases hf; exact .inl (by simp [beginS])
      · rename_i h4
        cases hf
        exact hr (h.elim id fun e => absurd e h4)
theorem run_none {L : List Lne} {p q : PSt} (h : runS p L = .inr q) (h0 : q.its = []) : p.its = [] := by
  obtain ⟨_, _, X, hX⟩ := run_took L p q h
  rw [h0] at hX
  exact (List.append_eq_nil_iff.1 hX.symm).1
theorem take_one {p q : PSt} {l : Lne} (hf : takeS p l = .inr q) (hk : kindL (ls l.2.2.1) = 1) : q.its ≠ [] := by
  unfold takeS at hf
  rw [hk] at hf
  cases e : aheadS p l 1 with
  | inl x => rw [e] at hf; cases hf
  | inr r =>
    rw [e] at hf
    simp only at hf
    unfold lineS at hf
    split at hf
    · cases hf
    · rw [if_pos rfl] at hf
      cases hf
      simp
theorem run_hf : ∀ (L : List Lne) (p q : PSt), runS p L = .inr q → q.its = [] → (HF p ∨ ∃ l ∈ L, kindL (ls l.2.2.1) = 4) → HF q
  | [], p, q, h, _, hp => by
    cases h
    exact hp.elim id fun ⟨l, hl, _⟩ => by cases hl
  | l :: r, p, q, h, h0, hp => by
    simp only [runS] at h
    cases e : takeS p l with
    | inl x => rw [e] at h; cases h
    | inr p1 =>
      rw [e] at h
      have h1 : p1.its = [] := run_none h h0
      have hk : kindL (ls l.2.2.1) ≠ 1 := fun hk => take_one e hk h1
      refine run_hf r p1 q h h0 ?_
      rcases hp with hp | ⟨m, hm, h4⟩
      · exact .inl (take_hf e hk (.inl hp))
      · rcases List.mem_cons.1 hm with rfl | hm
        · exact .inl (take_hf e hk (.inr h4))
        · exact .inr ⟨m, hm, h4⟩
theorem blk_remark {L : List Lne} {q qe : PSt} {x : Itm} (hrun : runS pst0 L = .inr q) (hits : q.its = []) (hend : endS q = .inr qe) (hqe : qe.its = [x]) (hx : x.1 ≠ 3) : ∀ l ∈ L, kindL (ls l.2.2.1) ≠ 4 := by
  intro l hl h4
  have hq : HF q := run_hf L pst0 q hrun hits (.inr ⟨l, hl, h4⟩)
  unfold endS at hend
  cases e : flushS q with
  | inl y => rw [e] at hend; cases hend
  | inr r =>
    rw [e] at hend
    cases hend
    have hr := flush_hf hq e
    have hi := (flush_same e).1
    unfold closeS at hqe
    split at hqe
    · simp only at hqe; rw [hi, hits] at hqe; cases hqe
    · simp only [if_neg hr] at hqe
      rw [hi, hits] at hqe
      simp only [List.nil_append, List.cons.injEq, and_true] at hqe
      rw [← hqe] at hx
      exact hx rfl
theorem blk_recs {q qe : PSt} {x : Itm} (hits : q.its = []) (hrec : q.recs = 0) (hend : endS q = .inr qe) (hqe : qe.its = [x]) : qe.recs = if isRec x then 1 else 0 := by
  unfold endS at hend
  cases e : flushS q with
  | inl y => rw [e] at hend; cases hend
  | inr r =>
    rw [e] at hend
    cases hend
    have hi := (flush_same e).1
    have hc := flush_recs e
    unfold closeS at hqe ⊢
    split at hqe
    · simp only at hqe; rw [hi, hits] at hqe; cases hqe
    · rename_i hb
      rw [if_neg hb]
      rw [hi, hits] at hqe
      simp only [List.nil_append, List.cons.injEq, and_true] at hqe ⊢
      rw [← hqe]
      unfold isRec
      by_cases hf : r.flds = []
      · simp [hf, hc, hrec]
      · simp [hf, hc, hrec]
theorem take_fwd4 {I : List Itm} {c : Int} {p q q1 : PSt} {l : Lne} (h : Fwd I c p q) (hf : takeS q l = .inr q1) (hk : kindL (ls l.2.2.1) ≠ 4) : ∃ p1, takeS p l = .inr p1 ∧ Fwd I c p1 q1 := by
  unfold takeS at hf ⊢
  cases e : aheadS q l (kindL (ls l.2.2.1)) with
  | inl x => rw [e] at hf; cases hf
  | inr r =>
    rw [e] at hf
    obtain ⟨r', e1, h1⟩ := ahead_fwd h e
    rw [e1]
    simp only at hf ⊢
    unfold lineS at hf ⊢
    split at hf
    · cases hf
    · rename_i g1
      rw [if_neg g1]
      split at hf
      · rename_i g2
        rw [if_pos g2]
        cases hf
        exact ⟨_, rfl, h1.lns, h1.full, by simp only [h1.its, List.append_assoc], h1.blk, h1.flds, h1.recs, h1.c0⟩
      · rename_i g2
        rw [if_neg g2]
        try rw [if_neg hk] at hf
        rw [if_neg hk]
        cases hf
        exact ⟨_, rfl, h1.lns, h1.full, h1.its, by simp only [h1.blk], h1.flds, h1.recs, h1.c0⟩
theorem run_fwd4 {I : List Itm} {c : Int} : ∀ (L : List Lne) (p q q1 : PSt), Fwd I c p q → runS q L = .inr q1 → (∀ l ∈ L, kindL (ls l.2.2.1) ≠ 4) → ∃ p1, runS p L = .inr p1 ∧ Fwd I c p1 q1
  | [], p, q, q1, h, hr, _ => by cases hr; exact ⟨_, rfl, h⟩
  | l :: r, p, q, q1, h, hr, h4 => by
    simp only [runS] at hr ⊢
    cases e1 : takeS q l with
    | inl x => rw [e1] at hr; cases hr
    | inr q2 =>
      rw [e1] at hr
      obtain ⟨p2, e2, h2⟩ := take_fwd4 h e1 (h4 l List.mem_cons_self)
      rw [e2]
      exact run_fwd4 r p2 q2 q1 h2 hr (fun x hx => h4 x (List.mem_cons_of_mem _ hx))
theorem blank_any {p p2 : PSt} {t : ByteArray} (h : endS p = .inr p2) (hk : kindL (ls t) = 1) : takeS p (mkL t) = .inr { p2 with its := p2.its ++ [(1, t ++ ⟨#[10]⟩, [])] } := by
  unfold takeS
  have hk : kindL (ls (mkL t).2.2.1) = 1 := hk
  rw [hk]
  have e : aheadS p (mkL t) 1 = .inr p2 := h
  rw [e]
  rfl
theorem idle_end {p : PSt} (h : Idle p) : ∃ p2, endS p = .inr p2 ∧ p2.its = p.its ∧ p2.recs = p.recs ∧ Idle p2 := by
  refine ⟨closeS p, ?_, ?_⟩
  · unfold endS flushS
    rw [if_pos h.1]
  · unfold closeS
    rw [if_pos h.2.1]
    exact ⟨rfl, rfl, h.1, rfl, rfl⟩
theorem end_idle {p p2 : PSt} (h : endS p = .inr p2) (hi : Idle p) : p2.its = p.its ∧ p2.recs = p.recs := by
  obtain ⟨p3, e, h1, h2, _⟩ := idle_end hi
  rw [h] at e
  cases e
  exact ⟨h1, h2⟩
theorem cntR_cons (x : Itm) (r : List Itm) : (cntR (x :: r) : Int) = (if isRec x then 1 else 0) + (cntR r : Int) := by
  unfold cntR
  cases h : isRec x
  · simp [h]
  · simp [h]; omega
theorem alt_run : ∀ (l : List Itm) (k : Int) (p p2 : PSt), endS p = .inr p2 → (k = 1 → Idle p) → altK k l → (∀ x ∈ l, Good1 x) → 0 ≤ p2.recs → p2.recs + (cntR l : Int) ≤ 400 →
    ∃ M p3 p4, (∀ m ∈ M, m.2.2.2 = true ∧ (10 : UInt8) ∉ ls m.2.2.1) ∧ runS p M = .inr p3 ∧ endS p3 = .inr p4 ∧ p4.its = p2.its ++ l ∧ glue (M.map (·.2.2)) = rawsL l
  | [], _, p, p2, he, _, _, _, _, _ => ⟨[], p, p2, (fun _ h => by cases h), rfl, he, by simp, rfl⟩
  | x :: r, k, p, p2, he, hi, ha, hg, h0, h4 => by
    rw [cntR_cons] at h4
    rcases hg x List.mem_cons_self with ⟨t, hx, hk, hn⟩ | ⟨hx1, L, q, qe, hL, hrun, hits, hrec, hend, hqe, hgl⟩
    · subst hx
      rw [show isRec (1, t ++ ⟨#[10]⟩, []) = false from isRec1 _] at h4
      have h4 : p2.recs + (cntR r : Int) ≤ 400 := by simpa using h4
      have hid := (end_took he).2.2
      have ht := blank_any he hk
      obtain ⟨p5, e5, f1, f2, f3⟩ := idle_end (p := { p2 with its := p2.its ++ [(1, t ++ ⟨#[10]⟩, [])] }) ⟨hid.1, hid.2.1, hid.2.2⟩
      obtain ⟨M, p3, p4, i1, i2, i3, i4, i5⟩ := alt_run r 1 _ p5 e5 (fun _ => ⟨hid.1, hid.2.1, hid.2.2⟩) ha.2 (fun y hy => hg y (List.mem_cons_of_mem _ hy)) (by rw [f2]; exact h0) (by rw [f2]; exact h4)
      refine ⟨mkL t :: M, p3, p4, fun m hm => ?_, ?_, i3, by rw [i4, f1]; simp, ?_⟩
      · rcases List.mem_cons.1 hm with rfl | hm
        · exact ⟨rfl, hn⟩
        · exact i1 m hm
      · simp only [runS, ht]
        exact i2
      · have e2 : rawsL ((1, t ++ ⟨#[10]⟩, []) :: r) = (ls t ++ [10]) ++ rawsL r := by simp [rawsL, ls]
        rw [e2, ← i5, List.map_cons]
        simp [glue, mkL]
    · have hk1 : k = 1 := ha.1.elim id fun h => absurd h hx1
      have hid := hi hk1
      obtain ⟨g1, g2⟩ := end_idle he hid
      have hf : Fwd p.its p.recs p pst0 := ⟨hid.1, fun e => absurd rfl e, by simp [pst0], hid.2.1, hid.2.2, by simp [pst0], by rw [← g2]; exact h0⟩
      have hqr := blk_recs hits hrec hend hqe
      have hfw : ∃ p1, runS p L = .inr p1 ∧ Fwd p.its p.recs p1 q := by
        by_cases h3 : x.1 = 3
        · have : isRec x = true := decide_eq_true h3
          rw [this, if_pos rfl] at h4
          exact run_fwd L p pst0 q hf hrun (by omega)
        · exact run_fwd4 L p pst0 q hf hrun (blk_remark hrun hits hend hqe h3)
      obtain ⟨p1, h1, h2⟩ := hfw
      obtain ⟨p3, h3, h5⟩ := end_fwd h2 hend
      have hr5 := h5.recs
      obtain ⟨M, p6, p4, i1, i2, i3, i4, i5⟩ := alt_run r x.1 p1 p3 h3 (fun e => absurd e hx1) ha.2 (fun y hy => hg y (List.mem_cons_of_mem _ hy)) (by rw [hr5, hqr]; split <;> omega) (by rw [hr5, hqr]; omega)
      refine ⟨L ++ M, p6, p4, fun m hm => ?_, ?_, i3, ?_, ?_⟩
      · rcases List.mem_append.1 hm with hm | hm
        · exact hL m hm
        · exact i1 m hm
      · rw [run_app _ _ _ _ h1]; exact i2
      · rw [i4, h5.its, hqe, g1]; simp
      · rw [List.map_append, glue_app, hgl, i5]; simp [rawsL]
theorem alt_parse {l : List Itm} (ha : altK 1 l) (hg : ∀ x ∈ l, Good1 x) (h4 : cntR l ≤ 400) : parseS (bytes (rawsL l)) = .inr l := by
  obtain ⟨p5, e5, f1, f2, f3⟩ := idle_end (p := pst0) ⟨rfl, rfl, rfl⟩
  have f1 : p5.its = [] := f1
  have f2 : p5.recs = 0 := f2
  obtain ⟨M, p3, p4, i1, i2, i3, i4, i5⟩ := alt_run l 1 pst0 p5 e5 (fun _ => ⟨rfl, rfl, rfl⟩) ha hg (by rw [f2]; decide) (by rw [f2]; omega)
  rw [← i5, parse_of (lines_of i1) i2 i3, i4, f1]
  rfl
theorem kind_none : kindL (ls ⟨#[]⟩) = 1 := by decide +kernel
theorem blank_nl : BlankI (1, ⟨#[10]⟩, []) := ⟨⟨#[]⟩, rfl, kind_none, by simp [ls]⟩
theorem apart_good : ∀ (l : List Itm) (k : Int), (∀ x ∈ l, Good1 x) → altK k (apartK k l) ∧ (∀ x ∈ apartK k l, Good1 x) ∧ cntR (apartK k l) = cntR l
  | [], _, _ => ⟨trivial, (fun _ h => by cases h), rfl⟩
  | x :: r, k, h => by
    obtain ⟨h1, h2, h3⟩ := apart_good r x.1 fun y hy => h y (List.mem_cons_of_mem _ hy)
    unfold apartK
    have hc : cntR (x :: apartK x.1 r) = cntR (x :: r) := by
      have e1 := cntR_cons x (apartK x.1 r)
      have e2 := cntR_cons x r
      rw [h3] at e1
      omega
    split
    · rename_i hk
      refine ⟨⟨.inr rfl, .inl rfl, h1⟩, fun y hy => ?_, ?_⟩
      · rcases List.mem_cons.1 hy with rfl | hy
        · exact .inl blank_nl
        · rcases List.mem_cons.1 hy with rfl | hy
          · exact h _ List.mem_cons_self
          · exact h2 y hy
      · rw [← hc]
        have e1 := cntR_cons (1, ⟨#[10]⟩, []) (x :: apartK x.1 r)
        rw [isRec1] at e1
        simp only [Bool.false_eq_true, if_false] at e1
        omega
    · rename_i hk
      refine ⟨⟨?_, h1⟩, fun y hy => ?_, hc⟩
      · by_cases hk1 : k = 1
        · exact .inl hk1
        · exact .inr (Classical.byContradiction fun e => hk ⟨hk1, e⟩)
      · rcases List.mem_cons.1 hy with rfl | hy
        · exact h _ List.mem_cons_self
        · exact h2 y hy
theorem good_itm {f : List Fld} (hc : (chkR f).2 = 0) : Good1 (itmOf f) := by
  obtain ⟨⟨g1, g2, g3⟩, _, _⟩ := chk_good hc
  obtain ⟨q, e1, e2, e3, e4, e5⟩ := fields_run f pst0 [] g3 (ready_idle rfl rfl) (by simpa using g2) (by decide) g1
  obtain ⟨r, q2, f1, f2, f3, f4⟩ := end_run e2 (by simpa using g1) e5
  have hno : ∀ t ∈ (f.flatMap fun f => lineB f.1 f.2), (10 : UInt8) ∉ ls t := fun t ht => by
    obtain ⟨y, hy, ht⟩ := List.mem_flatMap.1 ht
    exact lines_no (v := y.2.data.toList) (check_ok (g3 y hy)).1 (ls t) (by rw [← lineB_map2]; exact List.mem_map_of_mem ht)
  have hL : ∀ l ∈ (f.flatMap fun f => lineB f.1 f.2).map mkL, l.2.2.2 = true ∧ (10 : UInt8) ∉ ls l.2.2.1 := fun l hl => by
    obtain ⟨t, ht, rfl⟩ := List.mem_map.1 hl
    exact ⟨rfl, hno t ht⟩
  have hgl : glue (((f.flatMap fun f => lineB f.1 f.2).map mkL).map (·.2.2)) = foldL f := by rw [glue_mk, endL_flat]
  rw [List.nil_append] at f3
  have e3' : q.its = [] := e3
  rw [e3', List.nil_append] at f3
  have hp := parse_of (lines_of hL) e1 f1
  rw [hgl, f3] at hp
  have hr := raws_text hp
  have hrr : r = bytes (foldL f) := by
    have h1 : rawsL [((3 : Int), r, f)] = foldL f := by
      have := congrArg (fun b : ByteArray => b.data.toList) hr
      simpa [bytes] using this
    have h2 : ls r = foldL f := by simpa [rawsL] using h1
    exact ls_inj h2
  refine .inr ⟨by show (3 : Int) ≠ 1; decide, _, q, q2, hL, e1, e3', e4, f1, ?_, ?_⟩
  · rw [f3, hrr]; rfl
  · rw [hgl]
    exact (bytes_list _).symm
end Q
end Ab
end Go.Proofs.YtnimhpgacmojiaaGreatDoor
namespace Go.Proofs.YtnimhpgacmojiaaGreatDoor
open Go.RowKit
namespace Ab
set_option maxRecDepth 100000
namespace Q
structure LGd (B : Nat) (L : Lst) : Prop where
  good : ∀ e ∈ L.1, Good1 e.1 ∧ isRec e.1 = live e
  m4 : L.2.2 ≤ 400
  sz : szI (itmL L.1) ≤ B
theorem itmL_app (a b : List Ent) : itmL (a ++ b) = itmL a ++ itmL b := List.map_append
theorem sz_cons (x : Itm) (l : List Itm) : szI (x :: l) = x.2.1.size + szI l := by simp [szI]
theorem sz_split (es : List Ent) (i : Nat) : szI (itmL es) = szI (itmL (es.take i)) + szI (itmL (es.drop i)) := by
  conv => lhs; rw [← List.take_append_drop i es, itmL_app, szI_app]
theorem sz_repl {es : List Ent} {i : Nat} {x : Itm} (h : i < es.length) : szI (itmL (replE es i x)) ≤ szI (itmL es) + x.2.1.size := by
  have e1 : replE es i x = es.take i ++ (x, (es.getD i (((0 : Int), ByteArray.empty, ([] : List Fld)), (0 : Int))).2) :: es.drop (i + 1) := List.set_eq_take_append_cons_drop .. |>.trans (if_pos h)
  rw [e1, itmL_app, szI_app]
  have e2 : itmL ((x, (es.getD i (((0 : Int), ByteArray.empty, ([] : List Fld)), (0 : Int))).2) :: es.drop (i + 1)) = x :: itmL (es.drop (i + 1)) := rfl
  have e3 : itmL ((es.getD i (((0 : Int), ByteArray.empty, ([] : List Fld)), (0 : Int))) :: es.drop (i + 1)) = (es.getD i (((0 : Int), ByteArray.empty, ([] : List Fld)), (0 : Int))).1 :: itmL (es.drop (i + 1)) := rfl
  have e4 := congrArg (fun l => szI (itmL l)) (del_split h)
  simp only [itmL_app, szI_app, e3, sz_cons] at e4
  rw [e2, sz_cons]
  omega
theorem sz_del {es : List Ent} {i : Nat} : szI (itmL (delE es i)) ≤ szI (itmL es) := by
  unfold delE
  rw [itmL_app, szI_app, sz_split es i]
  have := sz_split (es.drop i) 1
  rw [List.drop_drop] at this
  rw [show i + 1 = i + 1 from rfl]
  omega
theorem sz_ins {es : List Ent} {i : Nat} {x : Ent} : szI (itmL (insE es i x)) = szI (itmL es) + x.1.2.1.size := by
  unfold insE
  rw [itmL_app, szI_app, sz_split es i]
  have e2 : itmL (x :: es.drop i) = x.1 :: itmL (es.drop i) := rfl
  rw [e2, sz_cons]
  omega
theorem itm_sz {f : List Fld} (hm : muchB f = false) (hc : (chkR f).2 = 0) : (itmOf f).2.1.size ≤ 24120 := by
  obtain ⟨⟨_, g2, _⟩, g4, _⟩ := chk_good hc
  exact foldB_size hm g4 g2
theorem doL_gd {c B : Nat} {L : Lst} {e : Edt} (h : LOk c L) (hg : LGd B L) (hm : muchB e.2.2 = false) : LGd (B + 24120) (doL L e) := by
  have h0 : LGd (B + 24120) L := ⟨hg.good, hg.m4, by have := hg.sz; omega⟩
  have hat : ∀ id, ¬ atE L.1 id < 0 → ∃ i : Nat, i < L.1.length ∧ atE L.1 id = i ∧ 0 < id ∧ (L.1.getD i (((0 : Int), ByteArray.empty, ([] : List Fld)), (0 : Int))).2 = id := fun id hn => by
    rcases at_cases L.1 id with ⟨h1, _⟩ | ⟨i, h1, h2, h3, h4, _⟩
    · omega
    · exact ⟨i, h1, h2, h3, h4⟩
  unfold doL
  split
  · split
    · exact h0
    · rename_i hn
      obtain ⟨i, hi, he, hp, hid⟩ := hat _ hn
      rw [he, Int.toNat_natCast]
      split
      · exact h0
      · rename_i hc
        have hc : (chkR e.2.2).2 = 0 := Classical.not_not.1 hc
        refine ⟨fun x hx => ?_, hg.m4, ?_⟩
        · rcases mem_repl hx with hx | rfl
          · exact hg.good x hx
          · refine ⟨good_itm hc, ?_⟩
            show true = live _
            unfold live
            rw [decide_eq_true (by simp only; omega)]
        · have := sz_repl (x := itmOf e.2.2) hi
          have := itm_sz hm hc
          have := hg.sz
          show szI (itmL (replE L.1 i (itmOf e.2.2))) ≤ _
          omega
  · split
    · split
      · exact h0
      · rename_i hn
        obtain ⟨i, hi, he, hp, hid⟩ := hat _ hn
        rw [he, Int.toNat_natCast]
        refine ⟨fun x hx => hg.good x (mem_del hx), by have := hg.m4; show L.2.2 - 1 ≤ 400; omega, ?_⟩
        have := sz_del (es := L.1) (i := i)
        have := hg.sz
        show szI (itmL (delE L.1 i)) ≤ _
        omega
    · split
      · exact h0
      · rename_i hn
        split
        · exact h0
        · rename_i hc
          have hc : (chkR e.2.2).2 = 0 := Classical.not_not.1 hc
          split
          · exact h0
          · rename_i h4
            refine ⟨fun x hx => ?_, by show L.2.2 + 1 ≤ 400; omega, ?_⟩
            · rcases mem_ins hx with hx | rfl
              · exact hg.good x hx
              · refine ⟨good_itm hc, ?_⟩
                have := h.next.1
                show true = live _
                unfold live
                rw [decide_eq_true (by simp only; omega)]
            · show szI (itmL (insE L.1 _ _)) ≤ _
              rw [sz_ins]
              have := itm_sz hm hc
              have := hg.sz
              simp only
              omega
theorem num_good : ∀ (l : List Itm) (n : Int), 1 ≤ n → (∀ x ∈ l, Good1 x) → ∀ e ∈ numI n l, Good1 e.1 ∧ isRec e.1 = live e
  | [], _, _, _, e, he => by cases he
  | x :: r, n, hn, hg, e, he => by
    unfold numI at he
    split at he
    · rename_i hr
      rcases List.mem_cons.1 he with rfl | he
      · refine ⟨hg x List.mem_cons_self, ?_⟩
        rw [hr]
        unfold live
        rw [decide_eq_true (by simp only; omega)]
      · exact num_good r (n + 1) (by omega) (fun y hy => hg y (List.mem_cons_of_mem _ hy)) e he
    · rename_i hr
      rcases List.mem_cons.1 he with rfl | he
      · refine ⟨hg x List.mem_cons_self, ?_⟩
        rw [hr]
        rfl
      · exact num_good r n hn (fun y hy => hg y (List.mem_cons_of_mem _ hy)) e he
theorem ofT_gd {s : ByteArray} {l : List Itm} (hp : parseS s = .inr l) : LGd s.size (ofT l) := by
  obtain ⟨h1, h2⟩ := parse_good hp
  refine ⟨num_good l 1 (Int.le_refl _) h1, by show (cntR l : Int) ≤ 400; omega, ?_⟩
  show szI (itmL (numI 1 l)) ≤ _
  unfold itmL
  rw [numI_items]
  have h3 := raws_text hp
  rw [← raws_sz, ← h3, bytes_size]
  exact Nat.le_refl _
theorem cnt_live {L : Lst} {c B : Nat} (h : LOk c L) (hg : LGd B L) : (cntR (itmL L.1) : Int) = L.2.2 := by
  rw [h.many, ids_len]
  congr 1
  unfold cntR itmL
  rw [List.filter_map, List.length_map]
  congr 1
  exact List.filter_congr fun e he => (hg.good e he).2
theorem recs_cons (x : Itm) (l : List Itm) : recsL (x :: l) = (if x.1 = 3 then [x.2.2] else []) ++ recsL l := by
  unfold recsL
  by_cases h : x.1 = 3
  · simp [h]
  · simp [h]
theorem apart_recs : ∀ (l : List Itm) (k : Int), recsL (apartK k l) = recsL l
  | [], _ => rfl
  | x :: r, k => by
    have ih := apart_recs r x.1
    unfold apartK
    split
    · rw [recs_cons, recs_cons, recs_cons, ih, if_neg (by decide)]; rfl
    · rw [recs_cons, recs_cons, ih]
theorem recs_rows {L : Lst} {B : Nat} (hg : LGd B L) : recsL (itmL L.1) = rowsL L.1 := by
  unfold recsL itmL rowsL stzL
  rw [List.filter_map, List.map_map, List.map_map]
  have : L.1.filter ((fun x : Itm => decide (x.1 = 3)) ∘ fun x => x.1) = L.1.filter live := List.filter_congr fun e he => (hg.good e he).2
  rw [this]
  rfl
theorem txt_parse {L : Lst} {c B : Nat} (h : LOk c L) (hg : LGd B L) : parseS (bytes (txtL L.1)) = .inr (apartL (itmL L.1)) ∧ recsL (apartL (itmL L.1)) = rowsL L.1 ∧ apartL (apartL (itmL L.1)) = apartL (itmL L.1) := by
  have hgi : ∀ x ∈ itmL L.1, Good1 x := fun x hx => by
    obtain ⟨e, he, rfl⟩ := List.mem_map.1 hx
    exact (hg.good e he).1
  obtain ⟨h1, h2, h3⟩ := apart_good (itmL L.1) 1 hgi
  have h4 := cnt_live h hg
  have h5 := hg.m4
  exact ⟨alt_parse h1 h2 (by show cntR (apartK 1 _) ≤ 400; omega), (apart_recs _ 1).trans (recs_rows hg), apart_alt _ _ h1⟩
end Q
end Ab
end Go.Proofs.YtnimhpgacmojiaaGreatDoor
namespace Go.Proofs.YtnimhpgacmojiaaGreatDoor
open Go.RowKit
namespace Ab
set_option maxRecDepth 100000
namespace Q
theorem plays_gd {c B : Nat} {L : Lst} {s : List Edt} (h : LOk c L) (hg : LGd B L) (hm : ∀ e ∈ s, muchB e.2.2 = false) : ∀ i, i ≤ s.length → LGd (B + 24120 * i) (plays L s i)
  | 0, _ => by simpa [plays] using hg
  | i + 1, hi => by
    rw [plays_snoc L (by omega)]
    have h1 := plays_ok h (fun e he => much_ok (hm e he)) i (by omega)
    have h2 := doL_gd h1 (plays_gd h hg hm i (by omega)) (hm _ (getD_mem (show i < s.length by omega) ((0 : Int), (0 : Int), ([] : List Fld))))
    exact ⟨h2.good, h2.m4, by have := h2.sz; omega⟩
theorem rows_at {es : List Ent} {j : Nat} (h : j < (rowsL es).length) : (rowsL es).getD j ([] : List Fld) = ((stzL es).getD j ((0 : Int), ([] : List Fld))).2 := by
  have h1 : j < (stzL es).length := by unfold rowsL at h; rwa [List.length_map] at h
  rw [← getD_get h ([] : List Fld), ← getD_get h1 ((0 : Int), ([] : List Fld))]
  exact List.getElem_map _
theorem txt_sz {c B : Nat} {L : Lst} (h : LOk c L) (hg : LGd B L) : szI (apartL (itmL L.1)) ≤ B + c := by
  have h1 := apart_len (itmL L.1) 1
  have h2 := hg.sz
  have h3 : (itmL L.1).length = L.1.length := List.length_map _
  have h4 := h.len
  show szI (apartK 1 (itmL L.1)) ≤ _
  omega
theorem ofT_txt (l : List Itm) : txtL (ofT l).1 = rawsL (apartL l) := by
  show rawsL (apartL (itmL (numI 1 l))) = _
  unfold itmL
  rw [numI_items]
theorem ListParses_c (s : ByteArray) (sc : List Edt) : ACall Tryz.prog 7 [is s, .one (.sl rEdt sc)] (ib true) := by
  refine acall_of (rs := [4]) Tryz.func7 rfl rfl rfl teOk rfl ?_
  refine acode_seq ?_
  refine acode_region ?_
  refine acode_seq ?_
  refine acode_seq ?_
  refine acode_region ?_
  refine Or.inl ?_
  refine And.intro (rfl) ?_
  refine Exists.intro _ (And.intro (alive7_c) ?_)
  refine acode_cond rfl (fun h16 => ?_) (fun h16 => ?_)
  ·try simp only [Bool.not_eq_true'] at h16
   try simp only [Int.toNat_natCast, dflt_sl, dflt_st, dflt_str, dflt_int, dflt_bool] at h16
   simp at h16
  ·try simp only [Bool.not_eq_false'] at h16
   try simp only [Int.toNat_natCast, dflt_sl, dflt_st, dflt_str, dflt_int, dflt_bool] at h16
   refine acode_skip ?_
   refine acode_seq ?_
   refine acode_seq ?_
   refine acode_region ?_
   refine And.intro (fun h => trivial) ?_
   refine Or.inl ?_
   refine And.intro (rfl) ?_
   refine Exists.intro _ (And.intro (fun h => ⟨⟨⟨h, trivial⟩, trivial⟩, heavy_c sc⟩) ?_)
   refine And.intro (by first | (intro h; rw [h]; rfl) | (intro h; cases h)) ?_
   refine acode_cond rfl (fun h23 => ?_) (fun h23 => ?_)
   ·try simp only [decide_eq_true_eq, Bool.or_eq_true] at h23
    try simp only [Int.toNat_natCast, dflt_sl, dflt_st, dflt_str, dflt_int, dflt_bool] at h23
    refine acode_seq ?_
    refine acode_region ?_
    refine acode_ret ?_
    first | rfl | exact ib_eq (by simp; rfl)
   ·try simp only [decide_eq_false_iff_not, Bool.or_eq_false_iff, Int.not_lt] at h23
    try simp only [Int.toNat_natCast, dflt_sl, dflt_st, dflt_str, dflt_int, dflt_bool] at h23
    obtain ⟨hs3, hhv⟩ := h23
    obtain ⟨hsc, hmu⟩ := heavy_ok hhv
    have hfo : ∀ e ∈ sc, FldsOk e.2.2 := (fun e he => much_ok (hmu e he))
    refine acode_skip ?_
    refine acode_seq ?_
    rcases hra : parseS s with e | l
    ·refine acode_region ?_
     refine Or.inl ?_
     refine And.intro (rfl) ?_
     refine Exists.intro _ (And.intro (of_err s (by omega) (at_ := e.1) (n := e.2) hra) ?_)
     refine acode_seq ?_
     refine acode_seq ?_
     refine acode_region ?_
     refine acode_cond rfl (fun h30 => ?_) (fun h30 => ?_)
     ·skip
      refine acode_seq ?_
      refine acode_region ?_
      refine acode_ret ?_
      first | rfl | exact ib_eq (by simp; rfl)
     ·try simp only [decide_eq_true_eq, decide_eq_false_iff_not, Bool.and_eq_true, Bool.not_eq_true', Bool.not_eq_false', Bool.or_eq_false_iff, Bool.or_eq_true, Bool.and_eq_false_iff, Int.not_lt, Int.not_le] at h30
      try simp only [Int.toNat_natCast, dflt_sl, dflt_st, dflt_str, dflt_int, dflt_bool] at h30
      simp at h30
    ·refine acode_region ?_
     refine Or.inr (Or.inl (Exists.intro [] (Exists.intro [] (Exists.intro _ (Exists.intro _ (Exists.intro _ (Exists.intro _ (Exists.intro _ (And.intro (of_ok s (by omega) hra) (And.intro rfl (And.intro True.intro (And.intro rfl ?_))))))))))))
     refine acode_seq ?_
     refine acode_seq ?_
     refine acode_region ?_
     refine acode_cond rfl (fun h30 => ?_) (fun h30 => ?_)
     ·try simp only [Bool.not_eq_true'] at h30
      try simp only [Int.toNat_natCast, dflt_sl, dflt_st, dflt_str, dflt_int, dflt_bool] at h30
      simp at h30
     ·try simp only [Bool.not_eq_false'] at h30
      try simp only [Int.toNat_natCast, dflt_sl, dflt_st, dflt_str, dflt_int, dflt_bool] at h30
      have hlk := of_lok (by omega) hra
      have hgd := ofT_gd hra
      obtain ⟨L0, hL0⟩ : ∃ L0, ofT l = L0 := ⟨_, rfl⟩
      rw [hL0] at hlk hgd ⊢
      refine acode_skip ?_
      refine acode_seq ?_
      refine acode_seq ?_
      refine acode_region ?_
      intro l8_1
      try simp only [Int.toNat_natCast, dflt_sl, dflt_st, dflt_str, dflt_int, dflt_bool] at l8_1
      refine acode_block ?_
      refine acode_loopP (fun (i : Nat) => i ≤ sc.length) (fun (i : Nat) => [(5, .one (.own 0 0)), (31, .one (.sl rEdt sc)), (32, ii .i64 sc.length), (33, ii .i64 i)]) (fun (i : Nat) => [(0, .box 125 [.vec 1, .lit (.int .i64 (plays L0 sc i).2.1), .lit (.int .i64 (plays L0 sc i).2.2)]), (1, .vec 127 rEnt (plays L0 sc i).1)]) 2 (fun (i : Nat) => sc.length - i) 0 (Nat.zero_le _) (le_of ⟨rfl, rfl, rfl, rfl⟩ ⟨rfl, rfl⟩ rfl) ?_
      intro i hI0
      have hLi := plays_ok hlk hfo i hI0
      have hGi := plays_gd hlk hgd hmu i hI0
      refine acode_seq ?_
      refine acode_region ?_
      refine acode_seq ?_
      refine acode_cond rfl (fun h34 => ?_) (fun h34 => ?_)
      ·try simp only [decide_eq_true_eq] at h34
       try simp only [Int.toNat_natCast, dflt_sl, dflt_st, dflt_str, dflt_int, dflt_bool] at h34
       have hil : i < sc.length := (by omega)
       have hsn := plays_snoc L0 hil
       have hfe := hfo _ (getD_mem hil ((0 : Int), (0 : Int), ([] : List Fld)))
       obtain ⟨b, hdo⟩ := do_any (plays L0 sc i) (sc.getD i ((0 : Int), (0 : Int), ([] : List Fld))) hLi (by omega) hfe
       refine acode_skip ?_
       refine acode_seq ?_
       refine acode_block ?_
       refine acode_seq ?_
       refine acode_region ?_
       refine And.intro (by first | omega | assumption | decide | (simp only [Int.toNat_natCast, dflt_sl, dflt_st, dflt_str, dflt_int, dflt_bool]; omega) | (simp <;> omega)) ?_
       refine acode_region ?_
       refine Or.inr (Or.inl (Exists.intro [] (Exists.intro [0, 1] (Exists.intro _ (Exists.intro _ (Exists.intro _ (Exists.intro _ (Exists.intro _ (And.intro (hdo) (And.intro rfl (And.intro (And.intro (And.intro rfl rfl) (And.intro (And.intro rfl rfl) True.intro)) (And.intro rfl ?_))))))))))))
       refine acode_region ?_
       refine And.intro (by first | omega | assumption | decide | (simp only [Int.toNat_natCast, dflt_sl, dflt_st, dflt_str, dflt_int, dflt_bool]; omega) | (simp <;> omega)) ?_
       exact ⟨i + 1, by omega, by first | omega | (simp <;> omega), le_of ⟨rfl, rfl, rfl, (ii_eq (by omega))⟩ ⟨(lsbox_eq hsn), (lsvec_eq hsn)⟩ rfl⟩
      ·try simp only [decide_eq_false_iff_not, Int.not_lt] at h34
       try simp only [Int.toNat_natCast, dflt_sl, dflt_st, dflt_str, dflt_int, dflt_bool] at h34
       refine acode_exit ?_
       obtain ⟨M, hM⟩ : ∃ M, plays L0 sc i = M := ⟨_, rfl⟩
       rw [hM] at hLi hGi ⊢
       have hMl := hLi.len
       have hsz := txt_sz hLi hGi
       obtain ⟨hp1, hp2, hp3⟩ := txt_parse hLi hGi
       refine acode_seq ?_
       refine acode_region ?_
       refine Or.inr (Or.inr (Or.inl ?_))
       refine And.intro rfl ?_
       refine Exists.intro _ (And.intro (textL_c M.1 M.2.1 M.2.2 (by omega) hLi.f1 (by omega)) ?_)
       refine acode_seq ?_
       refine acode_seq ?_
       refine acode_region ?_
       refine acode_cond rfl (fun h49 => ?_) (fun h49 => ?_)
       ·try simp only [decide_eq_true_eq] at h49
        try simp only [Int.toNat_natCast, dflt_sl, dflt_st, dflt_str, dflt_int, dflt_bool] at h49
        refine acode_seq ?_
        refine acode_region ?_
        refine acode_ret ?_
        first | rfl | exact ib_eq (by simp; rfl)
       ·try simp only [decide_eq_false_iff_not, Int.not_lt] at h49
        try simp only [Int.toNat_natCast, dflt_sl, dflt_st, dflt_str, dflt_int, dflt_bool] at h49
        have hps := parse_a (bytes (txtL M.1)) (by omega)
        rw [hp1] at hps
        obtain ⟨hal, haf⟩ := items_flds (by omega) hp1
        have hst := stanzas_c (apartL (itmL M.1)) hal haf
        rw [hp2] at hst
        have hrl : (rowsL M.1).length = (stzL M.1).length := List.length_map _
        have hof := of_ok (bytes (txtL M.1)) (by omega) hp1
        have hil2 := items_len hp1
        have hnl := numI_len (apartL (itmL M.1)) 1
        have htx := textL_c (k := 1) (ofT (apartL (itmL M.1))).1 (ofT (apartL (itmL M.1))).2.1 (ofT (apartL (itmL M.1))).2.2 (show (numI 1 (apartL (itmL M.1))).length ≤ 400000 by omega) (fun e he => haf e.1 (by have : e.1 ∈ (numI 1 (apartL (itmL M.1))).map (·.1) := List.mem_map.2 ⟨e, he, rfl⟩; rwa [numI_items] at this)) (by show szI (apartL (itmL (numI 1 (apartL (itmL M.1))))) ≤ _; unfold itmL; rw [numI_items]; show szI (apartL (apartL (itmL M.1))) ≤ _; rw [hp3]; omega)
        rw [ofT_txt, hp3] at htx
        refine acode_skip ?_
        refine acode_seq ?_
        refine acode_region ?_
        refine Or.inl ?_
        refine And.intro (rfl) ?_
        refine Exists.intro _ (And.intro (hps) ?_)
        refine acode_seq ?_
        refine acode_region ?_
        refine Or.inl ?_
        refine And.intro (rfl) ?_
        refine Exists.intro _ (And.intro (hst) ?_)
        refine Or.inr (Or.inr (Or.inl ?_))
        refine And.intro rfl ?_
        refine Exists.intro _ (And.intro (stanzasL_c M.1 M.2.1 M.2.2 (by omega) hLi.f1) ?_)
        refine acode_seq ?_
        refine acode_seq ?_
        refine acode_region ?_
        refine And.intro (fun h => trivial) ?_
        refine And.intro (fun h => ⟨⟨h, trivial⟩, trivial⟩) ?_
        refine And.intro (fun h => trivial) ?_
        refine And.intro (fun h => ⟨⟨h, trivial⟩, trivial⟩) ?_
        refine And.intro (fun h => ⟨⟨h, trivial⟩, ⟨h, trivial⟩, trivial⟩) ?_
        refine And.intro (by first | (intro h; rw [h]; rfl) | (intro h; cases h)) ?_
        refine acode_cond rfl (fun h67 => ?_) (fun h67 => ?_)
        ·try simp only [decide_eq_false_iff_not, Bool.not_eq_true', Bool.or_eq_true] at h67
         try simp only [Int.toNat_natCast, dflt_sl, dflt_st, dflt_str, dflt_int, dflt_bool] at h67
         simp [hrl] at h67
        ·try simp only [decide_eq_true_eq, Bool.not_eq_false', Bool.or_eq_false_iff] at h67
         try simp only [Int.toNat_natCast, dflt_sl, dflt_st, dflt_str, dflt_int, dflt_bool] at h67
         refine acode_skip ?_
         refine acode_seq ?_
         refine acode_seq ?_
         refine acode_region ?_
         intro l20_1
         try simp only [Int.toNat_natCast, dflt_sl, dflt_st, dflt_str, dflt_int, dflt_bool] at l20_1
         refine acode_block ?_
         refine acode_loopP (fun (j : Nat) => j ≤ (rowsL M.1).length) (fun (j : Nat) => [(9, is (bytes (txtL M.1))), (11, .one (.sl rRow (rowsL M.1))), (12, .one (.sl rStz (stzL M.1))), (69, ii .i64 (rowsL M.1).length), (70, ii .i64 j)]) (fun (j : Nat) => []) 0 (fun (j : Nat) => (rowsL M.1).length - j) 0 (Nat.zero_le _) (le_of ⟨rfl, rfl, rfl, rfl, rfl⟩ trivial rfl) ?_
         intro j hI2
         refine acode_seq ?_
         refine acode_region ?_
         refine acode_seq ?_
         refine acode_cond rfl (fun h71 => ?_) (fun h71 => ?_)
         ·try simp only [decide_eq_true_eq] at h71
          try simp only [Int.toNat_natCast, dflt_sl, dflt_st, dflt_str, dflt_int, dflt_bool] at h71
          have hjl : j < (rowsL M.1).length := (by omega)
          have hra2 := rows_at hjl
          refine acode_skip ?_
          refine acode_seq ?_
          refine acode_block ?_
          refine acode_seq ?_
          refine acode_region ?_
          refine acode_seq ?_
          refine acode_draw rfl (by kernel_rfl) ?_
          refine And.intro (by first | omega | assumption | decide | (simp only [Int.toNat_natCast, dflt_sl, dflt_st, dflt_str, dflt_int, dflt_bool]; omega) | (simp <;> omega)) ?_
          refine And.intro (by first | omega | assumption | decide | (simp only [Int.toNat_natCast, dflt_sl, dflt_st, dflt_str, dflt_int, dflt_bool]; omega) | (simp <;> omega)) ?_
          refine And.intro (rfl) ?_
          refine Exists.intro _ (And.intro (fields_c ((rowsL M.1).getD j ([] : List Fld)) ((stzL M.1).getD j ((0 : Int), ([] : List Fld))).2) ?_)
          refine acode_cond rfl (fun h83 => ?_) (fun h83 => ?_)
          ·try simp only [decide_eq_false_iff_not, Bool.not_eq_true'] at h83
           try simp only [Int.toNat_natCast, dflt_sl, dflt_st, dflt_str, dflt_int, dflt_bool] at h83
           exact absurd hra2 (by simpa using h83)
          ·try simp only [decide_eq_true_eq, Bool.not_eq_false'] at h83
           try simp only [Int.toNat_natCast, dflt_sl, dflt_st, dflt_str, dflt_int, dflt_bool] at h83
           refine acode_skip ?_
           refine acode_region ?_
           refine And.intro (by first | omega | assumption | decide | (simp only [Int.toNat_natCast, dflt_sl, dflt_st, dflt_str, dflt_int, dflt_bool]; omega) | (simp <;> omega)) ?_
           exact ⟨j + 1, by omega, by first | omega | (simp <;> omega), le_of ⟨rfl, rfl, rfl, rfl, (ii_eq (by omega))⟩ trivial rfl⟩
         ·try simp only [decide_eq_false_iff_not, Int.not_lt] at h71
          try simp only [Int.toNat_natCast, dflt_sl, dflt_st, dflt_str, dflt_int, dflt_bool] at h71
          refine acode_exit ?_
          refine acode_seq ?_
          refine acode_region ?_
          refine Or.inr (Or.inl (Exists.intro [] (Exists.intro [] (Exists.intro _ (Exists.intro _ (Exists.intro _ (Exists.intro _ (Exists.intro _ (And.intro (hof) (And.intro rfl (And.intro True.intro (And.intro rfl ?_))))))))))))
          refine acode_seq ?_
          refine acode_region ?_
          refine And.intro (fun h => trivial) ?_
          refine Or.inl ?_
          refine And.intro (rfl) ?_
          refine Exists.intro _ (And.intro (fun h => ⟨⟨⟨h, trivial⟩, trivial⟩, htx⟩) ?_)
          refine And.intro (fun h => trivial) ?_
          refine And.intro (fun h => ⟨⟨h, trivial⟩, ⟨h, trivial⟩, trivial⟩) ?_
          refine And.intro (by exact fun h => h) ?_
          refine acode_ret ?_
          first | rfl | exact ib_eq (by simp; rfl)
end Q
end Ab
end Go.Proofs.YtnimhpgacmojiaaGreatDoor
namespace Go.Proofs.YtnimhpgacmojiaaGreatDoor
open Go.RowKit
namespace Ab
set_option maxRecDepth 100000
theorem o_str : Opens Tryz.prog 9 .str := opens_str Tryz.underlying9 (by kernel_rfl)
theorem o_int : Opens Tryz.prog 3 (.int .i64) := opens_int Tryz.underlying3 (by kernel_rfl)
theorem o_field : Opens Tryz.prog 91 (.st .str .str) := opens_st Tryz.underlying91 (by kernel_rfl) (.cons rfl o_str (.one rfl o_str))
theorem o_fields : Opens Tryz.prog 25 (.sl (.st .str .str)) := opens_sl (by decide) Tryz.underlying25 (by kernel_rfl) o_field
theorem globAt {W : World} (h : W.ShapedOpen Tryz.prog) : GlobAt AllOk W := by
  have hc : GlobCell W := cell_of_shapedOpen_int (g := 0) (t := 3) (zero := #[.int .i64 0]) h (of_decide_eq_true (by kernel_rfl)) (by kernel_rfl) rfl (by kernel_rfl) (by kernel_rfl) Tryz.underlying3
  refine ⟨trivial, ?_, hc⟩
  obtain ⟨m, hm⟩ := hc
  rcases Nat.lt_or_ge 0 W.heap.size with h1 | h1
  · exact h1
  · exfalso
    simp only [World.cell?, Array.getElem?_eq_none h1] at hm
    cases hm
end Ab
end Go.Proofs.YtnimhpgacmojiaaGreatDoor
namespace Go.Proofs.YtnimhpgacmojiaaGreatDoor
open Go.RowKit
namespace Ab
set_option maxRecDepth 100000
theorem o_edit : Opens Tryz.prog 60 (.st (.int .i64) (.st (.int .i64) (.sl (.st .str .str)))) := opens_st Tryz.underlying60 (by kernel_rfl) (.cons rfl o_int (.cons rfl o_int (.one rfl o_fields)))
theorem o_edits : Opens Tryz.prog 55 (.sl (.st (.int .i64) (.st (.int .i64) (.sl (.st .str .str))))) := opens_sl (by decide) Tryz.underlying55 (by kernel_rfl) o_edit
theorem open_edits {H : Type} {enc : TypeId × Value → H} {W : World} {base : Nat} {v : Value} {d : DataW H} {p : List MemPlace} (hv : Value.okWide Tryz.prog W .any base 55 v) (h : DataW.Trod enc Tryz.prog W 0 (fun _ => true) true 55 v d p) :
    ∃ xs, (C.sl (.st (.int .i64) (.st (.int .i64) (.sl (.st .str .str)))) xs).rep AllOk noNames W v := open_sl Tryz.underlying55 o_edits hv h
end Ab
end Go.Proofs.YtnimhpgacmojiaaGreatDoor
