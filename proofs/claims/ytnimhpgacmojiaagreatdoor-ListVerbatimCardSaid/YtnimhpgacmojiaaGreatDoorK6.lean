/-
  The texts of this proof, joined: abstract values, the library, the functions of the program and what they compute (part 6). No condition.
-/
import Derived.Shelf.Vars
import Derived.KernelRfl
import Derived.Test.YtnimhpgacmojiaaGreatDoorK1
import Derived.Test.YtnimhpgacmojiaaGreatDoorK2
import Derived.Test.YtnimhpgacmojiaaGreatDoorK3
import Derived.Test.YtnimhpgacmojiaaGreatDoorK4
import Derived.Test.YtnimhpgacmojiaaGreatDoorK5
namespace Go.Proofs.YtnimhpgacmojiaaGreatDoor
open Go.RowKit
namespace Ab
set_option maxRecDepth 100000
namespace Q
def doB (num at_ id bad at2 want : Int) : Bool := ((true && decide (num = bad)) && decide (at_ = at2)) && decide (id = want)
theorem doDel_no (es : List Ent) (n m id : Int) (f : List Fld) (ms : List Ent) (mn : Int) (hf : FldsOk f) (hml : ms.length ≤ 1000000) (h : atE es id < 0) : ACallO Tryz.prog 36 [.one (.own 0 0), .agg (toL rRL (ms, mn)), .agg (toL rEdt ((2 : Int), id, f))] (lsO (es, n, m)) 2 (.tup [(true, toL rRL (refDel (ms, mn) id).1), (false, [.lit (.bool (doB 7 (-9) 0 (refDel (ms, mn) id).2 (-9) 0))])]) (lsO (es, n, m)) 2 := by
  have hfl := fieldsk_c (κ := 1) f f
  rw [decide_eq_true rfl] at hfl
  have hcp := copiesF_o f (Nat.le_trans hf.1 (by decide))
  have hsp := spoilF_o f (Nat.le_trans hf.1 (by decide))
  have hdl := lDel_no es n m id h
  have hrf := refDel_c ms mn id hml
  refine acallo_ofc (t := 6) (ty := 63) (u := 7) Tryz.func36 rfl rfl rfl teOk rfl rfl ?_
  refine acode_seq ?_
  refine acode_region ?_
  refine acode_seq ?_
  refine acode_region ?_
  refine Or.inr (Or.inl (Exists.intro [] (Exists.intro [] (Exists.intro _ (Exists.intro _ (Exists.intro _ (Exists.intro _ (Exists.intro _ (And.intro (hcp) (And.intro rfl (And.intro True.intro (And.intro rfl ?_))))))))))))
  refine acode_seq ?_
  refine acode_region ?_
  refine acode_seq ?_
  refine acode_region ?_
  refine acode_seq ?_
  refine acode_seq ?_
  refine acode_region ?_
  refine acode_block ?_
  refine acode_seq ?_
  refine acode_region ?_
  refine acode_cond rfl (fun h39 => ?_) (fun h39 => ?_)
  ·try simp only [decide_eq_true_eq] at h39
   try simp only [Int.toNat_natCast, dflt_sl, dflt_st, dflt_str, dflt_int, dflt_bool] at h39
   simp at h39
  ·try simp only [decide_eq_false_iff_not] at h39
   try simp only [Int.toNat_natCast, dflt_sl, dflt_st, dflt_str, dflt_int, dflt_bool] at h39
   refine acode_seq ?_
   refine acode_region ?_
   refine acode_cond rfl (fun h56 => ?_) (fun h56 => ?_)
   ·try simp only [decide_eq_true_eq] at h56
    try simp only [Int.toNat_natCast, dflt_sl, dflt_st, dflt_str, dflt_int, dflt_bool] at h56
    refine acode_seq ?_
    refine acode_region ?_
    refine Or.inr (Or.inl (Exists.intro [] (Exists.intro [0, 1] (Exists.intro _ (Exists.intro _ (Exists.intro _ (Exists.intro _ (Exists.intro _ (And.intro (hdl) (And.intro rfl (And.intro (And.intro (And.intro rfl rfl) (And.intro (And.intro rfl rfl) True.intro)) (And.intro rfl ?_))))))))))))
    refine acode_region ?_
    refine Or.inl ?_
    refine And.intro (rfl) ?_
    refine Exists.intro _ (And.intro (hrf) ?_)
    refine acode_seq ?_
    refine acode_region ?_
    refine Or.inr (Or.inr (Or.inl ?_))
    refine And.intro rfl ?_
    refine Exists.intro _ (And.intro (hfl) ?_)
    refine acode_seq ?_
    refine acode_region ?_
    refine Or.inr (Or.inl (Exists.intro [] (Exists.intro [5] (Exists.intro _ (Exists.intro _ (Exists.intro _ (Exists.intro _ (Exists.intro _ (And.intro (hsp) (And.intro rfl (And.intro (And.intro (And.intro rfl rfl) True.intro) (And.intro rfl ?_))))))))))))
    refine acode_seq ?_
    refine acode_ord rfl ?_
    refine aord_light 1 rfl rfl rfl (by kernel_rfl) ?_
    refine aord_light 2 rfl rfl rfl (by kernel_rfl) ?_
    refine aord_lightG 3 rfl rfl rfl (by kernel_rfl) ?_
    refine And.intro (fun h => trivial) ?_
    refine aord_lightG 5 rfl rfl rfl (by kernel_rfl) ?_
    refine And.intro (fun h => trivial) ?_
    refine aord_all [0, 4] (by kernel_rfl) rfl ?_
    refine And.intro ?_ ?_
    ·refine aord_all [4] (by kernel_rfl) rfl ?_
     refine Or.inl ?_
     refine And.intro (rfl) ?_
     refine Exists.intro _ (And.intro (fun h => ⟨⟨⟨h, trivial⟩, trivial⟩, num_errno 7 (by decide)⟩) ?_)
     refine aord_lightG 6 rfl rfl rfl (by kernel_rfl) ?_
     refine And.intro (fun h => ⟨⟨h, trivial⟩, ⟨h, trivial⟩, trivial⟩) ?_
     refine aord_light 7 rfl rfl rfl (by kernel_rfl) ?_
     refine And.intro (by exact fun h => h) ?_
     refine aord_light 8 rfl rfl rfl (by kernel_rfl) ?_
     refine aord_lightG 9 rfl rfl rfl (by kernel_rfl) ?_
     refine And.intro (fun h => trivial) ?_
     refine aord_lightG 11 rfl rfl rfl (by kernel_rfl) ?_
     refine And.intro (fun h => trivial) ?_
     refine aord_all [10] (by kernel_rfl) rfl ?_
     refine Or.inl ?_
     refine And.intro (rfl) ?_
     refine Exists.intro _ (And.intro (fun h => ⟨⟨⟨h, trivial⟩, trivial⟩, at_errno 7⟩) ?_)
     refine aord_lightG 12 rfl rfl rfl (by kernel_rfl) ?_
     refine And.intro (fun h => ⟨⟨h, trivial⟩, ⟨h, trivial⟩, trivial⟩) ?_
     refine aord_light 13 rfl rfl rfl (by kernel_rfl) ?_
     refine And.intro (by exact fun h => h) ?_
     refine aord_light 14 rfl rfl rfl (by kernel_rfl) ?_
     refine aord_lightG 15 rfl rfl rfl (by kernel_rfl) ?_
     refine And.intro (fun h => trivial) ?_
     refine aord_lightG 16 rfl rfl rfl (by kernel_rfl) ?_
     refine And.intro (fun h => trivial) ?_
     refine aord_lightG 17 rfl rfl rfl (by kernel_rfl) ?_
     refine And.intro (fun h => ⟨⟨h, trivial⟩, ⟨h, trivial⟩, trivial⟩) ?_
     refine aord_light 18 rfl rfl rfl (by kernel_rfl) ?_
     refine And.intro (by exact fun h => h) ?_
     refine aord_all [19] (by kernel_rfl) rfl ?_
     refine aord_light 20 rfl rfl rfl (by kernel_rfl) ?_
     refine aord_done (by kernel_rfl) ?_
     refine acode_ret ?_
     exact ⟨rfl, ⟨rfl, rfl⟩, rfl⟩
    ·refine Or.inl ?_
     refine And.intro (rfl) ?_
     refine Exists.intro _ (And.intro (fun h => ⟨⟨⟨h, trivial⟩, trivial⟩, num_errno 7 (by decide)⟩) ?_)
     refine aord_lightG 6 rfl rfl rfl (by kernel_rfl) ?_
     refine And.intro (fun h => ⟨⟨h, trivial⟩, ⟨h, trivial⟩, trivial⟩) ?_
     refine aord_light 7 rfl rfl rfl (by kernel_rfl) ?_
     refine And.intro (by exact fun h => h) ?_
     refine aord_light 8 rfl rfl rfl (by kernel_rfl) ?_
     refine aord_lightG 9 rfl rfl rfl (by kernel_rfl) ?_
     refine And.intro (fun h => trivial) ?_
     refine aord_lightG 11 rfl rfl rfl (by kernel_rfl) ?_
     refine And.intro (fun h => trivial) ?_
     refine aord_all [0, 10] (by kernel_rfl) rfl ?_
     refine And.intro ?_ ?_
     ·refine aord_all [10] (by kernel_rfl) rfl ?_
      refine Or.inl ?_
      refine And.intro (rfl) ?_
      refine Exists.intro _ (And.intro (fun h => ⟨⟨⟨h, trivial⟩, trivial⟩, at_errno 7⟩) ?_)
      refine aord_lightG 12 rfl rfl rfl (by kernel_rfl) ?_
      refine And.intro (fun h => ⟨⟨h, trivial⟩, ⟨h, trivial⟩, trivial⟩) ?_
      refine aord_light 13 rfl rfl rfl (by kernel_rfl) ?_
      refine And.intro (by exact fun h => h) ?_
      refine aord_light 14 rfl rfl rfl (by kernel_rfl) ?_
      refine aord_lightG 15 rfl rfl rfl (by kernel_rfl) ?_
      refine And.intro (fun h => trivial) ?_
      refine aord_lightG 16 rfl rfl rfl (by kernel_rfl) ?_
      refine And.intro (fun h => trivial) ?_
      refine aord_lightG 17 rfl rfl rfl (by kernel_rfl) ?_
      refine And.intro (fun h => ⟨⟨h, trivial⟩, ⟨h, trivial⟩, trivial⟩) ?_
      refine aord_light 18 rfl rfl rfl (by kernel_rfl) ?_
      refine And.intro (by exact fun h => h) ?_
      refine aord_all [19] (by kernel_rfl) rfl ?_
      refine aord_light 20 rfl rfl rfl (by kernel_rfl) ?_
      refine aord_done (by kernel_rfl) ?_
      refine acode_ret ?_
      exact ⟨rfl, ⟨rfl, rfl⟩, rfl⟩
     ·refine Or.inl ?_
      refine And.intro (rfl) ?_
      refine Exists.intro _ (And.intro (fun h => ⟨⟨⟨h, trivial⟩, trivial⟩, at_errno 7⟩) ?_)
      refine aord_lightG 12 rfl rfl rfl (by kernel_rfl) ?_
      refine And.intro (fun h => ⟨⟨h, trivial⟩, ⟨h, trivial⟩, trivial⟩) ?_
      refine aord_light 13 rfl rfl rfl (by kernel_rfl) ?_
      refine And.intro (by exact fun h => h) ?_
      refine aord_light 14 rfl rfl rfl (by kernel_rfl) ?_
      refine aord_lightG 15 rfl rfl rfl (by kernel_rfl) ?_
      refine And.intro (fun h => trivial) ?_
      refine aord_lightG 16 rfl rfl rfl (by kernel_rfl) ?_
      refine And.intro (fun h => trivial) ?_
      refine aord_lightG 17 rfl rfl rfl (by kernel_rfl) ?_
      refine And.intro (fun h => ⟨⟨h, trivial⟩, ⟨h, trivial⟩, trivial⟩) ?_
      refine aord_light 18 rfl rfl rfl (by kernel_rfl) ?_
      refine And.intro (by exact fun h => h) ?_
      refine aord_all [0] (by kernel_rfl) rfl ?_
      refine aord_all [19] (by kernel_rfl) rfl ?_
      refine aord_light 20 rfl rfl rfl (by kernel_rfl) ?_
      refine aord_done (by kernel_rfl) ?_
      refine acode_ret ?_
      exact ⟨rfl, ⟨rfl, rfl⟩, rfl⟩
   ·try simp only [decide_eq_false_iff_not] at h56
    try simp only [Int.toNat_natCast, dflt_sl, dflt_st, dflt_str, dflt_int, dflt_bool] at h56
    simp at h56
theorem doDel_ok (es : List Ent) (n m id : Int) (f : List Fld) (ms : List Ent) (mn : Int) (hf : FldsOk f) (hml : ms.length ≤ 1000000) (i : Nat) (hi : i < es.length) (h : atE es id = i) (hm : 0 ≤ m ∧ m ≤ 1000000) (hl : es.length ≤ 1000000) : ACallO Tryz.prog 36 [.one (.own 0 0), .agg (toL rRL (ms, mn)), .agg (toL rEdt ((2 : Int), id, f))] (lsO (es, n, m)) 2 (.tup [(true, toL rRL (refDel (ms, mn) id).1), (false, [.lit (.bool (doB 0 (-9) 0 (refDel (ms, mn) id).2 (-9) 0))])]) (lsO (delE es i, n, m - 1)) 2 := by
  have hfl := fieldsk_c (κ := 1) f f
  rw [decide_eq_true rfl] at hfl
  have hcp := copiesF_o f (Nat.le_trans hf.1 (by decide))
  have hsp := spoilF_o f (Nat.le_trans hf.1 (by decide))
  have hdl := lDel_ok es n m id i hi h hm hl
  have hrf := refDel_c ms mn id hml
  refine acallo_ofc (t := 6) (ty := 63) (u := 7) Tryz.func36 rfl rfl rfl teOk rfl rfl ?_
  refine acode_seq ?_
  refine acode_region ?_
  refine acode_seq ?_
  refine acode_region ?_
  refine Or.inr (Or.inl (Exists.intro [] (Exists.intro [] (Exists.intro _ (Exists.intro _ (Exists.intro _ (Exists.intro _ (Exists.intro _ (And.intro (hcp) (And.intro rfl (And.intro True.intro (And.intro rfl ?_))))))))))))
  refine acode_seq ?_
  refine acode_region ?_
  refine acode_seq ?_
  refine acode_region ?_
  refine acode_seq ?_
  refine acode_seq ?_
  refine acode_region ?_
  refine acode_block ?_
  refine acode_seq ?_
  refine acode_region ?_
  refine acode_cond rfl (fun h39 => ?_) (fun h39 => ?_)
  ·try simp only [decide_eq_true_eq] at h39
   try simp only [Int.toNat_natCast, dflt_sl, dflt_st, dflt_str, dflt_int, dflt_bool] at h39
   simp at h39
  ·try simp only [decide_eq_false_iff_not] at h39
   try simp only [Int.toNat_natCast, dflt_sl, dflt_st, dflt_str, dflt_int, dflt_bool] at h39
   refine acode_seq ?_
   refine acode_region ?_
   refine acode_cond rfl (fun h56 => ?_) (fun h56 => ?_)
   ·try simp only [decide_eq_true_eq] at h56
    try simp only [Int.toNat_natCast, dflt_sl, dflt_st, dflt_str, dflt_int, dflt_bool] at h56
    refine acode_seq ?_
    refine acode_region ?_
    refine Or.inr (Or.inl (Exists.intro [] (Exists.intro [0, 1] (Exists.intro _ (Exists.intro _ (Exists.intro _ (Exists.intro _ (Exists.intro _ (And.intro (hdl) (And.intro rfl (And.intro (And.intro (And.intro rfl rfl) (And.intro (And.intro rfl rfl) True.intro)) (And.intro rfl ?_))))))))))))
    refine acode_region ?_
    refine Or.inl ?_
    refine And.intro (rfl) ?_
    refine Exists.intro _ (And.intro (hrf) ?_)
    refine acode_seq ?_
    refine acode_region ?_
    refine Or.inr (Or.inr (Or.inl ?_))
    refine And.intro rfl ?_
    refine Exists.intro _ (And.intro (hfl) ?_)
    refine acode_seq ?_
    refine acode_region ?_
    refine Or.inr (Or.inl (Exists.intro [] (Exists.intro [5] (Exists.intro _ (Exists.intro _ (Exists.intro _ (Exists.intro _ (Exists.intro _ (And.intro (hsp) (And.intro rfl (And.intro (And.intro (And.intro rfl rfl) True.intro) (And.intro rfl ?_))))))))))))
    refine acode_seq ?_
    refine acode_ord rfl ?_
    refine aord_light 1 rfl rfl rfl (by kernel_rfl) ?_
    refine aord_light 2 rfl rfl rfl (by kernel_rfl) ?_
    refine aord_lightG 3 rfl rfl rfl (by kernel_rfl) ?_
    refine And.intro (fun h => trivial) ?_
    refine aord_lightG 5 rfl rfl rfl (by kernel_rfl) ?_
    refine And.intro (fun h => trivial) ?_
    refine aord_all [0, 4] (by kernel_rfl) rfl ?_
    refine And.intro ?_ ?_
    ·refine aord_all [4] (by kernel_rfl) rfl ?_
     refine Or.inl ?_
     refine And.intro (rfl) ?_
     refine Exists.intro _ (And.intro (fun h => ⟨⟨⟨h, trivial⟩, trivial⟩, num_nil⟩) ?_)
     refine aord_lightG 6 rfl rfl rfl (by kernel_rfl) ?_
     refine And.intro (fun h => ⟨⟨h, trivial⟩, ⟨h, trivial⟩, trivial⟩) ?_
     refine aord_light 7 rfl rfl rfl (by kernel_rfl) ?_
     refine And.intro (by exact fun h => h) ?_
     refine aord_light 8 rfl rfl rfl (by kernel_rfl) ?_
     refine aord_lightG 9 rfl rfl rfl (by kernel_rfl) ?_
     refine And.intro (fun h => trivial) ?_
     refine aord_lightG 11 rfl rfl rfl (by kernel_rfl) ?_
     refine And.intro (fun h => trivial) ?_
     refine aord_all [10] (by kernel_rfl) rfl ?_
     refine Or.inl ?_
     refine And.intro (rfl) ?_
     refine Exists.intro _ (And.intro (fun h => ⟨⟨⟨h, trivial⟩, trivial⟩, at_nil⟩) ?_)
     refine aord_lightG 12 rfl rfl rfl (by kernel_rfl) ?_
     refine And.intro (fun h => ⟨⟨h, trivial⟩, ⟨h, trivial⟩, trivial⟩) ?_
     refine aord_light 13 rfl rfl rfl (by kernel_rfl) ?_
     refine And.intro (by exact fun h => h) ?_
     refine aord_light 14 rfl rfl rfl (by kernel_rfl) ?_
     refine aord_lightG 15 rfl rfl rfl (by kernel_rfl) ?_
     refine And.intro (fun h => trivial) ?_
     refine aord_lightG 16 rfl rfl rfl (by kernel_rfl) ?_
     refine And.intro (fun h => trivial) ?_
     refine aord_lightG 17 rfl rfl rfl (by kernel_rfl) ?_
     refine And.intro (fun h => ⟨⟨h, trivial⟩, ⟨h, trivial⟩, trivial⟩) ?_
     refine aord_light 18 rfl rfl rfl (by kernel_rfl) ?_
     refine And.intro (by exact fun h => h) ?_
     refine aord_all [19] (by kernel_rfl) rfl ?_
     refine aord_light 20 rfl rfl rfl (by kernel_rfl) ?_
     refine aord_done (by kernel_rfl) ?_
     refine acode_ret ?_
     exact ⟨rfl, ⟨rfl, rfl⟩, rfl⟩
    ·refine Or.inl ?_
     refine And.intro (rfl) ?_
     refine Exists.intro _ (And.intro (fun h => ⟨⟨⟨h, trivial⟩, trivial⟩, num_nil⟩) ?_)
     refine aord_lightG 6 rfl rfl rfl (by kernel_rfl) ?_
     refine And.intro (fun h => ⟨⟨h, trivial⟩, ⟨h, trivial⟩, trivial⟩) ?_
     refine aord_light 7 rfl rfl rfl (by kernel_rfl) ?_
     refine And.intro (by exact fun h => h) ?_
     refine aord_light 8 rfl rfl rfl (by kernel_rfl) ?_
     refine aord_lightG 9 rfl rfl rfl (by kernel_rfl) ?_
     refine And.intro (fun h => trivial) ?_
     refine aord_lightG 11 rfl rfl rfl (by kernel_rfl) ?_
     refine And.intro (fun h => trivial) ?_
     refine aord_all [0, 10] (by kernel_rfl) rfl ?_
     refine And.intro ?_ ?_
     ·refine aord_all [10] (by kernel_rfl) rfl ?_
      refine Or.inl ?_
      refine And.intro (rfl) ?_
      refine Exists.intro _ (And.intro (fun h => ⟨⟨⟨h, trivial⟩, trivial⟩, at_nil⟩) ?_)
      refine aord_lightG 12 rfl rfl rfl (by kernel_rfl) ?_
      refine And.intro (fun h => ⟨⟨h, trivial⟩, ⟨h, trivial⟩, trivial⟩) ?_
      refine aord_light 13 rfl rfl rfl (by kernel_rfl) ?_
      refine And.intro (by exact fun h => h) ?_
      refine aord_light 14 rfl rfl rfl (by kernel_rfl) ?_
      refine aord_lightG 15 rfl rfl rfl (by kernel_rfl) ?_
      refine And.intro (fun h => trivial) ?_
      refine aord_lightG 16 rfl rfl rfl (by kernel_rfl) ?_
      refine And.intro (fun h => trivial) ?_
      refine aord_lightG 17 rfl rfl rfl (by kernel_rfl) ?_
      refine And.intro (fun h => ⟨⟨h, trivial⟩, ⟨h, trivial⟩, trivial⟩) ?_
      refine aord_light 18 rfl rfl rfl (by kernel_rfl) ?_
      refine And.intro (by exact fun h => h) ?_
      refine aord_all [19] (by kernel_rfl) rfl ?_
      refine aord_light 20 rfl rfl rfl (by kernel_rfl) ?_
      refine aord_done (by kernel_rfl) ?_
      refine acode_ret ?_
      exact ⟨rfl, ⟨rfl, rfl⟩, rfl⟩
     ·refine Or.inl ?_
      refine And.intro (rfl) ?_
      refine Exists.intro _ (And.intro (fun h => ⟨⟨⟨h, trivial⟩, trivial⟩, at_nil⟩) ?_)
      refine aord_lightG 12 rfl rfl rfl (by kernel_rfl) ?_
      refine And.intro (fun h => ⟨⟨h, trivial⟩, ⟨h, trivial⟩, trivial⟩) ?_
      refine aord_light 13 rfl rfl rfl (by kernel_rfl) ?_
      refine And.intro (by exact fun h => h) ?_
      refine aord_light 14 rfl rfl rfl (by kernel_rfl) ?_
      refine aord_lightG 15 rfl rfl rfl (by kernel_rfl) ?_
      refine And.intro (fun h => trivial) ?_
      refine aord_lightG 16 rfl rfl rfl (by kernel_rfl) ?_
      refine And.intro (fun h => trivial) ?_
      refine aord_lightG 17 rfl rfl rfl (by kernel_rfl) ?_
      refine And.intro (fun h => ⟨⟨h, trivial⟩, ⟨h, trivial⟩, trivial⟩) ?_
      refine aord_light 18 rfl rfl rfl (by kernel_rfl) ?_
      refine And.intro (by exact fun h => h) ?_
      refine aord_all [0] (by kernel_rfl) rfl ?_
      refine aord_all [19] (by kernel_rfl) rfl ?_
      refine aord_light 20 rfl rfl rfl (by kernel_rfl) ?_
      refine aord_done (by kernel_rfl) ?_
      refine acode_ret ?_
      exact ⟨rfl, ⟨rfl, rfl⟩, rfl⟩
   ·try simp only [decide_eq_false_iff_not] at h56
    try simp only [Int.toNat_natCast, dflt_sl, dflt_st, dflt_str, dflt_int, dflt_bool] at h56
    simp at h56
theorem doRep_no (es : List Ent) (n m id : Int) (f : List Fld) (ms : List Ent) (mn : Int) (hf : FldsOk f) (hml : ms.length ≤ 1000000) (h : atE es id < 0) : ACallO Tryz.prog 36 [.one (.own 0 0), .agg (toL rRL (ms, mn)), .agg (toL rEdt ((1 : Int), id, f))] (lsO (es, n, m)) 2 (.tup [(true, toL rRL (refRep (ms, mn) id f).1), (false, [.lit (.bool (doB 7 (-9) 0 (refRep (ms, mn) id f).2.2 (refRep (ms, mn) id f).2.1 0))])]) (lsO (es, n, m)) 2 := by
  have hfl := fieldsk_c (κ := 1) f f
  rw [decide_eq_true rfl] at hfl
  have hcp := copiesF_o f (Nat.le_trans hf.1 (by decide))
  have hsp := spoilF_o f (Nat.le_trans hf.1 (by decide))
  have hrp := (lRep_no (κ := 1) es n m id f h).x
  have hrf := refRep_c ms mn id f hf hml
  refine acallo_ofc (t := 6) (ty := 63) (u := 7) Tryz.func36 rfl rfl rfl teOk rfl rfl ?_
  refine acode_seq ?_
  refine acode_region ?_
  refine acode_seq ?_
  refine acode_region ?_
  refine Or.inr (Or.inl (Exists.intro [] (Exists.intro [] (Exists.intro _ (Exists.intro _ (Exists.intro _ (Exists.intro _ (Exists.intro _ (And.intro (hcp) (And.intro rfl (And.intro True.intro (And.intro rfl ?_))))))))))))
  refine acode_seq ?_
  refine acode_region ?_
  refine acode_seq ?_
  refine acode_region ?_
  refine acode_seq ?_
  refine acode_seq ?_
  refine acode_region ?_
  refine acode_block ?_
  refine acode_seq ?_
  refine acode_region ?_
  refine acode_cond rfl (fun h39 => ?_) (fun h39 => ?_)
  ·try simp only [decide_eq_true_eq] at h39
   try simp only [Int.toNat_natCast, dflt_sl, dflt_st, dflt_str, dflt_int, dflt_bool] at h39
   refine acode_seq ?_
   refine acode_region ?_
   refine Or.inr (Or.inr (Or.inr (Exists.intro [0, 1] (Exists.intro [] (Exists.intro _ (Exists.intro _ (Exists.intro _ (Exists.intro _ (Exists.intro _ (And.intro (hrp) (And.intro rfl (And.intro (And.intro (And.intro rfl rfl) (And.intro (And.intro rfl rfl) True.intro)) (And.intro rfl ?_)))))))))))))
   refine acode_region ?_
   refine Or.inl ?_
   refine And.intro (rfl) ?_
   refine Exists.intro _ (And.intro (hrf) ?_)
   refine acode_seq ?_
   refine acode_region ?_
   refine Or.inr (Or.inr (Or.inl ?_))
   refine And.intro rfl ?_
   refine Exists.intro _ (And.intro (hfl) ?_)
   refine acode_seq ?_
   refine acode_region ?_
   refine Or.inr (Or.inl (Exists.intro [] (Exists.intro [5] (Exists.intro _ (Exists.intro _ (Exists.intro _ (Exists.intro _ (Exists.intro _ (And.intro (hsp) (And.intro rfl (And.intro (And.intro (And.intro rfl rfl) True.intro) (And.intro rfl ?_))))))))))))
   refine acode_seq ?_
   refine acode_ord rfl ?_
   refine aord_light 1 rfl rfl rfl (by kernel_rfl) ?_
   refine aord_light 2 rfl rfl rfl (by kernel_rfl) ?_
   refine aord_lightG 3 rfl rfl rfl (by kernel_rfl) ?_
   refine And.intro (fun h => trivial) ?_
   refine aord_lightG 5 rfl rfl rfl (by kernel_rfl) ?_
   refine And.intro (fun h => trivial) ?_
   refine aord_all [0, 4] (by kernel_rfl) rfl ?_
   refine And.intro ?_ ?_
   ·refine aord_all [4] (by kernel_rfl) rfl ?_
    refine Or.inl ?_
    refine And.intro (rfl) ?_
    refine Exists.intro _ (And.intro (fun h => ⟨⟨⟨h, trivial⟩, trivial⟩, num_errno 7 (by decide)⟩) ?_)
    refine aord_lightG 6 rfl rfl rfl (by kernel_rfl) ?_
    refine And.intro (fun h => ⟨⟨h, trivial⟩, ⟨h, trivial⟩, trivial⟩) ?_
    refine aord_light 7 rfl rfl rfl (by kernel_rfl) ?_
    refine And.intro (by exact fun h => h) ?_
    refine aord_light 8 rfl rfl rfl (by kernel_rfl) ?_
    refine aord_lightG 9 rfl rfl rfl (by kernel_rfl) ?_
    refine And.intro (fun h => trivial) ?_
    refine aord_lightG 11 rfl rfl rfl (by kernel_rfl) ?_
    refine And.intro (fun h => trivial) ?_
    refine aord_all [10] (by kernel_rfl) rfl ?_
    refine Or.inl ?_
    refine And.intro (rfl) ?_
    refine Exists.intro _ (And.intro (fun h => ⟨⟨⟨h, trivial⟩, trivial⟩, at_errno 7⟩) ?_)
    refine aord_lightG 12 rfl rfl rfl (by kernel_rfl) ?_
    refine And.intro (fun h => ⟨⟨h, trivial⟩, ⟨h, trivial⟩, trivial⟩) ?_
    refine aord_light 13 rfl rfl rfl (by kernel_rfl) ?_
    refine And.intro (by exact fun h => h) ?_
    refine aord_light 14 rfl rfl rfl (by kernel_rfl) ?_
    refine aord_lightG 15 rfl rfl rfl (by kernel_rfl) ?_
    refine And.intro (fun h => trivial) ?_
    refine aord_lightG 16 rfl rfl rfl (by kernel_rfl) ?_
    refine And.intro (fun h => trivial) ?_
    refine aord_lightG 17 rfl rfl rfl (by kernel_rfl) ?_
    refine And.intro (fun h => ⟨⟨h, trivial⟩, ⟨h, trivial⟩, trivial⟩) ?_
    refine aord_light 18 rfl rfl rfl (by kernel_rfl) ?_
    refine And.intro (by exact fun h => h) ?_
    refine aord_all [19] (by kernel_rfl) rfl ?_
    refine aord_light 20 rfl rfl rfl (by kernel_rfl) ?_
    refine aord_done (by kernel_rfl) ?_
    refine acode_ret ?_
    exact ⟨rfl, ⟨rfl, rfl⟩, rfl⟩
   ·refine Or.inl ?_
    refine And.intro (rfl) ?_
    refine Exists.intro _ (And.intro (fun h => ⟨⟨⟨h, trivial⟩, trivial⟩, num_errno 7 (by decide)⟩) ?_)
    refine aord_lightG 6 rfl rfl rfl (by kernel_rfl) ?_
    refine And.intro (fun h => ⟨⟨h, trivial⟩, ⟨h, trivial⟩, trivial⟩) ?_
    refine aord_light 7 rfl rfl rfl (by kernel_rfl) ?_
    refine And.intro (by exact fun h => h) ?_
    refine aord_light 8 rfl rfl rfl (by kernel_rfl) ?_
    refine aord_lightG 9 rfl rfl rfl (by kernel_rfl) ?_
    refine And.intro (fun h => trivial) ?_
    refine aord_lightG 11 rfl rfl rfl (by kernel_rfl) ?_
    refine And.intro (fun h => trivial) ?_
    refine aord_all [0, 10] (by kernel_rfl) rfl ?_
    refine And.intro ?_ ?_
    ·refine aord_all [10] (by kernel_rfl) rfl ?_
     refine Or.inl ?_
     refine And.intro (rfl) ?_
     refine Exists.intro _ (And.intro (fun h => ⟨⟨⟨h, trivial⟩, trivial⟩, at_errno 7⟩) ?_)
     refine aord_lightG 12 rfl rfl rfl (by kernel_rfl) ?_
     refine And.intro (fun h => ⟨⟨h, trivial⟩, ⟨h, trivial⟩, trivial⟩) ?_
     refine aord_light 13 rfl rfl rfl (by kernel_rfl) ?_
     refine And.intro (by exact fun h => h) ?_
     refine aord_light 14 rfl rfl rfl (by kernel_rfl) ?_
     refine aord_lightG 15 rfl rfl rfl (by kernel_rfl) ?_
     refine And.intro (fun h => trivial) ?_
     refine aord_lightG 16 rfl rfl rfl (by kernel_rfl) ?_
     refine And.intro (fun h => trivial) ?_
     refine aord_lightG 17 rfl rfl rfl (by kernel_rfl) ?_
     refine And.intro (fun h => ⟨⟨h, trivial⟩, ⟨h, trivial⟩, trivial⟩) ?_
     refine aord_light 18 rfl rfl rfl (by kernel_rfl) ?_
     refine And.intro (by exact fun h => h) ?_
     refine aord_all [19] (by kernel_rfl) rfl ?_
     refine aord_light 20 rfl rfl rfl (by kernel_rfl) ?_
     refine aord_done (by kernel_rfl) ?_
     refine acode_ret ?_
     exact ⟨rfl, ⟨rfl, rfl⟩, rfl⟩
    ·refine Or.inl ?_
     refine And.intro (rfl) ?_
     refine Exists.intro _ (And.intro (fun h => ⟨⟨⟨h, trivial⟩, trivial⟩, at_errno 7⟩) ?_)
     refine aord_lightG 12 rfl rfl rfl (by kernel_rfl) ?_
     refine And.intro (fun h => ⟨⟨h, trivial⟩, ⟨h, trivial⟩, trivial⟩) ?_
     refine aord_light 13 rfl rfl rfl (by kernel_rfl) ?_
     refine And.intro (by exact fun h => h) ?_
     refine aord_light 14 rfl rfl rfl (by kernel_rfl) ?_
     refine aord_lightG 15 rfl rfl rfl (by kernel_rfl) ?_
     refine And.intro (fun h => trivial) ?_
     refine aord_lightG 16 rfl rfl rfl (by kernel_rfl) ?_
     refine And.intro (fun h => trivial) ?_
     refine aord_lightG 17 rfl rfl rfl (by kernel_rfl) ?_
     refine And.intro (fun h => ⟨⟨h, trivial⟩, ⟨h, trivial⟩, trivial⟩) ?_
     refine aord_light 18 rfl rfl rfl (by kernel_rfl) ?_
     refine And.intro (by exact fun h => h) ?_
     refine aord_all [0] (by kernel_rfl) rfl ?_
     refine aord_all [19] (by kernel_rfl) rfl ?_
     refine aord_light 20 rfl rfl rfl (by kernel_rfl) ?_
     refine aord_done (by kernel_rfl) ?_
     refine acode_ret ?_
     exact ⟨rfl, ⟨rfl, rfl⟩, rfl⟩
  ·try simp only [decide_eq_false_iff_not] at h39
   try simp only [Int.toNat_natCast, dflt_sl, dflt_st, dflt_str, dflt_int, dflt_bool] at h39
   simp at h39
theorem doRep_chk_n (es : List Ent) (n m id : Int) (f : List Fld) (ms : List Ent) (mn : Int) (hf : FldsOk f) (hml : ms.length ≤ 1000000) (h : 0 ≤ atE es id) (hc : (chkR f).2 ≠ 0) (k9 : Int) (hck : chkA f = errN k9) (h9 : k9 ≠ 0) : ACallO Tryz.prog 36 [.one (.own 0 0), .agg (toL rRL (ms, mn)), .agg (toL rEdt ((1 : Int), id, f))] (lsO (es, n, m)) 2 (.tup [(true, toL rRL (refRep (ms, mn) id f).1), (false, [.lit (.bool (doB k9 (-9) 0 (refRep (ms, mn) id f).2.2 (refRep (ms, mn) id f).2.1 0))])]) (lsO (es, n, m)) 2 := by
  have hfl := fieldsk_c (κ := 1) f f
  rw [decide_eq_true rfl] at hfl
  have hcp := copiesF_o f (Nat.le_trans hf.1 (by decide))
  have hsp := spoilF_o f (Nat.le_trans hf.1 (by decide))
  have hrp := (lRep_bad (κ := 1) es n m id f h hf hc).x
  rw [hck] at hrp
  have hrf := refRep_c ms mn id f hf hml
  refine acallo_ofc (t := 6) (ty := 63) (u := 7) Tryz.func36 rfl rfl rfl teOk rfl rfl ?_
  refine acode_seq ?_
  refine acode_region ?_
  refine acode_seq ?_
  refine acode_region ?_
  refine Or.inr (Or.inl (Exists.intro [] (Exists.intro [] (Exists.intro _ (Exists.intro _ (Exists.intro _ (Exists.intro _ (Exists.intro _ (And.intro (hcp) (And.intro rfl (And.intro True.intro (And.intro rfl ?_))))))))))))
  refine acode_seq ?_
  refine acode_region ?_
  refine acode_seq ?_
  refine acode_region ?_
  refine acode_seq ?_
  refine acode_seq ?_
  refine acode_region ?_
  refine acode_block ?_
  refine acode_seq ?_
  refine acode_region ?_
  refine acode_cond rfl (fun h39 => ?_) (fun h39 => ?_)
  ·try simp only [decide_eq_true_eq] at h39
   try simp only [Int.toNat_natCast, dflt_sl, dflt_st, dflt_str, dflt_int, dflt_bool] at h39
   refine acode_seq ?_
   refine acode_region ?_
   refine Or.inr (Or.inr (Or.inr (Exists.intro [0, 1] (Exists.intro [] (Exists.intro _ (Exists.intro _ (Exists.intro _ (Exists.intro _ (Exists.intro _ (And.intro (hrp) (And.intro rfl (And.intro (And.intro (And.intro rfl rfl) (And.intro (And.intro rfl rfl) True.intro)) (And.intro rfl ?_)))))))))))))
   refine acode_region ?_
   refine Or.inl ?_
   refine And.intro (rfl) ?_
   refine Exists.intro _ (And.intro (hrf) ?_)
   refine acode_seq ?_
   refine acode_region ?_
   refine Or.inr (Or.inr (Or.inl ?_))
   refine And.intro rfl ?_
   refine Exists.intro _ (And.intro (hfl) ?_)
   refine acode_seq ?_
   refine acode_region ?_
   refine Or.inr (Or.inl (Exists.intro [] (Exists.intro [5] (Exists.intro _ (Exists.intro _ (Exists.intro _ (Exists.intro _ (Exists.intro _ (And.intro (hsp) (And.intro rfl (And.intro (And.intro (And.intro rfl rfl) True.intro) (And.intro rfl ?_))))))))))))
   refine acode_seq ?_
   refine acode_ord rfl ?_
   refine aord_light 1 rfl rfl rfl (by kernel_rfl) ?_
   refine aord_light 2 rfl rfl rfl (by kernel_rfl) ?_
   refine aord_lightG 3 rfl rfl rfl (by kernel_rfl) ?_
   refine And.intro (fun h => trivial) ?_
   refine aord_lightG 5 rfl rfl rfl (by kernel_rfl) ?_
   refine And.intro (fun h => trivial) ?_
   refine aord_all [0, 4] (by kernel_rfl) rfl ?_
   refine And.intro ?_ ?_
   ·refine aord_all [4] (by kernel_rfl) rfl ?_
    refine Or.inl ?_
    refine And.intro (rfl) ?_
    refine Exists.intro _ (And.intro (fun h => ⟨⟨⟨h, trivial⟩, trivial⟩, num_errno k9 h9⟩) ?_)
    refine aord_lightG 6 rfl rfl rfl (by kernel_rfl) ?_
    refine And.intro (fun h => ⟨⟨h, trivial⟩, ⟨h, trivial⟩, trivial⟩) ?_
    refine aord_light 7 rfl rfl rfl (by kernel_rfl) ?_
    refine And.intro (by exact fun h => h) ?_
    refine aord_light 8 rfl rfl rfl (by kernel_rfl) ?_
    refine aord_lightG 9 rfl rfl rfl (by kernel_rfl) ?_
    refine And.intro (fun h => trivial) ?_
    refine aord_lightG 11 rfl rfl rfl (by kernel_rfl) ?_
    refine And.intro (fun h => trivial) ?_
    refine aord_all [10] (by kernel_rfl) rfl ?_
    refine Or.inl ?_
    refine And.intro (rfl) ?_
    refine Exists.intro _ (And.intro (fun h => ⟨⟨⟨h, trivial⟩, trivial⟩, at_errno k9⟩) ?_)
    refine aord_lightG 12 rfl rfl rfl (by kernel_rfl) ?_
    refine And.intro (fun h => ⟨⟨h, trivial⟩, ⟨h, trivial⟩, trivial⟩) ?_
    refine aord_light 13 rfl rfl rfl (by kernel_rfl) ?_
    refine And.intro (by exact fun h => h) ?_
    refine aord_light 14 rfl rfl rfl (by kernel_rfl) ?_
    refine aord_lightG 15 rfl rfl rfl (by kernel_rfl) ?_
    refine And.intro (fun h => trivial) ?_
    refine aord_lightG 16 rfl rfl rfl (by kernel_rfl) ?_
    refine And.intro (fun h => trivial) ?_
    refine aord_lightG 17 rfl rfl rfl (by kernel_rfl) ?_
    refine And.intro (fun h => ⟨⟨h, trivial⟩, ⟨h, trivial⟩, trivial⟩) ?_
    refine aord_light 18 rfl rfl rfl (by kernel_rfl) ?_
    refine And.intro (by exact fun h => h) ?_
    refine aord_all [19] (by kernel_rfl) rfl ?_
    refine aord_light 20 rfl rfl rfl (by kernel_rfl) ?_
    refine aord_done (by kernel_rfl) ?_
    refine acode_ret ?_
    exact ⟨rfl, ⟨rfl, rfl⟩, rfl⟩
   ·refine Or.inl ?_
    refine And.intro (rfl) ?_
    refine Exists.intro _ (And.intro (fun h => ⟨⟨⟨h, trivial⟩, trivial⟩, num_errno k9 h9⟩) ?_)
    refine aord_lightG 6 rfl rfl rfl (by kernel_rfl) ?_
    refine And.intro (fun h => ⟨⟨h, trivial⟩, ⟨h, trivial⟩, trivial⟩) ?_
    refine aord_light 7 rfl rfl rfl (by kernel_rfl) ?_
    refine And.intro (by exact fun h => h) ?_
    refine aord_light 8 rfl rfl rfl (by kernel_rfl) ?_
    refine aord_lightG 9 rfl rfl rfl (by kernel_rfl) ?_
    refine And.intro (fun h => trivial) ?_
    refine aord_lightG 11 rfl rfl rfl (by kernel_rfl) ?_
    refine And.intro (fun h => trivial) ?_
    refine aord_all [0, 10] (by kernel_rfl) rfl ?_
    refine And.intro ?_ ?_
    ·refine aord_all [10] (by kernel_rfl) rfl ?_
     refine Or.inl ?_
     refine And.intro (rfl) ?_
     refine Exists.intro _ (And.intro (fun h => ⟨⟨⟨h, trivial⟩, trivial⟩, at_errno k9⟩) ?_)
     refine aord_lightG 12 rfl rfl rfl (by kernel_rfl) ?_
     refine And.intro (fun h => ⟨⟨h, trivial⟩, ⟨h, trivial⟩, trivial⟩) ?_
     refine aord_light 13 rfl rfl rfl (by kernel_rfl) ?_
     refine And.intro (by exact fun h => h) ?_
     refine aord_light 14 rfl rfl rfl (by kernel_rfl) ?_
     refine aord_lightG 15 rfl rfl rfl (by kernel_rfl) ?_
     refine And.intro (fun h => trivial) ?_
     refine aord_lightG 16 rfl rfl rfl (by kernel_rfl) ?_
     refine And.intro (fun h => trivial) ?_
     refine aord_lightG 17 rfl rfl rfl (by kernel_rfl) ?_
     refine And.intro (fun h => ⟨⟨h, trivial⟩, ⟨h, trivial⟩, trivial⟩) ?_
     refine aord_light 18 rfl rfl rfl (by kernel_rfl) ?_
     refine And.intro (by exact fun h => h) ?_
     refine aord_all [19] (by kernel_rfl) rfl ?_
     refine aord_light 20 rfl rfl rfl (by kernel_rfl) ?_
     refine aord_done (by kernel_rfl) ?_
     refine acode_ret ?_
     exact ⟨rfl, ⟨rfl, rfl⟩, rfl⟩
    ·refine Or.inl ?_
     refine And.intro (rfl) ?_
     refine Exists.intro _ (And.intro (fun h => ⟨⟨⟨h, trivial⟩, trivial⟩, at_errno k9⟩) ?_)
     refine aord_lightG 12 rfl rfl rfl (by kernel_rfl) ?_
     refine And.intro (fun h => ⟨⟨h, trivial⟩, ⟨h, trivial⟩, trivial⟩) ?_
     refine aord_light 13 rfl rfl rfl (by kernel_rfl) ?_
     refine And.intro (by exact fun h => h) ?_
     refine aord_light 14 rfl rfl rfl (by kernel_rfl) ?_
     refine aord_lightG 15 rfl rfl rfl (by kernel_rfl) ?_
     refine And.intro (fun h => trivial) ?_
     refine aord_lightG 16 rfl rfl rfl (by kernel_rfl) ?_
     refine And.intro (fun h => trivial) ?_
     refine aord_lightG 17 rfl rfl rfl (by kernel_rfl) ?_
     refine And.intro (fun h => ⟨⟨h, trivial⟩, ⟨h, trivial⟩, trivial⟩) ?_
     refine aord_light 18 rfl rfl rfl (by kernel_rfl) ?_
     refine And.intro (by exact fun h => h) ?_
     refine aord_all [0] (by kernel_rfl) rfl ?_
     refine aord_all [19] (by kernel_rfl) rfl ?_
     refine aord_light 20 rfl rfl rfl (by kernel_rfl) ?_
     refine aord_done (by kernel_rfl) ?_
     refine acode_ret ?_
     exact ⟨rfl, ⟨rfl, rfl⟩, rfl⟩
  ·try simp only [decide_eq_false_iff_not] at h39
   try simp only [Int.toNat_natCast, dflt_sl, dflt_st, dflt_str, dflt_int, dflt_bool] at h39
   simp at h39
theorem doRep_chk_f (es : List Ent) (n m id : Int) (f : List Fld) (ms : List Ent) (mn : Int) (hf : FldsOk f) (hml : ms.length ≤ 1000000) (h : 0 ≤ atE es id) (hc : (chkR f).2 ≠ 0) (a9 k9 : Int) (hck : chkA f = errF a9 k9) (h9 : k9 ≠ 0) : ACallO Tryz.prog 36 [.one (.own 0 0), .agg (toL rRL (ms, mn)), .agg (toL rEdt ((1 : Int), id, f))] (lsO (es, n, m)) 2 (.tup [(true, toL rRL (refRep (ms, mn) id f).1), (false, [.lit (.bool (doB k9 a9 0 (refRep (ms, mn) id f).2.2 (refRep (ms, mn) id f).2.1 0))])]) (lsO (es, n, m)) 2 := by
  have hfl := fieldsk_c (κ := 1) f f
  rw [decide_eq_true rfl] at hfl
  have hcp := copiesF_o f (Nat.le_trans hf.1 (by decide))
  have hsp := spoilF_o f (Nat.le_trans hf.1 (by decide))
  have hrp := (lRep_bad (κ := 1) es n m id f h hf hc).x
  rw [hck] at hrp
  have hrf := refRep_c ms mn id f hf hml
  refine acallo_ofc (t := 6) (ty := 63) (u := 7) Tryz.func36 rfl rfl rfl teOk rfl rfl ?_
  refine acode_seq ?_
  refine acode_region ?_
  refine acode_seq ?_
  refine acode_region ?_
  refine Or.inr (Or.inl (Exists.intro [] (Exists.intro [] (Exists.intro _ (Exists.intro _ (Exists.intro _ (Exists.intro _ (Exists.intro _ (And.intro (hcp) (And.intro rfl (And.intro True.intro (And.intro rfl ?_))))))))))))
  refine acode_seq ?_
  refine acode_region ?_
  refine acode_seq ?_
  refine acode_region ?_
  refine acode_seq ?_
  refine acode_seq ?_
  refine acode_region ?_
  refine acode_block ?_
  refine acode_seq ?_
  refine acode_region ?_
  refine acode_cond rfl (fun h39 => ?_) (fun h39 => ?_)
  ·try simp only [decide_eq_true_eq] at h39
   try simp only [Int.toNat_natCast, dflt_sl, dflt_st, dflt_str, dflt_int, dflt_bool] at h39
   refine acode_seq ?_
   refine acode_region ?_
   refine Or.inr (Or.inr (Or.inr (Exists.intro [0, 1] (Exists.intro [] (Exists.intro _ (Exists.intro _ (Exists.intro _ (Exists.intro _ (Exists.intro _ (And.intro (hrp) (And.intro rfl (And.intro (And.intro (And.intro rfl rfl) (And.intro (And.intro rfl rfl) True.intro)) (And.intro rfl ?_)))))))))))))
   refine acode_region ?_
   refine Or.inl ?_
   refine And.intro (rfl) ?_
   refine Exists.intro _ (And.intro (hrf) ?_)
   refine acode_seq ?_
   refine acode_region ?_
   refine Or.inr (Or.inr (Or.inl ?_))
   refine And.intro rfl ?_
   refine Exists.intro _ (And.intro (hfl) ?_)
   refine acode_seq ?_
   refine acode_region ?_
   refine Or.inr (Or.inl (Exists.intro [] (Exists.intro [5] (Exists.intro _ (Exists.intro _ (Exists.intro _ (Exists.intro _ (Exists.intro _ (And.intro (hsp) (And.intro rfl (And.intro (And.intro (And.intro rfl rfl) True.intro) (And.intro rfl ?_))))))))))))
   refine acode_seq ?_
   refine acode_ord rfl ?_
   refine aord_light 1 rfl rfl rfl (by kernel_rfl) ?_
   refine aord_light 2 rfl rfl rfl (by kernel_rfl) ?_
   refine aord_lightG 3 rfl rfl rfl (by kernel_rfl) ?_
   refine And.intro (fun h => trivial) ?_
   refine aord_lightG 5 rfl rfl rfl (by kernel_rfl) ?_
   refine And.intro (fun h => trivial) ?_
   refine aord_all [0, 4] (by kernel_rfl) rfl ?_
   refine And.intro ?_ ?_
   ·refine aord_all [4] (by kernel_rfl) rfl ?_
    refine Or.inl ?_
    refine And.intro (rfl) ?_
    refine Exists.intro _ (And.intro (fun h => ⟨⟨⟨h, trivial⟩, trivial⟩, num_fault a9 k9 h9⟩) ?_)
    refine aord_lightG 6 rfl rfl rfl (by kernel_rfl) ?_
    refine And.intro (fun h => ⟨⟨h, trivial⟩, ⟨h, trivial⟩, trivial⟩) ?_
    refine aord_light 7 rfl rfl rfl (by kernel_rfl) ?_
    refine And.intro (by exact fun h => h) ?_
    refine aord_light 8 rfl rfl rfl (by kernel_rfl) ?_
    refine aord_lightG 9 rfl rfl rfl (by kernel_rfl) ?_
    refine And.intro (fun h => trivial) ?_
    refine aord_lightG 11 rfl rfl rfl (by kernel_rfl) ?_
    refine And.intro (fun h => trivial) ?_
    refine aord_all [10] (by kernel_rfl) rfl ?_
    refine Or.inl ?_
    refine And.intro (rfl) ?_
    refine Exists.intro _ (And.intro (fun h => ⟨⟨⟨h, trivial⟩, trivial⟩, at_fault a9 k9⟩) ?_)
    refine aord_lightG 12 rfl rfl rfl (by kernel_rfl) ?_
    refine And.intro (fun h => ⟨⟨h, trivial⟩, ⟨h, trivial⟩, trivial⟩) ?_
    refine aord_light 13 rfl rfl rfl (by kernel_rfl) ?_
    refine And.intro (by exact fun h => h) ?_
    refine aord_light 14 rfl rfl rfl (by kernel_rfl) ?_
    refine aord_lightG 15 rfl rfl rfl (by kernel_rfl) ?_
    refine And.intro (fun h => trivial) ?_
    refine aord_lightG 16 rfl rfl rfl (by kernel_rfl) ?_
    refine And.intro (fun h => trivial) ?_
    refine aord_lightG 17 rfl rfl rfl (by kernel_rfl) ?_
    refine And.intro (fun h => ⟨⟨h, trivial⟩, ⟨h, trivial⟩, trivial⟩) ?_
    refine aord_light 18 rfl rfl rfl (by kernel_rfl) ?_
    refine And.intro (by exact fun h => h) ?_
    refine aord_all [19] (by kernel_rfl) rfl ?_
    refine aord_light 20 rfl rfl rfl (by kernel_rfl) ?_
    refine aord_done (by kernel_rfl) ?_
    refine acode_ret ?_
    exact ⟨rfl, ⟨rfl, rfl⟩, rfl⟩
   ·refine Or.inl ?_
    refine And.intro (rfl) ?_
    refine Exists.intro _ (And.intro (fun h => ⟨⟨⟨h, trivial⟩, trivial⟩, num_fault a9 k9 h9⟩) ?_)
    refine aord_lightG 6 rfl rfl rfl (by kernel_rfl) ?_
    refine And.intro (fun h => ⟨⟨h, trivial⟩, ⟨h, trivial⟩, trivial⟩) ?_
    refine aord_light 7 rfl rfl rfl (by kernel_rfl) ?_
    refine And.intro (by exact fun h => h) ?_
    refine aord_light 8 rfl rfl rfl (by kernel_rfl) ?_
    refine aord_lightG 9 rfl rfl rfl (by kernel_rfl) ?_
    refine And.intro (fun h => trivial) ?_
    refine aord_lightG 11 rfl rfl rfl (by kernel_rfl) ?_
    refine And.intro (fun h => trivial) ?_
    refine aord_all [0, 10] (by kernel_rfl) rfl ?_
    refine And.intro ?_ ?_
    ·refine aord_all [10] (by kernel_rfl) rfl ?_
     refine Or.inl ?_
     refine And.intro (rfl) ?_
     refine Exists.intro _ (And.intro (fun h => ⟨⟨⟨h, trivial⟩, trivial⟩, at_fault a9 k9⟩) ?_)
     refine aord_lightG 12 rfl rfl rfl (by kernel_rfl) ?_
     refine And.intro (fun h => ⟨⟨h, trivial⟩, ⟨h, trivial⟩, trivial⟩) ?_
     refine aord_light 13 rfl rfl rfl (by kernel_rfl) ?_
     refine And.intro (by exact fun h => h) ?_
     refine aord_light 14 rfl rfl rfl (by kernel_rfl) ?_
     refine aord_lightG 15 rfl rfl rfl (by kernel_rfl) ?_
     refine And.intro (fun h => trivial) ?_
     refine aord_lightG 16 rfl rfl rfl (by kernel_rfl) ?_
     refine And.intro (fun h => trivial) ?_
     refine aord_lightG 17 rfl rfl rfl (by kernel_rfl) ?_
     refine And.intro (fun h => ⟨⟨h, trivial⟩, ⟨h, trivial⟩, trivial⟩) ?_
     refine aord_light 18 rfl rfl rfl (by kernel_rfl) ?_
     refine And.intro (by exact fun h => h) ?_
     refine aord_all [19] (by kernel_rfl) rfl ?_
     refine aord_light 20 rfl rfl rfl (by kernel_rfl) ?_
     refine aord_done (by kernel_rfl) ?_
     refine acode_ret ?_
     exact ⟨rfl, ⟨rfl, rfl⟩, rfl⟩
    ·refine Or.inl ?_
     refine And.intro (rfl) ?_
     refine Exists.intro _ (And.intro (fun h => ⟨⟨⟨h, trivial⟩, trivial⟩, at_fault a9 k9⟩) ?_)
     refine aord_lightG 12 rfl rfl rfl (by kernel_rfl) ?_
     refine And.intro (fun h => ⟨⟨h, trivial⟩, ⟨h, trivial⟩, trivial⟩) ?_
     refine aord_light 13 rfl rfl rfl (by kernel_rfl) ?_
     refine And.intro (by exact fun h => h) ?_
     refine aord_light 14 rfl rfl rfl (by kernel_rfl) ?_
     refine aord_lightG 15 rfl rfl rfl (by kernel_rfl) ?_
     refine And.intro (fun h => trivial) ?_
     refine aord_lightG 16 rfl rfl rfl (by kernel_rfl) ?_
     refine And.intro (fun h => trivial) ?_
     refine aord_lightG 17 rfl rfl rfl (by kernel_rfl) ?_
     refine And.intro (fun h => ⟨⟨h, trivial⟩, ⟨h, trivial⟩, trivial⟩) ?_
     refine aord_light 18 rfl rfl rfl (by kernel_rfl) ?_
     refine And.intro (by exact fun h => h) ?_
     refine aord_all [0] (by kernel_rfl) rfl ?_
     refine aord_all [19] (by kernel_rfl) rfl ?_
     refine aord_light 20 rfl rfl rfl (by kernel_rfl) ?_
     refine aord_done (by kernel_rfl) ?_
     refine acode_ret ?_
     exact ⟨rfl, ⟨rfl, rfl⟩, rfl⟩
  ·try simp only [decide_eq_false_iff_not] at h39
   try simp only [Int.toNat_natCast, dflt_sl, dflt_st, dflt_str, dflt_int, dflt_bool] at h39
   simp at h39
theorem doRep_ok (es : List Ent) (n m id : Int) (f : List Fld) (ms : List Ent) (mn : Int) (hf : FldsOk f) (hml : ms.length ≤ 1000000) (i : Nat) (hi : i < es.length) (h : atE es id = i) (hc : (chkR f).2 = 0) : ACallO Tryz.prog 36 [.one (.own 0 0), .agg (toL rRL (ms, mn)), .agg (toL rEdt ((1 : Int), id, f))] (lsO (es, n, m)) 2 (.tup [(true, toL rRL (refRep (ms, mn) id f).1), (false, [.lit (.bool (doB 0 (-9) 0 (refRep (ms, mn) id f).2.2 (refRep (ms, mn) id f).2.1 0))])]) (lsO (replE es i (itmOf f), n, m)) 2 := by
  have hfl := fieldsk_c (κ := 1) f f
  rw [decide_eq_true rfl] at hfl
  have hcp := copiesF_o f (Nat.le_trans hf.1 (by decide))
  have hsp := spoilF_o f (Nat.le_trans hf.1 (by decide))
  have hrp := (lRep_ok (κ := 1) es n m id f i hi h hf hc).x
  have hrf := refRep_c ms mn id f hf hml
  refine acallo_ofc (t := 6) (ty := 63) (u := 7) Tryz.func36 rfl rfl rfl teOk rfl rfl ?_
  refine acode_seq ?_
  refine acode_region ?_
  refine acode_seq ?_
  refine acode_region ?_
  refine Or.inr (Or.inl (Exists.intro [] (Exists.intro [] (Exists.intro _ (Exists.intro _ (Exists.intro _ (Exists.intro _ (Exists.intro _ (And.intro (hcp) (And.intro rfl (And.intro True.intro (And.intro rfl ?_))))))))))))
  refine acode_seq ?_
  refine acode_region ?_
  refine acode_seq ?_
  refine acode_region ?_
  refine acode_seq ?_
  refine acode_seq ?_
  refine acode_region ?_
  refine acode_block ?_
  refine acode_seq ?_
  refine acode_region ?_
  refine acode_cond rfl (fun h39 => ?_) (fun h39 => ?_)
  ·try simp only [decide_eq_true_eq] at h39
   try simp only [Int.toNat_natCast, dflt_sl, dflt_st, dflt_str, dflt_int, dflt_bool] at h39
   refine acode_seq ?_
   refine acode_region ?_
   refine Or.inr (Or.inr (Or.inr (Exists.intro [0, 1] (Exists.intro [] (Exists.intro _ (Exists.intro _ (Exists.intro _ (Exists.intro _ (Exists.intro _ (And.intro (hrp) (And.intro rfl (And.intro (And.intro (And.intro rfl rfl) (And.intro (And.intro rfl rfl) True.intro)) (And.intro rfl ?_)))))))))))))
   refine acode_region ?_
   refine Or.inl ?_
   refine And.intro (rfl) ?_
   refine Exists.intro _ (And.intro (hrf) ?_)
   refine acode_seq ?_
   refine acode_region ?_
   refine Or.inr (Or.inr (Or.inl ?_))
   refine And.intro rfl ?_
   refine Exists.intro _ (And.intro (hfl) ?_)
   refine acode_seq ?_
   refine acode_region ?_
   refine Or.inr (Or.inl (Exists.intro [] (Exists.intro [5] (Exists.intro _ (Exists.intro _ (Exists.intro _ (Exists.intro _ (Exists.intro _ (And.intro (hsp) (And.intro rfl (And.intro (And.intro (And.intro rfl rfl) True.intro) (And.intro rfl ?_))))))))))))
   refine acode_seq ?_
   refine acode_ord rfl ?_
   refine aord_light 1 rfl rfl rfl (by kernel_rfl) ?_
   refine aord_light 2 rfl rfl rfl (by kernel_rfl) ?_
   refine aord_lightG 3 rfl rfl rfl (by kernel_rfl) ?_
   refine And.intro (fun h => trivial) ?_
   refine aord_lightG 5 rfl rfl rfl (by kernel_rfl) ?_
   refine And.intro (fun h => trivial) ?_
   refine aord_all [0, 4] (by kernel_rfl) rfl ?_
   refine And.intro ?_ ?_
   ·refine aord_all [4] (by kernel_rfl) rfl ?_
    refine Or.inl ?_
    refine And.intro (rfl) ?_
    refine Exists.intro _ (And.intro (fun h => ⟨⟨⟨h, trivial⟩, trivial⟩, num_nil⟩) ?_)
    refine aord_lightG 6 rfl rfl rfl (by kernel_rfl) ?_
    refine And.intro (fun h => ⟨⟨h, trivial⟩, ⟨h, trivial⟩, trivial⟩) ?_
    refine aord_light 7 rfl rfl rfl (by kernel_rfl) ?_
    refine And.intro (by exact fun h => h) ?_
    refine aord_light 8 rfl rfl rfl (by kernel_rfl) ?_
    refine aord_lightG 9 rfl rfl rfl (by kernel_rfl) ?_
    refine And.intro (fun h => trivial) ?_
    refine aord_lightG 11 rfl rfl rfl (by kernel_rfl) ?_
    refine And.intro (fun h => trivial) ?_
    refine aord_all [10] (by kernel_rfl) rfl ?_
    refine Or.inl ?_
    refine And.intro (rfl) ?_
    refine Exists.intro _ (And.intro (fun h => ⟨⟨⟨h, trivial⟩, trivial⟩, at_nil⟩) ?_)
    refine aord_lightG 12 rfl rfl rfl (by kernel_rfl) ?_
    refine And.intro (fun h => ⟨⟨h, trivial⟩, ⟨h, trivial⟩, trivial⟩) ?_
    refine aord_light 13 rfl rfl rfl (by kernel_rfl) ?_
    refine And.intro (by exact fun h => h) ?_
    refine aord_light 14 rfl rfl rfl (by kernel_rfl) ?_
    refine aord_lightG 15 rfl rfl rfl (by kernel_rfl) ?_
    refine And.intro (fun h => trivial) ?_
    refine aord_lightG 16 rfl rfl rfl (by kernel_rfl) ?_
    refine And.intro (fun h => trivial) ?_
    refine aord_lightG 17 rfl rfl rfl (by kernel_rfl) ?_
    refine And.intro (fun h => ⟨⟨h, trivial⟩, ⟨h, trivial⟩, trivial⟩) ?_
    refine aord_light 18 rfl rfl rfl (by kernel_rfl) ?_
    refine And.intro (by exact fun h => h) ?_
    refine aord_all [19] (by kernel_rfl) rfl ?_
    refine aord_light 20 rfl rfl rfl (by kernel_rfl) ?_
    refine aord_done (by kernel_rfl) ?_
    refine acode_ret ?_
    exact ⟨rfl, ⟨rfl, rfl⟩, rfl⟩
   ·refine Or.inl ?_
    refine And.intro (rfl) ?_
    refine Exists.intro _ (And.intro (fun h => ⟨⟨⟨h, trivial⟩, trivial⟩, num_nil⟩) ?_)
    refine aord_lightG 6 rfl rfl rfl (by kernel_rfl) ?_
    refine And.intro (fun h => ⟨⟨h, trivial⟩, ⟨h, trivial⟩, trivial⟩) ?_
    refine aord_light 7 rfl rfl rfl (by kernel_rfl) ?_
    refine And.intro (by exact fun h => h) ?_
    refine aord_light 8 rfl rfl rfl (by kernel_rfl) ?_
    refine aord_lightG 9 rfl rfl rfl (by kernel_rfl) ?_
    refine And.intro (fun h => trivial) ?_
    refine aord_lightG 11 rfl rfl rfl (by kernel_rfl) ?_
    refine And.intro (fun h => trivial) ?_
    refine aord_all [0, 10] (by kernel_rfl) rfl ?_
    refine And.intro ?_ ?_
    ·refine aord_all [10] (by kernel_rfl) rfl ?_
     refine Or.inl ?_
     refine And.intro (rfl) ?_
     refine Exists.intro _ (And.intro (fun h => ⟨⟨⟨h, trivial⟩, trivial⟩, at_nil⟩) ?_)
     refine aord_lightG 12 rfl rfl rfl (by kernel_rfl) ?_
     refine And.intro (fun h => ⟨⟨h, trivial⟩, ⟨h, trivial⟩, trivial⟩) ?_
     refine aord_light 13 rfl rfl rfl (by kernel_rfl) ?_
     refine And.intro (by exact fun h => h) ?_
     refine aord_light 14 rfl rfl rfl (by kernel_rfl) ?_
     refine aord_lightG 15 rfl rfl rfl (by kernel_rfl) ?_
     refine And.intro (fun h => trivial) ?_
     refine aord_lightG 16 rfl rfl rfl (by kernel_rfl) ?_
     refine And.intro (fun h => trivial) ?_
     refine aord_lightG 17 rfl rfl rfl (by kernel_rfl) ?_
     refine And.intro (fun h => ⟨⟨h, trivial⟩, ⟨h, trivial⟩, trivial⟩) ?_
     refine aord_light 18 rfl rfl rfl (by kernel_rfl) ?_
     refine And.intro (by exact fun h => h) ?_
     refine aord_all [19] (by kernel_rfl) rfl ?_
     refine aord_light 20 rfl rfl rfl (by kernel_rfl) ?_
     refine aord_done (by kernel_rfl) ?_
     refine acode_ret ?_
     exact ⟨rfl, ⟨rfl, rfl⟩, rfl⟩
    ·refine Or.inl ?_
     refine And.intro (rfl) ?_
     refine Exists.intro _ (And.intro (fun h => ⟨⟨⟨h, trivial⟩, trivial⟩, at_nil⟩) ?_)
     refine aord_lightG 12 rfl rfl rfl (by kernel_rfl) ?_
     refine And.intro (fun h => ⟨⟨h, trivial⟩, ⟨h, trivial⟩, trivial⟩) ?_
     refine aord_light 13 rfl rfl rfl (by kernel_rfl) ?_
     refine And.intro (by exact fun h => h) ?_
     refine aord_light 14 rfl rfl rfl (by kernel_rfl) ?_
     refine aord_lightG 15 rfl rfl rfl (by kernel_rfl) ?_
     refine And.intro (fun h => trivial) ?_
     refine aord_lightG 16 rfl rfl rfl (by kernel_rfl) ?_
     refine And.intro (fun h => trivial) ?_
     refine aord_lightG 17 rfl rfl rfl (by kernel_rfl) ?_
     refine And.intro (fun h => ⟨⟨h, trivial⟩, ⟨h, trivial⟩, trivial⟩) ?_
     refine aord_light 18 rfl rfl rfl (by kernel_rfl) ?_
     refine And.intro (by exact fun h => h) ?_
     refine aord_all [0] (by kernel_rfl) rfl ?_
     refine aord_all [19] (by kernel_rfl) rfl ?_
     refine aord_light 20 rfl rfl rfl (by kernel_rfl) ?_
     refine aord_done (by kernel_rfl) ?_
     refine acode_ret ?_
     exact ⟨rfl, ⟨rfl, rfl⟩, rfl⟩
  ·try simp only [decide_eq_false_iff_not] at h39
   try simp only [Int.toNat_natCast, dflt_sl, dflt_st, dflt_str, dflt_int, dflt_bool] at h39
   simp at h39
theorem doIns_no (es : List Ent) (n m id : Int) (f : List Fld) (ms : List Ent) (mn : Int) (hf : FldsOk f) (hml : ms.length ≤ 1000000) (k : Int) (hk1 : k ≠ 1) (hk2 : k ≠ 2) (hmn : 0 ≤ mn ∧ mn ≤ 1000000000) (h : atE es id < 0) (h0 : id ≠ 0) : ACallO Tryz.prog 36 [.one (.own 0 0), .agg (toL rRL (ms, mn)), .agg (toL rEdt ((k : Int), id, f))] (lsO (es, n, m)) 2 (.tup [(true, toL rRL (refIns (ms, mn) id f).1), (false, [.lit (.bool (doB 7 (-9) 0 (refIns (ms, mn) id f).2.2.2 (refIns (ms, mn) id f).2.2.1 (refIns (ms, mn) id f).2.1))])]) (lsO (es, n, m)) 2 := by
  have hfl := fieldsk_c (κ := 1) f f
  rw [decide_eq_true rfl] at hfl
  have hcp := copiesF_o f (Nat.le_trans hf.1 (by decide))
  have hsp := spoilF_o f (Nat.le_trans hf.1 (by decide))
  have hin := (lIns_no (κ := 1) es n m id f h h0).x
  have hrf := refIns_c ms mn id f hf hml hmn
  refine acallo_ofc (t := 6) (ty := 63) (u := 7) Tryz.func36 rfl rfl rfl teOk rfl rfl ?_
  refine acode_seq ?_
  refine acode_region ?_
  refine acode_seq ?_
  refine acode_region ?_
  refine Or.inr (Or.inl (Exists.intro [] (Exists.intro [] (Exists.intro _ (Exists.intro _ (Exists.intro _ (Exists.intro _ (Exists.intro _ (And.intro (hcp) (And.intro rfl (And.intro True.intro (And.intro rfl ?_))))))))))))
  refine acode_seq ?_
  refine acode_region ?_
  refine acode_seq ?_
  refine acode_region ?_
  refine acode_seq ?_
  refine acode_seq ?_
  refine acode_region ?_
  refine acode_block ?_
  refine acode_seq ?_
  refine acode_region ?_
  refine acode_cond rfl (fun h39 => ?_) (fun h39 => ?_)
  ·try simp only [decide_eq_true_eq] at h39
   try simp only [Int.toNat_natCast, dflt_sl, dflt_st, dflt_str, dflt_int, dflt_bool] at h39
   exact absurd h39 hk1
  ·try simp only [decide_eq_false_iff_not] at h39
   try simp only [Int.toNat_natCast, dflt_sl, dflt_st, dflt_str, dflt_int, dflt_bool] at h39
   refine acode_seq ?_
   refine acode_region ?_
   refine acode_cond rfl (fun h56 => ?_) (fun h56 => ?_)
   ·try simp only [decide_eq_true_eq] at h56
    try simp only [Int.toNat_natCast, dflt_sl, dflt_st, dflt_str, dflt_int, dflt_bool] at h56
    exact absurd h56 hk2
   ·try simp only [decide_eq_false_iff_not] at h56
    try simp only [Int.toNat_natCast, dflt_sl, dflt_st, dflt_str, dflt_int, dflt_bool] at h56
    refine acode_seq ?_
    refine acode_region ?_
    refine Or.inr (Or.inr (Or.inr (Exists.intro [0, 1] (Exists.intro [] (Exists.intro _ (Exists.intro _ (Exists.intro _ (Exists.intro _ (Exists.intro _ (And.intro (hin) (And.intro rfl (And.intro (And.intro (And.intro rfl rfl) (And.intro (And.intro rfl rfl) True.intro)) (And.intro rfl ?_)))))))))))))
    refine acode_region ?_
    refine Or.inl ?_
    refine And.intro (rfl) ?_
    refine Exists.intro _ (And.intro (hrf) ?_)
    refine acode_seq ?_
    refine acode_region ?_
    refine Or.inr (Or.inr (Or.inl ?_))
    refine And.intro rfl ?_
    refine Exists.intro _ (And.intro (hfl) ?_)
    refine acode_seq ?_
    refine acode_region ?_
    refine Or.inr (Or.inl (Exists.intro [] (Exists.intro [5] (Exists.intro _ (Exists.intro _ (Exists.intro _ (Exists.intro _ (Exists.intro _ (And.intro (hsp) (And.intro rfl (And.intro (And.intro (And.intro rfl rfl) True.intro) (And.intro rfl ?_))))))))))))
    refine acode_seq ?_
    refine acode_ord rfl ?_
    refine aord_light 1 rfl rfl rfl (by kernel_rfl) ?_
    refine aord_light 2 rfl rfl rfl (by kernel_rfl) ?_
    refine aord_lightG 3 rfl rfl rfl (by kernel_rfl) ?_
    refine And.intro (fun h => trivial) ?_
    refine aord_lightG 5 rfl rfl rfl (by kernel_rfl) ?_
    refine And.intro (fun h => trivial) ?_
    refine aord_all [0, 4] (by kernel_rfl) rfl ?_
    refine And.intro ?_ ?_
    ·refine aord_all [4] (by kernel_rfl) rfl ?_
     refine Or.inl ?_
     refine And.intro (rfl) ?_
     refine Exists.intro _ (And.intro (fun h => ⟨⟨⟨h, trivial⟩, trivial⟩, num_errno 7 (by decide)⟩) ?_)
     refine aord_lightG 6 rfl rfl rfl (by kernel_rfl) ?_
     refine And.intro (fun h => ⟨⟨h, trivial⟩, ⟨h, trivial⟩, trivial⟩) ?_
     refine aord_light 7 rfl rfl rfl (by kernel_rfl) ?_
     refine And.intro (by exact fun h => h) ?_
     refine aord_light 8 rfl rfl rfl (by kernel_rfl) ?_
     refine aord_lightG 9 rfl rfl rfl (by kernel_rfl) ?_
     refine And.intro (fun h => trivial) ?_
     refine aord_lightG 11 rfl rfl rfl (by kernel_rfl) ?_
     refine And.intro (fun h => trivial) ?_
     refine aord_all [10] (by kernel_rfl) rfl ?_
     refine Or.inl ?_
     refine And.intro (rfl) ?_
     refine Exists.intro _ (And.intro (fun h => ⟨⟨⟨h, trivial⟩, trivial⟩, at_errno 7⟩) ?_)
     refine aord_lightG 12 rfl rfl rfl (by kernel_rfl) ?_
     refine And.intro (fun h => ⟨⟨h, trivial⟩, ⟨h, trivial⟩, trivial⟩) ?_
     refine aord_light 13 rfl rfl rfl (by kernel_rfl) ?_
     refine And.intro (by exact fun h => h) ?_
     refine aord_light 14 rfl rfl rfl (by kernel_rfl) ?_
     refine aord_lightG 15 rfl rfl rfl (by kernel_rfl) ?_
     refine And.intro (fun h => trivial) ?_
     refine aord_lightG 16 rfl rfl rfl (by kernel_rfl) ?_
     refine And.intro (fun h => trivial) ?_
     refine aord_lightG 17 rfl rfl rfl (by kernel_rfl) ?_
     refine And.intro (fun h => ⟨⟨h, trivial⟩, ⟨h, trivial⟩, trivial⟩) ?_
     refine aord_light 18 rfl rfl rfl (by kernel_rfl) ?_
     refine And.intro (by exact fun h => h) ?_
     refine aord_all [19] (by kernel_rfl) rfl ?_
     refine aord_light 20 rfl rfl rfl (by kernel_rfl) ?_
     refine aord_done (by kernel_rfl) ?_
     refine acode_ret ?_
     exact ⟨rfl, ⟨rfl, rfl⟩, rfl⟩
    ·refine Or.inl ?_
     refine And.intro (rfl) ?_
     refine Exists.intro _ (And.intro (fun h => ⟨⟨⟨h, trivial⟩, trivial⟩, num_errno 7 (by decide)⟩) ?_)
     refine aord_lightG 6 rfl rfl rfl (by kernel_rfl) ?_
     refine And.intro (fun h => ⟨⟨h, trivial⟩, ⟨h, trivial⟩, trivial⟩) ?_
     refine aord_light 7 rfl rfl rfl (by kernel_rfl) ?_
     refine And.intro (by exact fun h => h) ?_
     refine aord_light 8 rfl rfl rfl (by kernel_rfl) ?_
     refine aord_lightG 9 rfl rfl rfl (by kernel_rfl) ?_
     refine And.intro (fun h => trivial) ?_
     refine aord_lightG 11 rfl rfl rfl (by kernel_rfl) ?_
     refine And.intro (fun h => trivial) ?_
     refine aord_all [0, 10] (by kernel_rfl) rfl ?_
     refine And.intro ?_ ?_
     ·refine aord_all [10] (by kernel_rfl) rfl ?_
      refine Or.inl ?_
      refine And.intro (rfl) ?_
      refine Exists.intro _ (And.intro (fun h => ⟨⟨⟨h, trivial⟩, trivial⟩, at_errno 7⟩) ?_)
      refine aord_lightG 12 rfl rfl rfl (by kernel_rfl) ?_
      refine And.intro (fun h => ⟨⟨h, trivial⟩, ⟨h, trivial⟩, trivial⟩) ?_
      refine aord_light 13 rfl rfl rfl (by kernel_rfl) ?_
      refine And.intro (by exact fun h => h) ?_
      refine aord_light 14 rfl rfl rfl (by kernel_rfl) ?_
      refine aord_lightG 15 rfl rfl rfl (by kernel_rfl) ?_
      refine And.intro (fun h => trivial) ?_
      refine aord_lightG 16 rfl rfl rfl (by kernel_rfl) ?_
      refine And.intro (fun h => trivial) ?_
      refine aord_lightG 17 rfl rfl rfl (by kernel_rfl) ?_
      refine And.intro (fun h => ⟨⟨h, trivial⟩, ⟨h, trivial⟩, trivial⟩) ?_
      refine aord_light 18 rfl rfl rfl (by kernel_rfl) ?_
      refine And.intro (by exact fun h => h) ?_
      refine aord_all [19] (by kernel_rfl) rfl ?_
      refine aord_light 20 rfl rfl rfl (by kernel_rfl) ?_
      refine aord_done (by kernel_rfl) ?_
      refine acode_ret ?_
      exact ⟨rfl, ⟨rfl, rfl⟩, rfl⟩
     ·refine Or.inl ?_
      refine And.intro (rfl) ?_
      refine Exists.intro _ (And.intro (fun h => ⟨⟨⟨h, trivial⟩, trivial⟩, at_errno 7⟩) ?_)
      refine aord_lightG 12 rfl rfl rfl (by kernel_rfl) ?_
      refine And.intro (fun h => ⟨⟨h, trivial⟩, ⟨h, trivial⟩, trivial⟩) ?_
      refine aord_light 13 rfl rfl rfl (by kernel_rfl) ?_
      refine And.intro (by exact fun h => h) ?_
      refine aord_light 14 rfl rfl rfl (by kernel_rfl) ?_
      refine aord_lightG 15 rfl rfl rfl (by kernel_rfl) ?_
      refine And.intro (fun h => trivial) ?_
      refine aord_lightG 16 rfl rfl rfl (by kernel_rfl) ?_
      refine And.intro (fun h => trivial) ?_
      refine aord_lightG 17 rfl rfl rfl (by kernel_rfl) ?_
      refine And.intro (fun h => ⟨⟨h, trivial⟩, ⟨h, trivial⟩, trivial⟩) ?_
      refine aord_light 18 rfl rfl rfl (by kernel_rfl) ?_
      refine And.intro (by exact fun h => h) ?_
      refine aord_all [0] (by kernel_rfl) rfl ?_
      refine aord_all [19] (by kernel_rfl) rfl ?_
      refine aord_light 20 rfl rfl rfl (by kernel_rfl) ?_
      refine aord_done (by kernel_rfl) ?_
      refine acode_ret ?_
      exact ⟨rfl, ⟨rfl, rfl⟩, rfl⟩
theorem doIns_chk_n (es : List Ent) (n m id : Int) (f : List Fld) (ms : List Ent) (mn : Int) (hf : FldsOk f) (hml : ms.length ≤ 1000000) (k : Int) (hk1 : k ≠ 1) (hk2 : k ≠ 2) (hmn : 0 ≤ mn ∧ mn ≤ 1000000000) (h : ¬ (atE es id < 0 ∧ id ≠ 0)) (hc : (chkR f).2 ≠ 0) (k9 : Int) (hck : chkA f = errN k9) (h9 : k9 ≠ 0) : ACallO Tryz.prog 36 [.one (.own 0 0), .agg (toL rRL (ms, mn)), .agg (toL rEdt ((k : Int), id, f))] (lsO (es, n, m)) 2 (.tup [(true, toL rRL (refIns (ms, mn) id f).1), (false, [.lit (.bool (doB k9 (-9) 0 (refIns (ms, mn) id f).2.2.2 (refIns (ms, mn) id f).2.2.1 (refIns (ms, mn) id f).2.1))])]) (lsO (es, n, m)) 2 := by
  have hfl := fieldsk_c (κ := 1) f f
  rw [decide_eq_true rfl] at hfl
  have hcp := copiesF_o f (Nat.le_trans hf.1 (by decide))
  have hsp := spoilF_o f (Nat.le_trans hf.1 (by decide))
  have hin := (lIns_bad (κ := 1) es n m id f h hf hc).x
  rw [hck] at hin
  have hrf := refIns_c ms mn id f hf hml hmn
  refine acallo_ofc (t := 6) (ty := 63) (u := 7) Tryz.func36 rfl rfl rfl teOk rfl rfl ?_
  refine acode_seq ?_
  refine acode_region ?_
  refine acode_seq ?_
  refine acode_region ?_
  refine Or.inr (Or.inl (Exists.intro [] (Exists.intro [] (Exists.intro _ (Exists.intro _ (Exists.intro _ (Exists.intro _ (Exists.intro _ (And.intro (hcp) (And.intro rfl (And.intro True.intro (And.intro rfl ?_))))))))))))
  refine acode_seq ?_
  refine acode_region ?_
  refine acode_seq ?_
  refine acode_region ?_
  refine acode_seq ?_
  refine acode_seq ?_
  refine acode_region ?_
  refine acode_block ?_
  refine acode_seq ?_
  refine acode_region ?_
  refine acode_cond rfl (fun h39 => ?_) (fun h39 => ?_)
  ·try simp only [decide_eq_true_eq] at h39
   try simp only [Int.toNat_natCast, dflt_sl, dflt_st, dflt_str, dflt_int, dflt_bool] at h39
   exact absurd h39 hk1
  ·try simp only [decide_eq_false_iff_not] at h39
   try simp only [Int.toNat_natCast, dflt_sl, dflt_st, dflt_str, dflt_int, dflt_bool] at h39
   refine acode_seq ?_
   refine acode_region ?_
   refine acode_cond rfl (fun h56 => ?_) (fun h56 => ?_)
   ·try simp only [decide_eq_true_eq] at h56
    try simp only [Int.toNat_natCast, dflt_sl, dflt_st, dflt_str, dflt_int, dflt_bool] at h56
    exact absurd h56 hk2
   ·try simp only [decide_eq_false_iff_not] at h56
    try simp only [Int.toNat_natCast, dflt_sl, dflt_st, dflt_str, dflt_int, dflt_bool] at h56
    refine acode_seq ?_
    refine acode_region ?_
    refine Or.inr (Or.inr (Or.inr (Exists.intro [0, 1] (Exists.intro [] (Exists.intro _ (Exists.intro _ (Exists.intro _ (Exists.intro _ (Exists.intro _ (And.intro (hin) (And.intro rfl (And.intro (And.intro (And.intro rfl rfl) (And.intro (And.intro rfl rfl) True.intro)) (And.intro rfl ?_)))))))))))))
    refine acode_region ?_
    refine Or.inl ?_
    refine And.intro (rfl) ?_
    refine Exists.intro _ (And.intro (hrf) ?_)
    refine acode_seq ?_
    refine acode_region ?_
    refine Or.inr (Or.inr (Or.inl ?_))
    refine And.intro rfl ?_
    refine Exists.intro _ (And.intro (hfl) ?_)
    refine acode_seq ?_
    refine acode_region ?_
    refine Or.inr (Or.inl (Exists.intro [] (Exists.intro [5] (Exists.intro _ (Exists.intro _ (Exists.intro _ (Exists.intro _ (Exists.intro _ (And.intro (hsp) (And.intro rfl (And.intro (And.intro (And.intro rfl rfl) True.intro) (And.intro rfl ?_))))))))))))
    refine acode_seq ?_
    refine acode_ord rfl ?_
    refine aord_light 1 rfl rfl rfl (by kernel_rfl) ?_
    refine aord_light 2 rfl rfl rfl (by kernel_rfl) ?_
    refine aord_lightG 3 rfl rfl rfl (by kernel_rfl) ?_
    refine And.intro (fun h => trivial) ?_
    refine aord_lightG 5 rfl rfl rfl (by kernel_rfl) ?_
    refine And.intro (fun h => trivial) ?_
    refine aord_all [0, 4] (by kernel_rfl) rfl ?_
    refine And.intro ?_ ?_
    ·refine aord_all [4] (by kernel_rfl) rfl ?_
     refine Or.inl ?_
     refine And.intro (rfl) ?_
     refine Exists.intro _ (And.intro (fun h => ⟨⟨⟨h, trivial⟩, trivial⟩, num_errno k9 h9⟩) ?_)
     refine aord_lightG 6 rfl rfl rfl (by kernel_rfl) ?_
     refine And.intro (fun h => ⟨⟨h, trivial⟩, ⟨h, trivial⟩, trivial⟩) ?_
     refine aord_light 7 rfl rfl rfl (by kernel_rfl) ?_
     refine And.intro (by exact fun h => h) ?_
     refine aord_light 8 rfl rfl rfl (by kernel_rfl) ?_
     refine aord_lightG 9 rfl rfl rfl (by kernel_rfl) ?_
     refine And.intro (fun h => trivial) ?_
     refine aord_lightG 11 rfl rfl rfl (by kernel_rfl) ?_
     refine And.intro (fun h => trivial) ?_
     refine aord_all [10] (by kernel_rfl) rfl ?_
     refine Or.inl ?_
     refine And.intro (rfl) ?_
     refine Exists.intro _ (And.intro (fun h => ⟨⟨⟨h, trivial⟩, trivial⟩, at_errno k9⟩) ?_)
     refine aord_lightG 12 rfl rfl rfl (by kernel_rfl) ?_
     refine And.intro (fun h => ⟨⟨h, trivial⟩, ⟨h, trivial⟩, trivial⟩) ?_
     refine aord_light 13 rfl rfl rfl (by kernel_rfl) ?_
     refine And.intro (by exact fun h => h) ?_
     refine aord_light 14 rfl rfl rfl (by kernel_rfl) ?_
     refine aord_lightG 15 rfl rfl rfl (by kernel_rfl) ?_
     refine And.intro (fun h => trivial) ?_
     refine aord_lightG 16 rfl rfl rfl (by kernel_rfl) ?_
     refine And.intro (fun h => trivial) ?_
     refine aord_lightG 17 rfl rfl rfl (by kernel_rfl) ?_
     refine And.intro (fun h => ⟨⟨h, trivial⟩, ⟨h, trivial⟩, trivial⟩) ?_
     refine aord_light 18 rfl rfl rfl (by kernel_rfl) ?_
     refine And.intro (by exact fun h => h) ?_
     refine aord_all [19] (by kernel_rfl) rfl ?_
     refine aord_light 20 rfl rfl rfl (by kernel_rfl) ?_
     refine aord_done (by kernel_rfl) ?_
     refine acode_ret ?_
     exact ⟨rfl, ⟨rfl, rfl⟩, rfl⟩
    ·refine Or.inl ?_
     refine And.intro (rfl) ?_
     refine Exists.intro _ (And.intro (fun h => ⟨⟨⟨h, trivial⟩, trivial⟩, num_errno k9 h9⟩) ?_)
     refine aord_lightG 6 rfl rfl rfl (by kernel_rfl) ?_
     refine And.intro (fun h => ⟨⟨h, trivial⟩, ⟨h, trivial⟩, trivial⟩) ?_
     refine aord_light 7 rfl rfl rfl (by kernel_rfl) ?_
     refine And.intro (by exact fun h => h) ?_
     refine aord_light 8 rfl rfl rfl (by kernel_rfl) ?_
     refine aord_lightG 9 rfl rfl rfl (by kernel_rfl) ?_
     refine And.intro (fun h => trivial) ?_
     refine aord_lightG 11 rfl rfl rfl (by kernel_rfl) ?_
     refine And.intro (fun h => trivial) ?_
     refine aord_all [0, 10] (by kernel_rfl) rfl ?_
     refine And.intro ?_ ?_
     ·refine aord_all [10] (by kernel_rfl) rfl ?_
      refine Or.inl ?_
      refine And.intro (rfl) ?_
      refine Exists.intro _ (And.intro (fun h => ⟨⟨⟨h, trivial⟩, trivial⟩, at_errno k9⟩) ?_)
      refine aord_lightG 12 rfl rfl rfl (by kernel_rfl) ?_
      refine And.intro (fun h => ⟨⟨h, trivial⟩, ⟨h, trivial⟩, trivial⟩) ?_
      refine aord_light 13 rfl rfl rfl (by kernel_rfl) ?_
      refine And.intro (by exact fun h => h) ?_
      refine aord_light 14 rfl rfl rfl (by kernel_rfl) ?_
      refine aord_lightG 15 rfl rfl rfl (by kernel_rfl) ?_
      refine And.intro (fun h => trivial) ?_
      refine aord_lightG 16 rfl rfl rfl (by kernel_rfl) ?_
      refine And.intro (fun h => trivial) ?_
      refine aord_lightG 17 rfl rfl rfl (by kernel_rfl) ?_
      refine And.intro (fun h => ⟨⟨h, trivial⟩, ⟨h, trivial⟩, trivial⟩) ?_
      refine aord_light 18 rfl rfl rfl (by kernel_rfl) ?_
      refine And.intro (by exact fun h => h) ?_
      refine aord_all [19] (by kernel_rfl) rfl ?_
      refine aord_light 20 rfl rfl rfl (by kernel_rfl) ?_
      refine aord_done (by kernel_rfl) ?_
      refine acode_ret ?_
      exact ⟨rfl, ⟨rfl, rfl⟩, rfl⟩
     ·refine Or.inl ?_
      refine And.intro (rfl) ?_
      refine Exists.intro _ (And.intro (fun h => ⟨⟨⟨h, trivial⟩, trivial⟩, at_errno k9⟩) ?_)
      refine aord_lightG 12 rfl rfl rfl (by kernel_rfl) ?_
      refine And.intro (fun h => ⟨⟨h, trivial⟩, ⟨h, trivial⟩, trivial⟩) ?_
      refine aord_light 13 rfl rfl rfl (by kernel_rfl) ?_
      refine And.intro (by exact fun h => h) ?_
      refine aord_light 14 rfl rfl rfl (by kernel_rfl) ?_
      refine aord_lightG 15 rfl rfl rfl (by kernel_rfl) ?_
      refine And.intro (fun h => trivial) ?_
      refine aord_lightG 16 rfl rfl rfl (by kernel_rfl) ?_
      refine And.intro (fun h => trivial) ?_
      refine aord_lightG 17 rfl rfl rfl (by kernel_rfl) ?_
      refine And.intro (fun h => ⟨⟨h, trivial⟩, ⟨h, trivial⟩, trivial⟩) ?_
      refine aord_light 18 rfl rfl rfl (by kernel_rfl) ?_
      refine And.intro (by exact fun h => h) ?_
      refine aord_all [0] (by kernel_rfl) rfl ?_
      refine aord_all [19] (by kernel_rfl) rfl ?_
      refine aord_light 20 rfl rfl rfl (by kernel_rfl) ?_
      refine aord_done (by kernel_rfl) ?_
      refine acode_ret ?_
      exact ⟨rfl, ⟨rfl, rfl⟩, rfl⟩
theorem doIns_chk_f (es : List Ent) (n m id : Int) (f : List Fld) (ms : List Ent) (mn : Int) (hf : FldsOk f) (hml : ms.length ≤ 1000000) (k : Int) (hk1 : k ≠ 1) (hk2 : k ≠ 2) (hmn : 0 ≤ mn ∧ mn ≤ 1000000000) (h : ¬ (atE es id < 0 ∧ id ≠ 0)) (hc : (chkR f).2 ≠ 0) (a9 k9 : Int) (hck : chkA f = errF a9 k9) (h9 : k9 ≠ 0) : ACallO Tryz.prog 36 [.one (.own 0 0), .agg (toL rRL (ms, mn)), .agg (toL rEdt ((k : Int), id, f))] (lsO (es, n, m)) 2 (.tup [(true, toL rRL (refIns (ms, mn) id f).1), (false, [.lit (.bool (doB k9 a9 0 (refIns (ms, mn) id f).2.2.2 (refIns (ms, mn) id f).2.2.1 (refIns (ms, mn) id f).2.1))])]) (lsO (es, n, m)) 2 := by
  have hfl := fieldsk_c (κ := 1) f f
  rw [decide_eq_true rfl] at hfl
  have hcp := copiesF_o f (Nat.le_trans hf.1 (by decide))
  have hsp := spoilF_o f (Nat.le_trans hf.1 (by decide))
  have hin := (lIns_bad (κ := 1) es n m id f h hf hc).x
  rw [hck] at hin
  have hrf := refIns_c ms mn id f hf hml hmn
  refine acallo_ofc (t := 6) (ty := 63) (u := 7) Tryz.func36 rfl rfl rfl teOk rfl rfl ?_
  refine acode_seq ?_
  refine acode_region ?_
  refine acode_seq ?_
  refine acode_region ?_
  refine Or.inr (Or.inl (Exists.intro [] (Exists.intro [] (Exists.intro _ (Exists.intro _ (Exists.intro _ (Exists.intro _ (Exists.intro _ (And.intro (hcp) (And.intro rfl (And.intro True.intro (And.intro rfl ?_))))))))))))
  refine acode_seq ?_
  refine acode_region ?_
  refine acode_seq ?_
  refine acode_region ?_
  refine acode_seq ?_
  refine acode_seq ?_
  refine acode_region ?_
  refine acode_block ?_
  refine acode_seq ?_
  refine acode_region ?_
  refine acode_cond rfl (fun h39 => ?_) (fun h39 => ?_)
  ·try simp only [decide_eq_true_eq] at h39
   try simp only [Int.toNat_natCast, dflt_sl, dflt_st, dflt_str, dflt_int, dflt_bool] at h39
   exact absurd h39 hk1
  ·try simp only [decide_eq_false_iff_not] at h39
   try simp only [Int.toNat_natCast, dflt_sl, dflt_st, dflt_str, dflt_int, dflt_bool] at h39
   refine acode_seq ?_
   refine acode_region ?_
   refine acode_cond rfl (fun h56 => ?_) (fun h56 => ?_)
   ·try simp only [decide_eq_true_eq] at h56
    try simp only [Int.toNat_natCast, dflt_sl, dflt_st, dflt_str, dflt_int, dflt_bool] at h56
    exact absurd h56 hk2
   ·try simp only [decide_eq_false_iff_not] at h56
    try simp only [Int.toNat_natCast, dflt_sl, dflt_st, dflt_str, dflt_int, dflt_bool] at h56
    refine acode_seq ?_
    refine acode_region ?_
    refine Or.inr (Or.inr (Or.inr (Exists.intro [0, 1] (Exists.intro [] (Exists.intro _ (Exists.intro _ (Exists.intro _ (Exists.intro _ (Exists.intro _ (And.intro (hin) (And.intro rfl (And.intro (And.intro (And.intro rfl rfl) (And.intro (And.intro rfl rfl) True.intro)) (And.intro rfl ?_)))))))))))))
    refine acode_region ?_
    refine Or.inl ?_
    refine And.intro (rfl) ?_
    refine Exists.intro _ (And.intro (hrf) ?_)
    refine acode_seq ?_
    refine acode_region ?_
    refine Or.inr (Or.inr (Or.inl ?_))
    refine And.intro rfl ?_
    refine Exists.intro _ (And.intro (hfl) ?_)
    refine acode_seq ?_
    refine acode_region ?_
    refine Or.inr (Or.inl (Exists.intro [] (Exists.intro [5] (Exists.intro _ (Exists.intro _ (Exists.intro _ (Exists.intro _ (Exists.intro _ (And.intro (hsp) (And.intro rfl (And.intro (And.intro (And.intro rfl rfl) True.intro) (And.intro rfl ?_))))))))))))
    refine acode_seq ?_
    refine acode_ord rfl ?_
    refine aord_light 1 rfl rfl rfl (by kernel_rfl) ?_
    refine aord_light 2 rfl rfl rfl (by kernel_rfl) ?_
    refine aord_lightG 3 rfl rfl rfl (by kernel_rfl) ?_
    refine And.intro (fun h => trivial) ?_
    refine aord_lightG 5 rfl rfl rfl (by kernel_rfl) ?_
    refine And.intro (fun h => trivial) ?_
    refine aord_all [0, 4] (by kernel_rfl) rfl ?_
    refine And.intro ?_ ?_
    ·refine aord_all [4] (by kernel_rfl) rfl ?_
     refine Or.inl ?_
     refine And.intro (rfl) ?_
     refine Exists.intro _ (And.intro (fun h => ⟨⟨⟨h, trivial⟩, trivial⟩, num_fault a9 k9 h9⟩) ?_)
     refine aord_lightG 6 rfl rfl rfl (by kernel_rfl) ?_
     refine And.intro (fun h => ⟨⟨h, trivial⟩, ⟨h, trivial⟩, trivial⟩) ?_
     refine aord_light 7 rfl rfl rfl (by kernel_rfl) ?_
     refine And.intro (by exact fun h => h) ?_
     refine aord_light 8 rfl rfl rfl (by kernel_rfl) ?_
     refine aord_lightG 9 rfl rfl rfl (by kernel_rfl) ?_
     refine And.intro (fun h => trivial) ?_
     refine aord_lightG 11 rfl rfl rfl (by kernel_rfl) ?_
     refine And.intro (fun h => trivial) ?_
     refine aord_all [10] (by kernel_rfl) rfl ?_
     refine Or.inl ?_
     refine And.intro (rfl) ?_
     refine Exists.intro _ (And.intro (fun h => ⟨⟨⟨h, trivial⟩, trivial⟩, at_fault a9 k9⟩) ?_)
     refine aord_lightG 12 rfl rfl rfl (by kernel_rfl) ?_
     refine And.intro (fun h => ⟨⟨h, trivial⟩, ⟨h, trivial⟩, trivial⟩) ?_
     refine aord_light 13 rfl rfl rfl (by kernel_rfl) ?_
     refine And.intro (by exact fun h => h) ?_
     refine aord_light 14 rfl rfl rfl (by kernel_rfl) ?_
     refine aord_lightG 15 rfl rfl rfl (by kernel_rfl) ?_
     refine And.intro (fun h => trivial) ?_
     refine aord_lightG 16 rfl rfl rfl (by kernel_rfl) ?_
     refine And.intro (fun h => trivial) ?_
     refine aord_lightG 17 rfl rfl rfl (by kernel_rfl) ?_
     refine And.intro (fun h => ⟨⟨h, trivial⟩, ⟨h, trivial⟩, trivial⟩) ?_
     refine aord_light 18 rfl rfl rfl (by kernel_rfl) ?_
     refine And.intro (by exact fun h => h) ?_
     refine aord_all [19] (by kernel_rfl) rfl ?_
     refine aord_light 20 rfl rfl rfl (by kernel_rfl) ?_
     refine aord_done (by kernel_rfl) ?_
     refine acode_ret ?_
     exact ⟨rfl, ⟨rfl, rfl⟩, rfl⟩
    ·refine Or.inl ?_
     refine And.intro (rfl) ?_
     refine Exists.intro _ (And.intro (fun h => ⟨⟨⟨h, trivial⟩, trivial⟩, num_fault a9 k9 h9⟩) ?_)
     refine aord_lightG 6 rfl rfl rfl (by kernel_rfl) ?_
     refine And.intro (fun h => ⟨⟨h, trivial⟩, ⟨h, trivial⟩, trivial⟩) ?_
     refine aord_light 7 rfl rfl rfl (by kernel_rfl) ?_
     refine And.intro (by exact fun h => h) ?_
     refine aord_light 8 rfl rfl rfl (by kernel_rfl) ?_
     refine aord_lightG 9 rfl rfl rfl (by kernel_rfl) ?_
     refine And.intro (fun h => trivial) ?_
     refine aord_lightG 11 rfl rfl rfl (by kernel_rfl) ?_
     refine And.intro (fun h => trivial) ?_
     refine aord_all [0, 10] (by kernel_rfl) rfl ?_
     refine And.intro ?_ ?_
     ·refine aord_all [10] (by kernel_rfl) rfl ?_
      refine Or.inl ?_
      refine And.intro (rfl) ?_
      refine Exists.intro _ (And.intro (fun h => ⟨⟨⟨h, trivial⟩, trivial⟩, at_fault a9 k9⟩) ?_)
      refine aord_lightG 12 rfl rfl rfl (by kernel_rfl) ?_
      refine And.intro (fun h => ⟨⟨h, trivial⟩, ⟨h, trivial⟩, trivial⟩) ?_
      refine aord_light 13 rfl rfl rfl (by kernel_rfl) ?_
      refine And.intro (by exact fun h => h) ?_
      refine aord_light 14 rfl rfl rfl (by kernel_rfl) ?_
      refine aord_lightG 15 rfl rfl rfl (by kernel_rfl) ?_
      refine And.intro (fun h => trivial) ?_
      refine aord_lightG 16 rfl rfl rfl (by kernel_rfl) ?_
      refine And.intro (fun h => trivial) ?_
      refine aord_lightG 17 rfl rfl rfl (by kernel_rfl) ?_
      refine And.intro (fun h => ⟨⟨h, trivial⟩, ⟨h, trivial⟩, trivial⟩) ?_
      refine aord_light 18 rfl rfl rfl (by kernel_rfl) ?_
      refine And.intro (by exact fun h => h) ?_
      refine aord_all [19] (by kernel_rfl) rfl ?_
      refine aord_light 20 rfl rfl rfl (by kernel_rfl) ?_
      refine aord_done (by kernel_rfl) ?_
      refine acode_ret ?_
      exact ⟨rfl, ⟨rfl, rfl⟩, rfl⟩
     ·refine Or.inl ?_
      refine And.intro (rfl) ?_
      refine Exists.intro _ (And.intro (fun h => ⟨⟨⟨h, trivial⟩, trivial⟩, at_fault a9 k9⟩) ?_)
      refine aord_lightG 12 rfl rfl rfl (by kernel_rfl) ?_
      refine And.intro (fun h => ⟨⟨h, trivial⟩, ⟨h, trivial⟩, trivial⟩) ?_
      refine aord_light 13 rfl rfl rfl (by kernel_rfl) ?_
      refine And.intro (by exact fun h => h) ?_
      refine aord_light 14 rfl rfl rfl (by kernel_rfl) ?_
      refine aord_lightG 15 rfl rfl rfl (by kernel_rfl) ?_
      refine And.intro (fun h => trivial) ?_
      refine aord_lightG 16 rfl rfl rfl (by kernel_rfl) ?_
      refine And.intro (fun h => trivial) ?_
      refine aord_lightG 17 rfl rfl rfl (by kernel_rfl) ?_
      refine And.intro (fun h => ⟨⟨h, trivial⟩, ⟨h, trivial⟩, trivial⟩) ?_
      refine aord_light 18 rfl rfl rfl (by kernel_rfl) ?_
      refine And.intro (by exact fun h => h) ?_
      refine aord_all [0] (by kernel_rfl) rfl ?_
      refine aord_all [19] (by kernel_rfl) rfl ?_
      refine aord_light 20 rfl rfl rfl (by kernel_rfl) ?_
      refine aord_done (by kernel_rfl) ?_
      refine acode_ret ?_
      exact ⟨rfl, ⟨rfl, rfl⟩, rfl⟩
theorem doIns_full (es : List Ent) (n m id : Int) (f : List Fld) (ms : List Ent) (mn : Int) (hf : FldsOk f) (hml : ms.length ≤ 1000000) (k : Int) (hk1 : k ≠ 1) (hk2 : k ≠ 2) (hmn : 0 ≤ mn ∧ mn ≤ 1000000000) (h : ¬ (atE es id < 0 ∧ id ≠ 0)) (hc : (chkR f).2 = 0) (hm : 400 ≤ m) : ACallO Tryz.prog 36 [.one (.own 0 0), .agg (toL rRL (ms, mn)), .agg (toL rEdt ((k : Int), id, f))] (lsO (es, n, m)) 2 (.tup [(true, toL rRL (refIns (ms, mn) id f).1), (false, [.lit (.bool (doB 11 (-9) 0 (refIns (ms, mn) id f).2.2.2 (refIns (ms, mn) id f).2.2.1 (refIns (ms, mn) id f).2.1))])]) (lsO (es, n, m)) 2 := by
  have hfl := fieldsk_c (κ := 1) f f
  rw [decide_eq_true rfl] at hfl
  have hcp := copiesF_o f (Nat.le_trans hf.1 (by decide))
  have hsp := spoilF_o f (Nat.le_trans hf.1 (by decide))
  have hin := (lIns_full (κ := 1) es n m id f h hf hc hm).x
  have hrf := refIns_c ms mn id f hf hml hmn
  refine acallo_ofc (t := 6) (ty := 63) (u := 7) Tryz.func36 rfl rfl rfl teOk rfl rfl ?_
  refine acode_seq ?_
  refine acode_region ?_
  refine acode_seq ?_
  refine acode_region ?_
  refine Or.inr (Or.inl (Exists.intro [] (Exists.intro [] (Exists.intro _ (Exists.intro _ (Exists.intro _ (Exists.intro _ (Exists.intro _ (And.intro (hcp) (And.intro rfl (And.intro True.intro (And.intro rfl ?_))))))))))))
  refine acode_seq ?_
  refine acode_region ?_
  refine acode_seq ?_
  refine acode_region ?_
  refine acode_seq ?_
  refine acode_seq ?_
  refine acode_region ?_
  refine acode_block ?_
  refine acode_seq ?_
  refine acode_region ?_
  refine acode_cond rfl (fun h39 => ?_) (fun h39 => ?_)
  ·try simp only [decide_eq_true_eq] at h39
   try simp only [Int.toNat_natCast, dflt_sl, dflt_st, dflt_str, dflt_int, dflt_bool] at h39
   exact absurd h39 hk1
  ·try simp only [decide_eq_false_iff_not] at h39
   try simp only [Int.toNat_natCast, dflt_sl, dflt_st, dflt_str, dflt_int, dflt_bool] at h39
   refine acode_seq ?_
   refine acode_region ?_
   refine acode_cond rfl (fun h56 => ?_) (fun h56 => ?_)
   ·try simp only [decide_eq_true_eq] at h56
    try simp only [Int.toNat_natCast, dflt_sl, dflt_st, dflt_str, dflt_int, dflt_bool] at h56
    exact absurd h56 hk2
   ·try simp only [decide_eq_false_iff_not] at h56
    try simp only [Int.toNat_natCast, dflt_sl, dflt_st, dflt_str, dflt_int, dflt_bool] at h56
    refine acode_seq ?_
    refine acode_region ?_
    refine Or.inr (Or.inr (Or.inr (Exists.intro [0, 1] (Exists.intro [] (Exists.intro _ (Exists.intro _ (Exists.intro _ (Exists.intro _ (Exists.intro _ (And.intro (hin) (And.intro rfl (And.intro (And.intro (And.intro rfl rfl) (And.intro (And.intro rfl rfl) True.intro)) (And.intro rfl ?_)))))))))))))
    refine acode_region ?_
    refine Or.inl ?_
    refine And.intro (rfl) ?_
    refine Exists.intro _ (And.intro (hrf) ?_)
    refine acode_seq ?_
    refine acode_region ?_
    refine Or.inr (Or.inr (Or.inl ?_))
    refine And.intro rfl ?_
    refine Exists.intro _ (And.intro (hfl) ?_)
    refine acode_seq ?_
    refine acode_region ?_
    refine Or.inr (Or.inl (Exists.intro [] (Exists.intro [5] (Exists.intro _ (Exists.intro _ (Exists.intro _ (Exists.intro _ (Exists.intro _ (And.intro (hsp) (And.intro rfl (And.intro (And.intro (And.intro rfl rfl) True.intro) (And.intro rfl ?_))))))))))))
    refine acode_seq ?_
    refine acode_ord rfl ?_
    refine aord_light 1 rfl rfl rfl (by kernel_rfl) ?_
    refine aord_light 2 rfl rfl rfl (by kernel_rfl) ?_
    refine aord_lightG 3 rfl rfl rfl (by kernel_rfl) ?_
    refine And.intro (fun h => trivial) ?_
    refine aord_lightG 5 rfl rfl rfl (by kernel_rfl) ?_
    refine And.intro (fun h => trivial) ?_
    refine aord_all [0, 4] (by kernel_rfl) rfl ?_
    refine And.intro ?_ ?_
    ·refine aord_all [4] (by kernel_rfl) rfl ?_
     refine Or.inl ?_
     refine And.intro (rfl) ?_
     refine Exists.intro _ (And.intro (fun h => ⟨⟨⟨h, trivial⟩, trivial⟩, num_errno 11 (by decide)⟩) ?_)
     refine aord_lightG 6 rfl rfl rfl (by kernel_rfl) ?_
     refine And.intro (fun h => ⟨⟨h, trivial⟩, ⟨h, trivial⟩, trivial⟩) ?_
     refine aord_light 7 rfl rfl rfl (by kernel_rfl) ?_
     refine And.intro (by exact fun h => h) ?_
     refine aord_light 8 rfl rfl rfl (by kernel_rfl) ?_
     refine aord_lightG 9 rfl rfl rfl (by kernel_rfl) ?_
     refine And.intro (fun h => trivial) ?_
     refine aord_lightG 11 rfl rfl rfl (by kernel_rfl) ?_
     refine And.intro (fun h => trivial) ?_
     refine aord_all [10] (by kernel_rfl) rfl ?_
     refine Or.inl ?_
     refine And.intro (rfl) ?_
     refine Exists.intro _ (And.intro (fun h => ⟨⟨⟨h, trivial⟩, trivial⟩, at_errno 11⟩) ?_)
     refine aord_lightG 12 rfl rfl rfl (by kernel_rfl) ?_
     refine And.intro (fun h => ⟨⟨h, trivial⟩, ⟨h, trivial⟩, trivial⟩) ?_
     refine aord_light 13 rfl rfl rfl (by kernel_rfl) ?_
     refine And.intro (by exact fun h => h) ?_
     refine aord_light 14 rfl rfl rfl (by kernel_rfl) ?_
     refine aord_lightG 15 rfl rfl rfl (by kernel_rfl) ?_
     refine And.intro (fun h => trivial) ?_
     refine aord_lightG 16 rfl rfl rfl (by kernel_rfl) ?_
     refine And.intro (fun h => trivial) ?_
     refine aord_lightG 17 rfl rfl rfl (by kernel_rfl) ?_
     refine And.intro (fun h => ⟨⟨h, trivial⟩, ⟨h, trivial⟩, trivial⟩) ?_
     refine aord_light 18 rfl rfl rfl (by kernel_rfl) ?_
     refine And.intro (by exact fun h => h) ?_
     refine aord_all [19] (by kernel_rfl) rfl ?_
     refine aord_light 20 rfl rfl rfl (by kernel_rfl) ?_
     refine aord_done (by kernel_rfl) ?_
     refine acode_ret ?_
     exact ⟨rfl, ⟨rfl, rfl⟩, rfl⟩
    ·refine Or.inl ?_
     refine And.intro (rfl) ?_
     refine Exists.intro _ (And.intro (fun h => ⟨⟨⟨h, trivial⟩, trivial⟩, num_errno 11 (by decide)⟩) ?_)
     refine aord_lightG 6 rfl rfl rfl (by kernel_rfl) ?_
     refine And.intro (fun h => ⟨⟨h, trivial⟩, ⟨h, trivial⟩, trivial⟩) ?_
     refine aord_light 7 rfl rfl rfl (by kernel_rfl) ?_
     refine And.intro (by exact fun h => h) ?_
     refine aord_light 8 rfl rfl rfl (by kernel_rfl) ?_
     refine aord_lightG 9 rfl rfl rfl (by kernel_rfl) ?_
     refine And.intro (fun h => trivial) ?_
     refine aord_lightG 11 rfl rfl rfl (by kernel_rfl) ?_
     refine And.intro (fun h => trivial) ?_
     refine aord_all [0, 10] (by kernel_rfl) rfl ?_
     refine And.intro ?_ ?_
     ·refine aord_all [10] (by kernel_rfl) rfl ?_
      refine Or.inl ?_
      refine And.intro (rfl) ?_
      refine Exists.intro _ (And.intro (fun h => ⟨⟨⟨h, trivial⟩, trivial⟩, at_errno 11⟩) ?_)
      refine aord_lightG 12 rfl rfl rfl (by kernel_rfl) ?_
      refine And.intro (fun h => ⟨⟨h, trivial⟩, ⟨h, trivial⟩, trivial⟩) ?_
      refine aord_light 13 rfl rfl rfl (by kernel_rfl) ?_
      refine And.intro (by exact fun h => h) ?_
      refine aord_light 14 rfl rfl rfl (by kernel_rfl) ?_
      refine aord_lightG 15 rfl rfl rfl (by kernel_rfl) ?_
      refine And.intro (fun h => trivial) ?_
      refine aord_lightG 16 rfl rfl rfl (by kernel_rfl) ?_
      refine And.intro (fun h => trivial) ?_
      refine aord_lightG 17 rfl rfl rfl (by kernel_rfl) ?_
      refine And.intro (fun h => ⟨⟨h, trivial⟩, ⟨h, trivial⟩, trivial⟩) ?_
      refine aord_light 18 rfl rfl rfl (by kernel_rfl) ?_
      refine And.intro (by exact fun h => h) ?_
      refine aord_all [19] (by kernel_rfl) rfl ?_
      refine aord_light 20 rfl rfl rfl (by kernel_rfl) ?_
      refine aord_done (by kernel_rfl) ?_
      refine acode_ret ?_
      exact ⟨rfl, ⟨rfl, rfl⟩, rfl⟩
     ·refine Or.inl ?_
      refine And.intro (rfl) ?_
      refine Exists.intro _ (And.intro (fun h => ⟨⟨⟨h, trivial⟩, trivial⟩, at_errno 11⟩) ?_)
      refine aord_lightG 12 rfl rfl rfl (by kernel_rfl) ?_
      refine And.intro (fun h => ⟨⟨h, trivial⟩, ⟨h, trivial⟩, trivial⟩) ?_
      refine aord_light 13 rfl rfl rfl (by kernel_rfl) ?_
      refine And.intro (by exact fun h => h) ?_
      refine aord_light 14 rfl rfl rfl (by kernel_rfl) ?_
      refine aord_lightG 15 rfl rfl rfl (by kernel_rfl) ?_
      refine And.intro (fun h => trivial) ?_
      refine aord_lightG 16 rfl rfl rfl (by kernel_rfl) ?_
      refine And.intro (fun h => trivial) ?_
      refine aord_lightG 17 rfl rfl rfl (by kernel_rfl) ?_
      refine And.intro (fun h => ⟨⟨h, trivial⟩, ⟨h, trivial⟩, trivial⟩) ?_
      refine aord_light 18 rfl rfl rfl (by kernel_rfl) ?_
      refine And.intro (by exact fun h => h) ?_
      refine aord_all [0] (by kernel_rfl) rfl ?_
      refine aord_all [19] (by kernel_rfl) rfl ?_
      refine aord_light 20 rfl rfl rfl (by kernel_rfl) ?_
      refine aord_done (by kernel_rfl) ?_
      refine acode_ret ?_
      exact ⟨rfl, ⟨rfl, rfl⟩, rfl⟩
theorem doIns_ok (es : List Ent) (n m id : Int) (f : List Fld) (ms : List Ent) (mn : Int) (hf : FldsOk f) (hml : ms.length ≤ 1000000) (k : Int) (hk1 : k ≠ 1) (hk2 : k ≠ 2) (hmn : 0 ≤ mn ∧ mn ≤ 1000000000) (j : Nat) (hj : j ≤ es.length) (h : ¬ (atE es id < 0 ∧ id ≠ 0)) (ha : atE es id + 1 = (j : Int)) (hc : (chkR f).2 = 0) (hm : 0 ≤ m ∧ m < 400) (hn : 0 ≤ n ∧ n ≤ 1000000000) (hl : es.length ≤ 1000000) : ACallO Tryz.prog 36 [.one (.own 0 0), .agg (toL rRL (ms, mn)), .agg (toL rEdt ((k : Int), id, f))] (lsO (es, n, m)) 2 (.tup [(true, toL rRL (refIns (ms, mn) id f).1), (false, [.lit (.bool (doB 0 (-9) n (refIns (ms, mn) id f).2.2.2 (refIns (ms, mn) id f).2.2.1 (refIns (ms, mn) id f).2.1))])]) (lsO (insE es j (itmOf f, n), n + 1, m + 1)) 2 := by
  have hfl := fieldsk_c (κ := 1) f f
  rw [decide_eq_true rfl] at hfl
  have hcp := copiesF_o f (Nat.le_trans hf.1 (by decide))
  have hsp := spoilF_o f (Nat.le_trans hf.1 (by decide))
  have hin := (lIns_ok (κ := 1) es n m id f j hj h ha hf hc hm hn hl).x
  have hrf := refIns_c ms mn id f hf hml hmn
  refine acallo_ofc (t := 6) (ty := 63) (u := 7) Tryz.func36 rfl rfl rfl teOk rfl rfl ?_
  refine acode_seq ?_
  refine acode_region ?_
  refine acode_seq ?_
  refine acode_region ?_
  refine Or.inr (Or.inl (Exists.intro [] (Exists.intro [] (Exists.intro _ (Exists.intro _ (Exists.intro _ (Exists.intro _ (Exists.intro _ (And.intro (hcp) (And.intro rfl (And.intro True.intro (And.intro rfl ?_))))))))))))
  refine acode_seq ?_
  refine acode_region ?_
  refine acode_seq ?_
  refine acode_region ?_
  refine acode_seq ?_
  refine acode_seq ?_
  refine acode_region ?_
  refine acode_block ?_
  refine acode_seq ?_
  refine acode_region ?_
  refine acode_cond rfl (fun h39 => ?_) (fun h39 => ?_)
  ·try simp only [decide_eq_true_eq] at h39
   try simp only [Int.toNat_natCast, dflt_sl, dflt_st, dflt_str, dflt_int, dflt_bool] at h39
   exact absurd h39 hk1
  ·try simp only [decide_eq_false_iff_not] at h39
   try simp only [Int.toNat_natCast, dflt_sl, dflt_st, dflt_str, dflt_int, dflt_bool] at h39
   refine acode_seq ?_
   refine acode_region ?_
   refine acode_cond rfl (fun h56 => ?_) (fun h56 => ?_)
   ·try simp only [decide_eq_true_eq] at h56
    try simp only [Int.toNat_natCast, dflt_sl, dflt_st, dflt_str, dflt_int, dflt_bool] at h56
    exact absurd h56 hk2
   ·try simp only [decide_eq_false_iff_not] at h56
    try simp only [Int.toNat_natCast, dflt_sl, dflt_st, dflt_str, dflt_int, dflt_bool] at h56
    refine acode_seq ?_
    refine acode_region ?_
    refine Or.inr (Or.inr (Or.inr (Exists.intro [0, 1] (Exists.intro [] (Exists.intro _ (Exists.intro _ (Exists.intro _ (Exists.intro _ (Exists.intro _ (And.intro (hin) (And.intro rfl (And.intro (And.intro (And.intro rfl rfl) (And.intro (And.intro rfl rfl) True.intro)) (And.intro rfl ?_)))))))))))))
    refine acode_region ?_
    refine Or.inl ?_
    refine And.intro (rfl) ?_
    refine Exists.intro _ (And.intro (hrf) ?_)
    refine acode_seq ?_
    refine acode_region ?_
    refine Or.inr (Or.inr (Or.inl ?_))
    refine And.intro rfl ?_
    refine Exists.intro _ (And.intro (hfl) ?_)
    refine acode_seq ?_
    refine acode_region ?_
    refine Or.inr (Or.inl (Exists.intro [] (Exists.intro [5] (Exists.intro _ (Exists.intro _ (Exists.intro _ (Exists.intro _ (Exists.intro _ (And.intro (hsp) (And.intro rfl (And.intro (And.intro (And.intro rfl rfl) True.intro) (And.intro rfl ?_))))))))))))
    refine acode_seq ?_
    refine acode_ord rfl ?_
    refine aord_light 1 rfl rfl rfl (by kernel_rfl) ?_
    refine aord_light 2 rfl rfl rfl (by kernel_rfl) ?_
    refine aord_lightG 3 rfl rfl rfl (by kernel_rfl) ?_
    refine And.intro (fun h => trivial) ?_
    refine aord_lightG 5 rfl rfl rfl (by kernel_rfl) ?_
    refine And.intro (fun h => trivial) ?_
    refine aord_all [0, 4] (by kernel_rfl) rfl ?_
    refine And.intro ?_ ?_
    ·refine aord_all [4] (by kernel_rfl) rfl ?_
     refine Or.inl ?_
     refine And.intro (rfl) ?_
     refine Exists.intro _ (And.intro (fun h => ⟨⟨⟨h, trivial⟩, trivial⟩, num_nil⟩) ?_)
     refine aord_lightG 6 rfl rfl rfl (by kernel_rfl) ?_
     refine And.intro (fun h => ⟨⟨h, trivial⟩, ⟨h, trivial⟩, trivial⟩) ?_
     refine aord_light 7 rfl rfl rfl (by kernel_rfl) ?_
     refine And.intro (by exact fun h => h) ?_
     refine aord_light 8 rfl rfl rfl (by kernel_rfl) ?_
     refine aord_lightG 9 rfl rfl rfl (by kernel_rfl) ?_
     refine And.intro (fun h => trivial) ?_
     refine aord_lightG 11 rfl rfl rfl (by kernel_rfl) ?_
     refine And.intro (fun h => trivial) ?_
     refine aord_all [10] (by kernel_rfl) rfl ?_
     refine Or.inl ?_
     refine And.intro (rfl) ?_
     refine Exists.intro _ (And.intro (fun h => ⟨⟨⟨h, trivial⟩, trivial⟩, at_nil⟩) ?_)
     refine aord_lightG 12 rfl rfl rfl (by kernel_rfl) ?_
     refine And.intro (fun h => ⟨⟨h, trivial⟩, ⟨h, trivial⟩, trivial⟩) ?_
     refine aord_light 13 rfl rfl rfl (by kernel_rfl) ?_
     refine And.intro (by exact fun h => h) ?_
     refine aord_light 14 rfl rfl rfl (by kernel_rfl) ?_
     refine aord_lightG 15 rfl rfl rfl (by kernel_rfl) ?_
     refine And.intro (fun h => trivial) ?_
     refine aord_lightG 16 rfl rfl rfl (by kernel_rfl) ?_
     refine And.intro (fun h => trivial) ?_
     refine aord_lightG 17 rfl rfl rfl (by kernel_rfl) ?_
     refine And.intro (fun h => ⟨⟨h, trivial⟩, ⟨h, trivial⟩, trivial⟩) ?_
     refine aord_light 18 rfl rfl rfl (by kernel_rfl) ?_
     refine And.intro (by exact fun h => h) ?_
     refine aord_all [19] (by kernel_rfl) rfl ?_
     refine aord_light 20 rfl rfl rfl (by kernel_rfl) ?_
     refine aord_done (by kernel_rfl) ?_
     refine acode_ret ?_
     exact ⟨rfl, ⟨rfl, rfl⟩, rfl⟩
    ·refine Or.inl ?_
     refine And.intro (rfl) ?_
     refine Exists.intro _ (And.intro (fun h => ⟨⟨⟨h, trivial⟩, trivial⟩, num_nil⟩) ?_)
     refine aord_lightG 6 rfl rfl rfl (by kernel_rfl) ?_
     refine And.intro (fun h => ⟨⟨h, trivial⟩, ⟨h, trivial⟩, trivial⟩) ?_
     refine aord_light 7 rfl rfl rfl (by kernel_rfl) ?_
     refine And.intro (by exact fun h => h) ?_
     refine aord_light 8 rfl rfl rfl (by kernel_rfl) ?_
     refine aord_lightG 9 rfl rfl rfl (by kernel_rfl) ?_
     refine And.intro (fun h => trivial) ?_
     refine aord_lightG 11 rfl rfl rfl (by kernel_rfl) ?_
     refine And.intro (fun h => trivial) ?_
     refine aord_all [0, 10] (by kernel_rfl) rfl ?_
     refine And.intro ?_ ?_
     ·refine aord_all [10] (by kernel_rfl) rfl ?_
      refine Or.inl ?_
      refine And.intro (rfl) ?_
      refine Exists.intro _ (And.intro (fun h => ⟨⟨⟨h, trivial⟩, trivial⟩, at_nil⟩) ?_)
      refine aord_lightG 12 rfl rfl rfl (by kernel_rfl) ?_
      refine And.intro (fun h => ⟨⟨h, trivial⟩, ⟨h, trivial⟩, trivial⟩) ?_
      refine aord_light 13 rfl rfl rfl (by kernel_rfl) ?_
      refine And.intro (by exact fun h => h) ?_
      refine aord_light 14 rfl rfl rfl (by kernel_rfl) ?_
      refine aord_lightG 15 rfl rfl rfl (by kernel_rfl) ?_
      refine And.intro (fun h => trivial) ?_
      refine aord_lightG 16 rfl rfl rfl (by kernel_rfl) ?_
      refine And.intro (fun h => trivial) ?_
      refine aord_lightG 17 rfl rfl rfl (by kernel_rfl) ?_
      refine And.intro (fun h => ⟨⟨h, trivial⟩, ⟨h, trivial⟩, trivial⟩) ?_
      refine aord_light 18 rfl rfl rfl (by kernel_rfl) ?_
      refine And.intro (by exact fun h => h) ?_
      refine aord_all [19] (by kernel_rfl) rfl ?_
      refine aord_light 20 rfl rfl rfl (by kernel_rfl) ?_
      refine aord_done (by kernel_rfl) ?_
      refine acode_ret ?_
      exact ⟨rfl, ⟨rfl, rfl⟩, rfl⟩
     ·refine Or.inl ?_
      refine And.intro (rfl) ?_
      refine Exists.intro _ (And.intro (fun h => ⟨⟨⟨h, trivial⟩, trivial⟩, at_nil⟩) ?_)
      refine aord_lightG 12 rfl rfl rfl (by kernel_rfl) ?_
      refine And.intro (fun h => ⟨⟨h, trivial⟩, ⟨h, trivial⟩, trivial⟩) ?_
      refine aord_light 13 rfl rfl rfl (by kernel_rfl) ?_
      refine And.intro (by exact fun h => h) ?_
      refine aord_light 14 rfl rfl rfl (by kernel_rfl) ?_
      refine aord_lightG 15 rfl rfl rfl (by kernel_rfl) ?_
      refine And.intro (fun h => trivial) ?_
      refine aord_lightG 16 rfl rfl rfl (by kernel_rfl) ?_
      refine And.intro (fun h => trivial) ?_
      refine aord_lightG 17 rfl rfl rfl (by kernel_rfl) ?_
      refine And.intro (fun h => ⟨⟨h, trivial⟩, ⟨h, trivial⟩, trivial⟩) ?_
      refine aord_light 18 rfl rfl rfl (by kernel_rfl) ?_
      refine And.intro (by exact fun h => h) ?_
      refine aord_all [0] (by kernel_rfl) rfl ?_
      refine aord_all [19] (by kernel_rfl) rfl ?_
      refine aord_light 20 rfl rfl rfl (by kernel_rfl) ?_
      refine aord_done (by kernel_rfl) ?_
      refine acode_ret ?_
      exact ⟨rfl, ⟨rfl, rfl⟩, rfl⟩
end Q
end Ab
end Go.Proofs.YtnimhpgacmojiaaGreatDoor
namespace Go.Proofs.YtnimhpgacmojiaaGreatDoor
open Go.RowKit
namespace Ab
set_option maxRecDepth 100000
namespace Q
theorem acallo_arg {P : Program} {f : FuncId} {xs ys : List A} {ob ob' : Obs} {m m' : Nat} {r : A} (h : ∀ ok ρ w vs, RepAs ok ρ w xs vs → RepAs ok ρ w ys vs) (hc : ACallO P f ys ob m r ob' m') : ACallO P f xs ob m r ob' m' :=
  ⟨hc.1, fun cx ρ w vs h1 h2 h3 h4 h5 => hc.2 cx ρ w vs h1 h2 h3 h4 (h _ _ _ _ h5)⟩
theorem chk_shape {f : List Fld} (h : (chkR f).2 ≠ 0) : (∃ k9, chkA f = errN k9 ∧ k9 ≠ 0 ∧ (-9 : Int) = (chkR f).1 ∧ k9 = (chkR f).2) ∨ ∃ a9 k9, chkA f = errF a9 k9 ∧ k9 ≠ 0 ∧ a9 = (chkR f).1 ∧ k9 = (chkR f).2 := by
  obtain ⟨e, he, hs⟩ := chk_bad h
  rcases hs with ⟨n, hn, rfl, hr⟩ | ⟨i, n, hn, rfl, hr⟩
  · exact .inl ⟨n, he, hn, by rw [hr], by rw [hr]⟩
  · exact .inr ⟨i, n, he, hn, by rw [hr], by rw [hr]⟩
theorem doB_true {a b c d e f : Int} (h1 : a = d) (h2 : b = e) (h3 : c = f) : doB a b c d e f = true := by
  subst h1 h2 h3
  simp [doB]
theorem do_ref {c : Nat} (L : Lst) (M : RLs) (e : Edt) (h : LOk c L) (hc : c ≤ 200000) (hf : FldsOk e.2.2) (hml : M.1.length ≤ 1000000) (hmn : 0 ≤ M.2 ∧ M.2 ≤ 1000000000) :
    ∃ b, ACallO Tryz.prog 36 [.one (.own 0 0), .agg (toL rRL M), .agg (toL rEdt e)] (lsO L) 2 (.tup [(true, toL rRL (refDo M e)), (false, [.lit (.bool b)])]) (lsO (doL L e)) 2 ∧ (M = (L.1, L.2.1) → b = true) := by
  obtain ⟨es, n, m⟩ := L
  obtain ⟨ms, mn⟩ := M
  obtain ⟨k, id, f⟩ := e
  have hmany := h.many
  have hnx := h.next
  have hln := h.len
  have hids := ids_len es
  have hil := List.length_filter_le live es
  simp only at hmany hnx hln hf hml hmn
  unfold doL refDo
  simp only
  by_cases h1 : k = 1
  · subst h1
    simp only [if_pos]
    by_cases h0 : atE es id < 0
    · simp only [if_pos h0]
      exact ⟨_, doRep_no es n m id f ms mn hf hml h0, fun e => by cases e; exact doB_true (by simp [refRep, h0]) (by simp [refRep, h0]) rfl⟩
    · simp only [if_neg h0]
      by_cases hck : (chkR f).2 ≠ 0
      · simp only [if_pos hck]
        rcases chk_shape hck with ⟨k9, g1, g2, g3, g4⟩ | ⟨a9, k9, g1, g2, g3, g4⟩
        · exact ⟨_, doRep_chk_n es n m id f ms mn hf hml (by omega) hck k9 g1 g2, fun e => by cases e; exact doB_true (by simp [refRep, h0, hck, g4]) (by simp [refRep, h0, hck, g3]) rfl⟩
        · exact ⟨_, doRep_chk_f es n m id f ms mn hf hml (by omega) hck a9 k9 g1 g2, fun e => by cases e; exact doB_true (by simp [refRep, h0, hck, g4]) (by simp [refRep, h0, hck, g3]) rfl⟩
      · simp only [if_neg hck]
        have hck : (chkR f).2 = 0 := Classical.not_not.1 hck
        obtain ⟨i, hi, he, _, _⟩ := at_lt h0
        rw [he, Int.toNat_natCast]
        exact ⟨_, doRep_ok es n m id f ms mn hf hml i hi he hck, fun e => by cases e; exact doB_true (by simp [refRep, h0, hck]) (by simp [refRep, h0, hck]) rfl⟩
  · by_cases h2 : k = 2
    · subst h2
      simp only [if_neg h1, if_pos]
      by_cases h0 : atE es id < 0
      · simp only [if_pos h0]
        exact ⟨_, doDel_no es n m id f ms mn hf hml h0, fun e => by cases e; exact doB_true (by simp [refDel, h0]) rfl rfl⟩
      · simp only [if_neg h0]
        obtain ⟨i, hi, he, _, _⟩ := at_lt h0
        rw [he, Int.toNat_natCast]
        exact ⟨_, doDel_ok es n m id f ms mn hf hml i hi he (by omega) (by omega), fun e => by cases e; exact doB_true (by simp [refDel, h0]) rfl rfl⟩
    · simp only [if_neg h1, if_neg h2]
      by_cases h0 : atE es id < 0 ∧ id ≠ 0
      · simp only [if_pos h0]
        exact ⟨_, doIns_no es n m id f ms mn hf hml k h1 h2 hmn h0.1 h0.2, fun e => by cases e; exact doB_true (by simp only [refIns, if_pos h0]) (by simp only [refIns, if_pos h0]) (by simp only [refIns, if_pos h0])⟩
      · simp only [if_neg h0]
        by_cases hck : (chkR f).2 ≠ 0
        · simp only [if_pos hck]
          rcases chk_shape hck with ⟨k9, g1, g2, g3, g4⟩ | ⟨a9, k9, g1, g2, g3, g4⟩
          · exact ⟨_, doIns_chk_n es n m id f ms mn hf hml k h1 h2 hmn h0 hck k9 g1 g2, fun e => by cases e; exact doB_true (by simp only [refIns, if_neg h0, if_pos hck, g4]) (by simp only [refIns, if_neg h0, if_pos hck, g3]) (by simp only [refIns, if_neg h0, if_pos hck])⟩
          · exact ⟨_, doIns_chk_f es n m id f ms mn hf hml k h1 h2 hmn h0 hck a9 k9 g1 g2, fun e => by cases e; exact doB_true (by simp only [refIns, if_neg h0, if_pos hck, g4]) (by simp only [refIns, if_neg h0, if_pos hck, g3]) (by simp only [refIns, if_neg h0, if_pos hck])⟩
        · simp only [if_neg hck]
          have hck' : (chkR f).2 = 0 := Classical.not_not.1 hck
          by_cases h4 : 400 ≤ m
          · simp only [if_pos h4]
            have h5 : 400 ≤ ((es.filter live).length : Int) := by omega
            exact ⟨_, doIns_full es n m id f ms mn hf hml k h1 h2 hmn h0 hck' h4, fun e => by cases e; exact doB_true (by simp only [refIns, if_neg h0, if_neg hck, if_pos h5]) (by simp only [refIns, if_neg h0, if_neg hck, if_pos h5]) (by simp only [refIns, if_neg h0, if_neg hck, if_pos h5])⟩
          · simp only [if_neg h4]
            have h5 : ¬ 400 ≤ ((es.filter live).length : Int) := by omega
            obtain ⟨j, hj, hje⟩ : ∃ j : Nat, j ≤ es.length ∧ atE es id + 1 = (j : Int) := by
              rcases at_cases es id with ⟨h1, _⟩ | ⟨i, h1, h2, _⟩
              · exact ⟨0, Nat.zero_le _, by omega⟩
              · exact ⟨i + 1, by omega, by omega⟩
            rw [hje, Int.toNat_natCast]
            exact ⟨_, doIns_ok es n m id f ms mn hf hml k h1 h2 hmn j hj h0 hje hck' (by omega) (by omega) (by omega), fun e => by cases e; exact doB_true (by simp only [refIns, if_neg h0, if_neg hck, if_neg h5]) (by simp only [refIns, if_neg h0, if_neg hck, if_neg h5]) (by simp only [refIns, if_neg h0, if_neg hck, if_neg h5])⟩
theorem do_any {c : Nat} (L : Lst) (e : Edt) (h : LOk c L) (hc : c ≤ 200000) (hf : FldsOk e.2.2) :
    ∃ b, ACallO Tryz.prog 36 [.one (.own 0 0), .agg zRL, .agg (toL rEdt e)] (lsO L) 2 (.tup [(true, toL rRL (refDo (([] : List Ent), (0 : Int)) e)), (false, [.lit (.bool b)])]) (lsO (doL L e)) 2 := by
  obtain ⟨b, hb, _⟩ := do_ref L (([] : List Ent), (0 : Int)) e h hc hf (by decide) (by decide)
  refine ⟨b, acallo_arg (fun ok ρ w vs hv => ?_) hb⟩
  obtain ⟨v, t, rfl, h0, v1, t1, rfl, h1, h3⟩ := hv
  obtain ⟨us, he, x, r2, rfl, hx, hr2⟩ := h1
  exact ⟨v, _, rfl, h0, v1, t1, rfl, ⟨_, he, x, r2, rfl, by rw [show x = _ from hx]; exact slOk_nil, hr2⟩, h3⟩
def plays (L : Lst) (s : List Edt) (i : Nat) : Lst := (s.take i).foldl doL L
theorem plays_snoc (L : Lst) {s : List Edt} {i : Nat} (h : i < s.length) : plays L s (i + 1) = doL (plays L s i) (s.getD i ((0 : Int), (0 : Int), ([] : List Fld))) := by
  unfold plays
  rw [← take_snoc ((0 : Int), (0 : Int), ([] : List Fld)) h, List.foldl_append]
  rfl
theorem plays_ok {c : Nat} {L : Lst} {s : List Edt} (h : LOk c L) (hf : ∀ e ∈ s, FldsOk e.2.2) : ∀ i, i ≤ s.length → LOk (c + i) (plays L s i)
  | 0, _ => by simpa [plays] using h
  | i + 1, hi => by
    rw [plays_snoc L (by omega)]
    exact doL_ok (plays_ok h hf i (by omega)) (hf _ (getD_mem (by omega) ((0 : Int), (0 : Int), ([] : List Fld))))
theorem heavy_ok {s : List Edt} (h : heavyB s = false) : s.length ≤ 51 ∧ ∀ e ∈ s, muchB e.2.2 = false := by
  unfold heavyB at h
  simp only [Bool.or_eq_false_iff, decide_eq_false_iff_not] at h
  exact ⟨by omega, fun e he => by simpa using List.any_eq_false.1 h.2 e he⟩
theorem items_len {s : ByteArray} {l : List Itm} (hp : parseS s = .inr l) : l.length ≤ 2 * s.size + 1 := by
  have h0 := parse_ref s
  rw [hp] at h0
  obtain ⟨h1, _⟩ := linesT_len s
  have key : ∀ (L : List Lne) (t : RSt) (bh : Bool) (l : List Itm), runR bh t L = .inr l → l.length ≤ t.out.length + 1 + 2 * L.length := by
    intro L
    induction L with
    | nil =>
      intro t bh l h
      unfold runR at h
      cases h
      split <;> simp
    | cons a r ih =>
      intro t bh l h
      unfold runR at h
      split at h
      · cases h
      · have i1 := ih _ _ _ h
        have so : (stepR t a r).out.length ≤ t.out.length + 2 := by
          unfold stepR
          split
          · simp only; split <;> simp
          · split <;> simp
        rw [List.length_cons]; omega
  have k1 := key _ _ _ _ h0.symm
  simp only [rst0, List.length_nil] at k1
  omega
theorem of_lok {s : ByteArray} {l : List Itm} (hs : s.size ≤ 4000) (hp : parseS s = .inr l) : LOk 9000 (ofT l) := by
  have h1 := items_len hp
  exact ofT_ok (by omega) fun x hx => fldsOk_of (items_small hp x hx).1 (items_small hp x hx).2
theorem LOk.f1 {c : Nat} {L : Lst} (h : LOk c L) : ∀ e ∈ L.1, e.1.2.2.length ≤ 1000000 := fun e he => Nat.le_trans (h.flds e he).1 (by decide)
end Q
end Ab
end Go.Proofs.YtnimhpgacmojiaaGreatDoor
namespace Go.Proofs.YtnimhpgacmojiaaGreatDoor
open Go.RowKit
namespace Ab
set_option maxRecDepth 100000
namespace Q
theorem a1_parse7 : parseS ⟨#[65, 58, 32, 49, 10]⟩ = .inr [(3, ⟨#[65, 58, 32, 49, 10]⟩, [(⟨#[65]⟩, ⟨#[49]⟩)])] := by decide +kernel
def al0 : List Ent := [((3, ⟨#[65, 58, 32, 49, 10]⟩, [(⟨#[65]⟩, ⟨#[49]⟩)]), 1)]
def alF : List Fld := [(⟨#[66]⟩, ⟨#[50]⟩)]
def al1 : List Ent := insE al0 0 (itmOf alF, 2)
theorem alive7_c : ACall Tryz.prog 32 [] (ib true) := by
  have hof := of_ok ⟨#[65, 58, 32, 49, 10]⟩ (by decide) a1_parse7
  rw [show ofT [(3, ⟨#[65, 58, 32, 49, 10]⟩, [(⟨#[65]⟩, ⟨#[49]⟩)])] = (al0, 2, 1) from rfl] at hof
  have hins := (lIns_ok (κ := 1) al0 2 1 0 alF 0 (by decide) (by decide) (by decide) ⟨by decide, by decide⟩ (by decide +kernel) ⟨by decide, by decide⟩ ⟨by decide, by decide⟩ (by decide)).x
  have htx := textL_c (k := 1) al1 3 2 (by decide) (by decide) (by decide +kernel)
  rw [show bytes (txtL al1) = ⟨#[66, 58, 32, 50, 10, 10, 65, 58, 32, 49, 10]⟩ from by decide +kernel] at htx
  refine acall_of (rs := [0]) Tryz.func32 rfl rfl rfl teOk rfl ?_
  refine acode_seq ?_
  refine acode_region ?_
  refine acode_seq ?_
  refine acode_region ?_
  refine Or.inr (Or.inl (Exists.intro [] (Exists.intro [] (Exists.intro _ (Exists.intro _ (Exists.intro _ (Exists.intro _ (Exists.intro _ (And.intro (hof) (And.intro rfl (And.intro True.intro (And.intro rfl ?_))))))))))))
  refine acode_seq ?_
  refine acode_seq ?_
  refine acode_region ?_
  refine And.intro (fun h => trivial) ?_
  refine And.intro (fun h => ⟨⟨h, trivial⟩, trivial⟩) ?_
  refine And.intro (by first | (intro h; rw [h]; rfl) | (intro h; cases h)) ?_
  refine acode_cond rfl (fun h13 => ?_) (fun h13 => ?_)
  ·try simp only [Bool.not_eq_true', Bool.or_eq_true] at h13
   try simp only [Int.toNat_natCast, dflt_sl, dflt_st, dflt_str, dflt_int, dflt_bool] at h13
   simp at h13
  ·try simp only [Bool.not_eq_false', Bool.or_eq_false_iff] at h13
   try simp only [Int.toNat_natCast, dflt_sl, dflt_st, dflt_str, dflt_int, dflt_bool] at h13
   refine acode_skip ?_
   refine acode_seq ?_
   refine acode_region ?_
   refine Or.inr (Or.inr (Or.inr (Exists.intro [0, 1] (Exists.intro [] (Exists.intro _ (Exists.intro _ (Exists.intro _ (Exists.intro _ (Exists.intro _ (And.intro (hins) (And.intro rfl (And.intro (And.intro (And.intro rfl rfl) (And.intro (And.intro rfl rfl) True.intro)) (And.intro rfl ?_)))))))))))))
   refine acode_seq ?_
   refine acode_region ?_
   refine And.intro (fun h => trivial) ?_
   refine And.intro (fun h => ⟨⟨h, trivial⟩, trivial⟩) ?_
   refine And.intro (by exact fun h => h) ?_
   refine And.intro (fun h => trivial) ?_
   refine Or.inl ?_
   refine And.intro (rfl) ?_
   refine Exists.intro _ (And.intro (fun h => ⟨⟨⟨h, trivial⟩, trivial⟩, htx⟩) ?_)
   refine And.intro (fun h => ⟨⟨h, trivial⟩, trivial⟩) ?_
   refine And.intro (by exact fun h => h) ?_
   refine And.intro (fun h => trivial) ?_
   refine Or.inl ?_
   refine And.intro (rfl) ?_
   refine Exists.intro _ (And.intro (fun h => ⟨⟨⟨h, trivial⟩, trivial⟩, len_c al1 3 2⟩) ?_)
   refine And.intro (fun h => ⟨⟨h, trivial⟩, trivial⟩) ?_
   refine And.intro (by exact fun h => h) ?_
   refine acode_ret ?_
   rfl
end Q
end Ab
end Go.Proofs.YtnimhpgacmojiaaGreatDoor
namespace Go.Proofs.YtnimhpgacmojiaaGreatDoor
open Go.RowKit
namespace Ab
set_option maxRecDepth 100000
namespace Q
structure SeenI (es : List Ent) (n : Int) (i : Nat) (sn : List Bool) : Prop where
  le : i ≤ (stzL es).length
  len : sn.length = n.toNat
  seen : ∀ k : Nat, sn.getD k false = true → ∃ j, j < i ∧ ((stzL es).getD j ((0 : Int), ([] : List Fld))).1 = k
theorem SeenI.next {es : List Ent} {n : Int} {i : Nat} {sn : List Bool} (h : SeenI es n i sn) (hi : i < (stzL es).length) (hp : 0 < ((stzL es).getD i ((0 : Int), ([] : List Fld))).1) : SeenI es n (i + 1) (sn.set (((stzL es).getD i ((0 : Int), ([] : List Fld))).1).toNat true) := by
  refine ⟨hi, by rw [List.length_set]; exact h.len, fun k hk => ?_⟩
  by_cases e : (((stzL es).getD i ((0 : Int), ([] : List Fld))).1).toNat = k
  · exact ⟨i, Nat.lt_succ_self _, by omega⟩
  · rw [List.getD_eq_getElem?_getD, List.getElem?_set_ne e, ← List.getD_eq_getElem?_getD] at hk
    obtain ⟨j, hj, h2⟩ := h.seen k hk
    exact ⟨j, by omega, h2⟩
theorem lsbox_eq {L M : Lst} (h : M = L) : some (Ob.box 125 [.vec 1, .lit (.int .i64 L.2.1), .lit (.int .i64 L.2.2)]) = some (Ob.box 125 [.vec 1, .lit (.int .i64 M.2.1), .lit (.int .i64 M.2.2)]) := by rw [h]
theorem lsvec_eq {L M : Lst} (h : M = L) : some (Ob.vec 127 rEnt L.1) = some (Ob.vec 127 rEnt M.1) := by rw [h]
end Q
end Ab
end Go.Proofs.YtnimhpgacmojiaaGreatDoor
namespace Go.Proofs.YtnimhpgacmojiaaGreatDoor
open Go.RowKit
namespace Ab
set_option maxRecDepth 100000
namespace Q
def BlankI (x : Itm) : Prop := ∃ t : ByteArray, x = (1, t ++ ⟨#[10]⟩, []) ∧ kindL (ls t) = 1 ∧ (10 : UInt8) ∉ ls t
def Good1 (x : Itm) : Prop := BlankI x ∨ (x.1 ≠ 1 ∧ Blk x)
def BIP (p : PSt) : Prop := (∀ x ∈ p.its, x.1 = 1 → BlankI x) ∧ p.recs = (cntR p.its : Int)
theorem isRec1 (t : ByteArray) : isRec (1, t, []) = false := by unfold isRec; simp
theorem close_bi {p : PSt} (h : BIP p) : BIP (closeS p) := by
  unfold closeS
  split
  · exact h
  · by_cases hf : p.flds = []
    · simp only [if_pos hf]
      refine ⟨fun x hx hx1 => ?_, ?_⟩
      · rcases List.mem_append.1 hx with hx | hx
        · exact h.1 x hx hx1
        · rw [List.mem_singleton.1 hx] at hx1; cases hx1
      · simp only [cntR_app]
        rw [h.2]
        simp [cntR, isRec]
    · simp only [if_neg hf]
      refine ⟨fun x hx hx1 => ?_, ?_⟩
      · rcases List.mem_append.1 hx with hx | hx
        · exact h.1 x hx hx1
        · rw [List.mem_singleton.1 hx] at hx1; cases hx1
      · simp only [cntR_app]
        rw [h.2]
        simp [cntR, isRec]
theorem flush_bi {p q : PSt} (h : BIP p) (hf : flushS p = .inr q) : BIP q := by
  unfold BIP
  rw [(flush_same hf).1, flush_recs hf]
  exact h
theorem end_bi {p q : PSt} (h : BIP p) (hf : endS p = .inr q) : BIP q := by
  unfold endS at hf
  cases e : flushS p with
  | inl x => rw [e] at hf; cases hf
  | inr r => rw [e] at hf; cases hf; exact close_bi (flush_bi h e)
theorem take_bi {p q : PSt} {l : Lne} (h : BIP p) (hf : takeS p l = .inr q) (hn : (10 : UInt8) ∉ ls l.2.2.1) : BIP q := by
  unfold takeS at hf
  cases e : aheadS p l (kindL (ls l.2.2.1)) with
  | inl x => rw [e] at hf; cases hf
  | inr r =>
    rw [e] at hf
    have hr : BIP r := by
      unfold aheadS at e
      split at e
      · split at e
        · cases e
        · split at e
          · cases e; exact h
          · exact flush_bi (p := { p with lns := p.lns ++ [l.2.2.1] }) h e
      · split at e
        · exact end_bi h e
        · exact flush_bi h e
    simp only at hf
    unfold lineS at hf
    split at hf
    · cases hf
    · split at hf
      · rename_i hk
        cases hf
        refine ⟨fun x hx hx1 => ?_, ?_⟩
        · rcases List.mem_append.1 hx with hx | hx
          · exact hr.1 x hx hx1
          · exact ⟨l.2.2.1, List.mem_singleton.1 hx, hk, hn⟩
        · simp only [cntR_app]
          rw [hr.2]
          simp [cntR, isRec1]
      · split at hf
        · cases hf; exact hr
        · cases hf; exact hr
theorem run_bi : ∀ (L : List Lne) (p q : PSt), BIP p → runS p L = .inr q → (∀ l ∈ L, (10 : UInt8) ∉ ls l.2.2.1) → BIP q
  | [], p, q, hp, h, _ => by cases h; exact hp
  | l :: r, p, q, hp, h, hn => by
    simp only [runS] at h
    cases e : takeS p l with
    | inl x => rw [e] at h; cases h
    | inr p1 =>
      rw [e] at h
      exact run_bi r p1 q (take_bi hp e (hn l List.mem_cons_self)) h (fun x hx => hn x (List.mem_cons_of_mem _ hx))
theorem parse_good {s : ByteArray} {l : List Itm} (hp : parseS s = .inr l) : (∀ x ∈ l, Good1 x) ∧ cntR l ≤ 400 := by
  have hb := parse_blks hp
  unfold parseS at hp
  cases e : runS pst0 (linesT s) with
  | inl x => rw [e] at hp; cases hp
  | inr p =>
    rw [e] at hp
    simp only at hp
    cases e2 : endS p with
    | inl x => rw [e2] at hp; cases hp
    | inr q =>
      rw [e2] at hp
      cases hp
      have hno : ∀ l ∈ linesT s, (10 : UInt8) ∉ ls l.2.2.1 := fun l hl => by
        have h1 : l.2.2 ∈ (linesT s).map (·.2.2) := List.mem_map_of_mem hl
        rw [lines_text] at h1
        exact linesB_no _ _ _ h1
      have h1 : BIP q := end_bi (run_bi _ _ _ ⟨(fun _ h => by cases h), rfl⟩ e hno) e2
      have h2 := (end_par (run_par _ _ _ ⟨[], 0, [], pst0, rel_0, rfl, rfl, rfl, (fun _ h => by cases h), (fun _ h => by cases h)⟩ e hno) e2).2.2.2
      refine ⟨fun x hx => ?_, by have := h1.2; omega⟩
      by_cases hx1 : x.1 = 1
      · exact .inl (h1.1 x hx hx1)
      · exact .inr ⟨hx1, hb x hx hx1⟩
def HF (p : PSt) : Prop := p.lns ≠ [] ∨ p.flds ≠ []
theorem good_itm {f : List Fld} (hc : (chkR f).2 = 0) : Good1 (itmOf f) := by
  obtain ⟨⟨g1, g2, g3⟩, _, _⟩ := chk_good hc
  obtain ⟨q, e1, e2, e3, e4, e5⟩ := fields_run f pst0 [] g3 (ready_idle rfl rfl) (by simpa using g2) (by decide) g1
  obtain ⟨r, q2, f1, f2, f3, f4⟩ := end_run e2 (by simpa using g1) e5
  have hno : ∀ t ∈ (f.flatMap fun f => lineB f.1 f.2), (10 : UInt8) ∉ ls t := fun t ht => by
    obtain ⟨y, hy, ht⟩ := List.mem_flatMap.1 ht
    exact lines_no (v := y.2.data.toList) (check_ok (g3 y hy)).1 (ls t) (by rw [← lineB_map2]; exact List.mem_map_of_mem ht)
  have hL : ∀ l ∈ (f.flatMap fun f => lineB f.1 f.2).map mkL, l.2.2.2 = true ∧ (10 : UInt8) ∉ ls l.2.2.1 := fun l hl => by
    obtain ⟨t, ht, rfl⟩ := List.mem_map.1 hl
    exact ⟨rfl, hno t ht⟩
  have hgl : glue (((f.flatMap fun f => lineB f.1 f.2).map mkL).map (·.2.2)) = foldL f := by rw [glue_mk, endL_flat]
  rw [List.nil_append] at f3
  have e3' : q.its = [] := e3
  rw [e3', List.nil_append] at f3
  have hp := parse_of (lines_of hL) e1 f1
  rw [hgl, f3] at hp
  have hr := raws_text hp
  have hrr : r = bytes (foldL f) := by
    have h1 : rawsL [((3 : Int), r, f)] = foldL f := by
      have := congrArg (fun b : ByteArray => b.data.toList) hr
      simpa [bytes] using this
    have h2 : ls r = foldL f := by simpa [rawsL] using h1
    exact ls_inj h2
  refine .inr ⟨by show (3 : Int) ≠ 1; decide, _, q, q2, hL, e1, e3', e4, f1, ?_, ?_⟩
  · rw [f3, hrr]; rfl
  · rw [hgl]
    exact (bytes_list _).symm
end Q
end Ab
end Go.Proofs.YtnimhpgacmojiaaGreatDoor
namespace Go.Proofs.YtnimhpgacmojiaaGreatDoor
open Go.RowKit
namespace Ab
set_option maxRecDepth 100000
namespace Q
structure LGd (B : Nat) (L : Lst) : Prop where
  good : ∀ e ∈ L.1, Good1 e.1 ∧ isRec e.1 = live e
  m4 : L.2.2 ≤ 400
  sz : szI (itmL L.1) ≤ B
theorem itmL_app (a b : List Ent) : itmL (a ++ b) = itmL a ++ itmL b := List.map_append
theorem sz_cons (x : Itm) (l : List Itm) : szI (x :: l) = x.2.1.size + szI l := by simp [szI]
theorem sz_split (es : List Ent) (i : Nat) : szI (itmL es) = szI (itmL (es.take i)) + szI (itmL (es.drop i)) := by
  conv => lhs; rw [← List.take_append_drop i es, itmL_app, szI_app]
theorem sz_repl {es : List Ent} {i : Nat} {x : Itm} (h : i < es.length) : szI (itmL (replE es i x)) ≤ szI (itmL es) + x.2.1.size := by
  have e1 : replE es i x = es.take i ++ (x, (es.getD i (((0 : Int), ByteArray.empty, ([] : List Fld)), (0 : Int))).2) :: es.drop (i + 1) := List.set_eq_take_append_cons_drop .. |>.trans (if_pos h)
  rw [e1, itmL_app, szI_app]
  have e2 : itmL ((x, (es.getD i (((0 : Int), ByteArray.empty, ([] : List Fld)), (0 : Int))).2) :: es.drop (i + 1)) = x :: itmL (es.drop (i + 1)) := rfl
  have e3 : itmL ((es.getD i (((0 : Int), ByteArray.empty, ([] : List Fld)), (0 : Int))) :: es.drop (i + 1)) = (es.getD i (((0 : Int), ByteArray.empty, ([] : List Fld)), (0 : Int))).1 :: itmL (es.drop (i + 1)) := rfl
  have e4 := congrArg (fun l => szI (itmL l)) (del_split h)
  simp only [itmL_app, szI_app, e3, sz_cons] at e4
  rw [e2, sz_cons]
  omega
theorem sz_del {es : List Ent} {i : Nat} : szI (itmL (delE es i)) ≤ szI (itmL es) := by
  unfold delE
  rw [itmL_app, szI_app, sz_split es i]
  have := sz_split (es.drop i) 1
  rw [List.drop_drop] at this
  rw [show i + 1 = i + 1 from rfl]
  omega
theorem sz_ins {es : List Ent} {i : Nat} {x : Ent} : szI (itmL (insE es i x)) = szI (itmL es) + x.1.2.1.size := by
  unfold insE
  rw [itmL_app, szI_app, sz_split es i]
  have e2 : itmL (x :: es.drop i) = x.1 :: itmL (es.drop i) := rfl
  rw [e2, sz_cons]
  omega
theorem itm_sz {f : List Fld} (hm : muchB f = false) (hc : (chkR f).2 = 0) : (itmOf f).2.1.size ≤ 24120 := by
  obtain ⟨⟨_, g2, _⟩, g4, _⟩ := chk_good hc
  exact foldB_size hm g4 g2
theorem doL_gd {c B : Nat} {L : Lst} {e : Edt} (h : LOk c L) (hg : LGd B L) (hm : muchB e.2.2 = false) : LGd (B + 24120) (doL L e) := by
  have h0 : LGd (B + 24120) L := ⟨hg.good, hg.m4, by have := hg.sz; omega⟩
  have hat : ∀ id, ¬ atE L.1 id < 0 → ∃ i : Nat, i < L.1.length ∧ atE L.1 id = i ∧ 0 < id ∧ (L.1.getD i (((0 : Int), ByteArray.empty, ([] : List Fld)), (0 : Int))).2 = id := fun id hn => by
    rcases at_cases L.1 id with ⟨h1, _⟩ | ⟨i, h1, h2, h3, h4, _⟩
    · omega
    · exact ⟨i, h1, h2, h3, h4⟩
  unfold doL
  split
  · split
    · exact h0
    · rename_i hn
      obtain ⟨i, hi, he, hp, hid⟩ := hat _ hn
      rw [he, Int.toNat_natCast]
      split
      · exact h0
      · rename_i hc
        have hc : (chkR e.2.2).2 = 0 := Classical.not_not.1 hc
        refine ⟨fun x hx => ?_, hg.m4, ?_⟩
        · rcases mem_repl hx with hx | rfl
          · exact hg.good x hx
          · refine ⟨good_itm hc, ?_⟩
            show true = live _
            unfold live
            rw [decide_eq_true (by simp only; omega)]
        · have := sz_repl (x := itmOf e.2.2) hi
          have := itm_sz hm hc
          have := hg.sz
          show szI (itmL (replE L.1 i (itmOf e.2.2))) ≤ _
          omega
  · split
    · split
      · exact h0
      · rename_i hn
        obtain ⟨i, hi, he, hp, hid⟩ := hat _ hn
        rw [he, Int.toNat_natCast]
        refine ⟨fun x hx => hg.good x (mem_del hx), by have := hg.m4; show L.2.2 - 1 ≤ 400; omega, ?_⟩
        have := sz_del (es := L.1) (i := i)
        have := hg.sz
        show szI (itmL (delE L.1 i)) ≤ _
        omega
    · split
      · exact h0
      · rename_i hn
        split
        · exact h0
        · rename_i hc
          have hc : (chkR e.2.2).2 = 0 := Classical.not_not.1 hc
          split
          · exact h0
          · rename_i h4
            refine ⟨fun x hx => ?_, by show L.2.2 + 1 ≤ 400; omega, ?_⟩
            · rcases mem_ins hx with hx | rfl
              · exact hg.good x hx
              · refine ⟨good_itm hc, ?_⟩
                have := h.next.1
                show true = live _
                unfold live
                rw [decide_eq_true (by simp only; omega)]
            · show szI (itmL (insE L.1 _ _)) ≤ _
              rw [sz_ins]
              have := itm_sz hm hc
              have := hg.sz
              simp only
              omega
theorem num_good : ∀ (l : List Itm) (n : Int), 1 ≤ n → (∀ x ∈ l, Good1 x) → ∀ e ∈ numI n l, Good1 e.1 ∧ isRec e.1 = live e
  | [], _, _, _, e, he => by cases he
  | x :: r, n, hn, hg, e, he => by
    unfold numI at he
    split at he
    · rename_i hr
      rcases List.mem_cons.1 he with rfl | he
      · refine ⟨hg x List.mem_cons_self, ?_⟩
        rw [hr]
        unfold live
        rw [decide_eq_true (by simp only; omega)]
      · exact num_good r (n + 1) (by omega) (fun y hy => hg y (List.mem_cons_of_mem _ hy)) e he
    · rename_i hr
      rcases List.mem_cons.1 he with rfl | he
      · refine ⟨hg x List.mem_cons_self, ?_⟩
        rw [hr]
        rfl
      · exact num_good r n hn (fun y hy => hg y (List.mem_cons_of_mem _ hy)) e he
theorem ofT_gd {s : ByteArray} {l : List Itm} (hp : parseS s = .inr l) : LGd s.size (ofT l) := by
  obtain ⟨h1, h2⟩ := parse_good hp
  refine ⟨num_good l 1 (Int.le_refl _) h1, by show (cntR l : Int) ≤ 400; omega, ?_⟩
  show szI (itmL (numI 1 l)) ≤ _
  unfold itmL
  rw [numI_items]
  have h3 := raws_text hp
  rw [← raws_sz, ← h3, bytes_size]
  exact Nat.le_refl _
end Q
end Ab
end Go.Proofs.YtnimhpgacmojiaaGreatDoor
namespace Go.Proofs.YtnimhpgacmojiaaGreatDoor
open Go.RowKit
namespace Ab
set_option maxRecDepth 100000
namespace Q
theorem plays_gd {c B : Nat} {L : Lst} {s : List Edt} (h : LOk c L) (hg : LGd B L) (hm : ∀ e ∈ s, muchB e.2.2 = false) : ∀ i, i ≤ s.length → LGd (B + 24120 * i) (plays L s i)
  | 0, _ => by simpa [plays] using hg
  | i + 1, hi => by
    rw [plays_snoc L (by omega)]
    have h1 := plays_ok h (fun e he => much_ok (hm e he)) i (by omega)
    have h2 := doL_gd h1 (plays_gd h hg hm i (by omega)) (hm _ (getD_mem (show i < s.length by omega) ((0 : Int), (0 : Int), ([] : List Fld))))
    exact ⟨h2.good, h2.m4, by have := h2.sz; omega⟩
theorem txt_sz {c B : Nat} {L : Lst} (h : LOk c L) (hg : LGd B L) : szI (apartL (itmL L.1)) ≤ B + c := by
  have h1 := apart_len (itmL L.1) 1
  have h2 := hg.sz
  have h3 : (itmL L.1).length = L.1.length := List.length_map _
  have h4 := h.len
  show szI (apartK 1 (itmL L.1)) ≤ _
  omega
theorem ofT_txt (l : List Itm) : txtL (ofT l).1 = rawsL (apartL l) := by
  show rawsL (apartL (itmL (numI 1 l))) = _
  unfold itmL
  rw [numI_items]
end Q
end Ab
end Go.Proofs.YtnimhpgacmojiaaGreatDoor
namespace Go.Proofs.YtnimhpgacmojiaaGreatDoor
open Go.RowKit
namespace Ab
set_option maxRecDepth 100000
namespace Q
def oldB (first : Int) (T : List Bool) (e : Ent) : Bool := decide (0 < e.2) && (decide (e.2 < first) && !(T.getD e.2.toNat false))
def touch (first : Int) (T : List Bool) (e : Edt) : List Bool := if ((e.1 = 1 ∨ e.1 = 2) ∧ 0 < e.2.1) ∧ e.2.1 < first then T.set e.2.1.toNat true else T
theorem touch_len (first : Int) (T : List Bool) (e : Edt) : (touch first T e).length = T.length := by
  unfold touch
  split
  · exact List.length_set
  · rfl
theorem set_true {T : List Bool} {i j : Nat} (h : T.getD j false = true) : (T.set i true).getD j false = true := by
  rw [List.getD_eq_getElem?_getD, List.getElem?_set]
  split
  · rename_i e
    subst e
    split
    · rfl
    · rename_i hn
      rw [List.getD_eq_getElem?_getD, List.getElem?_eq_none (by omega)] at h
      cases h
  · rwa [← List.getD_eq_getElem?_getD]
theorem touch_old {first : Int} {T : List Bool} {e : Edt} {x : Ent} (h : oldB first (touch first T e) x = true) : oldB first T x = true := by
  unfold oldB at *
  simp only [Bool.and_eq_true, Bool.not_eq_true'] at *
  refine ⟨h.1, h.2.1, ?_⟩
  cases e2 : T.getD x.2.toNat false with
  | false => rfl
  | true =>
    have h3 := h.2.2
    unfold touch at h3
    split at h3
    · rw [set_true e2] at h3; cases h3
    · rw [e2] at h3; cases h3
theorem set_self {T : List Bool} {i : Nat} (h : i < T.length) : (T.set i true).getD i false = true := by
  rw [List.getD_eq_getElem?_getD, List.getElem?_set_self h]; rfl
theorem touch_not {first : Int} {T : List Bool} {e : Edt} (hT : T.length = first.toNat) (hk : e.1 = 1 ∨ e.1 = 2) {x : Ent} (hx : x.2 = e.2.1) : oldB first (touch first T e) x = false := by
  unfold oldB
  by_cases h0 : 0 < x.2
  · by_cases h1 : x.2 < first
    · have : touch first T e = T.set e.2.1.toNat true := if_pos ⟨⟨hk, by omega⟩, by omega⟩
      rw [this, ← hx, set_self (by omega)]
      simp
    · simp [h1]
  · simp [h0]
theorem filter_sub {α : Type} {p q : α → Bool} (h : ∀ x, q x = true → p x = true) {a b : List α} (he : a.filter p = b.filter p) : a.filter q = b.filter q := by
  have e : ∀ l : List α, l.filter q = (l.filter p).filter q := fun l => by
    rw [List.filter_filter]
    refine List.filter_congr fun x _ => ?_
    cases hq : q x with
    | false => rfl
    | true => rw [h x hq]; rfl
  rw [e a, e b, he]
theorem filter_repl {p : Ent → Bool} {es : List Ent} {i : Nat} {x : Itm} (h : i < es.length) (h1 : p (es.getD i (((0 : Int), ByteArray.empty, ([] : List Fld)), (0 : Int))) = false) (h2 : p (x, (es.getD i (((0 : Int), ByteArray.empty, ([] : List Fld)), (0 : Int))).2) = false) : (replE es i x).filter p = es.filter p := by
  have e1 : replE es i x = es.take i ++ (x, (es.getD i (((0 : Int), ByteArray.empty, ([] : List Fld)), (0 : Int))).2) :: es.drop (i + 1) := List.set_eq_take_append_cons_drop .. |>.trans (if_pos h)
  have e2 := congrArg (fun l => l.filter p) (del_split h)
  simp only [List.filter_append, List.filter_cons, h1] at e2
  rw [e1, List.filter_append, List.filter_cons, h2]
  exact e2.symm
theorem filter_del {p : Ent → Bool} {es : List Ent} {i : Nat} (h : i < es.length) (h1 : p (es.getD i (((0 : Int), ByteArray.empty, ([] : List Fld)), (0 : Int))) = false) : (delE es i).filter p = es.filter p := by
  have e2 := congrArg (fun l => l.filter p) (del_split h)
  simp only [List.filter_append, List.filter_cons, h1] at e2
  unfold delE
  rw [List.filter_append]
  exact e2.symm
theorem filter_ins {p : Ent → Bool} {es : List Ent} {i : Nat} {x : Ent} (h1 : p x = false) : (insE es i x).filter p = es.filter p := by
  unfold insE
  rw [List.filter_append, List.filter_cons, h1]
  conv => rhs; rw [← List.take_append_drop i es, List.filter_append]
  rfl
structure VI (L0 L : Lst) (T : List Bool) : Prop where
  len : T.length = L0.2.1.toNat
  old : L.1.filter (oldB L0.2.1 T) = L0.1.filter (oldB L0.2.1 T)
  nx : L0.2.1 ≤ L.2.1
theorem VI.step {L0 L : Lst} {T : List Bool} {e : Edt} (h : VI L0 L T) : VI L0 (doL L e) (touch L0.2.1 T e) := by
  have h1 : L.1.filter (oldB L0.2.1 (touch L0.2.1 T e)) = L0.1.filter (oldB L0.2.1 (touch L0.2.1 T e)) := filter_sub (fun x hx => touch_old hx) h.old
  have hl : (touch L0.2.1 T e).length = L0.2.1.toNat := (touch_len _ _ _).trans h.len
  have hat : ∀ id, ¬ atE L.1 id < 0 → ∃ i : Nat, i < L.1.length ∧ atE L.1 id = i ∧ (L.1.getD i (((0 : Int), ByteArray.empty, ([] : List Fld)), (0 : Int))).2 = id := fun id hn => by
    rcases at_cases L.1 id with ⟨h1, _⟩ | ⟨i, h1, h2, h3, h4, _⟩
    · omega
    · exact ⟨i, h1, h2, h4⟩
  unfold doL
  split
  · rename_i hk
    split
    · exact ⟨hl, h1, h.nx⟩
    · rename_i hn
      obtain ⟨i, hi, he, hid⟩ := hat _ hn
      rw [he, Int.toNat_natCast]
      split
      · exact ⟨hl, h1, h.nx⟩
      · exact ⟨hl, (filter_repl (x := itmOf e.2.2) hi (touch_not h.len (.inl hk) hid) (touch_not (x := (itmOf e.2.2, (L.1.getD i (((0 : Int), ByteArray.empty, ([] : List Fld)), (0 : Int))).2)) h.len (.inl hk) hid)).trans h1, h.nx⟩
  · split
    · rename_i hk
      split
      · exact ⟨hl, h1, h.nx⟩
      · rename_i hn
        obtain ⟨i, hi, he, hid⟩ := hat _ hn
        rw [he, Int.toNat_natCast]
        exact ⟨hl, (filter_del hi (touch_not h.len (.inr hk) hid)).trans h1, h.nx⟩
    · have hnx := h.nx
      split
      · exact ⟨hl, h1, h.nx⟩
      · split
        · exact ⟨hl, h1, h.nx⟩
        · split
          · exact ⟨hl, h1, h.nx⟩
          · refine ⟨hl, (filter_ins ?_).trans h1, by show L0.2.1 ≤ L.2.1 + 1; omega⟩
            unfold oldB
            rw [decide_eq_false (show ¬ (itmOf e.2.2, L.2.1).2 < L0.2.1 by simp only; omega)]
            simp
theorem VI.init (L0 : Lst) : VI L0 L0 (List.replicate L0.2.1.toNat false) := ⟨List.length_replicate, rfl, Int.le_refl _⟩
theorem ids_sorted (l : List Itm) : (ofT l).1.Pairwise (fun x y => 0 < x.2 → 0 < y.2 → x.2 < y.2) := by
  obtain ⟨h1, _⟩ := ids_num l 1 (Int.le_refl _)
  have h2 : (nmsL (ofT l).1).Pairwise (· < ·) := by
    rw [show nmsL (ofT l).1 = _ from h1]
    refine List.Pairwise.map _ ?_ List.pairwise_lt_range
    intro a b hab
    omega
  unfold nmsL at h2
  rw [List.pairwise_filter, List.pairwise_map] at h2
  refine h2.imp fun {x y} h hx hy => h (decide_eq_true hx) (decide_eq_true hy)
theorem ids_all (l : List Itm) {id : Int} (h1 : 1 ≤ id) (h2 : id < (ofT l).2.1) : ∃ e ∈ (ofT l).1, e.2 = id := by
  obtain ⟨g1, _⟩ := ids_num l 1 (Int.le_refl _)
  have h3 : (ofT l).2.1 = 1 + (cntR l : Int) := rfl
  have : id ∈ nmsL (ofT l).1 := by
    rw [show nmsL (ofT l).1 = _ from g1]
    refine List.mem_map.2 ⟨(id - 1).toNat, List.mem_range.2 (by omega), by omega⟩
  unfold nmsL at this
  obtain ⟨e, he, hx⟩ := List.mem_map.1 (List.mem_filter.1 this).1
  exact ⟨e, he, hx⟩
theorem uniq_id {es : List Ent} (hnd : (nmsL es).Nodup) {x y : Ent} (hx : x ∈ es) (hy : y ∈ es) (hp : 0 < x.2) (h : x.2 = y.2) : x = y := by
  have h2 : es.Pairwise (fun a b => 0 < a.2 → 0 < b.2 → a.2 ≠ b.2) := by
    have h3 : (nmsL es).Pairwise (· ≠ ·) := hnd
    unfold nmsL at h3
    rw [List.pairwise_filter, List.pairwise_map] at h3
    exact h3.imp fun {a b} h ha hb => h (decide_eq_true ha) (decide_eq_true hb)
  obtain ⟨i, hi, rfl⟩ := List.getElem_of_mem hx
  obtain ⟨j, hj, rfl⟩ := List.getElem_of_mem hy
  rcases Nat.lt_trichotomy i j with e | e | e
  · exact absurd h (List.pairwise_iff_getElem.1 h2 i j hi hj e hp (by omega))
  · subst e; rfl
  · exact absurd h.symm (List.pairwise_iff_getElem.1 h2 j i hj hi e (by omega) hp)
theorem VI.find {l : List Itm} {c c' : Nat} {M : Lst} {T : List Bool} (h : VI (ofT l) M T) (h0 : LOk c (ofT l)) (hM : LOk c' M) {id : Int} (h1 : 1 ≤ id) (h2 : id < (ofT l).2.1) (hT : T.getD id.toNat false = false) :
    ∃ p : Nat, p < M.1.length ∧ atE M.1 id = p ∧ ¬ atE (ofT l).1 id < 0 ∧ rawL (ofT l).1 id = rawL M.1 id ∧ (M.1.getD p (((0 : Int), ByteArray.empty, ([] : List Fld)), (0 : Int))).1.2.1 = rawL M.1 id ∧ (M.1.getD p (((0 : Int), ByteArray.empty, ([] : List Fld)), (0 : Int))).2 = id ∧ oldB (ofT l).2.1 T (M.1.getD p (((0 : Int), ByteArray.empty, ([] : List Fld)), (0 : Int))) = true := by
  obtain ⟨e, he, hid⟩ := ids_all l h1 h2
  have hold : ∀ x : Ent, x.2 = id → oldB (ofT l).2.1 T x = true := fun x hx => by
    unfold oldB
    rw [hx, decide_eq_true (show 0 < id by omega), decide_eq_true h2, hT]
    rfl
  have heM : e ∈ M.1 := (List.mem_filter.1 (h.old ▸ List.mem_filter.2 ⟨he, hold e hid⟩)).1
  rcases at_cases M.1 id with ⟨_, g⟩ | ⟨p, hp, hpe, _, hpid, _⟩
  · exact absurd hid (g e heM (by omega))
  rcases at_cases (ofT l).1 id with ⟨_, g⟩ | ⟨q, hq, hqe, _, hqid, _⟩
  · exact absurd hid (g e he (by omega))
  have hpm := getD_mem hp (((0 : Int), ByteArray.empty, ([] : List Fld)), (0 : Int))
  have hqm := getD_mem hq (((0 : Int), ByteArray.empty, ([] : List Fld)), (0 : Int))
  have ep : M.1.getD p (((0 : Int), ByteArray.empty, ([] : List Fld)), (0 : Int)) = e := uniq_id hM.nd hpm heM (by omega) (by omega)
  have eq : (ofT l).1.getD q (((0 : Int), ByteArray.empty, ([] : List Fld)), (0 : Int)) = e := uniq_id h0.nd hqm he (by omega) (by omega)
  have r1 : rawL M.1 id = e.1.2.1 := by unfold rawL; rw [hpe, Int.toNat_natCast, ep]
  have r2 : rawL (ofT l).1 id = e.1.2.1 := by unfold rawL; rw [hqe, Int.toNat_natCast, eq]
  exact ⟨p, hp, hpe, by omega, by rw [r1, r2], by rw [ep, r1], hpid, hold _ hpid⟩
theorem VI.mono {l : List Itm} {M : Lst} {T : List Bool} (h : VI (ofT l) M T) {p q : Nat} (hp : p < M.1.length) (hq : q < M.1.length) (h1 : oldB (ofT l).2.1 T (M.1.getD p (((0 : Int), ByteArray.empty, ([] : List Fld)), (0 : Int))) = true) (h2 : oldB (ofT l).2.1 T (M.1.getD q (((0 : Int), ByteArray.empty, ([] : List Fld)), (0 : Int))) = true) (hlt : (M.1.getD p (((0 : Int), ByteArray.empty, ([] : List Fld)), (0 : Int))).2 < (M.1.getD q (((0 : Int), ByteArray.empty, ([] : List Fld)), (0 : Int))).2) : p < q := by
  have h3 : ((ofT l).1.filter (oldB (ofT l).2.1 T)).Pairwise (fun x y => x.2 < y.2) := by
    rw [List.pairwise_filter]
    refine (ids_sorted l).imp fun {x y} h hx hy => h ?_ ?_
    · unfold oldB at hx
      simp only [Bool.and_eq_true, decide_eq_true_eq] at hx
      exact hx.1
    · unfold oldB at hy
      simp only [Bool.and_eq_true, decide_eq_true_eq] at hy
      exact hy.1
  rw [← h.old, List.pairwise_filter] at h3
  rw [← getD_get hp (((0 : Int), ByteArray.empty, ([] : List Fld)), (0 : Int))] at h1 hlt
  rw [← getD_get hq (((0 : Int), ByteArray.empty, ([] : List Fld)), (0 : Int))] at h2 hlt
  rcases Nat.lt_trichotomy p q with e | e | e
  · exact e
  · subst e; omega
  · have := List.pairwise_iff_getElem.1 h3 q p hq hp e h2 h1
    omega
def rawsO (es : List Ent) : List ByteArray := es.map (·.1.2.1)
theorem raws_snoc7 {es : List Ent} {j : Nat} (h : j < es.length) : (rawsO es).take (j + 1) = (rawsO es).take j ++ [(es.getD j (((0 : Int), ByteArray.empty, ([] : List Fld)), (0 : Int))).1.2.1] := by
  unfold rawsO
  rw [← List.map_take, ← take_snoc (((0 : Int), ByteArray.empty, ([] : List Fld)), (0 : Int)) h, List.map_append, List.map_take]
  rfl
theorem raws_len7 (es : List Ent) : (rawsO es).length = es.length := List.length_map _
theorem raws_at7 {es : List Ent} {p : Nat} (h : p < es.length) : (rawsO es).getD p ByteArray.empty = (es.getD p (((0 : Int), ByteArray.empty, ([] : List Fld)), (0 : Int))).1.2.1 := by
  have h1 : p < (rawsO es).length := by rw [raws_len7]; exact h
  rw [← getD_get h1, ← getD_get h (((0 : Int), ByteArray.empty, ([] : List Fld)), (0 : Int))]
  exact List.getElem_map _
structure AtI (l : List Itm) (M : Lst) (T : List Bool) (at_ id : Nat) : Prop where
  le : at_ ≤ M.1.length
  one : 1 ≤ id
  top : (id : Int) ≤ (ofT l).2.1
  ahead : ∀ (p : Nat), p < M.1.length → oldB (ofT l).2.1 T (M.1.getD p (((0 : Int), ByteArray.empty, ([] : List Fld)), (0 : Int))) = true → (id : Int) ≤ (M.1.getD p (((0 : Int), ByteArray.empty, ([] : List Fld)), (0 : Int))).2 → at_ ≤ p
theorem AtI.skip {l : List Itm} {M : Lst} {T : List Bool} {at_ id : Nat} (h : AtI l M T at_ id) (hid : (id : Int) < (ofT l).2.1) : AtI l M T at_ (id + 1) :=
  ⟨h.le, by omega, by omega, fun p h1 h2 h3 => h.ahead p h1 h2 (by omega)⟩
theorem AtI.found {l : List Itm} {M : Lst} {T : List Bool} {at_ id p z : Nat} (hv : VI (ofT l) M T) (h : AtI l M T at_ id) (hid : (id : Int) < (ofT l).2.1) (hp : p < M.1.length) (ho : oldB (ofT l).2.1 T (M.1.getD p (((0 : Int), ByteArray.empty, ([] : List Fld)), (0 : Int))) = true) (hpi : (M.1.getD p (((0 : Int), ByteArray.empty, ([] : List Fld)), (0 : Int))).2 = id) (hz : z ≤ p) : AtI l M T (z + 1) (id + 1) :=
  ⟨by omega, by omega, by omega, fun q h1 h2 h3 => by
    have := hv.mono hp h1 ho h2 (by omega)
    omega⟩
end Q
end Ab
end Go.Proofs.YtnimhpgacmojiaaGreatDoor
namespace Go.Proofs.YtnimhpgacmojiaaGreatDoor
open Go.RowKit
namespace Ab
set_option maxRecDepth 100000
namespace Q
theorem plays_vi {c : Nat} {L0 : Lst} {s : List Edt} {i : Nat} {T : List Bool} (hi : i < s.length) (h : VI L0 (plays L0 s i) T) : VI L0 (plays L0 s (i + 1)) (touch L0.2.1 T (s.getD i ((0 : Int), (0 : Int), ([] : List Fld)))) := by
  rw [plays_snoc L0 hi]
  exact h.step
theorem itm_raw {es : List Ent} {j : Nat} (h : j < es.length) : ((itmL es).getD j ((0 : Int), ByteArray.empty, ([] : List Fld))).2.1 = (es.getD j (((0 : Int), ByteArray.empty, ([] : List Fld)), (0 : Int))).1.2.1 := by
  have h1 : j < (itmL es).length := by unfold itmL; rw [List.length_map]; exact h
  have e : (itmL es)[j] = (es[j]).1 := List.getElem_map _
  rw [← getD_get h1, ← getD_get h (((0 : Int), ByteArray.empty, ([] : List Fld)), (0 : Int)), e]
theorem itm_len (es : List Ent) : (itmL es).length = es.length := List.length_map _
theorem ListVerbatim_c (s : ByteArray) (sc : List Edt) : ACall Tryz.prog 6 [is s, .one (.sl rEdt sc)] (ib true) := by
  refine acall_of (rs := [4]) Tryz.func6 rfl rfl rfl teOk rfl ?_
  refine acode_seq ?_
  refine acode_region ?_
  refine acode_seq ?_
  refine acode_seq ?_
  refine acode_region ?_
  refine Or.inl ?_
  refine And.intro (rfl) ?_
  refine Exists.intro _ (And.intro (alive7_c) ?_)
  refine acode_cond rfl (fun h23 => ?_) (fun h23 => ?_)
  ·try simp only [Bool.not_eq_true'] at h23
   try simp only [Int.toNat_natCast, dflt_sl, dflt_st, dflt_str, dflt_int, dflt_bool] at h23
   simp at h23
  ·try simp only [Bool.not_eq_false'] at h23
   try simp only [Int.toNat_natCast, dflt_sl, dflt_st, dflt_str, dflt_int, dflt_bool] at h23
   refine acode_skip ?_
   refine acode_seq ?_
   refine acode_seq ?_
   refine acode_region ?_
   refine And.intro (fun h => trivial) ?_
   refine Or.inl ?_
   refine And.intro (rfl) ?_
   refine Exists.intro _ (And.intro (fun h => ⟨⟨⟨h, trivial⟩, trivial⟩, heavy_c sc⟩) ?_)
   refine And.intro (by first | (intro h; rw [h]; rfl) | (intro h; cases h)) ?_
   refine acode_cond rfl (fun h30 => ?_) (fun h30 => ?_)
   ·try simp only [decide_eq_true_eq, Bool.or_eq_true] at h30
    try simp only [Int.toNat_natCast, dflt_sl, dflt_st, dflt_str, dflt_int, dflt_bool] at h30
    refine acode_seq ?_
    refine acode_region ?_
    refine acode_ret ?_
    rfl
   ·try simp only [decide_eq_false_iff_not, Bool.or_eq_false_iff, Int.not_lt] at h30
    try simp only [Int.toNat_natCast, dflt_sl, dflt_st, dflt_str, dflt_int, dflt_bool] at h30
    obtain ⟨hs3, hhv⟩ := h30
    obtain ⟨hsc, hmu⟩ := heavy_ok hhv
    have hfo : ∀ e ∈ sc, FldsOk e.2.2 := (fun e he => much_ok (hmu e he))
    refine acode_skip ?_
    refine acode_seq ?_
    rcases hra : parseS s with e | l
    ·refine acode_region ?_
     refine Or.inl ?_
     refine And.intro (rfl) ?_
     refine Exists.intro _ (And.intro (of_err s (by omega) (at_ := e.1) (n := e.2) hra) ?_)
     refine acode_seq ?_
     refine acode_seq ?_
     refine acode_region ?_
     refine acode_cond rfl (fun h37 => ?_) (fun h37 => ?_)
     ·skip
      refine acode_seq ?_
      refine acode_region ?_
      refine acode_ret ?_
      rfl
     ·try simp only [decide_eq_true_eq, decide_eq_false_iff_not, Bool.and_eq_true, Bool.not_eq_true', Bool.not_eq_false', Bool.or_eq_false_iff, Bool.or_eq_true, Bool.and_eq_false_iff, Int.not_lt, Int.not_le] at h37
      try simp only [Int.toNat_natCast, dflt_sl, dflt_st, dflt_str, dflt_int, dflt_bool] at h37
      simp at h37
    ·refine acode_region ?_
     refine Or.inr (Or.inl (Exists.intro [] (Exists.intro [] (Exists.intro _ (Exists.intro _ (Exists.intro _ (Exists.intro _ (Exists.intro _ (And.intro (of_ok s (by omega) hra) (And.intro rfl (And.intro True.intro (And.intro rfl ?_))))))))))))
     refine acode_seq ?_
     refine acode_seq ?_
     refine acode_region ?_
     refine acode_cond rfl (fun h37 => ?_) (fun h37 => ?_)
     ·try simp only [Bool.not_eq_true'] at h37
      try simp only [Int.toNat_natCast, dflt_sl, dflt_st, dflt_str, dflt_int, dflt_bool] at h37
      simp at h37
     ·try simp only [Bool.not_eq_false'] at h37
      try simp only [Int.toNat_natCast, dflt_sl, dflt_st, dflt_str, dflt_int, dflt_bool] at h37
      have hlk := of_lok (by omega) hra
      have hgd := ofT_gd hra
      have hgd0 := hgd
      have hlk0 := hlk
      have hlkn := hlk.next
      have hlkl := hlk.len
      obtain ⟨L0, hL0⟩ : ∃ L0, ofT l = L0 := ⟨_, rfl⟩
      rw [hL0] at hlk hgd hlkn hlkl ⊢
      refine acode_skip ?_
      refine acode_seq ?_
      refine acode_region ?_
      refine Or.inr (Or.inr (Or.inr (Exists.intro [] (Exists.intro [] (Exists.intro _ (Exists.intro _ (Exists.intro _ (Exists.intro _ (Exists.intro _ (And.intro ((copyL_o (k := 1) L0.1 L0.2.1 L0.2.2 (by omega)).x) (And.intro rfl (And.intro True.intro (And.intro rfl ?_)))))))))))))
      refine Or.inr (Or.inr (Or.inl ?_))
      refine And.intro rfl ?_
      refine Exists.intro _ (And.intro (next_c L0.1 L0.2.1 L0.2.2) ?_)
      refine acode_seq ?_
      refine acode_region ?_
      refine And.intro (by exact ⟨by omega, rfl, by omega⟩) ?_
      refine acode_seq ?_
      refine acode_seq ?_
      refine acode_region ?_
      intro l10_1
      try simp only [Int.toNat_natCast, dflt_sl, dflt_st, dflt_str, dflt_int, dflt_bool] at l10_1
      refine acode_block ?_
      refine acode_loopP (fun (x : Nat × List Bool) => x.1 ≤ sc.length ∧ VI L0 (plays L0 sc x.1) x.2) (fun (x : Nat × List Bool) => [(0, is s), (1, .one (.sl rEdt sc)), (5, .one (.own 0 0)), (7, .one (.own 3 0)), (8, ii .i64 L0.2.1), (9, .one (.vec 4)), (44, .one (.sl rEdt sc)), (45, ii .i64 sc.length), (46, ii .i64 x.1)]) (fun (x : Nat × List Bool) => [(0, .box 125 [.vec 1, .lit (.int .i64 (plays L0 sc x.1).2.1), .lit (.int .i64 (plays L0 sc x.1).2.2)]), (1, .vec 127 rEnt (plays L0 sc x.1).1), (2, .vec 127 rEnt L0.1), (3, .box 125 [.vec 2, .lit (.int .i64 L0.2.1), .lit (.int .i64 L0.2.2)]), (4, .vec 4 .bool x.2)]) 5 (fun (x : Nat × List Bool) => sc.length - x.1) (0, List.replicate L0.2.1.toNat false) (⟨Nat.zero_le _, VI.init L0⟩) (le_of ⟨rfl, rfl, rfl, rfl, rfl, rfl, rfl, rfl, rfl⟩ ⟨rfl, rfl, rfl, rfl, rfl⟩ rfl) ?_
      intro ⟨i, T⟩ hI0
      simp only at hI0 ⊢
      obtain ⟨hI0, hV⟩ := hI0
      have hLi := plays_ok hlk hfo i hI0
      have hGi := plays_gd hlk hgd hmu i hI0
      have hTl := hV.len
      refine acode_seq ?_
      refine acode_region ?_
      refine acode_seq ?_
      refine acode_cond rfl (fun h47 => ?_) (fun h47 => ?_)
      ·try simp only [decide_eq_true_eq] at h47
       try simp only [Int.toNat_natCast, dflt_sl, dflt_st, dflt_str, dflt_int, dflt_bool] at h47
       have hil : i < sc.length := (by omega)
       have hsn := plays_snoc L0 hil
       have hfe := hfo _ (getD_mem hil ((0 : Int), (0 : Int), ([] : List Fld)))
       obtain ⟨b, hdo⟩ := do_any (plays L0 sc i) (sc.getD i ((0 : Int), (0 : Int), ([] : List Fld))) hLi (by omega) hfe
       have hVn := plays_vi (c := 9000) hil hV
       refine acode_skip ?_
       refine acode_seq ?_
       refine acode_block ?_
       refine acode_seq ?_
       refine acode_region ?_
       refine And.intro (by first | omega | assumption | decide | (simp only [Int.toNat_natCast, dflt_sl, dflt_st, dflt_str, dflt_int, dflt_bool]; omega) | (simp <;> omega)) ?_
       refine acode_seq ?_
       refine acode_seq ?_
       refine acode_region ?_
       refine And.intro (fun h => trivial) ?_
       refine And.intro (fun h => ⟨⟨h, trivial⟩, trivial⟩) ?_
       refine And.intro (fun h => ⟨⟨h, trivial⟩, trivial⟩) ?_
       refine And.intro (by first | (intro h; rw [h]; rfl) | (intro h; cases h)) ?_
       refine And.intro (fun h => trivial) ?_
       refine And.intro (fun h => ⟨⟨h, trivial⟩, trivial⟩) ?_
       refine And.intro (fun h => ⟨⟨h, trivial⟩, trivial⟩) ?_
       refine And.intro (by exact fun h => h) ?_
       refine And.intro (fun h => trivial) ?_
       refine And.intro (fun h => ⟨⟨h, trivial⟩, trivial⟩) ?_
       refine And.intro (fun h => trivial) ?_
       refine And.intro (fun h => ⟨⟨h, trivial⟩, ⟨h, trivial⟩, trivial⟩) ?_
       refine And.intro (by exact fun h => h) ?_
       refine acode_cond rfl (fun h68 => ?_) (fun h68 => ?_)
       ·try simp only [decide_eq_true_eq, Bool.and_eq_true, Bool.or_eq_true] at h68
        try simp only [Int.toNat_natCast, dflt_sl, dflt_st, dflt_int] at h68
        have ht : touch L0.2.1 T (sc.getD i ((0 : Int), (0 : Int), ([] : List Fld))) = T.set (sc.getD i ((0 : Int), (0 : Int), ([] : List Fld))).2.1.toNat true := if_pos h68
        rw [ht] at hVn
        refine acode_region ?_
        refine And.intro (by (simp only [Int.toNat_natCast, dflt_sl, dflt_st, dflt_int]; omega)) ?_
        refine And.intro (by (simp only [Int.toNat_natCast, dflt_sl, dflt_st, dflt_int]; rw [hTl]; omega)) ?_
        refine acode_region ?_
        refine Or.inr (Or.inl (Exists.intro [] (Exists.intro [0, 1] (Exists.intro _ (Exists.intro _ (Exists.intro _ (Exists.intro _ (Exists.intro _ (And.intro (hdo) (And.intro rfl (And.intro (And.intro (And.intro rfl rfl) (And.intro (And.intro rfl rfl) True.intro)) (And.intro rfl ?_))))))))))))
        refine acode_region ?_
        refine And.intro (by first | omega | assumption | decide | (simp only [Int.toNat_natCast, dflt_sl, dflt_st, dflt_str, dflt_int, dflt_bool]; omega) | (simp <;> omega)) ?_
        exact ⟨(i + 1, T.set (sc.getD i ((0 : Int), (0 : Int), ([] : List Fld))).2.1.toNat true), ⟨by omega, hVn⟩, by first | omega | (simp <;> omega), le_of ⟨rfl, rfl, rfl, rfl, rfl, rfl, rfl, rfl, (ii_eq (by omega))⟩ ⟨(lsbox_eq hsn), (lsvec_eq hsn), rfl, rfl, rfl⟩ rfl⟩
       ·try simp only [decide_eq_false_iff_not, Bool.or_eq_false_iff, Bool.and_eq_false_iff, Int.not_lt] at h68
        try simp only [Int.toNat_natCast, dflt_sl, dflt_st, dflt_int] at h68
        have ht : touch L0.2.1 T (sc.getD i ((0 : Int), (0 : Int), ([] : List Fld))) = T := if_neg (fun h => by omega)
        rw [ht] at hVn
        refine acode_skip ?_
        refine acode_region ?_
        refine Or.inr (Or.inl (Exists.intro [] (Exists.intro [0, 1] (Exists.intro _ (Exists.intro _ (Exists.intro _ (Exists.intro _ (Exists.intro _ (And.intro (hdo) (And.intro rfl (And.intro (And.intro (And.intro rfl rfl) (And.intro (And.intro rfl rfl) True.intro)) (And.intro rfl ?_))))))))))))
        refine acode_region ?_
        refine And.intro (by first | omega | assumption | decide | (simp only [Int.toNat_natCast, dflt_sl, dflt_st, dflt_str, dflt_int, dflt_bool]; omega) | (simp <;> omega)) ?_
        exact ⟨(i + 1, T), ⟨by omega, hVn⟩, by first | omega | (simp <;> omega), le_of ⟨rfl, rfl, rfl, rfl, rfl, rfl, rfl, rfl, (ii_eq (by omega))⟩ ⟨(lsbox_eq hsn), (lsvec_eq hsn), rfl, rfl, rfl⟩ rfl⟩
      ·try simp only [decide_eq_false_iff_not, Int.not_lt] at h47
       try simp only [Int.toNat_natCast, dflt_sl, dflt_st, dflt_str, dflt_int, dflt_bool] at h47
       refine acode_exit ?_
       obtain ⟨M, hM⟩ : ∃ M, plays L0 sc i = M := ⟨_, rfl⟩
       have hM0 : sc.length = 0 → M = L0 := (fun e => by rw [← hM, List.eq_nil_of_length_eq_zero e]; unfold plays; simp)
       rw [hM] at hLi hGi hV ⊢
       have hMl := hLi.len
       have hsz := txt_sz hLi hGi
       have hrl := raws_len7 M.1
       have hil2 := itm_len M.1
       refine acode_seq ?_
       refine acode_seq ?_
       refine acode_region ?_
       refine And.intro (fun h => trivial) ?_
       refine And.intro (fun h => ⟨⟨h, trivial⟩, trivial⟩) ?_
       refine And.intro (fun h => ⟨⟨h, trivial⟩, trivial⟩) ?_
       refine And.intro (by exact fun h => h) ?_
       refine And.intro (fun h => trivial) ?_
       refine Or.inl ?_
       refine And.intro (rfl) ?_
       refine Exists.intro _ (And.intro (fun h => ⟨⟨⟨h, trivial⟩, trivial⟩, textL_c M.1 M.2.1 M.2.2 (by omega) hLi.f1 (by omega)⟩) ?_)
       refine And.intro (fun h => trivial) ?_
       refine And.intro (fun h => ⟨⟨h, trivial⟩, ⟨h, trivial⟩, trivial⟩) ?_
       refine And.intro (by exact fun h => h) ?_
       refine acode_cond rfl (fun h93 => ?_) (fun h93 => ?_)
       ·try simp only [decide_eq_true_eq, decide_eq_false_iff_not, Bool.and_eq_true, Bool.not_eq_true'] at h93
        try simp only [Int.toNat_natCast, dflt_sl, dflt_st, dflt_str, dflt_int, dflt_bool] at h93
        have e1 := hM0 (by omega)
        exact absurd (show bytes (txtL M.1) = s by rw [e1, ← hL0, ofT_txt, parse_alt hra]; exact raws_text hra) h93.2
       ·try simp only [decide_eq_true_eq, decide_eq_false_iff_not, Bool.not_eq_false', Bool.and_eq_false_iff] at h93
        try simp only [Int.toNat_natCast, dflt_sl, dflt_st, dflt_str, dflt_int, dflt_bool] at h93
        refine acode_skip ?_
        refine acode_seq ?_
        refine acode_region ?_
        refine Or.inr (Or.inr (Or.inl ?_))
        refine And.intro rfl ?_
        refine Exists.intro _ (And.intro (itmsL_c M.1 M.2.1 M.2.2 (by omega) hLi.f1) ?_)
        refine acode_seq ?_
        refine acode_seq ?_
        refine acode_region ?_
        intro l20_1
        try simp only [Int.toNat_natCast, dflt_sl, dflt_st, dflt_str, dflt_int, dflt_bool] at l20_1
        refine acode_block ?_
        refine acode_loopP (fun (j : Nat) => j ≤ M.1.length) (fun (j : Nat) => [(5, .one (.own 0 0)), (7, .one (.own 3 0)), (8, ii .i64 L0.2.1), (9, .one (.vec 4)), (13, .one (.vec 5)), (97, .one (.sl rItm (itmL M.1))), (98, ii .i64 (itmL M.1).length), (99, ii .i64 j)]) (fun (j : Nat) => [(0, .box 125 [.vec 1, .lit (.int .i64 M.2.1), .lit (.int .i64 M.2.2)]), (1, .vec 127 rEnt M.1), (2, .vec 127 rEnt L0.1), (3, .box 125 [.vec 2, .lit (.int .i64 L0.2.1), .lit (.int .i64 L0.2.2)]), (4, .vec 4 .bool T), (5, .vec 9 .str ((rawsO M.1).take j))]) 6 (fun (j : Nat) => M.1.length - j) 0 (Nat.zero_le _) (le_of ⟨rfl, rfl, rfl, rfl, rfl, rfl, rfl, rfl⟩ ⟨rfl, rfl, rfl, rfl, rfl, rfl⟩ rfl) ?_
        intro j hI2
        refine acode_seq ?_
        refine acode_region ?_
        refine acode_seq ?_
        refine acode_cond rfl (fun h100 => ?_) (fun h100 => ?_)
        ·try simp only [decide_eq_true_eq] at h100
         try simp only [Int.toNat_natCast, dflt_sl, dflt_st, dflt_str, dflt_int, dflt_bool] at h100
         have hjl : j < M.1.length := (by omega)
         have hrs := raws_snoc7 hjl
         have hra7 := itm_raw hjl
         refine acode_skip ?_
         refine acode_seq ?_
         refine acode_block ?_
         refine acode_seq ?_
         refine acode_region ?_
         refine And.intro (by first | omega | assumption | decide | (simp only [Int.toNat_natCast, dflt_sl, dflt_st, dflt_str, dflt_int, dflt_bool]; omega) | (simp <;> omega)) ?_
         refine acode_region ?_
         refine And.intro (by exact app_le (show ((rawsO M.1).take j).length + 1 ≤ 1000000000 by rw [List.length_take]; omega) (by decide)) ?_
         refine acode_region ?_
         refine And.intro (by first | omega | assumption | decide | (simp only [Int.toNat_natCast, dflt_sl, dflt_st, dflt_str, dflt_int, dflt_bool]; omega) | (simp <;> omega)) ?_
         exact ⟨j + 1, by omega, by first | omega | (simp <;> omega), le_of ⟨rfl, rfl, rfl, rfl, rfl, rfl, rfl, (ii_eq (by omega))⟩ ⟨rfl, rfl, rfl, rfl, rfl, (vec_eq (by rw [hrs, ← hra7]; exact rfl))⟩ rfl⟩
        ·try simp only [decide_eq_false_iff_not, Int.not_lt] at h100
         try simp only [Int.toNat_natCast, dflt_sl, dflt_st, dflt_str, dflt_int, dflt_bool] at h100
         refine acode_exit ?_
         rw [List.take_of_length_le (show (rawsO M.1).length ≤ j by omega)]
         refine acode_seq ?_
         refine acode_region ?_
         refine acode_seq ?_
         refine acode_seq ?_
         refine acode_region ?_
         refine acode_block ?_
         refine acode_loopP (fun (y : Nat × Nat) => AtI l M T y.1 y.2) (fun (y : Nat × Nat) => [(5, .one (.own 0 0)), (7, .one (.own 3 0)), (8, ii .i64 L0.2.1), (9, .one (.vec 4)), (13, .one (.vec 5)), (16, ii .i64 y.1), (17, ii .i64 y.2)]) (fun (y : Nat × Nat) => [(0, .box 125 [.vec 1, .lit (.int .i64 M.2.1), .lit (.int .i64 M.2.2)]), (1, .vec 127 rEnt M.1), (2, .vec 127 rEnt L0.1), (3, .box 125 [.vec 2, .lit (.int .i64 L0.2.1), .lit (.int .i64 L0.2.2)]), (4, .vec 4 .bool T), (5, .vec 9 .str (rawsO M.1))]) 6 (fun (y : Nat × Nat) => 20000 - y.2) (0, 1) (⟨Nat.zero_le _, Nat.le_refl _, by rw [hL0]; simp only; omega, fun p _ _ _ => Nat.zero_le _⟩) (le_of ⟨rfl, rfl, rfl, rfl, rfl, rfl, rfl⟩ ⟨rfl, rfl, rfl, rfl, rfl, rfl⟩ rfl) ?_
         intro ⟨at_, id⟩ hI4
         simp only at hI4 ⊢
         have htop := hI4.top
         have hone := hI4.one
         have hle := hI4.le
         rw [hL0] at htop
         refine acode_seq ?_
         refine acode_seq ?_
         refine acode_region ?_
         refine acode_cond rfl (fun h111 => ?_) (fun h111 => ?_)
         ·try simp only [decide_eq_true_eq] at h111
          try simp only [Int.toNat_natCast, dflt_sl, dflt_st, dflt_str, dflt_int, dflt_bool] at h111
          have hid : (id : Int) < (ofT l).2.1 := (by rw [hL0]; omega)
          have hTl := hV.len
          refine acode_skip ?_
          refine acode_seq ?_
          refine acode_block ?_
          refine acode_seq ?_
          refine acode_seq ?_
          refine acode_region ?_
          refine And.intro (by first | omega | (simp only [Int.toNat_natCast]; omega)) ?_
          refine And.intro (by first | omega | (simp only [Int.toNat_natCast]; omega)) ?_
          refine acode_cond rfl (fun h117 => ?_) (fun h117 => ?_)
          ·try simp only [decide_eq_true_eq, decide_eq_false_iff_not, Bool.and_eq_true, Bool.not_eq_true', Bool.not_eq_false', Bool.or_eq_false_iff, Bool.or_eq_true, Bool.and_eq_false_iff, Int.not_lt, Int.not_le] at h117
           try simp only [Int.toNat_natCast, dflt_bool] at h117
           have hsk := hI4.skip hid
           refine acode_exit ?_
           refine acode_region ?_
           refine And.intro (by first | omega | assumption | decide | (simp only [Int.toNat_natCast, dflt_sl, dflt_st, dflt_str, dflt_int, dflt_bool]; omega) | (simp <;> omega)) ?_
           exact ⟨(at_, id + 1), hsk, by first | omega | (simp <;> omega), le_of ⟨rfl, rfl, rfl, rfl, rfl, rfl, (ii_eq (by simp only; omega))⟩ ⟨rfl, rfl, rfl, rfl, rfl, rfl⟩ rfl⟩
          ·try simp only [decide_eq_true_eq, decide_eq_false_iff_not, Bool.and_eq_true, Bool.not_eq_true', Bool.not_eq_false', Bool.or_eq_false_iff, Bool.or_eq_true, Bool.and_eq_false_iff, Int.not_lt, Int.not_le] at h117
           try simp only [Int.toNat_natCast, dflt_bool] at h117
           have hV' : VI (ofT l) M T := (by rw [hL0]; exact hV)
           obtain ⟨p, hp, hpe, hq, hr1, hr2, hpi, ho⟩ := hV'.find hlk0 hLi (id := (id : Int)) (by omega) hid h117
           have ha0 := hI4.ahead p hp ho (by omega)
           have hfd := fun z hz => hI4.found (z := z) hV' hid hp ho hpi hz
           have hw1 := raw_c (k := 1) L0.1 L0.2.1 L0.2.2 (id : Int)
           have hw2 := raw_c (k := 1) M.1 M.2.1 M.2.2 (id : Int)
           rw [hL0] at hq hr1
           rw [if_neg hq, decide_eq_true (show 0 ≤ atE L0.1 (id : Int) by omega)] at hw1
           rw [if_neg (show ¬ atE M.1 (id : Int) < 0 by omega), decide_eq_true (show 0 ≤ atE M.1 (id : Int) by omega), ← hr1] at hw2
           have hrp : (rawsO M.1).getD p ByteArray.empty = rawL L0.1 (id : Int) := (by rw [raws_at7 hp, hr2, hr1])
           refine acode_skip ?_
           refine acode_seq ?_
           refine acode_region ?_
           refine Or.inr (Or.inr (Or.inl ?_))
           refine And.intro rfl ?_
           refine Exists.intro _ (And.intro (hw1) ?_)
           refine acode_seq ?_
           refine acode_region ?_
           refine Or.inr (Or.inr (Or.inl ?_))
           refine And.intro rfl ?_
           refine Exists.intro _ (And.intro (hw2) ?_)
           refine acode_seq ?_
           refine acode_seq ?_
           refine acode_region ?_
           refine And.intro (fun h => trivial) ?_
           refine And.intro (fun h => ⟨⟨h, trivial⟩, trivial⟩) ?_
           refine And.intro (by first | (intro h; rw [h]; rfl) | (intro h; cases h)) ?_
           refine And.intro (fun h => trivial) ?_
           refine And.intro (fun h => trivial) ?_
           refine And.intro (fun h => ⟨⟨h, trivial⟩, ⟨h, trivial⟩, trivial⟩) ?_
           refine And.intro (by first | (intro h; rw [h]; rfl) | (intro h; cases h)) ?_
           refine acode_cond rfl (fun h140 => ?_) (fun h140 => ?_)
           ·try simp only [decide_eq_false_iff_not, Bool.not_eq_true', Bool.or_eq_true] at h140
            try simp only [Int.toNat_natCast, dflt_sl, dflt_st, dflt_str, dflt_int, dflt_bool] at h140
            simp at h140
           ·try simp only [decide_eq_true_eq, Bool.not_eq_false', Bool.or_eq_false_iff] at h140
            try simp only [Int.toNat_natCast, dflt_sl, dflt_st, dflt_str, dflt_int, dflt_bool] at h140
            refine acode_skip ?_
            refine acode_seq ?_
            refine acode_block ?_
            refine acode_loopP (fun (z : Nat) => at_ ≤ z ∧ z ≤ p) (fun (z : Nat) => [(5, .one (.own 0 0)), (7, .one (.own 3 0)), (8, ii .i64 L0.2.1), (9, .one (.vec 4)), (13, .one (.vec 5)), (16, ii .i64 z), (17, ii .i64 id), (18, is (rawL L0.1 (id : Int)))]) (fun (z : Nat) => [(0, .box 125 [.vec 1, .lit (.int .i64 M.2.1), .lit (.int .i64 M.2.2)]), (1, .vec 127 rEnt M.1), (2, .vec 127 rEnt L0.1), (3, .box 125 [.vec 2, .lit (.int .i64 L0.2.1), .lit (.int .i64 L0.2.2)]), (4, .vec 4 .bool T), (5, .vec 9 .str (rawsO M.1))]) 6 (fun (z : Nat) => p - z) at_ (⟨Nat.le_refl _, ha0⟩) (le_of ⟨rfl, rfl, rfl, rfl, rfl, rfl, rfl, rfl⟩ ⟨rfl, rfl, rfl, rfl, rfl, rfl⟩ rfl) ?_
            intro z hI6
            refine acode_seq ?_
            refine acode_seq ?_
            refine acode_region ?_
            intro l34_2
            try simp only [Int.toNat_natCast, dflt_sl, dflt_st, dflt_str, dflt_int, dflt_bool] at l34_2
            refine And.intro (fun h => trivial) ?_
            refine And.intro (fun h => trivial) ?_
            refine And.intro (fun h => ⟨⟨⟨h, trivial⟩, ⟨h, trivial⟩, trivial⟩, by first | omega | (simp only [Int.toNat_natCast]; omega)⟩) ?_
            refine And.intro (fun h => ⟨⟨⟨h, trivial⟩, trivial⟩, by first | omega | (simp only [Int.toNat_natCast]; omega)⟩) ?_
            refine And.intro (fun h => trivial) ?_
            refine And.intro (fun h => ⟨⟨h, trivial⟩, ⟨h, trivial⟩, trivial⟩) ?_
            refine And.intro (by exact fun h => h) ?_
            refine acode_cond rfl (fun h152 => ?_) (fun h152 => ?_)
            ·try simp only [decide_eq_true_eq, decide_eq_false_iff_not, Bool.and_eq_true, Bool.not_eq_true'] at h152
             try simp only [Int.toNat_natCast, dflt_str] at h152
             have hzp : z ≠ p := (fun e => by subst e; exact h152.2 hrp)
             refine acode_skip ?_
             refine acode_block ?_
             refine acode_region ?_
             refine And.intro (by first | omega | assumption | decide | (simp only [Int.toNat_natCast, dflt_sl, dflt_st, dflt_str, dflt_int, dflt_bool]; omega) | (simp <;> omega)) ?_
             exact ⟨z + 1, ⟨by omega, by omega⟩, by first | omega | (simp <;> omega), le_of ⟨rfl, rfl, rfl, rfl, rfl, (ii_eq (by omega)), rfl, rfl⟩ ⟨rfl, rfl, rfl, rfl, rfl, rfl⟩ rfl⟩
            ·try simp only [decide_eq_true_eq, decide_eq_false_iff_not, Bool.not_eq_false', Bool.and_eq_false_iff, Int.not_lt] at h152
             try simp only [Int.toNat_natCast, dflt_str] at h152
             refine acode_exit ?_
             refine acode_seq ?_
             refine acode_seq ?_
             refine acode_region ?_
             intro l36_2
             try simp only [Int.toNat_natCast, dflt_sl, dflt_st, dflt_str, dflt_int, dflt_bool] at l36_2
             refine acode_cond rfl (fun h158 => ?_) (fun h158 => ?_)
             ·try simp only [decide_eq_true_eq] at h158
              try simp only [Int.toNat_natCast, dflt_sl, dflt_st, dflt_str, dflt_int, dflt_bool] at h158
              omega
             ·try simp only [decide_eq_false_iff_not] at h158
              try simp only [Int.toNat_natCast, dflt_sl, dflt_st, dflt_str, dflt_int, dflt_bool] at h158
              refine acode_skip ?_
              refine acode_region ?_
              refine And.intro (by first | omega | assumption | decide | (simp only [Int.toNat_natCast, dflt_sl, dflt_st, dflt_str, dflt_int, dflt_bool]; omega) | (simp <;> omega)) ?_
              refine acode_region ?_
              refine And.intro (by first | omega | assumption | decide | (simp only [Int.toNat_natCast, dflt_sl, dflt_st, dflt_str, dflt_int, dflt_bool]; omega) | (simp <;> omega)) ?_
              exact ⟨(z + 1, id + 1), hfd z (by omega), by first | omega | (simp <;> omega), le_of ⟨rfl, rfl, rfl, rfl, rfl, (ii_eq (by simp only; omega)), (ii_eq (by simp only; omega))⟩ ⟨rfl, rfl, rfl, rfl, rfl, rfl⟩ rfl⟩
         ·try simp only [decide_eq_false_iff_not, Int.not_lt] at h111
          try simp only [Int.toNat_natCast, dflt_sl, dflt_st, dflt_str, dflt_int, dflt_bool] at h111
          refine acode_exit ?_
          refine acode_seq ?_
          refine acode_region ?_
          refine acode_ret ?_
          rfl
end Q
end Ab
end Go.Proofs.YtnimhpgacmojiaaGreatDoor
namespace Go.Proofs.YtnimhpgacmojiaaGreatDoor
open Go.RowKit
namespace Ab
set_option maxRecDepth 100000
theorem o_str : Opens Tryz.prog 9 .str := opens_str Tryz.underlying9 (by kernel_rfl)
theorem o_int : Opens Tryz.prog 3 (.int .i64) := opens_int Tryz.underlying3 (by kernel_rfl)
theorem o_field : Opens Tryz.prog 91 (.st .str .str) := opens_st Tryz.underlying91 (by kernel_rfl) (.cons rfl o_str (.one rfl o_str))
theorem o_fields : Opens Tryz.prog 25 (.sl (.st .str .str)) := opens_sl (by decide) Tryz.underlying25 (by kernel_rfl) o_field
theorem globAt {W : World} (h : W.ShapedOpen Tryz.prog) : GlobAt AllOk W := by
  have hc : GlobCell W := cell_of_shapedOpen_int (g := 0) (t := 3) (zero := #[.int .i64 0]) h (of_decide_eq_true (by kernel_rfl)) (by kernel_rfl) rfl (by kernel_rfl) (by kernel_rfl) Tryz.underlying3
  refine ⟨trivial, ?_, hc⟩
  obtain ⟨m, hm⟩ := hc
  rcases Nat.lt_or_ge 0 W.heap.size with h1 | h1
  · exact h1
  · exfalso
    simp only [World.cell?, Array.getElem?_eq_none h1] at hm
    cases hm
end Ab
end Go.Proofs.YtnimhpgacmojiaaGreatDoor
namespace Go.Proofs.YtnimhpgacmojiaaGreatDoor
open Go.RowKit
namespace Ab
set_option maxRecDepth 100000
theorem o_edit : Opens Tryz.prog 60 (.st (.int .i64) (.st (.int .i64) (.sl (.st .str .str)))) := opens_st Tryz.underlying60 (by kernel_rfl) (.cons rfl o_int (.cons rfl o_int (.one rfl o_fields)))
theorem o_edits : Opens Tryz.prog 55 (.sl (.st (.int .i64) (.st (.int .i64) (.sl (.st .str .str))))) := opens_sl (by decide) Tryz.underlying55 (by kernel_rfl) o_edit
theorem open_edits {H : Type} {enc : TypeId × Value → H} {W : World} {base : Nat} {v : Value} {d : DataW H} {p : List MemPlace} (hv : Value.okWide Tryz.prog W .any base 55 v) (h : DataW.Trod enc Tryz.prog W 0 (fun _ => true) true 55 v d p) :
    ∃ xs, (C.sl (.st (.int .i64) (.st (.int .i64) (.sl (.st .str .str)))) xs).rep AllOk noNames W v := open_sl Tryz.underlying55 o_edits hv h
end Ab
end Go.Proofs.YtnimhpgacmojiaaGreatDoor
