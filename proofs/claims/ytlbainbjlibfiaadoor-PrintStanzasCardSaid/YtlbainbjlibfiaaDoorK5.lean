/-
  The texts of this proof, joined: abstract values, the library, the functions of the program and what they compute (part 5). No condition.
-/
import Derived.Test.YtlbainbjlibfiaaDoorK1
import Derived.Test.YtlbainbjlibfiaaDoorK2
import Derived.Test.YtlbainbjlibfiaaDoorK3
import Derived.Test.YtlbainbjlibfiaaDoorK4
namespace Go.Proofs.YtlbainbjlibfiaaDoor
open Go.RowKit
namespace Ab
set_option maxRecDepth 100000
namespace Q
def LinesOk (l : List ByteArray) : Prop := l.length ≤ 1000000 ∧ (l.map (·.size)).sum ≤ 100000000
theorem sum_mem {l : List ByteArray} {s : ByteArray} (h : s ∈ l) : s.size ≤ (l.map (·.size)).sum := by
  induction l with
  | nil => cases h
  | cons a r ih =>
    rw [List.map_cons, List.sum_cons]
    rcases List.mem_cons.1 h with rfl | h
    · omega
    · have := ih h; omega
def unfA (l : List ByteArray) : A := if (unfoldL (l.map ls)).2 = 0 then .tup [(true, [.lit (.string (bytes (unfoldL (l.map ls)).1.1)), .lit (.string (bytes (unfoldL (l.map ls)).1.2))]), (false, [.lit .nilIface])]
  else .tup [(true, [.lit (.string ⟨#[]⟩), .lit (.string ⟨#[]⟩)]), (false, [errN (unfoldL (l.map ls)).2])]
theorem unfA_bad {l : List ByteArray} {n : Int} (h : (unfoldL (l.map ls)).2 = n) (hn : n ≠ 0) : unfA l = .tup [(true, [.lit (.string ⟨#[]⟩), .lit (.string ⟨#[]⟩)]), (false, [errN n])] := by
  unfold unfA; rw [if_neg (by rw [h]; exact hn), h]
theorem unfA_ok {l : List ByteArray} {k v : List UInt8} (h : unfoldL (l.map ls) = ((k, v), 0)) : unfA l = .tup [(true, [.lit (.string (bytes k)), .lit (.string (bytes v))]), (false, [.lit .nilIface])] := by
  unfold unfA; rw [if_pos (by rw [h]), h]
theorem trimP_len (s p : List UInt8) : (Lib.trimPrefix s p).length ≤ s.length := by
  unfold Lib.trimPrefix; split
  · rw [List.length_drop]; omega
  · exact Nat.le_refl _
theorem joinL_len (c : UInt8) : ∀ l : List (List UInt8), (Lib.join l [c]).length ≤ (l.map (·.length)).sum + l.length
  | [] => by simp [Lib.join]
  | [a] => by rw [Lib.join_one]; simp
  | a :: b :: r => by
    have := joinL_len c (b :: r)
    rw [join_two]
    simp only [List.length_append, List.length_cons, List.length_nil, List.map_cons, List.sum_cons] at this ⊢
    omega
theorem map_sum_le {α : Type} (f g : α → Nat) : ∀ l : List α, (∀ x ∈ l, f x ≤ g x) → (l.map f).sum ≤ (l.map g).sum
  | [], _ => Nat.le_refl _
  | a :: r, h => by
    simp only [List.map_cons, List.sum_cons]
    have := h a (by simp)
    have := map_sum_le f g r fun x hx => h x (by simp [hx])
    omega
def moreB (s : ByteArray) : ByteArray := bytes (Lib.trimPrefix (s.data.toList.drop 1) [46])
def firstB (s : ByteArray) : ByteArray := bytes (Lib.trimPrefix (Lib.cut s.data.toList [58]).2.1 [32])
theorem value_join (s : ByteArray) (r : List ByteArray) : Lib.join ((firstB s :: r.map moreB).map (·.data.toList)) [10] = valueL (ls s) (r.map ls) := by
  unfold valueL firstB moreB
  rw [List.map_cons, bytes_list, List.map_map, List.map_map]
  congr 2
theorem value_len (s : ByteArray) (r : List ByteArray) : (valueL (ls s) (r.map ls)).length ≤ s.size + (r.map (·.size)).sum + r.length + 1 := by
  unfold valueL
  refine Nat.le_trans (joinL_len 10 _) ?_
  rw [List.map_cons, List.sum_cons, List.length_cons, List.map_map, List.map_map, List.length_map, List.length_map]
  have h1 := trimP_len (Lib.cut (ls s) [58]).2.1 [32]
  have h2 := (cut_len (ls s) [58]).2
  have h3 : s.size = (ls s).length := size_list s
  have h4 := map_sum_le (((fun l : List UInt8 => l.length) ∘ (fun s : List UInt8 => Lib.trimPrefix (s.drop 1) [46])) ∘ ls) (fun s : ByteArray => s.size) r fun x _ => by
    have h5 := trimP_len ((ls x).drop 1) [46]
    have h6 : x.size = (ls x).length := size_list x
    simp only [Function.comp]
    rw [List.length_drop] at h5
    omega
  omega
theorem cutL_ok {l : List UInt8} (h : (cutL l).2.2 = true) : kindL l = 4 ∧ cutL l = Lib.cut l [58] ∧ keyOk (Lib.cut l [58]).1 = true := by
  unfold cutL at h ⊢
  split
  · rename_i h4
    refine ⟨h4, rfl, ?_⟩
    have := h4
    unfold kindL at this
    split at this
    · cases this
    · split at this
      · cases this
      · split at this
        · cases this
        · split at this
          · cases this
          · split at this
            · rename_i h5; rw [Bool.and_eq_true] at h5; exact h5.2
            · cases this
  · rename_i h4; rw [if_neg h4] at h; cases h
theorem cutL_no {l : List UInt8} (h : (cutL l).2.2 = false) : kindL l ≠ 4 := fun h4 => by
  unfold cutL at h
  rw [if_pos h4] at h
  unfold kindL at h4
  split at h4
  · cases h4
  · split at h4
    · cases h4
    · split at h4
      · cases h4
      · split at h4
        · cases h4
        · split at h4
          · rename_i h5; rw [Bool.and_eq_true] at h5; rw [h] at h5; cases h5.1
          · cases h4
theorem kind3_pos {l : List UInt8} (h : kindL l = 3) : 1 ≤ l.length := by
  cases l with
  | nil => cases h
  | cons a r => simp
theorem unf_form {s : ByteArray} {r : List ByteArray} (h : kindL (ls s) ≠ 4 ∨ ∃ x ∈ r, kindL (ls x) ≠ 3) : (unfoldL ((s :: r).map ls)).2 = 2 := by
  rw [List.map_cons, unfoldL, if_pos]
  rcases h with h | ⟨x, hx, h⟩
  · exact .inl h
  · exact .inr (List.any_eq_true.2 ⟨ls x, List.mem_map.2 ⟨x, hx, rfl⟩, by rw [decide_eq_false h]; rfl⟩)
theorem unf_good {s : ByteArray} {r : List ByteArray} (h : kindL (ls s) = 4) (hr : ∀ x ∈ r, kindL (ls x) = 3) : unfoldL ((s :: r).map ls) = if 1000 < (valueL (ls s) (r.map ls)).length then (([], []), 6) else (((Lib.cut (ls s) [58]).1, valueL (ls s) (r.map ls)), 0) := by
  rw [List.map_cons, unfoldL, if_neg]
  rintro (h1 | h1)
  · exact h1 h
  · obtain ⟨x, hx, h2⟩ := List.any_eq_true.1 h1
    obtain ⟨y, hy, rfl⟩ := List.mem_map.1 hx
    rw [hr y hy] at h2
    exact absurd h2 (by decide)
theorem lcut_v (s : ByteArray) (c : List UInt8 × List UInt8 × Bool) (hc : cutL s.data.toList = c) (hs : s.size ≤ 1000000000) : ACall Tryd.prog 83 [is s] (cutA c) := by
  subst hc; exact lcut_c s hs
theorem drop_size (s : ByteArray) (n : Nat) : (s.extract n s.size).data.toList = s.data.toList.drop n := by
  rw [extract_ls, List.take_of_length_le (by rw [List.length_drop, size_list]; omega)]
theorem more_eq (s : ByteArray) : (⟨(Lib.trimPrefix (s.extract (Int.toNat 1) (s.size : Int).toNat).data.toList ({ data := #[46] } : ByteArray).data.toList).toArray⟩ : ByteArray) = moreB s := by
  rw [Int.toNat_natCast, show Int.toNat 1 = 1 from rfl, drop_size]; rfl
theorem join_v (s : ByteArray) (r : List ByteArray) (h : LinesOk (s :: r)) : ACall Tryd.prog 44 [.one (.sl .str (firstB s :: r.map moreB)), is ⟨#[10]⟩] (is (bytes (valueL (ls s) (r.map ls)))) := by
  have h1 := h.1
  have h2 := h.2
  simp only [List.length_cons, List.map_cons, List.sum_cons] at h1 h2
  have hv := value_len s r
  have := join_c (firstB s :: r.map moreB) ⟨#[10]⟩ (by simp only [List.length_cons, List.length_map]; omega) (by rw [show (⟨#[10]⟩ : ByteArray).data.toList = [10] from rfl, value_join]; omega)
  rw [show (⟨#[10]⟩ : ByteArray).data.toList = [10] from rfl, value_join] at this
  exact this
theorem check_kv (k v : List UInt8) (hk : keyOk k = true) : checkF (bytes k, bytes v) = if 1000 < v.length then 6 else 0 := by
  unfold checkF
  rw [if_pos (by rw [bytes_list]; exact hk), bytes_size]
theorem unfold_c (s0 : ByteArray) (r : List ByteArray) (hl : LinesOk (s0 :: r)) : ACall Tryd.prog 69 [.one (.sl .str (s0 :: r))] (unfA (s0 :: r)) := by
  obtain ⟨l, hl0⟩ : ∃ l, s0 :: r = l := ⟨_, rfl⟩
  rw [hl0] at hl ⊢
  have hsz : ∀ x ∈ l, x.size ≤ 100000000 := fun x hx => Nat.le_trans (sum_mem hx) hl.2
  have hll := hl.1
  have hd : l.drop 1 = r := by rw [← hl0]; rfl
  have h0 : l.getD 0 ByteArray.empty = s0 := by rw [← hl0]; rfl
  have hs0 : s0.size ≤ 100000000 := hsz _ (by rw [← hl0]; simp)
  obtain ⟨c, hc⟩ : ∃ c, cutL s0.data.toList = c := ⟨_, rfl⟩
  have hlen : l.length = r.length + 1 := by rw [← hl0]; rfl
  have hdl : (l.drop 1).length = l.length - 1 := List.length_drop
  refine acall_ofc (rs := [.cell 2 57, .tmp 3]) Tryd.func69 rfl rfl rfl teOk rfl ?_
  refine acode_seq ?_
  refine acode_region ?_
  refine acode_seq ?_
  refine acode_seq ?_
  refine acode_region ?_
  intro l1_1
  try simp only [Int.toNat_natCast, dflt_sl, dflt_st, dflt_str, dflt_int, dflt_bool] at l1_1
  refine acode_cond rfl (fun h14 => ?_) (fun h14 => ?_)
  ·try simp only [decide_eq_true_eq] at h14
   try simp only [Int.toNat_natCast, dflt_sl, dflt_st, dflt_str, dflt_int, dflt_bool] at h14
   exfalso; omega
  ·try simp only [decide_eq_false_iff_not] at h14
   try simp only [Int.toNat_natCast, dflt_sl, dflt_st, dflt_str, dflt_int, dflt_bool] at h14
   refine acode_skip ?_
   refine acode_seq ?_
   refine acode_region ?_
   refine And.intro (by first | omega | assumption | decide | (simp only [Int.toNat_natCast, dflt_sl, dflt_st, dflt_str, dflt_int, dflt_bool]; omega) | (simp <;> omega)) ?_
   refine Or.inl ?_
   refine And.intro (rfl) ?_
   refine Exists.intro _ (And.intro ((lcut_v (l.getD 0 ByteArray.empty) c (by rw [h0]; exact hc) (by rw [h0]; omega))) ?_)
   refine acode_seq ?_
   refine acode_seq ?_
   refine acode_region ?_
   refine acode_cond rfl (fun h26 => ?_) (fun h26 => ?_)
   ·try simp only [Bool.not_eq_true'] at h26
    try simp only [Int.toNat_natCast, dflt_sl, dflt_st, dflt_str, dflt_int, dflt_bool] at h26
    refine acode_seq ?_
    refine acode_region ?_
    refine acode_ret ?_
    rw [unfA_bad (n := 2) (by rw [← hl0]; exact unf_form (.inl (cutL_no (by rw [show ls s0 = s0.data.toList from rfl, hc]; exact h26)))) (by decide)]
    rfl
   ·try simp only [Bool.not_eq_false'] at h26
    try simp only [Int.toNat_natCast, dflt_sl, dflt_st, dflt_str, dflt_int, dflt_bool] at h26
    have hco : (cutL s0.data.toList).2.2 = true := by rw [hc]; exact h26
    obtain ⟨hk4, hcc, hko⟩ := cutL_ok hco
    have hcl : c = Lib.cut s0.data.toList [58] := by rw [← hc, hcc]
    refine acode_skip ?_
    refine acode_seq ?_
    refine acode_region ?_
    refine Or.inl ?_
    refine And.intro (rfl) ?_
    refine Exists.intro _ (And.intro (trimPrefix_c _ _) ?_)
    refine acode_seq ?_
    refine acode_seq ?_
    refine acode_region ?_
    refine And.intro (by first | omega | assumption | decide | (simp only [Int.toNat_natCast, dflt_sl, dflt_st, dflt_str, dflt_int, dflt_bool]; omega) | (simp <;> omega)) ?_
    intro l7_2
    try simp only [Int.toNat_natCast, dflt_sl, dflt_st, dflt_str, dflt_int, dflt_bool] at l7_2
    refine acode_block ?_
    refine acode_loopP (fun (i : Nat) => i ≤ (l.drop 1).length ∧ ∀ x ∈ (l.drop 1).take i, kindL (ls x) = 3) (fun (i : Nat) => [(2, .one (.own 0 0)), (4, is (bytes c.1)), (7, .one (.vec 1)), (33, .one (.sl .str (l.drop 1))), (34, ii .i64 (l.drop 1).length), (35, ii .i64 i)]) (fun (i : Nat) => [(0, .box 57 [.lit (.string ⟨#[]⟩), .lit (.string ⟨#[]⟩)]), (1, .vec 9 .str (firstB s0 :: ((l.drop 1).take i).map moreB))]) 2 (fun (i : Nat) => (l.drop 1).length - i) 0 (⟨Nat.zero_le _, by simp⟩) (le_of ⟨rfl, rfl, rfl, rfl, rfl, rfl⟩ ⟨rfl, (vec_eq (by rw [List.take_zero, List.map_nil, bytes_list, hcl]; rfl))⟩ rfl) ?_
    intro i hI0
    obtain ⟨hi, hall⟩ := hI0
    refine acode_seq ?_
    refine acode_region ?_
    refine acode_seq ?_
    refine acode_cond rfl (fun h36 => ?_) (fun h36 => ?_)
    ·try simp only [decide_eq_true_eq] at h36
     try simp only [Int.toNat_natCast, dflt_sl, dflt_st, dflt_str, dflt_int, dflt_bool] at h36
     have hlt : i < (l.drop 1).length := by omega
     have hm := List.mem_of_mem_drop (getD_mem hlt ByteArray.empty)
     have hms := hsz _ hm
     refine acode_skip ?_
     refine acode_seq ?_
     refine acode_block ?_
     refine acode_seq ?_
     refine acode_region ?_
     refine And.intro (by first | omega | assumption | decide | (simp only [Int.toNat_natCast, dflt_sl, dflt_st, dflt_str, dflt_int, dflt_bool]; omega) | (simp <;> omega)) ?_
     refine acode_seq ?_
     refine acode_seq ?_
     refine acode_region ?_
     refine Or.inl ?_
     refine And.intro (rfl) ?_
     refine Exists.intro _ (And.intro (kind_c ((l.drop 1).getD i ByteArray.empty) (by omega)) ?_)
     refine acode_cond rfl (fun h41 => ?_) (fun h41 => ?_)
     ·try simp only [decide_eq_false_iff_not, Bool.not_eq_true'] at h41
      try simp only [Int.toNat_natCast, dflt_sl, dflt_st, dflt_str, dflt_int, dflt_bool] at h41
      refine acode_seq ?_
      refine acode_region ?_
      refine acode_ret ?_
      rw [unfA_bad (n := 2) (by rw [← hl0]; exact unf_form (.inr ⟨_, by rw [← hd]; exact getD_mem hlt ByteArray.empty, h41⟩)) (by decide)]
      rfl
     ·try simp only [decide_eq_true_eq, Bool.not_eq_false'] at h41
      try simp only [Int.toNat_natCast, dflt_sl, dflt_st, dflt_str, dflt_int, dflt_bool] at h41
      have h1 := kind3_pos h41
      have hz := size_list ((l.drop 1).getD i ByteArray.empty)
      refine acode_skip ?_
      refine acode_region ?_
      refine And.intro (by first | omega | assumption | decide | (simp only [Int.toNat_natCast, dflt_str]; omega) | (simp <;> omega)) ?_
      refine Or.inl ?_
      refine And.intro (rfl) ?_
      refine Exists.intro _ (And.intro (trimPrefix_c _ _) ?_)
      refine And.intro (by first | exact app_le (by first | omega | (simp only [List.length_cons, List.length_nil, List.length_map, List.length_take, List.length_drop]; omega) | (simp; omega)) (by decide) | omega | assumption | decide | (simp only [Int.toNat_natCast, dflt_sl, dflt_st, dflt_str, dflt_int, dflt_bool]; omega) | (simp <;> omega)) ?_
      refine acode_region ?_
      refine And.intro (by first | omega | assumption | decide | (simp only [Int.toNat_natCast, dflt_sl, dflt_st, dflt_str, dflt_int, dflt_bool]; omega) | (simp <;> omega)) ?_
      exact ⟨i + 1, ⟨by omega, by rw [← take_snoc ByteArray.empty hlt]; intro f hf; rcases List.mem_append.1 hf with h|h; exact hall f h; rw [List.mem_singleton.1 h]; exact h41⟩, by first | omega | (simp <;> omega), le_of ⟨rfl, rfl, rfl, rfl, rfl, (ii_eq (by omega))⟩ ⟨rfl, (vec_eq (map_next moreB ByteArray.empty hlt _ (more_eq _) [_]))⟩ rfl⟩
    ·try simp only [decide_eq_false_iff_not, Int.not_lt] at h36
     try simp only [Int.toNat_natCast, dflt_sl, dflt_st, dflt_str, dflt_int, dflt_bool] at h36
     rw [List.take_of_length_le (by omega)] at hall ⊢
     rw [hd] at hall ⊢
     refine acode_exit ?_
     refine acode_seq ?_
     refine acode_region ?_
     refine Or.inl ?_
     refine And.intro (rfl) ?_
     refine Exists.intro _ (And.intro (join_v s0 r (by rw [hl0]; exact hl)) ?_)
     refine acode_seq ?_
     refine acode_seq ?_
     by_cases hv : 1000 < (valueL (ls s0) (r.map ls)).length
     ·refine acode_region ?_
      refine Or.inl ?_
      refine And.intro (rfl) ?_
      refine Exists.intro _ (And.intro ((check_v (bytes c.1, bytes (valueL (ls s0) (r.map ls))) 6 (by rw [bytes_size]; have := (cut_len s0.data.toList [58]).1; rw [hcl]; rw [size_list] at hs0; omega) (by rw [check_kv _ _ (by rw [hcl]; exact hko), if_pos hv]) : ACall _ _ _ (.one (errN 6)))) ?_)
      refine acode_seq ?_
      refine acode_region ?_
      refine acode_cond rfl (fun h58 => ?_) (fun h58 => ?_)
      ·skip
       refine acode_seq ?_
       refine acode_region ?_
       refine acode_ret ?_
       rw [unfA_bad (n := 6) (by rw [← hl0, unf_good hk4 hall, if_pos hv]) (by decide)]
       rfl
      ·try simp only [decide_eq_true_eq, decide_eq_false_iff_not, Bool.and_eq_true, Bool.not_eq_true', Bool.not_eq_false', Bool.or_eq_false_iff, Bool.or_eq_true, Bool.and_eq_false_iff, Int.not_lt, Int.not_le] at h58
       try simp only [Int.toNat_natCast, dflt_sl, dflt_st, dflt_str, dflt_int, dflt_bool] at h58
       cases h58
     ·refine acode_region ?_
      refine Or.inl ?_
      refine And.intro (rfl) ?_
      refine Exists.intro _ (And.intro ((check_v (bytes c.1, bytes (valueL (ls s0) (r.map ls))) 0 (by rw [bytes_size]; have := (cut_len s0.data.toList [58]).1; rw [hcl]; rw [size_list] at hs0; omega) (by rw [check_kv _ _ (by rw [hcl]; exact hko), if_neg hv]) : ACall _ _ _ (.one (.lit .nilIface)))) ?_)
      refine acode_seq ?_
      refine acode_region ?_
      refine acode_cond rfl (fun h58 => ?_) (fun h58 => ?_)
      ·try simp only [Bool.not_eq_true'] at h58
       try simp only [Int.toNat_natCast, dflt_sl, dflt_st, dflt_str, dflt_int, dflt_bool] at h58
       cases h58
      ·try simp only [Bool.not_eq_false'] at h58
       try simp only [Int.toNat_natCast, dflt_sl, dflt_st, dflt_str, dflt_int, dflt_bool] at h58
       refine acode_skip ?_
       refine acode_seq ?_
       refine acode_region ?_
       refine acode_ret ?_
       rw [unfA_ok (k := c.1) (v := valueL (ls s0) (r.map ls)) (by rw [← hl0, unf_good hk4 hall, if_neg hv, hcl])]
       rfl
end Q
end Ab
end Go.Proofs.YtlbainbjlibfiaaDoor
namespace Go.Proofs.YtlbainbjlibfiaaDoor
open Go.RowKit
namespace Ab
set_option maxRecDepth 100000
namespace Q
theorem unfold_e : ACall Tryd.prog 69 [.one (.sl .str [])] (unfA []) := by
  refine acall_ofc (rs := [.cell 2 57, .tmp 3]) Tryd.func69 rfl rfl rfl teOk rfl ?_
  refine acode_seq ?_
  refine acode_region ?_
  refine acode_seq ?_
  refine acode_seq ?_
  refine acode_region ?_
  intro l1_1
  try simp only [Int.toNat_natCast, dflt_sl, dflt_st, dflt_str, dflt_int, dflt_bool] at l1_1
  refine acode_cond rfl (fun h14 => ?_) (fun h14 => ?_)
  ·try simp only [decide_eq_true_eq] at h14
   try simp only [Int.toNat_natCast, dflt_sl, dflt_st, dflt_str, dflt_int, dflt_bool] at h14
   refine acode_seq ?_
   refine acode_region ?_
   refine acode_ret ?_
   rfl
  ·try simp only [decide_eq_false_iff_not] at h14
   try simp only [Int.toNat_natCast, dflt_sl, dflt_st, dflt_str, dflt_int, dflt_bool] at h14
   exact absurd rfl h14
theorem unfold_a (l : List ByteArray) (hl : LinesOk l) : ACall Tryd.prog 69 [.one (.sl .str l)] (unfA l) := by
  cases l with
  | nil => exact unfold_e
  | cons s r => exact unfold_c s r hl
theorem kind4_key {l : List UInt8} (h4 : kindL l = 4) : 10 ∉ l ∧ ((Lib.cut l [58]).2.2 && keyOk (Lib.cut l [58]).1) = true := by
  unfold kindL at h4
  split at h4
  · cases h4
  · rename_i h10
    refine ⟨h10, ?_⟩
    split at h4
    · cases h4
    · split at h4
      · cases h4
      · split at h4
        · cases h4
        · split at h4
          · rename_i h5; exact h5
          · cases h4
theorem unf_cases (L : List (List UInt8)) : (∃ n, (n = 2 ∨ n = 6) ∧ unfoldL L = (([], []), n)) ∨ ∃ k v, unfoldL L = ((k, v), 0) ∧ keyOk k = true ∧ v.length ≤ 1000 := by
  cases L with
  | nil => exact .inl ⟨2, .inl rfl, rfl⟩
  | cons a r =>
    rw [unfoldL]
    split
    · exact .inl ⟨2, .inl rfl, rfl⟩
    · rename_i h1
      split
      · exact .inl ⟨6, .inr rfl, rfl⟩
      · rename_i h2
        have h4 : kindL a = 4 := Classical.not_not.1 fun h => h1 (.inl h)
        have := (kind4_key h4).2
        rw [Bool.and_eq_true] at this
        exact .inr ⟨_, _, rfl, this.2, by omega⟩
theorem unfold_bad (l : List ByteArray) (hl : LinesOk l) {n : Int} (h : unfoldL (l.map ls) = (([], []), n)) (hn : n = 2 ∨ n = 6) : ACall Tryd.prog 69 [.one (.sl .str l)] (.tup [(true, [.lit (.string ⟨#[]⟩), .lit (.string ⟨#[]⟩)]), (false, [errN n])]) := by
  have := unfold_a l hl
  rw [unfA_bad (n := n) (by rw [h]) (by rcases hn with rfl | rfl <;> decide)] at this
  exact this
theorem unfold_ok (l : List ByteArray) (hl : LinesOk l) {k v : List UInt8} (h : unfoldL (l.map ls) = ((k, v), 0)) : ACall Tryd.prog 69 [.one (.sl .str l)] (.tup [(true, [.lit (.string (bytes k)), .lit (.string (bytes v))]), (false, [.lit .nilIface])]) := by
  have := unfold_a l hl
  rw [unfA_ok h] at this
  exact this
def plainL (l : List ByteArray) : Bool := decide ((unfoldL (l.map ls)).2 = 0) && decide (lineB (bytes (unfoldL (l.map ls)).1.1) (bytes (unfoldL (l.map ls)).1.2) = l)
def refUnfA (l : List ByteArray) : A := .tup [(true, [.lit (.string (bytes (unfoldL (l.map ls)).1.1)), .lit (.string (bytes (unfoldL (l.map ls)).1.2))]), (false, [.lit (.int .i64 (unfoldL (l.map ls)).2)])]
end Q
end Ab
end Go.Proofs.YtlbainbjlibfiaaDoor
namespace Go.Proofs.YtlbainbjlibfiaaDoor
open Go.RowKit
namespace Ab
set_option maxRecDepth 100000
abbrev Itm := Int × ByteArray × List Fld
abbrev rItm : Rd Itm := .st (.int .i64) (.st .str (.sl rFld))
abbrev Lne := Int × Int × ByteArray × Bool
abbrev rLne : Rd Lne := .st (.int .i64) (.st (.int .i64) (.st .str .bool))
namespace Q
structure PSt where
  lns : List ByteArray
  frm : Int
  full : Bool
  its : List Itm
  blk : List ByteArray
  flds : List Fld
  recs : Int
def flushS (p : PSt) : (Int × Int) ⊕ PSt :=
  if p.lns = [] then .inr p
  else if (unfoldL (p.lns.map ls)).2 ≠ 0 then .inl (p.frm, (unfoldL (p.lns.map ls)).2)
  else if p.full = true then .inl (p.frm, 11)
  else .inr { p with flds := p.flds ++ [(bytes (unfoldL (p.lns.map ls)).1.1, bytes (unfoldL (p.lns.map ls)).1.2)], lns := [] }
def rawB (blk : List ByteArray) : ByteArray := bytes (Lib.join (blk.map (·.data.toList)) [10]) ++ ⟨#[10]⟩
def closeS (q : PSt) : PSt :=
  if q.blk = [] then { q with blk := [], flds := [] }
  else { q with its := q.its ++ [((if q.flds = [] then 2 else 3 : Int), rawB q.blk, q.flds)], recs := if q.flds = [] then q.recs else q.recs + 1, blk := [], flds := [] }
def endS (p : PSt) : (Int × Int) ⊕ PSt := match flushS p with
  | .inl e => .inl e
  | .inr q => .inr (closeS q)
def beginS (p : PSt) (l : Lne) : PSt := { p with lns := [l.2.2.1], frm := l.1, full := decide ((p.flds.length : Int) = 40) || (decide ((p.flds.length : Int) = 0) && decide (p.recs = 400)) }
def aheadS (p : PSt) (l : Lne) (kind : Int) : (Int × Int) ⊕ PSt :=
  if kind = 3 then
    if p.lns = [] then .inl (l.1, 2)
    else if l.2.2.2 = true then .inr { p with lns := p.lns ++ [l.2.2.1] }
    else flushS { p with lns := p.lns ++ [l.2.2.1] }
  else if kind = 1 then endS p
  else flushS p
def lineS (q : PSt) (l : Lne) (kind : Int) : (Int × Int) ⊕ PSt :=
  if kind = 5 ∨ l.2.2.2 = false then .inl (l.1, 2)
  else if kind = 1 then .inr { q with its := q.its ++ [(1, l.2.2.1 ++ ⟨#[10]⟩, [])] }
  else if kind = 4 then .inr { beginS q l with blk := q.blk ++ [l.2.2.1] }
  else .inr { q with blk := q.blk ++ [l.2.2.1] }
def takeS (p : PSt) (l : Lne) : (Int × Int) ⊕ PSt := match aheadS p l (kindL (ls l.2.2.1)) with
  | .inl e => .inl e
  | .inr q => lineS q l (kindL (ls l.2.2.1))
structure PB (p : PSt) (B : Nat) : Prop where
  lns : p.lns.length ≤ B
  lnb : (p.lns.map (·.size)).sum ≤ B
  its : p.its.length ≤ B
  blk : p.blk.length ≤ B
  blb : (p.blk.map (·.size)).sum ≤ B
  flds : p.flds.length ≤ B
  rec0 : 0 ≤ p.recs
  recB : p.recs ≤ B
theorem PB.mono {p : PSt} {B B' : Nat} (h : PB p B) (hB : B ≤ B') : PB p B' :=
  ⟨by have := h.lns; omega, by have := h.lnb; omega, by have := h.its; omega, by have := h.blk; omega, by have := h.blb; omega, by have := h.flds; omega, h.rec0, by have := h.recB; omega⟩
theorem flushS_B {p q : PSt} {B : Nat} (h : PB p B) (hf : flushS p = .inr q) : PB q (B + 1) := by
  unfold flushS at hf
  split at hf
  · cases hf; exact h.mono (by omega)
  · split at hf
    · cases hf
    · split at hf
      · cases hf
      · cases hf
        have := h.flds
        exact ⟨by simp, by simp, by have := h.its; simp only; omega, by have := h.blk; simp only; omega, by have := h.blb; simp only; omega, by simp; omega, h.rec0, by have := h.recB; simp only; omega⟩
theorem closeS_B {p : PSt} {B : Nat} (h : PB p B) : PB (closeS p) (B + 1) := by
  have h1 := h.lns
  have h2 := h.lnb
  have h3 := h.its
  have h4 := h.rec0
  have h5 := h.recB
  unfold closeS
  split
  · exact ⟨by simp only; omega, by simp only; omega, by simp only; omega, by simp, by simp, by simp, h4, by simp only; omega⟩
  · refine ⟨by simp only; omega, by simp only; omega, by simp; omega, by simp, by simp, by simp, ?_, ?_⟩
    · simp only; split <;> omega
    · simp only; split <;> omega
theorem endS_B {p q : PSt} {B : Nat} (h : PB p B) (hf : endS p = .inr q) : PB q (B + 2) := by
  unfold endS at hf
  split at hf
  · cases hf
  · rename_i r e
    cases hf
    exact closeS_B (flushS_B h e)
theorem more_B {p : PSt} {B : Nat} (s : ByteArray) (h : PB p B) : PB { p with lns := p.lns ++ [s] } (B + 1 + s.size) := by
  have h1 := h.lns
  have h2 := h.lnb
  have h3 := h.its
  have h5 := h.recB
  have h6 := h.blk
  have h7 := h.blb
  have h8 := h.flds
  exact ⟨by simp; omega, by simp; omega, by simp only; omega, by simp only; omega, by simp only; omega, by simp only; omega, h.rec0, by simp only; omega⟩
theorem aheadS_B {p q : PSt} {B : Nat} {l : Lne} {k : Int} (h : PB p B) (hf : aheadS p l k = .inr q) : PB q (B + 2 + l.2.2.1.size) := by
  unfold aheadS at hf
  split at hf
  · split at hf
    · cases hf
    · split at hf
      · cases hf; exact (more_B _ h).mono (by omega)
      · exact (flushS_B (more_B _ h) hf).mono (by omega)
  · split at hf
    · exact (endS_B h hf).mono (by omega)
    · exact (flushS_B h hf).mono (by omega)
theorem lineS_B {p q : PSt} {B : Nat} {l : Lne} {k : Int} (h : PB p B) (hs : l.2.2.1.size ≤ B) (_hB : 1 ≤ B) (hf : lineS p l k = .inr q) : PB q (B + 1 + l.2.2.1.size) := by
  have h1 := h.lns
  have h2 := h.lnb
  have h3 := h.its
  have h5 := h.recB
  have h6 := h.blk
  have h7 := h.blb
  have h8 := h.flds
  unfold lineS at hf
  split at hf
  · cases hf
  · split at hf
    · cases hf
      exact ⟨by simp only; omega, by simp only; omega, by simp; omega, by simp only; omega, by simp only; omega, by simp only; omega, h.rec0, by simp only; omega⟩
    · split at hf
      · cases hf
        exact ⟨by simp [beginS]; omega, by simp [beginS], by simp only [beginS]; omega, by simp; omega, by simp; omega, by simp only [beginS]; omega, h.rec0, by simp only [beginS]; omega⟩
      · cases hf
        exact ⟨by simp only; omega, by simp only; omega, by simp only; omega, by simp; omega, by simp; omega, by simp only; omega, h.rec0, by simp only; omega⟩
theorem takeS_B {p q : PSt} {B : Nat} {l : Lne} (h : PB p B) (hf : takeS p l = .inr q) : PB q (B + 3 + 2 * l.2.2.1.size) := by
  unfold takeS at hf
  split at hf
  · cases hf
  · rename_i r e
    exact (lineS_B (aheadS_B h e) (by omega) (by omega) hf).mono (by omega)
def pst0 : PSt := ⟨[], 0, false, [], [], [], 0⟩
end Q
end Ab
end Go.Proofs.YtlbainbjlibfiaaDoor
namespace Go.Proofs.YtlbainbjlibfiaaDoor
open Go.RowKit
namespace Ab
set_option maxRecDepth 100000
namespace Q
theorem fault_c (at_ n : Int) : ACall Tryd.prog 54 [ii .i64 at_, .one (errN n)] (.one (errF at_ n)) := by
  refine acall_of (rs := [4]) Tryd.func54 rfl rfl rfl teOk rfl ?_
  refine acode_seq ?_
  refine acode_region ?_
  refine acode_seq ?_
  refine acode_region ?_
  refine acode_ret ?_
  rfl
def psO (p : PSt) : Obs := [(0, .box 80 [.vec 1, .lit (.int .i64 p.frm), .lit (.bool p.full), .vec 2, .vec 3, .vec 4, .lit (.int .i64 p.recs)]), (1, .vec 9 .str p.lns), (2, .vec 26 rItm p.its), (3, .vec 9 .str p.blk), (4, .vec 57 rFld p.flds)]
theorem flush_nil (p : PSt) (h : p.lns = []) : ACallO Tryd.prog 56 [.one (.own 0 0)] (psO p) 5 (.one (.lit .nilIface)) (psO p) 5 := by
  refine acallo_of (rs := [2]) Tryd.func56 rfl rfl rfl teOk (by decide) rfl ?_
  refine acode_seq ?_
  refine acode_region ?_
  refine acode_seq ?_
  refine acode_seq ?_
  refine acode_region ?_
  intro l1_5
  try simp only [Int.toNat_natCast, dflt_sl, dflt_st, dflt_str, dflt_int, dflt_bool] at l1_5
  refine acode_cond rfl (fun h11 => ?_) (fun h11 => ?_)
  ·try simp only [decide_eq_true_eq] at h11
   try simp only [Int.toNat_natCast, dflt_sl, dflt_st, dflt_str, dflt_int, dflt_bool] at h11
   refine acode_seq ?_
   refine acode_region ?_
   refine acode_ret ?_
   exact ⟨rfl, ⟨rfl, rfl, rfl, rfl, rfl⟩, rfl⟩
  ·try simp only [decide_eq_false_iff_not] at h11
   try simp only [Int.toNat_natCast, dflt_sl, dflt_st, dflt_str, dflt_int, dflt_bool] at h11
   exact absurd (by rw [h]; rfl) h11
theorem flush_good (p : PSt) {k v : List UInt8} (h0 : p.lns ≠ []) (hu : unfoldL (p.lns.map ls) = ((k, v), 0)) (hf : p.full = false) (hb : PB p 1000000) : ACallO Tryd.prog 56 [.one (.own 0 0)] (psO p) 5 (.one (.lit .nilIface)) (psO { p with flds := p.flds ++ [(bytes k, bytes v)], lns := [] }) 5 := by
  have hfl := hb.flds
  refine acallo_of (rs := [2]) Tryd.func56 rfl rfl rfl teOk (by decide) rfl ?_
  refine acode_seq ?_
  refine acode_region ?_
  refine acode_seq ?_
  refine acode_seq ?_
  refine acode_region ?_
  intro l1_5
  try simp only [Int.toNat_natCast, dflt_sl, dflt_st, dflt_str, dflt_int, dflt_bool] at l1_5
  refine acode_cond rfl (fun h11 => ?_) (fun h11 => ?_)
  ·try simp only [decide_eq_true_eq] at h11
   try simp only [Int.toNat_natCast, dflt_sl, dflt_st, dflt_str, dflt_int, dflt_bool] at h11
   exact absurd (List.eq_nil_of_length_eq_zero (by omega)) h0
  ·try simp only [decide_eq_false_iff_not] at h11
   try simp only [Int.toNat_natCast, dflt_sl, dflt_st, dflt_str, dflt_int, dflt_bool] at h11
   refine acode_skip ?_
   refine acode_seq ?_
   refine acode_renew 1 rfl ?_
   refine acode_region ?_
   refine Or.inl ?_
   refine And.intro (rfl) ?_
   refine Exists.intro _ (And.intro (unfold_ok p.lns ⟨hb.lns, Nat.le_trans hb.lnb (by decide)⟩ hu) ?_)
   refine acode_seq ?_
   refine acode_block ?_
   refine acode_seq ?_
   refine acode_region ?_
   refine acode_cond rfl (fun h21 => ?_) (fun h21 => ?_)
   ·try simp only [Bool.not_eq_true'] at h21
    try simp only [Int.toNat_natCast, dflt_sl, dflt_st, dflt_str, dflt_int, dflt_bool] at h21
    cases h21
   ·try simp only [Bool.not_eq_false'] at h21
    try simp only [Int.toNat_natCast, dflt_sl, dflt_st, dflt_str, dflt_int, dflt_bool] at h21
    refine acode_seq ?_
    refine acode_region ?_
    refine acode_cond rfl (fun h31 => ?_) (fun h31 => ?_)
    ·try simp only [decide_eq_true_eq, decide_eq_false_iff_not, Bool.and_eq_true, Bool.not_eq_true', Bool.not_eq_false', Bool.or_eq_false_iff, Bool.or_eq_true, Bool.and_eq_false_iff, Int.not_lt, Int.not_le] at h31
     try simp only [Int.toNat_natCast, dflt_sl, dflt_st, dflt_str, dflt_int, dflt_bool] at h31
     exact absurd h31 (by rw [hf]; decide)
    ·try simp only [decide_eq_true_eq, decide_eq_false_iff_not, Bool.and_eq_true, Bool.not_eq_true', Bool.not_eq_false', Bool.or_eq_false_iff, Bool.or_eq_true, Bool.and_eq_false_iff, Int.not_lt, Int.not_le] at h31
     try simp only [Int.toNat_natCast, dflt_sl, dflt_st, dflt_str, dflt_int, dflt_bool] at h31
     refine acode_skip ?_
     refine acode_seq ?_
     refine acode_ord rfl ?_
     refine aord_light 0 rfl rfl rfl (by kernel_rfl) ?_
     refine aord_light 1 rfl rfl rfl (by kernel_rfl) ?_
     refine aord_light 2 rfl rfl rfl (by kernel_rfl) ?_
     refine aord_light 3 rfl rfl rfl (by kernel_rfl) ?_
     refine aord_light 4 rfl rfl rfl (by kernel_rfl) ?_
     refine aord_all [5, 6] (by kernel_rfl) rfl ?_
     refine And.intro ?_ ?_
     ·refine aord_all [6] (by kernel_rfl) rfl ?_
      refine aord_all [7] (by kernel_rfl) rfl ?_
      refine aord_all [8] (by kernel_rfl) rfl ?_
      refine And.intro (by first | exact app_le (by first | omega | (simp only [List.length_cons, List.length_nil]; omega) | (simp; omega)) (by decide) | omega | assumption | decide | (simp only [Int.toNat_natCast, dflt_sl, dflt_st, dflt_str, dflt_int, dflt_bool]; omega) | (simp <;> omega)) ?_
      refine aord_light 9 rfl rfl rfl (by kernel_rfl) ?_
      refine aord_light 10 rfl rfl rfl (by kernel_rfl) ?_
      refine aord_all [11] (by kernel_rfl) rfl ?_
      refine aord_light 12 rfl rfl rfl (by kernel_rfl) ?_
      refine aord_light 13 rfl rfl rfl (by kernel_rfl) ?_
      refine aord_light 14 rfl rfl rfl (by kernel_rfl) ?_
      refine aord_all [15] (by kernel_rfl) rfl ?_
      refine aord_done (by kernel_rfl) ?_
      refine acode_seq ?_
      refine acode_nilcell 0 0 9 .str rfl rfl rfl ?_
      refine acode_swap 1 7 rfl rfl ?_
      refine acode_region ?_
      refine acode_ret ?_
      exact ⟨rfl, ⟨rfl, rfl, rfl, rfl, rfl⟩, rfl⟩
     ·refine aord_all [5, 7] (by kernel_rfl) rfl ?_
      refine And.intro ?_ ?_
      ·refine aord_all [7] (by kernel_rfl) rfl ?_
       refine aord_all [8] (by kernel_rfl) rfl ?_
       refine And.intro (by first | exact app_le (by first | omega | (simp only [List.length_cons, List.length_nil]; omega) | (simp; omega)) (by decide) | omega | assumption | decide | (simp only [Int.toNat_natCast, dflt_sl, dflt_st, dflt_str, dflt_int, dflt_bool]; omega) | (simp <;> omega)) ?_
       refine aord_light 9 rfl rfl rfl (by kernel_rfl) ?_
       refine aord_light 10 rfl rfl rfl (by kernel_rfl) ?_
       refine aord_all [11] (by kernel_rfl) rfl ?_
       refine aord_light 12 rfl rfl rfl (by kernel_rfl) ?_
       refine aord_light 13 rfl rfl rfl (by kernel_rfl) ?_
       refine aord_light 14 rfl rfl rfl (by kernel_rfl) ?_
       refine aord_all [15] (by kernel_rfl) rfl ?_
       refine aord_done (by kernel_rfl) ?_
       refine acode_seq ?_
       refine acode_nilcell 0 0 9 .str rfl rfl rfl ?_
       refine acode_swap 1 7 rfl rfl ?_
       refine acode_region ?_
       refine acode_ret ?_
       exact ⟨rfl, ⟨rfl, rfl, rfl, rfl, rfl⟩, rfl⟩
      ·refine aord_all [5] (by kernel_rfl) rfl ?_
       refine aord_all [8] (by kernel_rfl) rfl ?_
       refine And.intro (by first | exact app_le (by first | omega | (simp only [List.length_cons, List.length_nil]; omega) | (simp; omega)) (by decide) | omega | assumption | decide | (simp only [Int.toNat_natCast, dflt_sl, dflt_st, dflt_str, dflt_int, dflt_bool]; omega) | (simp <;> omega)) ?_
       refine aord_light 9 rfl rfl rfl (by kernel_rfl) ?_
       refine aord_light 10 rfl rfl rfl (by kernel_rfl) ?_
       refine aord_all [11] (by kernel_rfl) rfl ?_
       refine aord_light 12 rfl rfl rfl (by kernel_rfl) ?_
       refine aord_light 13 rfl rfl rfl (by kernel_rfl) ?_
       refine aord_light 14 rfl rfl rfl (by kernel_rfl) ?_
       refine aord_all [15] (by kernel_rfl) rfl ?_
       refine aord_done (by kernel_rfl) ?_
       refine acode_seq ?_
       refine acode_nilcell 0 0 9 .str rfl rfl rfl ?_
       refine acode_swap 1 7 rfl rfl ?_
       refine acode_region ?_
       refine acode_ret ?_
       exact ⟨rfl, ⟨rfl, rfl, rfl, rfl, rfl⟩, rfl⟩
theorem flush_bad (p : PSt) {n : Int} (h0 : p.lns ≠ []) (hu : unfoldL (p.lns.map ls) = (([], []), n)) (hn : n = 2 ∨ n = 6) (hb : PB p 1000000) : ACallO Tryd.prog 56 [.one (.own 0 0)] (psO p) 5 (.one (errF p.frm n)) [] 5 := by
  refine acallo_of (rs := [2]) Tryd.func56 rfl rfl rfl teOk (by decide) rfl ?_
  refine acode_seq ?_
  refine acode_region ?_
  refine acode_seq ?_
  refine acode_seq ?_
  refine acode_region ?_
  intro l1_5
  try simp only [Int.toNat_natCast, dflt_sl, dflt_st, dflt_str, dflt_int, dflt_bool] at l1_5
  refine acode_cond rfl (fun h11 => ?_) (fun h11 => ?_)
  ·try simp only [decide_eq_true_eq] at h11
   try simp only [Int.toNat_natCast, dflt_sl, dflt_st, dflt_str, dflt_int, dflt_bool] at h11
   exact absurd (List.eq_nil_of_length_eq_zero (by omega)) h0
  ·try simp only [decide_eq_false_iff_not] at h11
   try simp only [Int.toNat_natCast, dflt_sl, dflt_st, dflt_str, dflt_int, dflt_bool] at h11
   refine acode_skip ?_
   refine acode_seq ?_
   refine acode_renew 1 rfl ?_
   refine acode_region ?_
   refine Or.inl ?_
   refine And.intro (rfl) ?_
   refine Exists.intro _ (And.intro (unfold_bad p.lns ⟨hb.lns, Nat.le_trans hb.lnb (by decide)⟩ hu hn) ?_)
   refine acode_seq ?_
   refine acode_block ?_
   refine acode_seq ?_
   refine acode_region ?_
   refine acode_cond rfl (fun h21 => ?_) (fun h21 => ?_)
   ·skip
    refine acode_seq ?_
    refine acode_region ?_
    refine Or.inl ?_
    refine And.intro (rfl) ?_
    refine Exists.intro _ (And.intro (fault_c p.frm n) ?_)
    refine acode_ret ?_
    exact ⟨rfl, trivial, rfl⟩
   ·try simp only [decide_eq_true_eq, decide_eq_false_iff_not, Bool.and_eq_true, Bool.not_eq_true', Bool.not_eq_false', Bool.or_eq_false_iff, Bool.or_eq_true, Bool.and_eq_false_iff, Int.not_lt, Int.not_le] at h21
    try simp only [Int.toNat_natCast, dflt_sl, dflt_st, dflt_str, dflt_int, dflt_bool] at h21
    cases h21
theorem flush_full (p : PSt) {k v : List UInt8} (h0 : p.lns ≠ []) (hu : unfoldL (p.lns.map ls) = ((k, v), 0)) (hf : p.full = true) (hb : PB p 1000000) : ACallO Tryd.prog 56 [.one (.own 0 0)] (psO p) 5 (.one (errF p.frm 11)) [] 5 := by
  refine acallo_of (rs := [2]) Tryd.func56 rfl rfl rfl teOk (by decide) rfl ?_
  refine acode_seq ?_
  refine acode_region ?_
  refine acode_seq ?_
  refine acode_seq ?_
  refine acode_region ?_
  intro l1_5
  try simp only [Int.toNat_natCast, dflt_sl, dflt_st, dflt_str, dflt_int, dflt_bool] at l1_5
  refine acode_cond rfl (fun h11 => ?_) (fun h11 => ?_)
  ·try simp only [decide_eq_true_eq] at h11
   try simp only [Int.toNat_natCast, dflt_sl, dflt_st, dflt_str, dflt_int, dflt_bool] at h11
   exact absurd (List.eq_nil_of_length_eq_zero (by omega)) h0
  ·try simp only [decide_eq_false_iff_not] at h11
   try simp only [Int.toNat_natCast, dflt_sl, dflt_st, dflt_str, dflt_int, dflt_bool] at h11
   refine acode_skip ?_
   refine acode_seq ?_
   refine acode_renew 1 rfl ?_
   refine acode_region ?_
   refine Or.inl ?_
   refine And.intro (rfl) ?_
   refine Exists.intro _ (And.intro (unfold_ok p.lns ⟨hb.lns, Nat.le_trans hb.lnb (by decide)⟩ hu) ?_)
   refine acode_seq ?_
   refine acode_block ?_
   refine acode_seq ?_
   refine acode_region ?_
   refine acode_cond rfl (fun h21 => ?_) (fun h21 => ?_)
   ·try simp only [Bool.not_eq_true'] at h21
    try simp only [Int.toNat_natCast, dflt_sl, dflt_st, dflt_str, dflt_int, dflt_bool] at h21
    cases h21
   ·try simp only [Bool.not_eq_false'] at h21
    try simp only [Int.toNat_natCast, dflt_sl, dflt_st, dflt_str, dflt_int, dflt_bool] at h21
    refine acode_seq ?_
    refine acode_region ?_
    refine acode_cond rfl (fun h31 => ?_) (fun h31 => ?_)
    ·try simp only [decide_eq_true_eq, decide_eq_false_iff_not, Bool.and_eq_true, Bool.not_eq_true', Bool.not_eq_false', Bool.or_eq_false_iff, Bool.or_eq_true, Bool.and_eq_false_iff, Int.not_lt, Int.not_le] at h31
     try simp only [Int.toNat_natCast, dflt_sl, dflt_st, dflt_str, dflt_int, dflt_bool] at h31
     refine acode_seq ?_
     refine acode_region ?_
     refine Or.inl ?_
     refine And.intro (rfl) ?_
     refine Exists.intro _ (And.intro (fault_c p.frm 11) ?_)
     refine acode_ret ?_
     exact ⟨rfl, trivial, rfl⟩
    ·try simp only [decide_eq_true_eq, decide_eq_false_iff_not, Bool.and_eq_true, Bool.not_eq_true', Bool.not_eq_false', Bool.or_eq_false_iff, Bool.or_eq_true, Bool.and_eq_false_iff, Int.not_lt, Int.not_le] at h31
     try simp only [Int.toNat_natCast, dflt_sl, dflt_st, dflt_str, dflt_int, dflt_bool] at h31
     exact absurd h31 (by rw [hf]; decide)
theorem flush_ok {p q : PSt} (h : flushS p = .inr q) (hb : PB p 1000000) : ACallO Tryd.prog 56 [.one (.own 0 0)] (psO p) 5 (.one (.lit .nilIface)) (psO q) 5 := by
  unfold flushS at h
  split at h
  · rename_i h0; cases h; exact flush_nil p h0
  · rename_i h0
    rcases unf_cases (p.lns.map ls) with ⟨n, hn, hu⟩ | ⟨k, v, hu, _, _⟩
    · rw [hu, if_pos (by rcases hn with rfl | rfl <;> decide)] at h; cases h
    · rw [hu, if_neg (by simp)] at h
      split at h
      · cases h
      · rename_i hf; cases h; exact flush_good p h0 hu (by simpa using hf) hb
theorem flush_err {p : PSt} {at_ n : Int} (h : flushS p = .inl (at_, n)) (hb : PB p 1000000) : ACallO Tryd.prog 56 [.one (.own 0 0)] (psO p) 5 (.one (errF at_ n)) [] 5 := by
  unfold flushS at h
  split at h
  · cases h
  · rename_i h0
    rcases unf_cases (p.lns.map ls) with ⟨m, hn, hu⟩ | ⟨k, v, hu, _, _⟩
    · rw [hu, if_pos (by rcases hn with rfl | rfl <;> decide)] at h; cases h; exact flush_bad p h0 hu hn hb
    · rw [hu, if_neg (by simp)] at h
      split at h
      · rename_i hf; cases h; exact flush_full p h0 hu hf hb
      · cases h
end Q
end Ab
end Go.Proofs.YtlbainbjlibfiaaDoor
namespace Go.Proofs.YtlbainbjlibfiaaDoor
open Go.RowKit
namespace Ab
set_option maxRecDepth 100000
set_option maxHeartbeats 4000000
namespace Q
theorem join_sz (l : List ByteArray) : (Lib.join (l.map (·.data.toList)) [10]).length ≤ (l.map (·.size)).sum + l.length := by
  refine Nat.le_trans (joinL_len 10 _) ?_
  rw [List.map_map, List.length_map]
  refine Nat.add_le_add_right (Nat.le_of_eq ?_) _
  exact congrArg _ (List.map_congr_left fun s _ => (size_list s).symm)
theorem raw_sz {l : List ByteArray} (h1 : l.length ≤ 2000000) (h2 : (l.map (·.size)).sum ≤ 2000000) : ByteArray.size { data := (Lib.join (l.map (fun x => x.data.toList)) [10]).toArray } ≤ 4000000 := by
  have := join_sz l
  show Array.size _ ≤ _
  rw [List.size_toArray]
  omega
theorem end_nil {p q : PSt} (h : flushS p = .inr q) (hq : q.blk = []) (hb : PB p 1000000) : ACallO Tryd.prog 43 [.one (.own 0 0)] (psO p) 5 (.one (.lit .nilIface)) (psO { q with blk := [], flds := [] }) 5 := by
  refine acallo_of (rs := [2]) Tryd.func43 rfl rfl rfl teOk (by decide) rfl ?_
  refine acode_seq ?_
  refine acode_region ?_
  refine acode_seq ?_
  refine acode_seq ?_
  refine acode_region ?_
  refine Or.inr (Or.inl (Exists.intro [] (Exists.intro [0, 1, 2, 3, 4] (Exists.intro _ (Exists.intro _ (Exists.intro _ (Exists.intro _ (Exists.intro _ (And.intro (flush_ok h hb) (And.intro rfl (And.intro (And.intro (And.intro rfl rfl) (And.intro (And.intro rfl rfl) (And.intro (And.intro rfl rfl) (And.intro (And.intro rfl rfl) (And.intro (And.intro rfl rfl) True.intro))))) (And.intro rfl ?_))))))))))))
  refine acode_seq ?_
  refine acode_region ?_
  refine acode_cond rfl (fun h8 => ?_) (fun h8 => ?_)
  ·try simp only [Bool.not_eq_true'] at h8
   try simp only [Int.toNat_natCast, dflt_sl, dflt_st, dflt_str, dflt_int, dflt_bool] at h8
   cases h8
  ·try simp only [Bool.not_eq_false'] at h8
   try simp only [Int.toNat_natCast, dflt_sl, dflt_st, dflt_str, dflt_int, dflt_bool] at h8
   refine acode_skip ?_
   refine acode_seq ?_
   refine acode_seq ?_
   refine acode_renew 3 rfl ?_
   refine acode_renew 4 rfl ?_
   refine acode_region ?_
   intro l4_4
   try simp only [Int.toNat_natCast, dflt_sl, dflt_st, dflt_str, dflt_int, dflt_bool] at l4_4
   refine acode_cond rfl (fun h15 => ?_) (fun h15 => ?_)
   ·try simp only [decide_eq_true_eq] at h15
    try simp only [Int.toNat_natCast, dflt_sl, dflt_st, dflt_str, dflt_int, dflt_bool] at h15
    exact absurd (by rw [hq]; rfl : (q.blk.length : Int) = 0) (by omega)
   ·try simp only [decide_eq_false_iff_not, Int.not_lt] at h15
    try simp only [Int.toNat_natCast, dflt_sl, dflt_st, dflt_str, dflt_int, dflt_bool] at h15
    refine acode_skip ?_
    refine acode_seq ?_
    refine acode_region ?_
    refine acode_seq ?_
    refine acode_nilcell 0 4 9 .str rfl rfl rfl ?_
    refine acode_swap 3 5 rfl rfl ?_
    refine acode_nilcell 0 5 57 rFld rfl rfl rfl ?_
    refine acode_swap 4 6 rfl rfl ?_
    refine acode_region ?_
    refine acode_ret ?_
    exact ⟨rfl, ⟨rfl, rfl, rfl, rfl, rfl⟩, rfl⟩
theorem end_blk {p q : PSt} (h : flushS p = .inr q) (hq : q.blk ≠ []) (hb : PB p 1000000) (hb2 : PB q 2000000) : ACallO Tryd.prog 43 [.one (.own 0 0)] (psO p) 5 (.one (.lit .nilIface)) (psO { q with its := q.its ++ [((if q.flds = [] then 2 else 3 : Int), rawB q.blk, q.flds)], recs := (if q.flds = [] then q.recs else q.recs + 1), blk := [], flds := [] }) 5 := by
  have hi := hb2.its
  have hjs := raw_sz hb2.blk hb2.blb
  have hr0 := hb2.rec0
  have hrB := hb2.recB
  refine acallo_of (rs := [2]) Tryd.func43 rfl rfl rfl teOk (by decide) rfl ?_
  refine acode_seq ?_
  refine acode_region ?_
  refine acode_seq ?_
  refine acode_seq ?_
  refine acode_region ?_
  refine Or.inr (Or.inl (Exists.intro [] (Exists.intro [0, 1, 2, 3, 4] (Exists.intro _ (Exists.intro _ (Exists.intro _ (Exists.intro _ (Exists.intro _ (And.intro (flush_ok h hb) (And.intro rfl (And.intro (And.intro (And.intro rfl rfl) (And.intro (And.intro rfl rfl) (And.intro (And.intro rfl rfl) (And.intro (And.intro rfl rfl) (And.intro (And.intro rfl rfl) True.intro))))) (And.intro rfl ?_))))))))))))
  refine acode_seq ?_
  refine acode_region ?_
  refine acode_cond rfl (fun h8 => ?_) (fun h8 => ?_)
  ·try simp only [Bool.not_eq_true'] at h8
   try simp only [Int.toNat_natCast, dflt_sl, dflt_st, dflt_str, dflt_int, dflt_bool] at h8
   cases h8
  ·try simp only [Bool.not_eq_false'] at h8
   try simp only [Int.toNat_natCast, dflt_sl, dflt_st, dflt_str, dflt_int, dflt_bool] at h8
   refine acode_skip ?_
   refine acode_cut (fun (u : Unit) => True) (fun (u : Unit) => [(0, .one (.own 0 0))]) (fun (u : Unit) => [(0, .box 80 [.vec 1, .lit (.int .i64 q.frm), .lit (.bool q.full), .vec 2, .sl .str q.blk, .sl rFld q.flds, .lit (.int .i64 (if q.flds = [] then q.recs else q.recs + 1))]), (1, .vec 9 .str q.lns), (2, .vec 26 rItm (q.its ++ [((if q.flds = [] then 2 else 3 : Int), rawB q.blk, q.flds)])), (3, .vec 9 .str []), (4, .vec 57 rFld [])]) 5 ?_ ?_
   ·refine acode_seq ?_
    refine acode_renew 3 rfl ?_
    refine acode_renew 4 rfl ?_
    refine acode_region ?_
    intro l4_4
    try simp only [Int.toNat_natCast, dflt_sl, dflt_st, dflt_str, dflt_int, dflt_bool] at l4_4
    refine acode_cond rfl (fun h15 => ?_) (fun h15 => ?_)
    ·try simp only [decide_eq_true_eq] at h15
     try simp only [Int.toNat_natCast, dflt_sl, dflt_st, dflt_str, dflt_int, dflt_bool] at h15
     refine acode_seq ?_
     refine acode_region ?_
     refine acode_cut (fun (u : Int × Int) => u = ((if q.flds = [] then 2 else 3 : Int), (if q.flds = [] then q.recs else q.recs + 1))) (fun (u : Int × Int) => [(0, .one (.own 0 0)), (4, ii .i64 u.1)]) (fun (u : Int × Int) => [(0, .box 80 [.vec 1, .lit (.int .i64 q.frm), .lit (.bool q.full), .vec 2, .sl .str q.blk, .sl rFld q.flds, .lit (.int .i64 u.2)]), (1, .vec 9 .str q.lns), (2, .vec 26 rItm q.its), (3, .vec 9 .str []), (4, .vec 57 rFld [])]) 5 ?_ ?_
     ·refine acode_seq ?_
      refine acode_region ?_
      intro l6_4
      try simp only [Int.toNat_natCast, dflt_sl, dflt_st, dflt_str, dflt_int, dflt_bool] at l6_4
      refine acode_cond rfl (fun h21 => ?_) (fun h21 => ?_)
      ·try simp only [decide_eq_true_eq] at h21
       try simp only [Int.toNat_natCast, dflt_sl, dflt_st, dflt_str, dflt_int, dflt_bool] at h21
       refine acode_seq ?_
       refine acode_region ?_
       refine acode_region ?_
       refine And.intro (by first | omega | assumption | decide | (simp only [Int.toNat_natCast, dflt_sl, dflt_st, dflt_str, dflt_int, dflt_bool]; omega) | (simp <;> omega)) ?_
       exact ⟨(3, q.recs + 1), by have hf : q.flds ≠ [] := (fun e => by rw [e] at h21; simp at h21); simp only [if_neg hf], le_of ⟨rfl, rfl⟩ ⟨rfl, rfl, rfl, rfl, rfl⟩ rfl⟩
      ·try simp only [decide_eq_false_iff_not, Int.not_lt] at h21
       try simp only [Int.toNat_natCast, dflt_sl, dflt_st, dflt_str, dflt_int, dflt_bool] at h21
       refine acode_skip ?_
       exact ⟨(2, q.recs), by have hf : q.flds = [] := List.eq_nil_of_length_eq_zero (by omega); simp only [if_pos hf], le_of ⟨rfl, rfl⟩ ⟨rfl, rfl, rfl, rfl, rfl⟩ rfl⟩
     ·intro u hcut9
      obtain ⟨k, rc⟩ := u
      obtain ⟨rfl, rfl⟩ := Prod.mk.inj hcut9
      refine acode_ord rfl ?_
      refine aord_light 0 rfl rfl rfl (by kernel_rfl) ?_
      refine aord_light 1 rfl rfl rfl (by kernel_rfl) ?_
      refine aord_light 2 rfl rfl rfl (by kernel_rfl) ?_
      refine aord_light 3 rfl rfl rfl (by kernel_rfl) ?_
      refine aord_light 5 rfl rfl rfl (by kernel_rfl) ?_
      refine aord_light 6 rfl rfl rfl (by kernel_rfl) ?_
      refine aord_light 7 rfl rfl rfl (by kernel_rfl) ?_
      refine aord_light 8 rfl rfl rfl (by kernel_rfl) ?_
      refine aord_light 12 rfl rfl rfl (by kernel_rfl) ?_
      refine aord_light 13 rfl rfl rfl (by kernel_rfl) ?_
      refine aord_light 14 rfl rfl rfl (by kernel_rfl) ?_
      refine aord_all [4, 9, 15] (by kernel_rfl) rfl ?_
      refine And.intro ?_ ?_
      ·refine aord_all [9, 15] (by kernel_rfl) rfl ?_
       refine And.intro ?_ ?_
       ·refine aord_all [10, 15] (by kernel_rfl) rfl ?_
        refine And.intro ?_ ?_
        ·refine Or.inl ?_
         refine And.intro (rfl) ?_
         refine Exists.intro _ (And.intro (join_c q.blk ⟨#[10]⟩ (Nat.le_trans hb2.blk (by decide)) (Nat.le_trans (join_sz q.blk) (by have := hb2.blk; have := hb2.blb; omega))) ?_)
         refine aord_light 11 rfl rfl rfl (by kernel_rfl) ?_
         refine And.intro (by (have hk0 : ByteArray.size { data := #[10] } = 1 := rfl; first | (unfold maxLen; omega) | (simp only []; omega) | (unfold maxLen; (try simp only []); omega))) ?_
         refine aord_all [15] (by kernel_rfl) rfl ?_
         refine aord_all [16] (by kernel_rfl) rfl ?_
         refine aord_all [17] (by kernel_rfl) rfl ?_
         refine aord_all [18] (by kernel_rfl) rfl ?_
         refine And.intro (by first | exact app_le (by first | omega | (simp only [List.length_cons, List.length_nil]; omega) | (simp; omega)) (by decide) | omega | assumption | decide | (simp only [Int.toNat_natCast, dflt_sl, dflt_st, dflt_str, dflt_int, dflt_bool]; omega) | (simp <;> omega)) ?_
         refine aord_light 19 rfl rfl rfl (by kernel_rfl) ?_
         refine aord_light 20 rfl rfl rfl (by kernel_rfl) ?_
         refine aord_all [21] (by kernel_rfl) rfl ?_
         refine aord_done (by kernel_rfl) ?_
         exact ⟨(), trivial, le_of rfl ⟨rfl, rfl, rfl, rfl, rfl⟩ rfl⟩
        ·refine aord_all [10] (by kernel_rfl) rfl ?_
         refine Or.inl ?_
         refine And.intro (rfl) ?_
         refine Exists.intro _ (And.intro (join_c q.blk ⟨#[10]⟩ (Nat.le_trans hb2.blk (by decide)) (Nat.le_trans (join_sz q.blk) (by have := hb2.blk; have := hb2.blb; omega))) ?_)
         refine aord_light 11 rfl rfl rfl (by kernel_rfl) ?_
         refine And.intro (by (have hk0 : ByteArray.size { data := #[10] } = 1 := rfl; first | (unfold maxLen; omega) | (simp only []; omega) | (unfold maxLen; (try simp only []); omega))) ?_
         refine aord_all [16] (by kernel_rfl) rfl ?_
         refine aord_all [17] (by kernel_rfl) rfl ?_
         refine aord_all [18] (by kernel_rfl) rfl ?_
         refine And.intro (by first | exact app_le (by first | omega | (simp only [List.length_cons, List.length_nil]; omega) | (simp; omega)) (by decide) | omega | assumption | decide | (simp only [Int.toNat_natCast, dflt_sl, dflt_st, dflt_str, dflt_int, dflt_bool]; omega) | (simp <;> omega)) ?_
         refine aord_light 19 rfl rfl rfl (by kernel_rfl) ?_
         refine aord_light 20 rfl rfl rfl (by kernel_rfl) ?_
         refine aord_all [21] (by kernel_rfl) rfl ?_
         refine aord_done (by kernel_rfl) ?_
         exact ⟨(), trivial, le_of rfl ⟨rfl, rfl, rfl, rfl, rfl⟩ rfl⟩
       ·refine aord_all [9] (by kernel_rfl) rfl ?_
        refine aord_all [10] (by kernel_rfl) rfl ?_
        refine Or.inl ?_
        refine And.intro (rfl) ?_
        refine Exists.intro _ (And.intro (join_c q.blk ⟨#[10]⟩ (Nat.le_trans hb2.blk (by decide)) (Nat.le_trans (join_sz q.blk) (by have := hb2.blk; have := hb2.blb; omega))) ?_)
        refine aord_light 11 rfl rfl rfl (by kernel_rfl) ?_
        refine And.intro (by (have hk0 : ByteArray.size { data := #[10] } = 1 := rfl; first | (unfold maxLen; omega) | (simp only []; omega) | (unfold maxLen; (try simp only []); omega))) ?_
        refine aord_all [16] (by kernel_rfl) rfl ?_
        refine aord_all [17] (by kernel_rfl) rfl ?_
        refine aord_all [18] (by kernel_rfl) rfl ?_
        refine And.intro (by first | exact app_le (by first | omega | (simp only [List.length_cons, List.length_nil]; omega) | (simp; omega)) (by decide) | omega | assumption | decide | (simp only [Int.toNat_natCast, dflt_sl, dflt_st, dflt_str, dflt_int, dflt_bool]; omega) | (simp <;> omega)) ?_
        refine aord_light 19 rfl rfl rfl (by kernel_rfl) ?_
        refine aord_light 20 rfl rfl rfl (by kernel_rfl) ?_
        refine aord_all [21] (by kernel_rfl) rfl ?_
        refine aord_done (by kernel_rfl) ?_
        exact ⟨(), trivial, le_of rfl ⟨rfl, rfl, rfl, rfl, rfl⟩ rfl⟩
      refine And.intro ?_ ?_
      ·refine aord_all [4, 10, 15] (by kernel_rfl) rfl ?_
       refine And.intro ?_ ?_
       ·refine aord_all [10, 15] (by kernel_rfl) rfl ?_
        refine And.intro ?_ ?_
        ·refine Or.inl ?_
         refine And.intro (rfl) ?_
         refine Exists.intro _ (And.intro (join_c q.blk ⟨#[10]⟩ (Nat.le_trans hb2.blk (by decide)) (Nat.le_trans (join_sz q.blk) (by have := hb2.blk; have := hb2.blb; omega))) ?_)
         refine aord_light 11 rfl rfl rfl (by kernel_rfl) ?_
         refine And.intro (by (have hk0 : ByteArray.size { data := #[10] } = 1 := rfl; first | (unfold maxLen; omega) | (simp only []; omega) | (unfold maxLen; (try simp only []); omega))) ?_
         refine aord_all [15] (by kernel_rfl) rfl ?_
         refine aord_all [16] (by kernel_rfl) rfl ?_
         refine aord_all [17] (by kernel_rfl) rfl ?_
         refine aord_all [18] (by kernel_rfl) rfl ?_
         refine And.intro (by first | exact app_le (by first | omega | (simp only [List.length_cons, List.length_nil]; omega) | (simp; omega)) (by decide) | omega | assumption | decide | (simp only [Int.toNat_natCast, dflt_sl, dflt_st, dflt_str, dflt_int, dflt_bool]; omega) | (simp <;> omega)) ?_
         refine aord_light 19 rfl rfl rfl (by kernel_rfl) ?_
         refine aord_light 20 rfl rfl rfl (by kernel_rfl) ?_
         refine aord_all [21] (by kernel_rfl) rfl ?_
         refine aord_done (by kernel_rfl) ?_
         exact ⟨(), trivial, le_of rfl ⟨rfl, rfl, rfl, rfl, rfl⟩ rfl⟩
        ·refine aord_all [10] (by kernel_rfl) rfl ?_
         refine Or.inl ?_
         refine And.intro (rfl) ?_
         refine Exists.intro _ (And.intro (join_c q.blk ⟨#[10]⟩ (Nat.le_trans hb2.blk (by decide)) (Nat.le_trans (join_sz q.blk) (by have := hb2.blk; have := hb2.blb; omega))) ?_)
         refine aord_light 11 rfl rfl rfl (by kernel_rfl) ?_
         refine And.intro (by (have hk0 : ByteArray.size { data := #[10] } = 1 := rfl; first | (unfold maxLen; omega) | (simp only []; omega) | (unfold maxLen; (try simp only []); omega))) ?_
         refine aord_all [16] (by kernel_rfl) rfl ?_
         refine aord_all [17] (by kernel_rfl) rfl ?_
         refine aord_all [18] (by kernel_rfl) rfl ?_
         refine And.intro (by first | exact app_le (by first | omega | (simp only [List.length_cons, List.length_nil]; omega) | (simp; omega)) (by decide) | omega | assumption | decide | (simp only [Int.toNat_natCast, dflt_sl, dflt_st, dflt_str, dflt_int, dflt_bool]; omega) | (simp <;> omega)) ?_
         refine aord_light 19 rfl rfl rfl (by kernel_rfl) ?_
         refine aord_light 20 rfl rfl rfl (by kernel_rfl) ?_
         refine aord_all [21] (by kernel_rfl) rfl ?_
         refine aord_done (by kernel_rfl) ?_
         exact ⟨(), trivial, le_of rfl ⟨rfl, rfl, rfl, rfl, rfl⟩ rfl⟩
       refine And.intro ?_ ?_
       ·refine Or.inl ?_
        refine And.intro (rfl) ?_
        refine Exists.intro _ (And.intro (join_c q.blk ⟨#[10]⟩ (Nat.le_trans hb2.blk (by decide)) (Nat.le_trans (join_sz q.blk) (by have := hb2.blk; have := hb2.blb; omega))) ?_)
        refine aord_light 11 rfl rfl rfl (by kernel_rfl) ?_
        refine And.intro (by (have hk0 : ByteArray.size { data := #[10] } = 1 := rfl; first | (unfold maxLen; omega) | (simp only []; omega) | (unfold maxLen; (try simp only []); omega))) ?_
        refine aord_all [4, 15] (by kernel_rfl) rfl ?_
        refine And.intro ?_ ?_
        ·refine aord_all [15] (by kernel_rfl) rfl ?_
         refine aord_all [16] (by kernel_rfl) rfl ?_
         refine aord_all [17] (by kernel_rfl) rfl ?_
         refine aord_all [18] (by kernel_rfl) rfl ?_
         refine And.intro (by first | exact app_le (by first | omega | (simp only [List.length_cons, List.length_nil]; omega) | (simp; omega)) (by decide) | omega | assumption | decide | (simp only [Int.toNat_natCast, dflt_sl, dflt_st, dflt_str, dflt_int, dflt_bool]; omega) | (simp <;> omega)) ?_
         refine aord_light 19 rfl rfl rfl (by kernel_rfl) ?_
         refine aord_light 20 rfl rfl rfl (by kernel_rfl) ?_
         refine aord_all [21] (by kernel_rfl) rfl ?_
         refine aord_done (by kernel_rfl) ?_
         exact ⟨(), trivial, le_of rfl ⟨rfl, rfl, rfl, rfl, rfl⟩ rfl⟩
        ·refine aord_all [4, 16] (by kernel_rfl) rfl ?_
         refine And.intro ?_ ?_
         ·refine aord_all [16] (by kernel_rfl) rfl ?_
          refine aord_all [17] (by kernel_rfl) rfl ?_
          refine aord_all [18] (by kernel_rfl) rfl ?_
          refine And.intro (by first | exact app_le (by first | omega | (simp only [List.length_cons, List.length_nil]; omega) | (simp; omega)) (by decide) | omega | assumption | decide | (simp only [Int.toNat_natCast, dflt_sl, dflt_st, dflt_str, dflt_int, dflt_bool]; omega) | (simp <;> omega)) ?_
          refine aord_light 19 rfl rfl rfl (by kernel_rfl) ?_
          refine aord_light 20 rfl rfl rfl (by kernel_rfl) ?_
          refine aord_all [21] (by kernel_rfl) rfl ?_
          refine aord_done (by kernel_rfl) ?_
          exact ⟨(), trivial, le_of rfl ⟨rfl, rfl, rfl, rfl, rfl⟩ rfl⟩
         ·refine aord_all [4, 17] (by kernel_rfl) rfl ?_
          refine And.intro ?_ ?_
          ·refine aord_all [17] (by kernel_rfl) rfl ?_
           refine aord_all [18] (by kernel_rfl) rfl ?_
           refine And.intro (by first | exact app_le (by first | omega | (simp only [List.length_cons, List.length_nil]; omega) | (simp; omega)) (by decide) | omega | assumption | decide | (simp only [Int.toNat_natCast, dflt_sl, dflt_st, dflt_str, dflt_int, dflt_bool]; omega) | (simp <;> omega)) ?_
           refine aord_light 19 rfl rfl rfl (by kernel_rfl) ?_
           refine aord_light 20 rfl rfl rfl (by kernel_rfl) ?_
           refine aord_all [21] (by kernel_rfl) rfl ?_
           refine aord_done (by kernel_rfl) ?_
           exact ⟨(), trivial, le_of rfl ⟨rfl, rfl, rfl, rfl, rfl⟩ rfl⟩
          ·refine aord_all [4] (by kernel_rfl) rfl ?_
           refine aord_all [18] (by kernel_rfl) rfl ?_
           refine And.intro (by first | exact app_le (by first | omega | (simp only [List.length_cons, List.length_nil]; omega) | (simp; omega)) (by decide) | omega | assumption | decide | (simp only [Int.toNat_natCast, dflt_sl, dflt_st, dflt_str, dflt_int, dflt_bool]; omega) | (simp <;> omega)) ?_
           refine aord_light 19 rfl rfl rfl (by kernel_rfl) ?_
           refine aord_light 20 rfl rfl rfl (by kernel_rfl) ?_
           refine aord_all [21] (by kernel_rfl) rfl ?_
           refine aord_done (by kernel_rfl) ?_
           exact ⟨(), trivial, le_of rfl ⟨rfl, rfl, rfl, rfl, rfl⟩ rfl⟩
       ·refine aord_all [4, 10] (by kernel_rfl) rfl ?_
        refine And.intro ?_ ?_
        ·refine aord_all [10] (by kernel_rfl) rfl ?_
         refine Or.inl ?_
         refine And.intro (rfl) ?_
         refine Exists.intro _ (And.intro (join_c q.blk ⟨#[10]⟩ (Nat.le_trans hb2.blk (by decide)) (Nat.le_trans (join_sz q.blk) (by have := hb2.blk; have := hb2.blb; omega))) ?_)
         refine aord_light 11 rfl rfl rfl (by kernel_rfl) ?_
         refine And.intro (by (have hk0 : ByteArray.size { data := #[10] } = 1 := rfl; first | (unfold maxLen; omega) | (simp only []; omega) | (unfold maxLen; (try simp only []); omega))) ?_
         refine aord_all [16] (by kernel_rfl) rfl ?_
         refine aord_all [17] (by kernel_rfl) rfl ?_
         refine aord_all [18] (by kernel_rfl) rfl ?_
         refine And.intro (by first | exact app_le (by first | omega | (simp only [List.length_cons, List.length_nil]; omega) | (simp; omega)) (by decide) | omega | assumption | decide | (simp only [Int.toNat_natCast, dflt_sl, dflt_st, dflt_str, dflt_int, dflt_bool]; omega) | (simp <;> omega)) ?_
         refine aord_light 19 rfl rfl rfl (by kernel_rfl) ?_
         refine aord_light 20 rfl rfl rfl (by kernel_rfl) ?_
         refine aord_all [21] (by kernel_rfl) rfl ?_
         refine aord_done (by kernel_rfl) ?_
         exact ⟨(), trivial, le_of rfl ⟨rfl, rfl, rfl, rfl, rfl⟩ rfl⟩
        ·refine Or.inl ?_
         refine And.intro (rfl) ?_
         refine Exists.intro _ (And.intro (join_c q.blk ⟨#[10]⟩ (Nat.le_trans hb2.blk (by decide)) (Nat.le_trans (join_sz q.blk) (by have := hb2.blk; have := hb2.blb; omega))) ?_)
         refine aord_light 11 rfl rfl rfl (by kernel_rfl) ?_
         refine And.intro (by (have hk0 : ByteArray.size { data := #[10] } = 1 := rfl; first | (unfold maxLen; omega) | (simp only []; omega) | (unfold maxLen; (try simp only []); omega))) ?_
         refine aord_all [4, 16] (by kernel_rfl) rfl ?_
         refine And.intro ?_ ?_
         ·refine aord_all [16] (by kernel_rfl) rfl ?_
          refine aord_all [17] (by kernel_rfl) rfl ?_
          refine aord_all [18] (by kernel_rfl) rfl ?_
          refine And.intro (by first | exact app_le (by first | omega | (simp only [List.length_cons, List.length_nil]; omega) | (simp; omega)) (by decide) | omega | assumption | decide | (simp only [Int.toNat_natCast, dflt_sl, dflt_st, dflt_str, dflt_int, dflt_bool]; omega) | (simp <;> omega)) ?_
          refine aord_light 19 rfl rfl rfl (by kernel_rfl) ?_
          refine aord_light 20 rfl rfl rfl (by kernel_rfl) ?_
          refine aord_all [21] (by kernel_rfl) rfl ?_
          refine aord_done (by kernel_rfl) ?_
          exact ⟨(), trivial, le_of rfl ⟨rfl, rfl, rfl, rfl, rfl⟩ rfl⟩
         ·refine aord_all [4, 17] (by kernel_rfl) rfl ?_
          refine And.intro ?_ ?_
          ·refine aord_all [17] (by kernel_rfl) rfl ?_
           refine aord_all [18] (by kernel_rfl) rfl ?_
           refine And.intro (by first | exact app_le (by first | omega | (simp only [List.length_cons, List.length_nil]; omega) | (simp; omega)) (by decide) | omega | assumption | decide | (simp only [Int.toNat_natCast, dflt_sl, dflt_st, dflt_str, dflt_int, dflt_bool]; omega) | (simp <;> omega)) ?_
           refine aord_light 19 rfl rfl rfl (by kernel_rfl) ?_
           refine aord_light 20 rfl rfl rfl (by kernel_rfl) ?_
           refine aord_all [21] (by kernel_rfl) rfl ?_
           refine aord_done (by kernel_rfl) ?_
           exact ⟨(), trivial, le_of rfl ⟨rfl, rfl, rfl, rfl, rfl⟩ rfl⟩
          ·refine aord_all [4] (by kernel_rfl) rfl ?_
           refine aord_all [18] (by kernel_rfl) rfl ?_
           refine And.intro (by first | exact app_le (by first | omega | (simp only [List.length_cons, List.length_nil]; omega) | (simp; omega)) (by decide) | omega | assumption | decide | (simp only [Int.toNat_natCast, dflt_sl, dflt_st, dflt_str, dflt_int, dflt_bool]; omega) | (simp <;> omega)) ?_
           refine aord_light 19 rfl rfl rfl (by kernel_rfl) ?_
           refine aord_light 20 rfl rfl rfl (by kernel_rfl) ?_
           refine aord_all [21] (by kernel_rfl) rfl ?_
           refine aord_done (by kernel_rfl) ?_
           exact ⟨(), trivial, le_of rfl ⟨rfl, rfl, rfl, rfl, rfl⟩ rfl⟩
      ·refine aord_all [4, 9] (by kernel_rfl) rfl ?_
       refine And.intro ?_ ?_
       ·refine aord_all [9] (by kernel_rfl) rfl ?_
        refine aord_all [10] (by kernel_rfl) rfl ?_
        refine Or.inl ?_
        refine And.intro (rfl) ?_
        refine Exists.intro _ (And.intro (join_c q.blk ⟨#[10]⟩ (Nat.le_trans hb2.blk (by decide)) (Nat.le_trans (join_sz q.blk) (by have := hb2.blk; have := hb2.blb; omega))) ?_)
        refine aord_light 11 rfl rfl rfl (by kernel_rfl) ?_
        refine And.intro (by (have hk0 : ByteArray.size { data := #[10] } = 1 := rfl; first | (unfold maxLen; omega) | (simp only []; omega) | (unfold maxLen; (try simp only []); omega))) ?_
        refine aord_all [16] (by kernel_rfl) rfl ?_
        refine aord_all [17] (by kernel_rfl) rfl ?_
        refine aord_all [18] (by kernel_rfl) rfl ?_
        refine And.intro (by first | exact app_le (by first | omega | (simp only [List.length_cons, List.length_nil]; omega) | (simp; omega)) (by decide) | omega | assumption | decide | (simp only [Int.toNat_natCast, dflt_sl, dflt_st, dflt_str, dflt_int, dflt_bool]; omega) | (simp <;> omega)) ?_
        refine aord_light 19 rfl rfl rfl (by kernel_rfl) ?_
        refine aord_light 20 rfl rfl rfl (by kernel_rfl) ?_
        refine aord_all [21] (by kernel_rfl) rfl ?_
        refine aord_done (by kernel_rfl) ?_
        exact ⟨(), trivial, le_of rfl ⟨rfl, rfl, rfl, rfl, rfl⟩ rfl⟩
       ·refine aord_all [4, 10] (by kernel_rfl) rfl ?_
        refine And.intro ?_ ?_
        ·refine aord_all [10] (by kernel_rfl) rfl ?_
         refine Or.inl ?_
         refine And.intro (rfl) ?_
         refine Exists.intro _ (And.intro (join_c q.blk ⟨#[10]⟩ (Nat.le_trans hb2.blk (by decide)) (Nat.le_trans (join_sz q.blk) (by have := hb2.blk; have := hb2.blb; omega))) ?_)
         refine aord_light 11 rfl rfl rfl (by kernel_rfl) ?_
         refine And.intro (by (have hk0 : ByteArray.size { data := #[10] } = 1 := rfl; first | (unfold maxLen; omega) | (simp only []; omega) | (unfold maxLen; (try simp only []); omega))) ?_
         refine aord_all [16] (by kernel_rfl) rfl ?_
         refine aord_all [17] (by kernel_rfl) rfl ?_
         refine aord_all [18] (by kernel_rfl) rfl ?_
         refine And.intro (by first | exact app_le (by first | omega | (simp only [List.length_cons, List.length_nil]; omega) | (simp; omega)) (by decide) | omega | assumption | decide | (simp only [Int.toNat_natCast, dflt_sl, dflt_st, dflt_str, dflt_int, dflt_bool]; omega) | (simp <;> omega)) ?_
         refine aord_light 19 rfl rfl rfl (by kernel_rfl) ?_
         refine aord_light 20 rfl rfl rfl (by kernel_rfl) ?_
         refine aord_all [21] (by kernel_rfl) rfl ?_
         refine aord_done (by kernel_rfl) ?_
         exact ⟨(), trivial, le_of rfl ⟨rfl, rfl, rfl, rfl, rfl⟩ rfl⟩
        ·refine Or.inl ?_
         refine And.intro (rfl) ?_
         refine Exists.intro _ (And.intro (join_c q.blk ⟨#[10]⟩ (Nat.le_trans hb2.blk (by decide)) (Nat.le_trans (join_sz q.blk) (by have := hb2.blk; have := hb2.blb; omega))) ?_)
         refine aord_light 11 rfl rfl rfl (by kernel_rfl) ?_
         refine And.intro (by (have hk0 : ByteArray.size { data := #[10] } = 1 := rfl; first | (unfold maxLen; omega) | (simp only []; omega) | (unfold maxLen; (try simp only []); omega))) ?_
         refine aord_all [4, 16] (by kernel_rfl) rfl ?_
         refine And.intro ?_ ?_
         ·refine aord_all [16] (by kernel_rfl) rfl ?_
          refine aord_all [17] (by kernel_rfl) rfl ?_
          refine aord_all [18] (by kernel_rfl) rfl ?_
          refine And.intro (by first | exact app_le (by first | omega | (simp only [List.length_cons, List.length_nil]; omega) | (simp; omega)) (by decide) | omega | assumption | decide | (simp only [Int.toNat_natCast, dflt_sl, dflt_st, dflt_str, dflt_int, dflt_bool]; omega) | (simp <;> omega)) ?_
          refine aord_light 19 rfl rfl rfl (by kernel_rfl) ?_
          refine aord_light 20 rfl rfl rfl (by kernel_rfl) ?_
          refine aord_all [21] (by kernel_rfl) rfl ?_
          refine aord_done (by kernel_rfl) ?_
          exact ⟨(), trivial, le_of rfl ⟨rfl, rfl, rfl, rfl, rfl⟩ rfl⟩
         ·refine aord_all [4, 17] (by kernel_rfl) rfl ?_
          refine And.intro ?_ ?_
          ·refine aord_all [17] (by kernel_rfl) rfl ?_
           refine aord_all [18] (by kernel_rfl) rfl ?_
           refine And.intro (by first | exact app_le (by first | omega | (simp only [List.length_cons, List.length_nil]; omega) | (simp; omega)) (by decide) | omega | assumption | decide | (simp only [Int.toNat_natCast, dflt_sl, dflt_st, dflt_str, dflt_int, dflt_bool]; omega) | (simp <;> omega)) ?_
           refine aord_light 19 rfl rfl rfl (by kernel_rfl) ?_
           refine aord_light 20 rfl rfl rfl (by kernel_rfl) ?_
           refine aord_all [21] (by kernel_rfl) rfl ?_
           refine aord_done (by kernel_rfl) ?_
           exact ⟨(), trivial, le_of rfl ⟨rfl, rfl, rfl, rfl, rfl⟩ rfl⟩
          ·refine aord_all [4] (by kernel_rfl) rfl ?_
           refine aord_all [18] (by kernel_rfl) rfl ?_
           refine And.intro (by first | exact app_le (by first | omega | (simp only [List.length_cons, List.length_nil]; omega) | (simp; omega)) (by decide) | omega | assumption | decide | (simp only [Int.toNat_natCast, dflt_sl, dflt_st, dflt_str, dflt_int, dflt_bool]; omega) | (simp <;> omega)) ?_
           refine aord_light 19 rfl rfl rfl (by kernel_rfl) ?_
           refine aord_light 20 rfl rfl rfl (by kernel_rfl) ?_
           refine aord_all [21] (by kernel_rfl) rfl ?_
           refine aord_done (by kernel_rfl) ?_
           exact ⟨(), trivial, le_of rfl ⟨rfl, rfl, rfl, rfl, rfl⟩ rfl⟩
    ·try simp only [decide_eq_false_iff_not, Int.not_lt] at h15
     try simp only [Int.toNat_natCast, dflt_sl, dflt_st, dflt_str, dflt_int, dflt_bool] at h15
     exact absurd (List.eq_nil_of_length_eq_zero (by omega)) hq
   ·intro u hcut10
    refine acode_seq ?_
    refine acode_region ?_
    refine acode_seq ?_
    refine acode_nilcell 0 4 9 .str rfl rfl rfl ?_
    refine acode_swap 3 5 rfl rfl ?_
    refine acode_nilcell 0 5 57 rFld rfl rfl rfl ?_
    refine acode_swap 4 6 rfl rfl ?_
    refine acode_region ?_
    refine acode_ret ?_
    exact ⟨rfl, ⟨rfl, rfl, rfl, rfl, rfl⟩, rfl⟩
theorem end_ok {p q : PSt} (h : endS p = .inr q) (hb : PB p 1000000) : ACallO Tryd.prog 43 [.one (.own 0 0)] (psO p) 5 (.one (.lit .nilIface)) (psO q) 5 := by
  unfold endS at h
  split at h
  · cases h
  · rename_i r e
    cases h
    have hb2 : PB r 2000000 := (flushS_B hb e).mono (by decide)
    unfold closeS
    split
    · rename_i h0; exact end_nil e h0 hb
    · rename_i h0; exact end_blk e h0 hb hb2
theorem end_err {p : PSt} {at_ n : Int} (h : endS p = .inl (at_, n)) (hb : PB p 1000000) : ACallO Tryd.prog 43 [.one (.own 0 0)] (psO p) 5 (.one (errF at_ n)) [] 5 := by
  have h : flushS p = .inl (at_, n) := by
    unfold endS at h
    split at h
    · rename_i e; cases h; exact e
    · cases h
  refine acallo_of (rs := [2]) Tryd.func43 rfl rfl rfl teOk (by decide) rfl ?_
  refine acode_seq ?_
  refine acode_region ?_
  refine acode_seq ?_
  refine acode_seq ?_
  refine acode_region ?_
  refine Or.inr (Or.inl (Exists.intro [] (Exists.intro [0, 1, 2, 3, 4] (Exists.intro _ (Exists.intro _ (Exists.intro _ (Exists.intro _ (Exists.intro _ (And.intro (flush_err h hb) (And.intro rfl (And.intro (And.intro (And.intro rfl rfl) (And.intro (And.intro rfl rfl) (And.intro (And.intro rfl rfl) (And.intro (And.intro rfl rfl) (And.intro (And.intro rfl rfl) True.intro))))) (And.intro rfl ?_))))))))))))
  refine acode_seq ?_
  refine acode_region ?_
  refine acode_cond rfl (fun h8 => ?_) (fun h8 => ?_)
  ·skip
   refine acode_seq ?_
   refine acode_region ?_
   refine acode_ret ?_
   exact ⟨rfl, trivial, rfl⟩
  ·try simp only [decide_eq_true_eq, decide_eq_false_iff_not, Bool.and_eq_true, Bool.not_eq_true', Bool.not_eq_false', Bool.or_eq_false_iff, Bool.or_eq_true, Bool.and_eq_false_iff, Int.not_lt, Int.not_le] at h8
   try simp only [Int.toNat_natCast, dflt_sl, dflt_st, dflt_str, dflt_int, dflt_bool] at h8
   cases h8
end Q
end Ab
end Go.Proofs.YtlbainbjlibfiaaDoor
namespace Go.Proofs.YtlbainbjlibfiaaDoor
open Go.RowKit
namespace Ab
set_option maxRecDepth 100000
namespace Q
theorem begin_c (p : PSt) (l : Lne) (_hb : PB p 1000000) : ACallO Tryd.prog 55 [.one (.own 0 0), .agg (toL rLne l)] (psO p) 5 (.tup []) (psO (beginS p l)) 5 := by
  refine acallo_of (rs := []) Tryd.func55 rfl rfl rfl teOk (by decide) rfl ?_
  refine acode_seq ?_
  refine acode_region ?_
  refine acode_seq ?_
  refine acode_region ?_
  intro l1_4
  try simp only [Int.toNat_natCast, dflt_sl, dflt_st, dflt_str, dflt_int, dflt_bool] at l1_4
  refine And.intro (fun h => trivial) ?_
  refine And.intro (fun h => ⟨⟨h, trivial⟩, trivial⟩) ?_
  refine And.intro (fun h => ⟨⟨h, trivial⟩, trivial⟩) ?_
  refine And.intro (fun h => ⟨⟨h, trivial⟩, trivial⟩) ?_
  refine And.intro (fun h => ⟨⟨h, trivial⟩, trivial⟩) ?_
  refine And.intro (fun h => ⟨⟨h, trivial⟩, trivial⟩) ?_
  refine And.intro (fun h => ⟨⟨h, trivial⟩, trivial⟩) ?_
  refine And.intro (fun h => trivial) ?_
  refine And.intro (fun h => ⟨⟨h, trivial⟩, trivial⟩) ?_
  refine And.intro (fun h => ⟨⟨h, trivial⟩, trivial⟩) ?_
  refine And.intro (fun h => ⟨⟨h, trivial⟩, trivial⟩) ?_
  refine And.intro (fun h => ⟨⟨h, trivial⟩, trivial⟩) ?_
  refine And.intro (fun h => ⟨⟨⟨h, trivial⟩, trivial⟩, by first | exact fun h2 => h2 | (intro h2; rw [h, h2]; rfl) | (intro h2; cases h2) | (intro h2; simp_all [gq])⟩) ?_
  refine And.intro (by first | (intro h; rw [h]; rfl) | (intro h; cases h)) ?_
  refine acode_mend 1 6 ?_
  refine acode_region ?_
  exact ⟨rfl, rfl, rfl, ⟨rfl, rfl, rfl, rfl, rfl⟩, rfl⟩
theorem ahead_none {p : PSt} (l : Lne) (h : p.lns = []) : ACallO Tryd.prog 53 [.one (.own 0 0), .agg (toL rLne l), ii .i64 3] (psO p) 5 (.one (errF l.1 2)) [] 5 := by
  refine acallo_of (rs := [6]) Tryd.func53 rfl rfl rfl teOk (by decide) rfl ?_
  refine acode_seq ?_
  refine acode_region ?_
  refine acode_seq ?_
  refine acode_seq ?_
  refine acode_region ?_
  refine acode_block ?_
  refine acode_seq ?_
  refine acode_region ?_
  refine acode_cond rfl (fun h8 => ?_) (fun h8 => ?_)
  ·try simp only [decide_eq_true_eq] at h8
   try simp only [Int.toNat_natCast, dflt_sl, dflt_st, dflt_str, dflt_int, dflt_bool] at h8
   refine acode_seq ?_
   refine acode_seq ?_
   refine acode_region ?_
   intro l3_5
   try simp only [Int.toNat_natCast, dflt_sl, dflt_st, dflt_str, dflt_int, dflt_bool] at l3_5
   refine acode_cond rfl (fun h16 => ?_) (fun h16 => ?_)
   ·try simp only [decide_eq_true_eq] at h16
    try simp only [Int.toNat_natCast, dflt_sl, dflt_st, dflt_str, dflt_int, dflt_bool] at h16
    refine acode_seq ?_
    refine acode_region ?_
    refine Or.inl ?_
    refine And.intro (rfl) ?_
    refine Exists.intro _ (And.intro (fault_c l.1 2) ?_)
    refine acode_ret ?_
    exact ⟨rfl, trivial, rfl⟩
   ·try simp only [decide_eq_false_iff_not] at h16
    try simp only [Int.toNat_natCast, dflt_sl, dflt_st, dflt_str, dflt_int, dflt_bool] at h16
    exact absurd (by rw [h]; rfl) h16
  ·try simp only [decide_eq_false_iff_not] at h8
   try simp only [Int.toNat_natCast, dflt_sl, dflt_st, dflt_str, dflt_int, dflt_bool] at h8
   exact absurd trivial h8
theorem ahead_more {p : PSt} {l : Lne} (h : p.lns ≠ []) (he : l.2.2.2 = true) (hb : PB p 1000000) : ACallO Tryd.prog 53 [.one (.own 0 0), .agg (toL rLne l), ii .i64 3] (psO p) 5 (.one (.lit .nilIface)) (psO { p with lns := p.lns ++ [l.2.2.1] }) 5 := by
  have hl := hb.lns
  refine acallo_of (rs := [6]) Tryd.func53 rfl rfl rfl teOk (by decide) rfl ?_
  refine acode_seq ?_
  refine acode_region ?_
  refine acode_seq ?_
  refine acode_seq ?_
  refine acode_region ?_
  refine acode_block ?_
  refine acode_seq ?_
  refine acode_region ?_
  refine acode_cond rfl (fun h8 => ?_) (fun h8 => ?_)
  ·try simp only [decide_eq_true_eq] at h8
   try simp only [Int.toNat_natCast, dflt_sl, dflt_st, dflt_str, dflt_int, dflt_bool] at h8
   refine acode_seq ?_
   refine acode_seq ?_
   refine acode_region ?_
   intro l3_5
   try simp only [Int.toNat_natCast, dflt_sl, dflt_st, dflt_str, dflt_int, dflt_bool] at l3_5
   refine acode_cond rfl (fun h16 => ?_) (fun h16 => ?_)
   ·try simp only [decide_eq_true_eq] at h16
    try simp only [Int.toNat_natCast, dflt_sl, dflt_st, dflt_str, dflt_int, dflt_bool] at h16
    exact absurd (List.eq_nil_of_length_eq_zero (by omega)) h
   ·try simp only [decide_eq_false_iff_not] at h16
    try simp only [Int.toNat_natCast, dflt_sl, dflt_st, dflt_str, dflt_int, dflt_bool] at h16
    refine acode_skip ?_
    refine acode_seq ?_
    refine acode_ord rfl ?_
    refine aord_light 0 rfl rfl rfl (by kernel_rfl) ?_
    refine aord_light 1 rfl rfl rfl (by kernel_rfl) ?_
    refine aord_light 2 rfl rfl rfl (by kernel_rfl) ?_
    refine aord_light 3 rfl rfl rfl (by kernel_rfl) ?_
    refine aord_light 4 rfl rfl rfl (by kernel_rfl) ?_
    refine aord_light 6 rfl rfl rfl (by kernel_rfl) ?_
    refine aord_all [5, 7] (by kernel_rfl) rfl ?_
    refine And.intro ?_ ?_
    ·refine aord_all [7] (by kernel_rfl) rfl ?_
     refine aord_all [8] (by kernel_rfl) rfl ?_
     refine aord_all [9] (by kernel_rfl) rfl ?_
     refine And.intro (by first | exact app_le (by first | omega | (simp only [List.length_cons, List.length_nil]; omega) | (simp; omega)) (by decide) | omega | assumption | decide | (simp only [Int.toNat_natCast, dflt_sl, dflt_st, dflt_str, dflt_int, dflt_bool]; omega) | (simp <;> omega)) ?_
     refine aord_light 10 rfl rfl rfl (by kernel_rfl) ?_
     refine aord_light 11 rfl rfl rfl (by kernel_rfl) ?_
     refine aord_light 12 rfl rfl rfl (by kernel_rfl) ?_
     refine aord_all [13] (by kernel_rfl) rfl ?_
     refine aord_done (by kernel_rfl) ?_
     refine acode_seq ?_
     refine acode_seq ?_
     refine acode_region ?_
     refine acode_cond rfl (fun h35 => ?_) (fun h35 => ?_)
     ·try simp only [decide_eq_true_eq, decide_eq_false_iff_not, Bool.and_eq_true, Bool.not_eq_true', Bool.not_eq_false', Bool.or_eq_false_iff, Bool.or_eq_true, Bool.and_eq_false_iff, Int.not_lt, Int.not_le] at h35
      try simp only [Int.toNat_natCast, dflt_sl, dflt_st, dflt_str, dflt_int, dflt_bool] at h35
      refine acode_seq ?_
      refine acode_region ?_
      refine acode_ret ?_
      exact ⟨rfl, ⟨rfl, rfl, rfl, rfl, rfl⟩, rfl⟩
     ·try simp only [decide_eq_true_eq, decide_eq_false_iff_not, Bool.and_eq_true, Bool.not_eq_true', Bool.not_eq_false', Bool.or_eq_false_iff, Bool.or_eq_true, Bool.and_eq_false_iff, Int.not_lt, Int.not_le] at h35
      try simp only [Int.toNat_natCast, dflt_sl, dflt_st, dflt_str, dflt_int, dflt_bool] at h35
      exact absurd h35 (by rw [he]; decide)
    ·refine aord_all [5, 8] (by kernel_rfl) rfl ?_
     refine And.intro ?_ ?_
     ·refine aord_all [8] (by kernel_rfl) rfl ?_
      refine aord_all [9] (by kernel_rfl) rfl ?_
      refine And.intro (by first | exact app_le (by first | omega | (simp only [List.length_cons, List.length_nil]; omega) | (simp; omega)) (by decide) | omega | assumption | decide | (simp only [Int.toNat_natCast, dflt_sl, dflt_st, dflt_str, dflt_int, dflt_bool]; omega) | (simp <;> omega)) ?_
      refine aord_light 10 rfl rfl rfl (by kernel_rfl) ?_
      refine aord_light 11 rfl rfl rfl (by kernel_rfl) ?_
      refine aord_light 12 rfl rfl rfl (by kernel_rfl) ?_
      refine aord_all [13] (by kernel_rfl) rfl ?_
      refine aord_done (by kernel_rfl) ?_
      refine acode_seq ?_
      refine acode_seq ?_
      refine acode_region ?_
      refine acode_cond rfl (fun h35 => ?_) (fun h35 => ?_)
      ·try simp only [decide_eq_true_eq, decide_eq_false_iff_not, Bool.and_eq_true, Bool.not_eq_true', Bool.not_eq_false', Bool.or_eq_false_iff, Bool.or_eq_true, Bool.and_eq_false_iff, Int.not_lt, Int.not_le] at h35
       try simp only [Int.toNat_natCast, dflt_sl, dflt_st, dflt_str, dflt_int, dflt_bool] at h35
       refine acode_seq ?_
       refine acode_region ?_
       refine acode_ret ?_
       exact ⟨rfl, ⟨rfl, rfl, rfl, rfl, rfl⟩, rfl⟩
      ·try simp only [decide_eq_true_eq, decide_eq_false_iff_not, Bool.and_eq_true, Bool.not_eq_true', Bool.not_eq_false', Bool.or_eq_false_iff, Bool.or_eq_true, Bool.and_eq_false_iff, Int.not_lt, Int.not_le] at h35
       try simp only [Int.toNat_natCast, dflt_sl, dflt_st, dflt_str, dflt_int, dflt_bool] at h35
       exact absurd h35 (by rw [he]; decide)
     ·refine aord_all [5] (by kernel_rfl) rfl ?_
      refine aord_all [9] (by kernel_rfl) rfl ?_
      refine And.intro (by first | exact app_le (by first | omega | (simp only [List.length_cons, List.length_nil]; omega) | (simp; omega)) (by decide) | omega | assumption | decide | (simp only [Int.toNat_natCast, dflt_sl, dflt_st, dflt_str, dflt_int, dflt_bool]; omega) | (simp <;> omega)) ?_
      refine aord_light 10 rfl rfl rfl (by kernel_rfl) ?_
      refine aord_light 11 rfl rfl rfl (by kernel_rfl) ?_
      refine aord_light 12 rfl rfl rfl (by kernel_rfl) ?_
      refine aord_all [13] (by kernel_rfl) rfl ?_
      refine aord_done (by kernel_rfl) ?_
      refine acode_seq ?_
      refine acode_seq ?_
      refine acode_region ?_
      refine acode_cond rfl (fun h35 => ?_) (fun h35 => ?_)
      ·try simp only [decide_eq_true_eq, decide_eq_false_iff_not, Bool.and_eq_true, Bool.not_eq_true', Bool.not_eq_false', Bool.or_eq_false_iff, Bool.or_eq_true, Bool.and_eq_false_iff, Int.not_lt, Int.not_le] at h35
       try simp only [Int.toNat_natCast, dflt_sl, dflt_st, dflt_str, dflt_int, dflt_bool] at h35
       refine acode_seq ?_
       refine acode_region ?_
       refine acode_ret ?_
       exact ⟨rfl, ⟨rfl, rfl, rfl, rfl, rfl⟩, rfl⟩
      ·try simp only [decide_eq_true_eq, decide_eq_false_iff_not, Bool.and_eq_true, Bool.not_eq_true', Bool.not_eq_false', Bool.or_eq_false_iff, Bool.or_eq_true, Bool.and_eq_false_iff, Int.not_lt, Int.not_le] at h35
       try simp only [Int.toNat_natCast, dflt_sl, dflt_st, dflt_str, dflt_int, dflt_bool] at h35
       exact absurd h35 (by rw [he]; decide)
  ·try simp only [decide_eq_false_iff_not] at h8
   try simp only [Int.toNat_natCast, dflt_sl, dflt_st, dflt_str, dflt_int, dflt_bool] at h8
   exact absurd trivial h8
theorem ahead_last {p q : PSt} {l : Lne} (h : p.lns ≠ []) (he : l.2.2.2 = false) (hb : PB p 900000) (hs : l.2.2.1.size ≤ 90000) (hf : flushS { p with lns := p.lns ++ [l.2.2.1] } = .inr q) : ACallO Tryd.prog 53 [.one (.own 0 0), .agg (toL rLne l), ii .i64 3] (psO p) 5 (.one (.lit .nilIface)) (psO q) 5 := by
  have hl := hb.lns
  refine acallo_of (rs := [6]) Tryd.func53 rfl rfl rfl teOk (by decide) rfl ?_
  refine acode_seq ?_
  refine acode_region ?_
  refine acode_seq ?_
  refine acode_seq ?_
  refine acode_region ?_
  refine acode_block ?_
  refine acode_seq ?_
  refine acode_region ?_
  refine acode_cond rfl (fun h8 => ?_) (fun h8 => ?_)
  ·try simp only [decide_eq_true_eq] at h8
   try simp only [Int.toNat_natCast, dflt_sl, dflt_st, dflt_str, dflt_int, dflt_bool] at h8
   refine acode_seq ?_
   refine acode_seq ?_
   refine acode_region ?_
   intro l3_5
   try simp only [Int.toNat_natCast, dflt_sl, dflt_st, dflt_str, dflt_int, dflt_bool] at l3_5
   refine acode_cond rfl (fun h16 => ?_) (fun h16 => ?_)
   ·try simp only [decide_eq_true_eq] at h16
    try simp only [Int.toNat_natCast, dflt_sl, dflt_st, dflt_str, dflt_int, dflt_bool] at h16
    exact absurd (List.eq_nil_of_length_eq_zero (by omega)) h
   ·try simp only [decide_eq_false_iff_not] at h16
    try simp only [Int.toNat_natCast, dflt_sl, dflt_st, dflt_str, dflt_int, dflt_bool] at h16
    refine acode_skip ?_
    refine acode_seq ?_
    refine acode_ord rfl ?_
    refine aord_light 0 rfl rfl rfl (by kernel_rfl) ?_
    refine aord_light 1 rfl rfl rfl (by kernel_rfl) ?_
    refine aord_light 2 rfl rfl rfl (by kernel_rfl) ?_
    refine aord_light 3 rfl rfl rfl (by kernel_rfl) ?_
    refine aord_light 4 rfl rfl rfl (by kernel_rfl) ?_
    refine aord_light 6 rfl rfl rfl (by kernel_rfl) ?_
    refine aord_all [5, 7] (by kernel_rfl) rfl ?_
    refine And.intro ?_ ?_
    ·refine aord_all [7] (by kernel_rfl) rfl ?_
     refine aord_all [8] (by kernel_rfl) rfl ?_
     refine aord_all [9] (by kernel_rfl) rfl ?_
     refine And.intro (by first | exact app_le (by first | omega | (simp only [List.length_cons, List.length_nil]; omega) | (simp; omega)) (by decide) | omega | assumption | decide | (simp only [Int.toNat_natCast, dflt_sl, dflt_st, dflt_str, dflt_int, dflt_bool]; omega) | (simp <;> omega)) ?_
     refine aord_light 10 rfl rfl rfl (by kernel_rfl) ?_
     refine aord_light 11 rfl rfl rfl (by kernel_rfl) ?_
     refine aord_light 12 rfl rfl rfl (by kernel_rfl) ?_
     refine aord_all [13] (by kernel_rfl) rfl ?_
     refine aord_done (by kernel_rfl) ?_
     refine acode_seq ?_
     refine acode_seq ?_
     refine acode_region ?_
     refine acode_cond rfl (fun h35 => ?_) (fun h35 => ?_)
     ·try simp only [decide_eq_true_eq, decide_eq_false_iff_not, Bool.and_eq_true, Bool.not_eq_true', Bool.not_eq_false', Bool.or_eq_false_iff, Bool.or_eq_true, Bool.and_eq_false_iff, Int.not_lt, Int.not_le] at h35
      try simp only [Int.toNat_natCast, dflt_sl, dflt_st, dflt_str, dflt_int, dflt_bool] at h35
      exact absurd h35 (by rw [he]; decide)
     ·try simp only [decide_eq_true_eq, decide_eq_false_iff_not, Bool.and_eq_true, Bool.not_eq_true', Bool.not_eq_false', Bool.or_eq_false_iff, Bool.or_eq_true, Bool.and_eq_false_iff, Int.not_lt, Int.not_le] at h35
      try simp only [Int.toNat_natCast, dflt_sl, dflt_st, dflt_str, dflt_int, dflt_bool] at h35
      refine acode_skip ?_
      refine acode_seq ?_
      refine acode_region ?_
      refine Or.inr (Or.inl (Exists.intro [] (Exists.intro [0, 1, 2, 3, 4] (Exists.intro _ (Exists.intro _ (Exists.intro _ (Exists.intro _ (Exists.intro _ (And.intro (flush_ok hf ((more_B _ hb).mono (by omega))) (And.intro rfl (And.intro (And.intro (And.intro rfl rfl) (And.intro (And.intro rfl rfl) (And.intro (And.intro rfl rfl) (And.intro (And.intro rfl rfl) (And.intro (And.intro rfl rfl) True.intro))))) (And.intro rfl ?_))))))))))))
      refine acode_ret ?_
      exact ⟨rfl, ⟨rfl, rfl, rfl, rfl, rfl⟩, rfl⟩
    ·refine aord_all [5, 8] (by kernel_rfl) rfl ?_
     refine And.intro ?_ ?_
     ·refine aord_all [8] (by kernel_rfl) rfl ?_
      refine aord_all [9] (by kernel_rfl) rfl ?_
      refine And.intro (by first | exact app_le (by first | omega | (simp only [List.length_cons, List.length_nil]; omega) | (simp; omega)) (by decide) | omega | assumption | decide | (simp only [Int.toNat_natCast, dflt_sl, dflt_st, dflt_str, dflt_int, dflt_bool]; omega) | (simp <;> omega)) ?_
      refine aord_light 10 rfl rfl rfl (by kernel_rfl) ?_
      refine aord_light 11 rfl rfl rfl (by kernel_rfl) ?_
      refine aord_light 12 rfl rfl rfl (by kernel_rfl) ?_
      refine aord_all [13] (by kernel_rfl) rfl ?_
      refine aord_done (by kernel_rfl) ?_
      refine acode_seq ?_
      refine acode_seq ?_
      refine acode_region ?_
      refine acode_cond rfl (fun h35 => ?_) (fun h35 => ?_)
      ·try simp only [decide_eq_true_eq, decide_eq_false_iff_not, Bool.and_eq_true, Bool.not_eq_true', Bool.not_eq_false', Bool.or_eq_false_iff, Bool.or_eq_true, Bool.and_eq_false_iff, Int.not_lt, Int.not_le] at h35
       try simp only [Int.toNat_natCast, dflt_sl, dflt_st, dflt_str, dflt_int, dflt_bool] at h35
       exact absurd h35 (by rw [he]; decide)
      ·try simp only [decide_eq_true_eq, decide_eq_false_iff_not, Bool.and_eq_true, Bool.not_eq_true', Bool.not_eq_false', Bool.or_eq_false_iff, Bool.or_eq_true, Bool.and_eq_false_iff, Int.not_lt, Int.not_le] at h35
       try simp only [Int.toNat_natCast, dflt_sl, dflt_st, dflt_str, dflt_int, dflt_bool] at h35
       refine acode_skip ?_
       refine acode_seq ?_
       refine acode_region ?_
       refine Or.inr (Or.inl (Exists.intro [] (Exists.intro [0, 1, 2, 3, 4] (Exists.intro _ (Exists.intro _ (Exists.intro _ (Exists.intro _ (Exists.intro _ (And.intro (flush_ok hf ((more_B _ hb).mono (by omega))) (And.intro rfl (And.intro (And.intro (And.intro rfl rfl) (And.intro (And.intro rfl rfl) (And.intro (And.intro rfl rfl) (And.intro (And.intro rfl rfl) (And.intro (And.intro rfl rfl) True.intro))))) (And.intro rfl ?_))))))))))))
       refine acode_ret ?_
       exact ⟨rfl, ⟨rfl, rfl, rfl, rfl, rfl⟩, rfl⟩
     ·refine aord_all [5] (by kernel_rfl) rfl ?_
      refine aord_all [9] (by kernel_rfl) rfl ?_
      refine And.intro (by first | exact app_le (by first | omega | (simp only [List.length_cons, List.length_nil]; omega) | (simp; omega)) (by decide) | omega | assumption | decide | (simp only [Int.toNat_natCast, dflt_sl, dflt_st, dflt_str, dflt_int, dflt_bool]; omega) | (simp <;> omega)) ?_
      refine aord_light 10 rfl rfl rfl (by kernel_rfl) ?_
      refine aord_light 11 rfl rfl rfl (by kernel_rfl) ?_
      refine aord_light 12 rfl rfl rfl (by kernel_rfl) ?_
      refine aord_all [13] (by kernel_rfl) rfl ?_
      refine aord_done (by kernel_rfl) ?_
      refine acode_seq ?_
      refine acode_seq ?_
      refine acode_region ?_
      refine acode_cond rfl (fun h35 => ?_) (fun h35 => ?_)
      ·try simp only [decide_eq_true_eq, decide_eq_false_iff_not, Bool.and_eq_true, Bool.not_eq_true', Bool.not_eq_false', Bool.or_eq_false_iff, Bool.or_eq_true, Bool.and_eq_false_iff, Int.not_lt, Int.not_le] at h35
       try simp only [Int.toNat_natCast, dflt_sl, dflt_st, dflt_str, dflt_int, dflt_bool] at h35
       exact absurd h35 (by rw [he]; decide)
      ·try simp only [decide_eq_true_eq, decide_eq_false_iff_not, Bool.and_eq_true, Bool.not_eq_true', Bool.not_eq_false', Bool.or_eq_false_iff, Bool.or_eq_true, Bool.and_eq_false_iff, Int.not_lt, Int.not_le] at h35
       try simp only [Int.toNat_natCast, dflt_sl, dflt_st, dflt_str, dflt_int, dflt_bool] at h35
       refine acode_skip ?_
       refine acode_seq ?_
       refine acode_region ?_
       refine Or.inr (Or.inl (Exists.intro [] (Exists.intro [0, 1, 2, 3, 4] (Exists.intro _ (Exists.intro _ (Exists.intro _ (Exists.intro _ (Exists.intro _ (And.intro (flush_ok hf ((more_B _ hb).mono (by omega))) (And.intro rfl (And.intro (And.intro (And.intro rfl rfl) (And.intro (And.intro rfl rfl) (And.intro (And.intro rfl rfl) (And.intro (And.intro rfl rfl) (And.intro (And.intro rfl rfl) True.intro))))) (And.intro rfl ?_))))))))))))
       refine acode_ret ?_
       exact ⟨rfl, ⟨rfl, rfl, rfl, rfl, rfl⟩, rfl⟩
  ·try simp only [decide_eq_false_iff_not] at h8
   try simp only [Int.toNat_natCast, dflt_sl, dflt_st, dflt_str, dflt_int, dflt_bool] at h8
   exact absurd trivial h8
theorem ahead_fail {p : PSt} {l : Lne} {at_ n : Int} (h : p.lns ≠ []) (he : l.2.2.2 = false) (hb : PB p 900000) (hs : l.2.2.1.size ≤ 90000) (hf : flushS { p with lns := p.lns ++ [l.2.2.1] } = .inl (at_, n)) : ACallO Tryd.prog 53 [.one (.own 0 0), .agg (toL rLne l), ii .i64 3] (psO p) 5 (.one (errF at_ n)) [] 5 := by
  have hl := hb.lns
  refine acallo_of (rs := [6]) Tryd.func53 rfl rfl rfl teOk (by decide) rfl ?_
  refine acode_seq ?_
  refine acode_region ?_
  refine acode_seq ?_
  refine acode_seq ?_
  refine acode_region ?_
  refine acode_block ?_
  refine acode_seq ?_
  refine acode_region ?_
  refine acode_cond rfl (fun h8 => ?_) (fun h8 => ?_)
  ·try simp only [decide_eq_true_eq] at h8
   try simp only [Int.toNat_natCast, dflt_sl, dflt_st, dflt_str, dflt_int, dflt_bool] at h8
   refine acode_seq ?_
   refine acode_seq ?_
   refine acode_region ?_
   intro l3_5
   try simp only [Int.toNat_natCast, dflt_sl, dflt_st, dflt_str, dflt_int, dflt_bool] at l3_5
   refine acode_cond rfl (fun h16 => ?_) (fun h16 => ?_)
   ·try simp only [decide_eq_true_eq] at h16
    try simp only [Int.toNat_natCast, dflt_sl, dflt_st, dflt_str, dflt_int, dflt_bool] at h16
    exact absurd (List.eq_nil_of_length_eq_zero (by omega)) h
   ·try simp only [decide_eq_false_iff_not] at h16
    try simp only [Int.toNat_natCast, dflt_sl, dflt_st, dflt_str, dflt_int, dflt_bool] at h16
    refine acode_skip ?_
    refine acode_seq ?_
    refine acode_ord rfl ?_
    refine aord_light 0 rfl rfl rfl (by kernel_rfl) ?_
    refine aord_light 1 rfl rfl rfl (by kernel_rfl) ?_
    refine aord_light 2 rfl rfl rfl (by kernel_rfl) ?_
    refine aord_light 3 rfl rfl rfl (by kernel_rfl) ?_
    refine aord_light 4 rfl rfl rfl (by kernel_rfl) ?_
    refine aord_light 6 rfl rfl rfl (by kernel_rfl) ?_
    refine aord_all [5, 7] (by kernel_rfl) rfl ?_
    refine And.intro ?_ ?_
    ·refine aord_all [7] (by kernel_rfl) rfl ?_
     refine aord_all [8] (by kernel_rfl) rfl ?_
     refine aord_all [9] (by kernel_rfl) rfl ?_
     refine And.intro (by first | exact app_le (by first | omega | (simp only [List.length_cons, List.length_nil]; omega) | (simp; omega)) (by decide) | omega | assumption | decide | (simp only [Int.toNat_natCast, dflt_sl, dflt_st, dflt_str, dflt_int, dflt_bool]; omega) | (simp <;> omega)) ?_
     refine aord_light 10 rfl rfl rfl (by kernel_rfl) ?_
     refine aord_light 11 rfl rfl rfl (by kernel_rfl) ?_
     refine aord_light 12 rfl rfl rfl (by kernel_rfl) ?_
     refine aord_all [13] (by kernel_rfl) rfl ?_
     refine aord_done (by kernel_rfl) ?_
     refine acode_seq ?_
     refine acode_seq ?_
     refine acode_region ?_
     refine acode_cond rfl (fun h35 => ?_) (fun h35 => ?_)
     ·try simp only [decide_eq_true_eq, decide_eq_false_iff_not, Bool.and_eq_true, Bool.not_eq_true', Bool.not_eq_false', Bool.or_eq_false_iff, Bool.or_eq_true, Bool.and_eq_false_iff, Int.not_lt, Int.not_le] at h35
      try simp only [Int.toNat_natCast, dflt_sl, dflt_st, dflt_str, dflt_int, dflt_bool] at h35
      exact absurd h35 (by rw [he]; decide)
     ·try simp only [decide_eq_true_eq, decide_eq_false_iff_not, Bool.and_eq_true, Bool.not_eq_true', Bool.not_eq_false', Bool.or_eq_false_iff, Bool.or_eq_true, Bool.and_eq_false_iff, Int.not_lt, Int.not_le] at h35
      try simp only [Int.toNat_natCast, dflt_sl, dflt_st, dflt_str, dflt_int, dflt_bool] at h35
      refine acode_skip ?_
      refine acode_seq ?_
      refine acode_region ?_
      refine Or.inr (Or.inl (Exists.intro [] (Exists.intro [0, 1, 2, 3, 4] (Exists.intro _ (Exists.intro _ (Exists.intro _ (Exists.intro _ (Exists.intro _ (And.intro (flush_err hf ((more_B _ hb).mono (by omega))) (And.intro rfl (And.intro (And.intro (And.intro rfl rfl) (And.intro (And.intro rfl rfl) (And.intro (And.intro rfl rfl) (And.intro (And.intro rfl rfl) (And.intro (And.intro rfl rfl) True.intro))))) (And.intro rfl ?_))))))))))))
      refine acode_ret ?_
      exact ⟨rfl, trivial, rfl⟩
    ·refine aord_all [5, 8] (by kernel_rfl) rfl ?_
     refine And.intro ?_ ?_
     ·refine aord_all [8] (by kernel_rfl) rfl ?_
      refine aord_all [9] (by kernel_rfl) rfl ?_
      refine And.intro (by first | exact app_le (by first | omega | (simp only [List.length_cons, List.length_nil]; omega) | (simp; omega)) (by decide) | omega | assumption | decide | (simp only [Int.toNat_natCast, dflt_sl, dflt_st, dflt_str, dflt_int, dflt_bool]; omega) | (simp <;> omega)) ?_
      refine aord_light 10 rfl rfl rfl (by kernel_rfl) ?_
      refine aord_light 11 rfl rfl rfl (by kernel_rfl) ?_
      refine aord_light 12 rfl rfl rfl (by kernel_rfl) ?_
      refine aord_all [13] (by kernel_rfl) rfl ?_
      refine aord_done (by kernel_rfl) ?_
      refine acode_seq ?_
      refine acode_seq ?_
      refine acode_region ?_
      refine acode_cond rfl (fun h35 => ?_) (fun h35 => ?_)
      ·try simp only [decide_eq_true_eq, decide_eq_false_iff_not, Bool.and_eq_true, Bool.not_eq_true', Bool.not_eq_false', Bool.or_eq_false_iff, Bool.or_eq_true, Bool.and_eq_false_iff, Int.not_lt, Int.not_le] at h35
       try simp only [Int.toNat_natCast, dflt_sl, dflt_st, dflt_str, dflt_int, dflt_bool] at h35
       exact absurd h35 (by rw [he]; decide)
      ·try simp only [decide_eq_true_eq, decide_eq_false_iff_not, Bool.and_eq_true, Bool.not_eq_true', Bool.not_eq_false', Bool.or_eq_false_iff, Bool.or_eq_true, Bool.and_eq_false_iff, Int.not_lt, Int.not_le] at h35
       try simp only [Int.toNat_natCast, dflt_sl, dflt_st, dflt_str, dflt_int, dflt_bool] at h35
       refine acode_skip ?_
       refine acode_seq ?_
       refine acode_region ?_
       refine Or.inr (Or.inl (Exists.intro [] (Exists.intro [0, 1, 2, 3, 4] (Exists.intro _ (Exists.intro _ (Exists.intro _ (Exists.intro _ (Exists.intro _ (And.intro (flush_err hf ((more_B _ hb).mono (by omega))) (And.intro rfl (And.intro (And.intro (And.intro rfl rfl) (And.intro (And.intro rfl rfl) (And.intro (And.intro rfl rfl) (And.intro (And.intro rfl rfl) (And.intro (And.intro rfl rfl) True.intro))))) (And.intro rfl ?_))))))))))))
       refine acode_ret ?_
       exact ⟨rfl, trivial, rfl⟩
     ·refine aord_all [5] (by kernel_rfl) rfl ?_
      refine aord_all [9] (by kernel_rfl) rfl ?_
      refine And.intro (by first | exact app_le (by first | omega | (simp only [List.length_cons, List.length_nil]; omega) | (simp; omega)) (by decide) | omega | assumption | decide | (simp only [Int.toNat_natCast, dflt_sl, dflt_st, dflt_str, dflt_int, dflt_bool]; omega) | (simp <;> omega)) ?_
      refine aord_light 10 rfl rfl rfl (by kernel_rfl) ?_
      refine aord_light 11 rfl rfl rfl (by kernel_rfl) ?_
      refine aord_light 12 rfl rfl rfl (by kernel_rfl) ?_
      refine aord_all [13] (by kernel_rfl) rfl ?_
      refine aord_done (by kernel_rfl) ?_
      refine acode_seq ?_
      refine acode_seq ?_
      refine acode_region ?_
      refine acode_cond rfl (fun h35 => ?_) (fun h35 => ?_)
      ·try simp only [decide_eq_true_eq, decide_eq_false_iff_not, Bool.and_eq_true, Bool.not_eq_true', Bool.not_eq_false', Bool.or_eq_false_iff, Bool.or_eq_true, Bool.and_eq_false_iff, Int.not_lt, Int.not_le] at h35
       try simp only [Int.toNat_natCast, dflt_sl, dflt_st, dflt_str, dflt_int, dflt_bool] at h35
       exact absurd h35 (by rw [he]; decide)
      ·try simp only [decide_eq_true_eq, decide_eq_false_iff_not, Bool.and_eq_true, Bool.not_eq_true', Bool.not_eq_false', Bool.or_eq_false_iff, Bool.or_eq_true, Bool.and_eq_false_iff, Int.not_lt, Int.not_le] at h35
       try simp only [Int.toNat_natCast, dflt_sl, dflt_st, dflt_str, dflt_int, dflt_bool] at h35
       refine acode_skip ?_
       refine acode_seq ?_
       refine acode_region ?_
       refine Or.inr (Or.inl (Exists.intro [] (Exists.intro [0, 1, 2, 3, 4] (Exists.intro _ (Exists.intro _ (Exists.intro _ (Exists.intro _ (Exists.intro _ (And.intro (flush_err hf ((more_B _ hb).mono (by omega))) (And.intro rfl (And.intro (And.intro (And.intro rfl rfl) (And.intro (And.intro rfl rfl) (And.intro (And.intro rfl rfl) (And.intro (And.intro rfl rfl) (And.intro (And.intro rfl rfl) True.intro))))) (And.intro rfl ?_))))))))))))
       refine acode_ret ?_
       exact ⟨rfl, trivial, rfl⟩
  ·try simp only [decide_eq_false_iff_not] at h8
   try simp only [Int.toNat_natCast, dflt_sl, dflt_st, dflt_str, dflt_int, dflt_bool] at h8
   exact absurd trivial h8
theorem ahead_end {p q : PSt} {l : Lne} (hb : PB p 900000) (hf : endS p = .inr q) : ACallO Tryd.prog 53 [.one (.own 0 0), .agg (toL rLne l), ii .i64 1] (psO p) 5 (.one (.lit .nilIface)) (psO q) 5 := by
  refine acallo_of (rs := [6]) Tryd.func53 rfl rfl rfl teOk (by decide) rfl ?_
  refine acode_seq ?_
  refine acode_region ?_
  refine acode_seq ?_
  refine acode_seq ?_
  refine acode_region ?_
  refine acode_block ?_
  refine acode_seq ?_
  refine acode_region ?_
  refine acode_cond rfl (fun h8 => ?_) (fun h8 => ?_)
  ·try simp only [decide_eq_true_eq] at h8
   try simp only [Int.toNat_natCast, dflt_sl, dflt_st, dflt_str, dflt_int, dflt_bool] at h8
   exact absurd h8 (by decide)
  ·try simp only [decide_eq_false_iff_not] at h8
   try simp only [Int.toNat_natCast, dflt_sl, dflt_st, dflt_str, dflt_int, dflt_bool] at h8
   refine acode_seq ?_
   refine acode_region ?_
   refine acode_cond rfl (fun h38 => ?_) (fun h38 => ?_)
   ·try simp only [decide_eq_true_eq] at h38
    try simp only [Int.toNat_natCast, dflt_sl, dflt_st, dflt_str, dflt_int, dflt_bool] at h38
    refine acode_seq ?_
    refine acode_region ?_
    refine Or.inr (Or.inl (Exists.intro [] (Exists.intro [0, 1, 2, 3, 4] (Exists.intro _ (Exists.intro _ (Exists.intro _ (Exists.intro _ (Exists.intro _ (And.intro (end_ok hf (hb.mono (by decide))) (And.intro rfl (And.intro (And.intro (And.intro rfl rfl) (And.intro (And.intro rfl rfl) (And.intro (And.intro rfl rfl) (And.intro (And.intro rfl rfl) (And.intro (And.intro rfl rfl) True.intro))))) (And.intro rfl ?_))))))))))))
    refine acode_ret ?_
    exact ⟨rfl, ⟨rfl, rfl, rfl, rfl, rfl⟩, rfl⟩
   ·try simp only [decide_eq_false_iff_not] at h38
    try simp only [Int.toNat_natCast, dflt_sl, dflt_st, dflt_str, dflt_int, dflt_bool] at h38
    exact absurd trivial h38
theorem ahead_endf {p : PSt} {l : Lne} {at_ n : Int} (hb : PB p 900000) (hf : endS p = .inl (at_, n)) : ACallO Tryd.prog 53 [.one (.own 0 0), .agg (toL rLne l), ii .i64 1] (psO p) 5 (.one (errF at_ n)) [] 5 := by
  refine acallo_of (rs := [6]) Tryd.func53 rfl rfl rfl teOk (by decide) rfl ?_
  refine acode_seq ?_
  refine acode_region ?_
  refine acode_seq ?_
  refine acode_seq ?_
  refine acode_region ?_
  refine acode_block ?_
  refine acode_seq ?_
  refine acode_region ?_
  refine acode_cond rfl (fun h8 => ?_) (fun h8 => ?_)
  ·try simp only [decide_eq_true_eq] at h8
   try simp only [Int.toNat_natCast, dflt_sl, dflt_st, dflt_str, dflt_int, dflt_bool] at h8
   exact absurd h8 (by decide)
  ·try simp only [decide_eq_false_iff_not] at h8
   try simp only [Int.toNat_natCast, dflt_sl, dflt_st, dflt_str, dflt_int, dflt_bool] at h8
   refine acode_seq ?_
   refine acode_region ?_
   refine acode_cond rfl (fun h38 => ?_) (fun h38 => ?_)
   ·try simp only [decide_eq_true_eq] at h38
    try simp only [Int.toNat_natCast, dflt_sl, dflt_st, dflt_str, dflt_int, dflt_bool] at h38
    refine acode_seq ?_
    refine acode_region ?_
    refine Or.inr (Or.inl (Exists.intro [] (Exists.intro [0, 1, 2, 3, 4] (Exists.intro _ (Exists.intro _ (Exists.intro _ (Exists.intro _ (Exists.intro _ (And.intro (end_err hf (hb.mono (by decide))) (And.intro rfl (And.intro (And.intro (And.intro rfl rfl) (And.intro (And.intro rfl rfl) (And.intro (And.intro rfl rfl) (And.intro (And.intro rfl rfl) (And.intro (And.intro rfl rfl) True.intro))))) (And.intro rfl ?_))))))))))))
    refine acode_ret ?_
    exact ⟨rfl, trivial, rfl⟩
   ·try simp only [decide_eq_false_iff_not] at h38
    try simp only [Int.toNat_natCast, dflt_sl, dflt_st, dflt_str, dflt_int, dflt_bool] at h38
    exact absurd trivial h38
theorem ahead_flush {p q : PSt} {l : Lne} {k : Int} (h3 : k ≠ 3) (h1 : k ≠ 1) (hb : PB p 900000) (hf : flushS p = .inr q) : ACallO Tryd.prog 53 [.one (.own 0 0), .agg (toL rLne l), ii .i64 k] (psO p) 5 (.one (.lit .nilIface)) (psO q) 5 := by
  refine acallo_of (rs := [6]) Tryd.func53 rfl rfl rfl teOk (by decide) rfl ?_
  refine acode_seq ?_
  refine acode_region ?_
  refine acode_seq ?_
  refine acode_seq ?_
  refine acode_region ?_
  refine acode_block ?_
  refine acode_seq ?_
  refine acode_region ?_
  refine acode_cond rfl (fun h8 => ?_) (fun h8 => ?_)
  ·try simp only [decide_eq_true_eq] at h8
   try simp only [Int.toNat_natCast, dflt_sl, dflt_st, dflt_str, dflt_int, dflt_bool] at h8
   exact absurd h8 h3
  ·try simp only [decide_eq_false_iff_not] at h8
   try simp only [Int.toNat_natCast, dflt_sl, dflt_st, dflt_str, dflt_int, dflt_bool] at h8
   refine acode_seq ?_
   refine acode_region ?_
   refine acode_cond rfl (fun h38 => ?_) (fun h38 => ?_)
   ·try simp only [decide_eq_true_eq] at h38
    try simp only [Int.toNat_natCast, dflt_sl, dflt_st, dflt_str, dflt_int, dflt_bool] at h38
    exact absurd h38 h1
   ·try simp only [decide_eq_false_iff_not] at h38
    try simp only [Int.toNat_natCast, dflt_sl, dflt_st, dflt_str, dflt_int, dflt_bool] at h38
    refine acode_skip ?_
    refine acode_seq ?_
    refine acode_region ?_
    refine Or.inr (Or.inl (Exists.intro [] (Exists.intro [0, 1, 2, 3, 4] (Exists.intro _ (Exists.intro _ (Exists.intro _ (Exists.intro _ (Exists.intro _ (And.intro (flush_ok hf (hb.mono (by decide))) (And.intro rfl (And.intro (And.intro (And.intro rfl rfl) (And.intro (And.intro rfl rfl) (And.intro (And.intro rfl rfl) (And.intro (And.intro rfl rfl) (And.intro (And.intro rfl rfl) True.intro))))) (And.intro rfl ?_))))))))))))
    refine acode_ret ?_
    exact ⟨rfl, ⟨rfl, rfl, rfl, rfl, rfl⟩, rfl⟩
theorem ahead_flushf {p : PSt} {l : Lne} {k at_ n : Int} (h3 : k ≠ 3) (h1 : k ≠ 1) (hb : PB p 900000) (hf : flushS p = .inl (at_, n)) : ACallO Tryd.prog 53 [.one (.own 0 0), .agg (toL rLne l), ii .i64 k] (psO p) 5 (.one (errF at_ n)) [] 5 := by
  refine acallo_of (rs := [6]) Tryd.func53 rfl rfl rfl teOk (by decide) rfl ?_
  refine acode_seq ?_
  refine acode_region ?_
  refine acode_seq ?_
  refine acode_seq ?_
  refine acode_region ?_
  refine acode_block ?_
  refine acode_seq ?_
  refine acode_region ?_
  refine acode_cond rfl (fun h8 => ?_) (fun h8 => ?_)
  ·try simp only [decide_eq_true_eq] at h8
   try simp only [Int.toNat_natCast, dflt_sl, dflt_st, dflt_str, dflt_int, dflt_bool] at h8
   exact absurd h8 h3
  ·try simp only [decide_eq_false_iff_not] at h8
   try simp only [Int.toNat_natCast, dflt_sl, dflt_st, dflt_str, dflt_int, dflt_bool] at h8
   refine acode_seq ?_
   refine acode_region ?_
   refine acode_cond rfl (fun h38 => ?_) (fun h38 => ?_)
   ·try simp only [decide_eq_true_eq] at h38
    try simp only [Int.toNat_natCast, dflt_sl, dflt_st, dflt_str, dflt_int, dflt_bool] at h38
    exact absurd h38 h1
   ·try simp only [decide_eq_false_iff_not] at h38
    try simp only [Int.toNat_natCast, dflt_sl, dflt_st, dflt_str, dflt_int, dflt_bool] at h38
    refine acode_skip ?_
    refine acode_seq ?_
    refine acode_region ?_
    refine Or.inr (Or.inl (Exists.intro [] (Exists.intro [0, 1, 2, 3, 4] (Exists.intro _ (Exists.intro _ (Exists.intro _ (Exists.intro _ (Exists.intro _ (And.intro (flush_err hf (hb.mono (by decide))) (And.intro rfl (And.intro (And.intro (And.intro rfl rfl) (And.intro (And.intro rfl rfl) (And.intro (And.intro rfl rfl) (And.intro (And.intro rfl rfl) (And.intro (And.intro rfl rfl) True.intro))))) (And.intro rfl ?_))))))))))))
    refine acode_ret ?_
    exact ⟨rfl, trivial, rfl⟩
theorem ahead_ok {p q : PSt} {l : Lne} {k : Int} (h : aheadS p l k = .inr q) (hb : PB p 900000) (hs : l.2.2.1.size ≤ 90000) : ACallO Tryd.prog 53 [.one (.own 0 0), .agg (toL rLne l), ii .i64 k] (psO p) 5 (.one (.lit .nilIface)) (psO q) 5 := by
  unfold aheadS at h
  split at h
  · rename_i e
    subst e
    split at h
    · cases h
    · rename_i h0
      split at h
      · rename_i he; cases h; exact ahead_more h0 he (hb.mono (by decide))
      · rename_i he; exact ahead_last h0 (by simpa using he) hb hs h
  · rename_i h3
    split at h
    · rename_i e; subst e; exact ahead_end hb h
    · rename_i h1; exact ahead_flush h3 h1 hb h
theorem ahead_err {p : PSt} {l : Lne} {k at_ n : Int} (h : aheadS p l k = .inl (at_, n)) (hb : PB p 900000) (hs : l.2.2.1.size ≤ 90000) : ACallO Tryd.prog 53 [.one (.own 0 0), .agg (toL rLne l), ii .i64 k] (psO p) 5 (.one (errF at_ n)) [] 5 := by
  unfold aheadS at h
  split at h
  · rename_i e
    subst e
    split at h
    · rename_i h0; cases h; exact ahead_none l h0
    · rename_i h0
      split at h
      · cases h
      · rename_i he; exact ahead_fail h0 (by simpa using he) hb hs h
  · rename_i h3
    split at h
    · rename_i e; subst e; exact ahead_endf hb h
    · rename_i h1; exact ahead_flushf h3 h1 hb h
theorem take_err1 {p : PSt} {l : Lne} {at_ n : Int} (h : aheadS p l (kindL (ls l.2.2.1)) = .inl (at_, n)) (hb : PB p 900000) (hs : l.2.2.1.size ≤ 90000) : ACallO Tryd.prog 42 [.one (.own 0 0), .agg (toL rLne l)] (psO p) 5 (.one (errF at_ n)) [] 5 := by
  refine acallo_of (rs := [4]) Tryd.func42 rfl rfl rfl teOk (by decide) rfl ?_
  refine acode_seq ?_
  refine acode_region ?_
  refine acode_seq ?_
  refine acode_region ?_
  refine Or.inl ?_
  refine And.intro (rfl) ?_
  refine Exists.intro _ (And.intro (kind_c l.2.2.1 (Nat.le_trans hs (by decide))) ?_)
  refine acode_seq ?_
  refine acode_seq ?_
  refine acode_region ?_
  refine Or.inr (Or.inl (Exists.intro [] (Exists.intro [0, 1, 2, 3, 4] (Exists.intro _ (Exists.intro _ (Exists.intro _ (Exists.intro _ (Exists.intro _ (And.intro (ahead_err h hb hs) (And.intro rfl (And.intro (And.intro (And.intro rfl rfl) (And.intro (And.intro rfl rfl) (And.intro (And.intro rfl rfl) (And.intro (And.intro rfl rfl) (And.intro (And.intro rfl rfl) True.intro))))) (And.intro rfl ?_))))))))))))
  refine acode_seq ?_
  refine acode_region ?_
  refine acode_cond rfl (fun h15 => ?_) (fun h15 => ?_)
  ·skip
   refine acode_seq ?_
   refine acode_region ?_
   refine acode_ret ?_
   exact ⟨rfl, trivial, rfl⟩
  ·try simp only [decide_eq_true_eq, decide_eq_false_iff_not, Bool.and_eq_true, Bool.not_eq_true', Bool.not_eq_false', Bool.or_eq_false_iff, Bool.or_eq_true, Bool.and_eq_false_iff, Int.not_lt, Int.not_le] at h15
   try simp only [Int.toNat_natCast, dflt_sl, dflt_st, dflt_str, dflt_int, dflt_bool] at h15
   cases h15
theorem take_odd {p q : PSt} {l : Lne} (h : aheadS p l (kindL (ls l.2.2.1)) = .inr q) (hk : kindL (ls l.2.2.1) = 5 ∨ l.2.2.2 = false) (hb : PB p 900000) (hs : l.2.2.1.size ≤ 90000) : ACallO Tryd.prog 42 [.one (.own 0 0), .agg (toL rLne l)] (psO p) 5 (.one (errF l.1 2)) [] 5 := by
  refine acallo_of (rs := [4]) Tryd.func42 rfl rfl rfl teOk (by decide) rfl ?_
  refine acode_seq ?_
  refine acode_region ?_
  refine acode_seq ?_
  refine acode_region ?_
  refine Or.inl ?_
  refine And.intro (rfl) ?_
  refine Exists.intro _ (And.intro (kind_c l.2.2.1 (Nat.le_trans hs (by decide))) ?_)
  refine acode_seq ?_
  refine acode_seq ?_
  refine acode_region ?_
  refine Or.inr (Or.inl (Exists.intro [] (Exists.intro [0, 1, 2, 3, 4] (Exists.intro _ (Exists.intro _ (Exists.intro _ (Exists.intro _ (Exists.intro _ (And.intro (ahead_ok h hb hs) (And.intro rfl (And.intro (And.intro (And.intro rfl rfl) (And.intro (And.intro rfl rfl) (And.intro (And.intro rfl rfl) (And.intro (And.intro rfl rfl) (And.intro (And.intro rfl rfl) True.intro))))) (And.intro rfl ?_))))))))))))
  refine acode_seq ?_
  refine acode_region ?_
  refine acode_cond rfl (fun h15 => ?_) (fun h15 => ?_)
  ·try simp only [Bool.not_eq_true'] at h15
   try simp only [Int.toNat_natCast, dflt_sl, dflt_st, dflt_str, dflt_int, dflt_bool] at h15
   cases h15
  ·try simp only [Bool.not_eq_false'] at h15
   try simp only [Int.toNat_natCast, dflt_sl, dflt_st, dflt_str, dflt_int, dflt_bool] at h15
   refine acode_skip ?_
   refine acode_seq ?_
   refine acode_block ?_
   refine acode_seq ?_
   refine acode_region ?_
   refine And.intro (fun h => trivial) ?_
   refine And.intro (fun h => ⟨⟨h, trivial⟩, trivial⟩) ?_
   refine And.intro (fun h => ⟨⟨h, trivial⟩, trivial⟩) ?_
   refine And.intro (by first | (intro h; rw [h]; rfl) | (intro h; cases h)) ?_
   refine acode_cond rfl (fun h17 => ?_) (fun h17 => ?_)
   ·try simp only [decide_eq_true_eq, Bool.not_eq_true', Bool.or_eq_true] at h17
    try simp only [Int.toNat_natCast, dflt_sl, dflt_st, dflt_str, dflt_int, dflt_bool] at h17
    refine acode_seq ?_
    refine acode_region ?_
    refine Or.inl ?_
    refine And.intro (rfl) ?_
    refine Exists.intro _ (And.intro (fault_c l.1 2) ?_)
    refine acode_ret ?_
    exact ⟨rfl, trivial, rfl⟩
   ·try simp only [decide_eq_false_iff_not, Bool.not_eq_false', Bool.or_eq_false_iff] at h17
    try simp only [Int.toNat_natCast, dflt_sl, dflt_st, dflt_str, dflt_int, dflt_bool] at h17
    exact absurd h17 (by rcases hk with hk | hk <;> simp [hk])
theorem take_blank {p q : PSt} {l : Lne} (h : aheadS p l (kindL (ls l.2.2.1)) = .inr q) (hk : kindL (ls l.2.2.1) = 1) (he : l.2.2.2 = true) (hb : PB p 900000) (hq : PB q 2000000) (hs : l.2.2.1.size ≤ 90000) : ACallO Tryd.prog 42 [.one (.own 0 0), .agg (toL rLne l)] (psO p) 5 (.one (.lit .nilIface)) (psO { q with its := q.its ++ [(1, l.2.2.1 ++ ⟨#[10]⟩, [])] }) 5 := by
  have hi := hq.its
  refine acallo_of (rs := [4]) Tryd.func42 rfl rfl rfl teOk (by decide) rfl ?_
  refine acode_seq ?_
  refine acode_region ?_
  refine acode_seq ?_
  refine acode_region ?_
  refine Or.inl ?_
  refine And.intro (rfl) ?_
  refine Exists.intro _ (And.intro (kind_c l.2.2.1 (Nat.le_trans hs (by decide))) ?_)
  refine acode_seq ?_
  refine acode_seq ?_
  refine acode_region ?_
  refine Or.inr (Or.inl (Exists.intro [] (Exists.intro [0, 1, 2, 3, 4] (Exists.intro _ (Exists.intro _ (Exists.intro _ (Exists.intro _ (Exists.intro _ (And.intro (ahead_ok h hb hs) (And.intro rfl (And.intro (And.intro (And.intro rfl rfl) (And.intro (And.intro rfl rfl) (And.intro (And.intro rfl rfl) (And.intro (And.intro rfl rfl) (And.intro (And.intro rfl rfl) True.intro))))) (And.intro rfl ?_))))))))))))
  refine acode_seq ?_
  refine acode_region ?_
  refine acode_cond rfl (fun h15 => ?_) (fun h15 => ?_)
  ·try simp only [Bool.not_eq_true'] at h15
   try simp only [Int.toNat_natCast, dflt_sl, dflt_st, dflt_str, dflt_int, dflt_bool] at h15
   cases h15
  ·try simp only [Bool.not_eq_false'] at h15
   try simp only [Int.toNat_natCast, dflt_sl, dflt_st, dflt_str, dflt_int, dflt_bool] at h15
   refine acode_skip ?_
   refine acode_seq ?_
   refine acode_block ?_
   refine acode_seq ?_
   refine acode_region ?_
   refine And.intro (fun h => trivial) ?_
   refine And.intro (fun h => ⟨⟨h, trivial⟩, trivial⟩) ?_
   refine And.intro (fun h => ⟨⟨h, trivial⟩, trivial⟩) ?_
   refine And.intro (by first | (intro h; rw [h]; rfl) | (intro h; cases h)) ?_
   refine acode_cond rfl (fun h17 => ?_) (fun h17 => ?_)
   ·try simp only [decide_eq_true_eq, Bool.not_eq_true', Bool.or_eq_true] at h17
    try simp only [Int.toNat_natCast, dflt_sl, dflt_st, dflt_str, dflt_int, dflt_bool] at h17
    exact absurd h17 (by simp [hk, he])
   ·try simp only [decide_eq_false_iff_not, Bool.not_eq_false', Bool.or_eq_false_iff] at h17
    try simp only [Int.toNat_natCast, dflt_sl, dflt_st, dflt_str, dflt_int, dflt_bool] at h17
    refine acode_seq ?_
    refine acode_region ?_
    refine acode_cond rfl (fun h29 => ?_) (fun h29 => ?_)
    ·try simp only [decide_eq_true_eq] at h29
     try simp only [Int.toNat_natCast, dflt_sl, dflt_st, dflt_str, dflt_int, dflt_bool] at h29
     refine acode_seq ?_
     refine acode_ord rfl ?_
     refine aord_light 0 rfl rfl rfl (by kernel_rfl) ?_
     refine aord_light 1 rfl rfl rfl (by kernel_rfl) ?_
     refine aord_light 2 rfl rfl rfl (by kernel_rfl) ?_
     refine aord_light 3 rfl rfl rfl (by kernel_rfl) ?_
     refine aord_light 5 rfl rfl rfl (by kernel_rfl) ?_
     refine aord_all [4, 6] (by kernel_rfl) rfl ?_
     refine And.intro ?_ ?_
     ·refine aord_all [6] (by kernel_rfl) rfl ?_
      refine aord_light 7 rfl rfl rfl (by kernel_rfl) ?_
      refine And.intro (by (have hk0 : ByteArray.size { data := #[10] } = 1 := rfl; first | (unfold maxLen; omega) | (simp only [ByteArray.size_append]; omega) | (unfold maxLen; (try simp only [ByteArray.size_append]); omega))) ?_
      refine aord_all [8] (by kernel_rfl) rfl ?_
      refine aord_all [9] (by kernel_rfl) rfl ?_
      refine aord_all [10] (by kernel_rfl) rfl ?_
      refine And.intro (by first | exact app_le (by first | omega | (simp only [List.length_cons, List.length_nil]; omega) | (simp; omega)) (by decide) | omega | assumption | decide | (simp only [Int.toNat_natCast, dflt_sl, dflt_st, dflt_str, dflt_int, dflt_bool]; omega) | (simp <;> omega)) ?_
      refine aord_light 11 rfl rfl rfl (by kernel_rfl) ?_
      refine aord_light 12 rfl rfl rfl (by kernel_rfl) ?_
      refine aord_all [13] (by kernel_rfl) rfl ?_
      refine aord_done (by kernel_rfl) ?_
      refine acode_seq ?_
      refine acode_region ?_
      refine acode_ret ?_
      exact ⟨rfl, ⟨rfl, rfl, rfl, rfl, rfl⟩, rfl⟩
     ·refine aord_light 7 rfl rfl rfl (by kernel_rfl) ?_
      refine And.intro (by (have hk0 : ByteArray.size { data := #[10] } = 1 := rfl; first | (unfold maxLen; omega) | (simp only [ByteArray.size_append]; omega) | (unfold maxLen; (try simp only [ByteArray.size_append]); omega))) ?_
      refine aord_all [4, 8] (by kernel_rfl) rfl ?_
      refine And.intro ?_ ?_
      ·refine aord_all [8] (by kernel_rfl) rfl ?_
       refine aord_all [9] (by kernel_rfl) rfl ?_
       refine aord_all [10] (by kernel_rfl) rfl ?_
       refine And.intro (by first | exact app_le (by first | omega | (simp only [List.length_cons, List.length_nil]; omega) | (simp; omega)) (by decide) | omega | assumption | decide | (simp only [Int.toNat_natCast, dflt_sl, dflt_st, dflt_str, dflt_int, dflt_bool]; omega) | (simp <;> omega)) ?_
       refine aord_light 11 rfl rfl rfl (by kernel_rfl) ?_
       refine aord_light 12 rfl rfl rfl (by kernel_rfl) ?_
       refine aord_all [13] (by kernel_rfl) rfl ?_
       refine aord_done (by kernel_rfl) ?_
       refine acode_seq ?_
       refine acode_region ?_
       refine acode_ret ?_
       exact ⟨rfl, ⟨rfl, rfl, rfl, rfl, rfl⟩, rfl⟩
      ·refine aord_all [4, 9] (by kernel_rfl) rfl ?_
       refine And.intro ?_ ?_
       ·refine aord_all [9] (by kernel_rfl) rfl ?_
        refine aord_all [10] (by kernel_rfl) rfl ?_
        refine And.intro (by first | exact app_le (by first | omega | (simp only [List.length_cons, List.length_nil]; omega) | (simp; omega)) (by decide) | omega | assumption | decide | (simp only [Int.toNat_natCast, dflt_sl, dflt_st, dflt_str, dflt_int, dflt_bool]; omega) | (simp <;> omega)) ?_
        refine aord_light 11 rfl rfl rfl (by kernel_rfl) ?_
        refine aord_light 12 rfl rfl rfl (by kernel_rfl) ?_
        refine aord_all [13] (by kernel_rfl) rfl ?_
        refine aord_done (by kernel_rfl) ?_
        refine acode_seq ?_
        refine acode_region ?_
        refine acode_ret ?_
        exact ⟨rfl, ⟨rfl, rfl, rfl, rfl, rfl⟩, rfl⟩
       ·refine aord_all [4] (by kernel_rfl) rfl ?_
        refine aord_all [10] (by kernel_rfl) rfl ?_
        refine And.intro (by first | exact app_le (by first | omega | (simp only [List.length_cons, List.length_nil]; omega) | (simp; omega)) (by decide) | omega | assumption | decide | (simp only [Int.toNat_natCast, dflt_sl, dflt_st, dflt_str, dflt_int, dflt_bool]; omega) | (simp <;> omega)) ?_
        refine aord_light 11 rfl rfl rfl (by kernel_rfl) ?_
        refine aord_light 12 rfl rfl rfl (by kernel_rfl) ?_
        refine aord_all [13] (by kernel_rfl) rfl ?_
        refine aord_done (by kernel_rfl) ?_
        refine acode_seq ?_
        refine acode_region ?_
        refine acode_ret ?_
        exact ⟨rfl, ⟨rfl, rfl, rfl, rfl, rfl⟩, rfl⟩
    ·try simp only [decide_eq_false_iff_not] at h29
     try simp only [Int.toNat_natCast, dflt_sl, dflt_st, dflt_str, dflt_int, dflt_bool] at h29
     exact absurd hk h29
theorem take_pair {p q : PSt} {l : Lne} (h : aheadS p l (kindL (ls l.2.2.1)) = .inr q) (hk : kindL (ls l.2.2.1) = 4) (he : l.2.2.2 = true) (hb : PB p 900000) (hq : PB q 1000000) (hs : l.2.2.1.size ≤ 90000) : ACallO Tryd.prog 42 [.one (.own 0 0), .agg (toL rLne l)] (psO p) 5 (.one (.lit .nilIface)) (psO { beginS q l with blk := q.blk ++ [l.2.2.1] }) 5 := by
  have hi : (beginS q l).blk.length ≤ 1000000 := hq.blk
  refine acallo_of (rs := [4]) Tryd.func42 rfl rfl rfl teOk (by decide) rfl ?_
  refine acode_seq ?_
  refine acode_region ?_
  refine acode_seq ?_
  refine acode_region ?_
  refine Or.inl ?_
  refine And.intro (rfl) ?_
  refine Exists.intro _ (And.intro (kind_c l.2.2.1 (Nat.le_trans hs (by decide))) ?_)
  refine acode_seq ?_
  refine acode_seq ?_
  refine acode_region ?_
  refine Or.inr (Or.inl (Exists.intro [] (Exists.intro [0, 1, 2, 3, 4] (Exists.intro _ (Exists.intro _ (Exists.intro _ (Exists.intro _ (Exists.intro _ (And.intro (ahead_ok h hb hs) (And.intro rfl (And.intro (And.intro (And.intro rfl rfl) (And.intro (And.intro rfl rfl) (And.intro (And.intro rfl rfl) (And.intro (And.intro rfl rfl) (And.intro (And.intro rfl rfl) True.intro))))) (And.intro rfl ?_))))))))))))
  refine acode_seq ?_
  refine acode_region ?_
  refine acode_cond rfl (fun h15 => ?_) (fun h15 => ?_)
  ·try simp only [Bool.not_eq_true'] at h15
   try simp only [Int.toNat_natCast, dflt_sl, dflt_st, dflt_str, dflt_int, dflt_bool] at h15
   cases h15
  ·try simp only [Bool.not_eq_false'] at h15
   try simp only [Int.toNat_natCast, dflt_sl, dflt_st, dflt_str, dflt_int, dflt_bool] at h15
   refine acode_skip ?_
   refine acode_seq ?_
   refine acode_block ?_
   refine acode_seq ?_
   refine acode_region ?_
   refine And.intro (fun h => trivial) ?_
   refine And.intro (fun h => ⟨⟨h, trivial⟩, trivial⟩) ?_
   refine And.intro (fun h => ⟨⟨h, trivial⟩, trivial⟩) ?_
   refine And.intro (by first | (intro h; rw [h]; rfl) | (intro h; cases h)) ?_
   refine acode_cond rfl (fun h17 => ?_) (fun h17 => ?_)
   ·try simp only [decide_eq_true_eq, Bool.not_eq_true', Bool.or_eq_true] at h17
    try simp only [Int.toNat_natCast, dflt_sl, dflt_st, dflt_str, dflt_int, dflt_bool] at h17
    exact absurd h17 (by simp [hk, he])
   ·try simp only [decide_eq_false_iff_not, Bool.not_eq_false', Bool.or_eq_false_iff] at h17
    try simp only [Int.toNat_natCast, dflt_sl, dflt_st, dflt_str, dflt_int, dflt_bool] at h17
    refine acode_seq ?_
    refine acode_region ?_
    refine acode_cond rfl (fun h29 => ?_) (fun h29 => ?_)
    ·try simp only [decide_eq_true_eq] at h29
     try simp only [Int.toNat_natCast, dflt_sl, dflt_st, dflt_str, dflt_int, dflt_bool] at h29
     exact absurd h29 (by rw [hk]; decide)
    ·try simp only [decide_eq_false_iff_not] at h29
     try simp only [Int.toNat_natCast, dflt_sl, dflt_st, dflt_str, dflt_int, dflt_bool] at h29
     refine acode_seq ?_
     refine acode_region ?_
     refine acode_cond rfl (fun h45 => ?_) (fun h45 => ?_)
     ·try simp only [decide_eq_true_eq] at h45
      try simp only [Int.toNat_natCast, dflt_sl, dflt_st, dflt_str, dflt_int, dflt_bool] at h45
      refine acode_region ?_
      refine Or.inr (Or.inl (Exists.intro [] (Exists.intro [0, 1, 2, 3, 4] (Exists.intro _ (Exists.intro _ (Exists.intro _ (Exists.intro _ (Exists.intro _ (And.intro (begin_c q l hq) (And.intro rfl (And.intro (And.intro (And.intro rfl rfl) (And.intro (And.intro rfl rfl) (And.intro (And.intro rfl rfl) (And.intro (And.intro rfl rfl) (And.intro (And.intro rfl rfl) True.intro))))) (And.intro rfl ?_))))))))))))
      refine acode_seq ?_
      refine acode_ord rfl ?_
      refine aord_light 0 rfl rfl rfl (by kernel_rfl) ?_
      refine aord_light 1 rfl rfl rfl (by kernel_rfl) ?_
      refine aord_light 2 rfl rfl rfl (by kernel_rfl) ?_
      refine aord_light 3 rfl rfl rfl (by kernel_rfl) ?_
      refine aord_light 5 rfl rfl rfl (by kernel_rfl) ?_
      refine aord_all [4, 6] (by kernel_rfl) rfl ?_
      refine And.intro ?_ ?_
      ·refine aord_all [6] (by kernel_rfl) rfl ?_
       refine aord_all [7] (by kernel_rfl) rfl ?_
       refine aord_all [8] (by kernel_rfl) rfl ?_
       refine And.intro (by first | exact app_le (by first | omega | (simp only [List.length_cons, List.length_nil]; omega) | (simp; omega)) (by decide) | omega | assumption | decide | (simp only [Int.toNat_natCast, dflt_sl, dflt_st, dflt_str, dflt_int, dflt_bool]; omega) | (simp <;> omega)) ?_
       refine aord_light 9 rfl rfl rfl (by kernel_rfl) ?_
       refine aord_light 10 rfl rfl rfl (by kernel_rfl) ?_
       refine aord_all [11] (by kernel_rfl) rfl ?_
       refine aord_done (by kernel_rfl) ?_
       refine acode_seq ?_
       refine acode_region ?_
       refine acode_ret ?_
       exact ⟨rfl, ⟨rfl, rfl, rfl, rfl, rfl⟩, rfl⟩
      ·refine aord_all [4, 7] (by kernel_rfl) rfl ?_
       refine And.intro ?_ ?_
       ·refine aord_all [7] (by kernel_rfl) rfl ?_
        refine aord_all [8] (by kernel_rfl) rfl ?_
        refine And.intro (by first | exact app_le (by first | omega | (simp only [List.length_cons, List.length_nil]; omega) | (simp; omega)) (by decide) | omega | assumption | decide | (simp only [Int.toNat_natCast, dflt_sl, dflt_st, dflt_str, dflt_int, dflt_bool]; omega) | (simp <;> omega)) ?_
        refine aord_light 9 rfl rfl rfl (by kernel_rfl) ?_
        refine aord_light 10 rfl rfl rfl (by kernel_rfl) ?_
        refine aord_all [11] (by kernel_rfl) rfl ?_
        refine aord_done (by kernel_rfl) ?_
        refine acode_seq ?_
        refine acode_region ?_
        refine acode_ret ?_
        exact ⟨rfl, ⟨rfl, rfl, rfl, rfl, rfl⟩, rfl⟩
       ·refine aord_all [4] (by kernel_rfl) rfl ?_
        refine aord_all [8] (by kernel_rfl) rfl ?_
        refine And.intro (by first | exact app_le (by first | omega | (simp only [List.length_cons, List.length_nil]; omega) | (simp; omega)) (by decide) | omega | assumption | decide | (simp only [Int.toNat_natCast, dflt_sl, dflt_st, dflt_str, dflt_int, dflt_bool]; omega) | (simp <;> omega)) ?_
        refine aord_light 9 rfl rfl rfl (by kernel_rfl) ?_
        refine aord_light 10 rfl rfl rfl (by kernel_rfl) ?_
        refine aord_all [11] (by kernel_rfl) rfl ?_
        refine aord_done (by kernel_rfl) ?_
        refine acode_seq ?_
        refine acode_region ?_
        refine acode_ret ?_
        exact ⟨rfl, ⟨rfl, rfl, rfl, rfl, rfl⟩, rfl⟩
     ·try simp only [decide_eq_false_iff_not] at h45
      try simp only [Int.toNat_natCast, dflt_sl, dflt_st, dflt_str, dflt_int, dflt_bool] at h45
      exact absurd hk h45
theorem take_more {p q : PSt} {l : Lne} (h : aheadS p l (kindL (ls l.2.2.1)) = .inr q) (h5 : kindL (ls l.2.2.1) ≠ 5) (h1 : kindL (ls l.2.2.1) ≠ 1) (h4 : kindL (ls l.2.2.1) ≠ 4) (he : l.2.2.2 = true) (hb : PB p 900000) (hq : PB q 1000000) (hs : l.2.2.1.size ≤ 90000) : ACallO Tryd.prog 42 [.one (.own 0 0), .agg (toL rLne l)] (psO p) 5 (.one (.lit .nilIface)) (psO { q with blk := q.blk ++ [l.2.2.1] }) 5 := by
  have hi := hq.blk
  refine acallo_of (rs := [4]) Tryd.func42 rfl rfl rfl teOk (by decide) rfl ?_
  refine acode_seq ?_
  refine acode_region ?_
  refine acode_seq ?_
  refine acode_region ?_
  refine Or.inl ?_
  refine And.intro (rfl) ?_
  refine Exists.intro _ (And.intro (kind_c l.2.2.1 (Nat.le_trans hs (by decide))) ?_)
  refine acode_seq ?_
  refine acode_seq ?_
  refine acode_region ?_
  refine Or.inr (Or.inl (Exists.intro [] (Exists.intro [0, 1, 2, 3, 4] (Exists.intro _ (Exists.intro _ (Exists.intro _ (Exists.intro _ (Exists.intro _ (And.intro (ahead_ok h hb hs) (And.intro rfl (And.intro (And.intro (And.intro rfl rfl) (And.intro (And.intro rfl rfl) (And.intro (And.intro rfl rfl) (And.intro (And.intro rfl rfl) (And.intro (And.intro rfl rfl) True.intro))))) (And.intro rfl ?_))))))))))))
  refine acode_seq ?_
  refine acode_region ?_
  refine acode_cond rfl (fun h15 => ?_) (fun h15 => ?_)
  ·try simp only [Bool.not_eq_true'] at h15
   try simp only [Int.toNat_natCast, dflt_sl, dflt_st, dflt_str, dflt_int, dflt_bool] at h15
   cases h15
  ·try simp only [Bool.not_eq_false'] at h15
   try simp only [Int.toNat_natCast, dflt_sl, dflt_st, dflt_str, dflt_int, dflt_bool] at h15
   refine acode_skip ?_
   refine acode_seq ?_
   refine acode_block ?_
   refine acode_seq ?_
   refine acode_region ?_
   refine And.intro (fun h => trivial) ?_
   refine And.intro (fun h => ⟨⟨h, trivial⟩, trivial⟩) ?_
   refine And.intro (fun h => ⟨⟨h, trivial⟩, trivial⟩) ?_
   refine And.intro (by first | (intro h; rw [h]; rfl) | (intro h; cases h)) ?_
   refine acode_cond rfl (fun h17 => ?_) (fun h17 => ?_)
   ·try simp only [decide_eq_true_eq, Bool.not_eq_true', Bool.or_eq_true] at h17
    try simp only [Int.toNat_natCast, dflt_sl, dflt_st, dflt_str, dflt_int, dflt_bool] at h17
    exact absurd h17 (by simp [h5, he])
   ·try simp only [decide_eq_false_iff_not, Bool.not_eq_false', Bool.or_eq_false_iff] at h17
    try simp only [Int.toNat_natCast, dflt_sl, dflt_st, dflt_str, dflt_int, dflt_bool] at h17
    refine acode_seq ?_
    refine acode_region ?_
    refine acode_cond rfl (fun h29 => ?_) (fun h29 => ?_)
    ·try simp only [decide_eq_true_eq] at h29
     try simp only [Int.toNat_natCast, dflt_sl, dflt_st, dflt_str, dflt_int, dflt_bool] at h29
     exact absurd h29 h1
    ·try simp only [decide_eq_false_iff_not] at h29
     try simp only [Int.toNat_natCast, dflt_sl, dflt_st, dflt_str, dflt_int, dflt_bool] at h29
     refine acode_seq ?_
     refine acode_region ?_
     refine acode_cond rfl (fun h45 => ?_) (fun h45 => ?_)
     ·try simp only [decide_eq_true_eq] at h45
      try simp only [Int.toNat_natCast, dflt_sl, dflt_st, dflt_str, dflt_int, dflt_bool] at h45
      exact absurd h45 h4
     ·try simp only [decide_eq_false_iff_not] at h45
      try simp only [Int.toNat_natCast, dflt_sl, dflt_st, dflt_str, dflt_int, dflt_bool] at h45
      refine acode_skip ?_
      refine acode_seq ?_
      refine acode_ord rfl ?_
      refine aord_light 0 rfl rfl rfl (by kernel_rfl) ?_
      refine aord_light 1 rfl rfl rfl (by kernel_rfl) ?_
      refine aord_light 2 rfl rfl rfl (by kernel_rfl) ?_
      refine aord_light 3 rfl rfl rfl (by kernel_rfl) ?_
      refine aord_light 5 rfl rfl rfl (by kernel_rfl) ?_
      refine aord_all [4, 6] (by kernel_rfl) rfl ?_
      refine And.intro ?_ ?_
      ·refine aord_all [6] (by kernel_rfl) rfl ?_
       refine aord_all [7] (by kernel_rfl) rfl ?_
       refine aord_all [8] (by kernel_rfl) rfl ?_
       refine And.intro (by first | exact app_le (by first | omega | (simp only [List.length_cons, List.length_nil]; omega) | (simp; omega)) (by decide) | omega | assumption | decide | (simp only [Int.toNat_natCast, dflt_sl, dflt_st, dflt_str, dflt_int, dflt_bool]; omega) | (simp <;> omega)) ?_
       refine aord_light 9 rfl rfl rfl (by kernel_rfl) ?_
       refine aord_light 10 rfl rfl rfl (by kernel_rfl) ?_
       refine aord_all [11] (by kernel_rfl) rfl ?_
       refine aord_done (by kernel_rfl) ?_
       refine acode_seq ?_
       refine acode_region ?_
       refine acode_ret ?_
       exact ⟨rfl, ⟨rfl, rfl, rfl, rfl, rfl⟩, rfl⟩
      ·refine aord_all [4, 7] (by kernel_rfl) rfl ?_
       refine And.intro ?_ ?_
       ·refine aord_all [7] (by kernel_rfl) rfl ?_
        refine aord_all [8] (by kernel_rfl) rfl ?_
        refine And.intro (by first | exact app_le (by first | omega | (simp only [List.length_cons, List.length_nil]; omega) | (simp; omega)) (by decide) | omega | assumption | decide | (simp only [Int.toNat_natCast, dflt_sl, dflt_st, dflt_str, dflt_int, dflt_bool]; omega) | (simp <;> omega)) ?_
        refine aord_light 9 rfl rfl rfl (by kernel_rfl) ?_
        refine aord_light 10 rfl rfl rfl (by kernel_rfl) ?_
        refine aord_all [11] (by kernel_rfl) rfl ?_
        refine aord_done (by kernel_rfl) ?_
        refine acode_seq ?_
        refine acode_region ?_
        refine acode_ret ?_
        exact ⟨rfl, ⟨rfl, rfl, rfl, rfl, rfl⟩, rfl⟩
       ·refine aord_all [4] (by kernel_rfl) rfl ?_
        refine aord_all [8] (by kernel_rfl) rfl ?_
        refine And.intro (by first | exact app_le (by first | omega | (simp only [List.length_cons, List.length_nil]; omega) | (simp; omega)) (by decide) | omega | assumption | decide | (simp only [Int.toNat_natCast, dflt_sl, dflt_st, dflt_str, dflt_int, dflt_bool]; omega) | (simp <;> omega)) ?_
        refine aord_light 9 rfl rfl rfl (by kernel_rfl) ?_
        refine aord_light 10 rfl rfl rfl (by kernel_rfl) ?_
        refine aord_all [11] (by kernel_rfl) rfl ?_
        refine aord_done (by kernel_rfl) ?_
        refine acode_seq ?_
        refine acode_region ?_
        refine acode_ret ?_
        exact ⟨rfl, ⟨rfl, rfl, rfl, rfl, rfl⟩, rfl⟩
theorem take_ok {p q : PSt} {l : Lne} (h : takeS p l = .inr q) (hb : PB p 800000) (hs : l.2.2.1.size ≤ 90000) : ACallO Tryd.prog 42 [.one (.own 0 0), .agg (toL rLne l)] (psO p) 5 (.one (.lit .nilIface)) (psO q) 5 := by
  unfold takeS at h
  split at h
  · cases h
  · rename_i r e
    have hb' : PB p 900000 := hb.mono (by decide)
    have hr : PB r 1000000 := (aheadS_B hb e).mono (by omega)
    unfold lineS at h
    split at h
    · cases h
    · rename_i h0
      have h5 : kindL (ls l.2.2.1) ≠ 5 := fun e => h0 (.inl e)
      have he : l.2.2.2 = true := by
        cases e : l.2.2.2
        · exact absurd (.inr e) h0
        · rfl
      split at h
      · rename_i h1; cases h; exact take_blank e h1 he hb' (hr.mono (by decide)) hs
      · rename_i h1
        split at h
        · rename_i h4; cases h; exact take_pair e h4 he hb' hr hs
        · rename_i h4; cases h; exact take_more e h5 h1 h4 he hb' hr hs
theorem take_err {p : PSt} {l : Lne} {at_ n : Int} (h : takeS p l = .inl (at_, n)) (hb : PB p 800000) (hs : l.2.2.1.size ≤ 90000) : ACallO Tryd.prog 42 [.one (.own 0 0), .agg (toL rLne l)] (psO p) 5 (.one (errF at_ n)) [] 5 := by
  unfold takeS at h
  split at h
  · rename_i e; cases h; exact take_err1 e (hb.mono (by decide)) hs
  · rename_i r e
    unfold lineS at h
    split at h
    · rename_i h0; cases h; exact take_odd e h0 (hb.mono (by decide)) hs
    · split at h
      · cases h
      · split at h
        · cases h
        · cases h
end Q
end Ab
end Go.Proofs.YtlbainbjlibfiaaDoor
namespace Go.Proofs.YtlbainbjlibfiaaDoor
open Go.RowKit
namespace Ab
set_option maxRecDepth 100000
namespace Q
def linesR : Nat → Int → Int → List UInt8 → List Lne
  | 0, _, _, _ => []
  | f + 1, tot, no, s => match s with
    | [] => []
    | s => (no, tot - s.length, bytes (Lib.cut s [10]).1, (Lib.cut s [10]).2.2) :: linesR f tot (no + 1) (Lib.cut s [10]).2.1
def linesT (s : ByteArray) : List Lne := linesR s.size s.size 0 (ls s)
def itLs (s : ByteArray) : List (List A) := (linesT s).map fun l => [A.agg (toL rLne l)]
theorem cut_less {r : List UInt8} {c : UInt8} (h : r ≠ []) : (Lib.cut r [c]).2.1.length < r.length := by
  by_cases hm : c ∈ r
  · obtain ⟨a, b, rfl, hn⟩ := List.eq_append_cons_of_mem hm
    rw [cut_at hn, List.length_append, List.length_cons]
    show b.length < _
    omega
  · rw [cut_none hm]
    exact List.length_pos_iff.2 h
theorem le_refl {nx0 : Nat} {tm : Tm} {ob : Obs} {nx : Nat} : Le nx0 tm ob nx tm ob nx := ⟨fun _ _ ρ _ _ hs => ⟨ρ, hs⟩⟩
theorem split_iter (s : ByteArray) (hs : s.size ≤ 1000000) : AIter Tryd.prog 50 [.one (.addr .str s)] (itLs s) := by
  refine aiter_of Tryd.func50 rfl rfl rfl teOk rfl ?_
  intro l ι Pr J U n0 hU hab hy
  refine acodeY_seq ?_
  refine acodeY_seg hab hU rfl ?_
  refine acode_region ?_
  refine ⟨_, _, _, le_refl, ?_⟩
  refine acodeY_seq ?_
  refine acodeY_seg hab hU rfl ?_
  refine acode_region ?_
  refine ⟨_, _, _, le_refl, ?_⟩
  refine acodeY_block ?_
  refine acodeY_loop (κ := Nat × Nat × List UInt8 × ByteArray × Bool) (fun i => i.2.2.1.length ≤ i.1 ∧ i.2.1 + i.1 ≤ s.size ∧ i.2.1 ≤ (linesT s).length ∧ (linesT s).drop i.2.1 = linesR i.1 s.size i.2.1 i.2.2.1) (fun i => i.2.1) (fun i => [(0, .one (.lit (.func (.yield l) #[] #[]))), (1, .one (.addr .str s)), (3, .one (.own 0 0)), (4, is (bytes i.2.2.1))]) (fun i => [(0, .box 85 [.lit (.int .i64 i.2.1), .lit (.int .i64 (s.size - i.2.2.1.length)), .lit (.string i.2.2.2.1), .lit (.bool i.2.2.2.2)])]) 1 (fun i => i.1) (s.size, 0, ls s, ByteArray.empty, false) ⟨by rw [show (ls s).length = s.size from (size_list s).symm]; exact Nat.le_refl _, by simp, Nat.zero_le _, rfl⟩ hab hU (le_of ⟨rfl, rfl, rfl, by rw [bytes_ls]; rfl⟩ ?_ rfl) rfl ?_
  ·show leO _ [(0, Ob.box 85 [_, C.lit (.int .i64 ((s.size : Int) - ((ls s).length : Nat))), _, _])]
   rw [show (ls s).length = s.size from (size_list s).symm, Int.sub_self]
   exact rfl
  intro i hi
  obtain ⟨f, k, r, t0, e0⟩ := i
  obtain ⟨h1, h2, h3, h4⟩ := hi
  simp only at h1 h2 h3 h4
  have hrs : r.length ≤ s.size := Nat.le_trans h1 (by omega)
  refine acodeY_seq ?_
  refine acodeY_seq ?_
  refine acodeY_seg hab hU rfl ?_
  refine acode_region ?_
  refine ⟨_, _, _, le_refl, ?_⟩
  refine acodeY_cond rfl (fun hc => ?_) (fun hc => ?_)
  ·simp only at hc
   have hne : r ≠ [] := fun e => by
    have e' : bytes r = ⟨#[]⟩ := by rw [e]; rfl
    rw [e'] at hc
    simp at hc
   obtain ⟨f', hf⟩ : ∃ f', f = f' + 1 := ⟨f - 1, by have := List.length_pos_iff.2 hne; omega⟩
   subst hf
   have hd : (linesT s).drop k = ((k : Int), (s.size : Int) - r.length, bytes (Lib.cut r [10]).1, (Lib.cut r [10]).2.2) :: linesR f' s.size (k + 1 : Nat) (Lib.cut r [10]).2.1 := by
    rw [h4]
    cases r with
    | nil => exact absurd rfl hne
    | cons a r => rfl
   have hk : k < (linesT s).length := by
    rcases Nat.lt_or_ge k (linesT s).length with h | h
    ·exact h
    ·rw [List.drop_eq_nil_of_le h] at hd; cases hd
   have hget : (linesT s)[k] = ((k : Int), (s.size : Int) - r.length, bytes (Lib.cut r [10]).1, (Lib.cut r [10]).2.2) := by
    rw [List.drop_eq_getElem_cons hk] at hd
    exact (List.cons.inj hd).1
   have hdrop : (linesT s).drop (k + 1) = linesR f' s.size (k + 1 : Nat) (Lib.cut r [10]).2.1 := by
    rw [List.drop_eq_getElem_cons hk] at hd
    exact (List.cons.inj hd).2
   have hkx : k < (itLs s).length := by unfold itLs; rw [List.length_map]; exact hk
   have hx : (itLs s)[k] = [A.agg (toL rLne ((k : Int), (s.size : Int) - r.length, bytes (Lib.cut r [10]).1, (Lib.cut r [10]).2.2))] := by
    simp only [itLs, List.getElem_map, hget]
   have hcl : (Lib.cut r [10]).2.1.length < r.length := cut_less hne
   have hcc : ACall Tryd.prog 51 [is (bytes r), is ⟨#[10]⟩] (.tup [(false, [.lit (.string (bytes (Lib.cut r [10]).1))]), (false, [.lit (.string (bytes (Lib.cut r [10]).2.1))]), (false, [.lit (.bool (Lib.cut r [10]).2.2)])]) := by
    have := cut_c (bytes r) ⟨#[10]⟩ (by rw [bytes_size]; omega)
    rw [bytes_list] at this
    exact this
   generalize Lib.cut r [10] = c at *
   refine acodeY_skip ?_
   refine acodeY_block ?_
   refine acodeY_seq ?_
   refine acodeY_seg hab hU rfl ?_
   refine acode_region ?_
   refine Or.inl ?_
   refine And.intro (rfl) ?_
   refine Exists.intro _ (And.intro hcc ?_)
   refine ⟨_, _, _, le_refl, ?_⟩
   refine acodeY_seq ?_
   refine acodeY_seq ?_
   refine acodeY_yield (pre := [_, _]) (post := [_]) _ rfl rfl rfl hab hU hy hkx ?_
   refine ⟨_, _, _, le_refl, rfl, ?_, by rw [hx]; rfl, ?_⟩
   ·rw [hx]
    rfl
   ·intro st
    refine ⟨_, _, _, le_refl, ?_⟩
    refine acodeY_cond rfl (fun ht => ?_) (fun ht => ?_)
    ·refine acodeY_ret ?_
     rw [Bool.not_not] at ht
     subst ht
     exact ⟨.inl rfl, fun e => by cases e⟩
    ·rw [Bool.not_not] at ht
     subst ht
     refine acodeY_skip ?_
     refine acodeY_seq ?_
     refine acodeY_seg hab hU rfl ?_
     refine acode_region ?_
     refine And.intro (by simp only; omega) ?_
     refine ⟨_, _, _, le_refl, ?_⟩
     refine acodeY_seg hab hU rfl ?_
     refine acode_region ?_
     refine And.intro (by rw [bytes_size]; omega) ?_
     refine ⟨_, _, _, ?_, ⟨(f', k + 1, c.2.1, bytes c.1, c.2.2), ⟨by simp only; omega, by simp only; omega, hk, hdrop⟩, Nat.lt_succ_self _, rfl, rfl, rfl, rfl, rfl⟩⟩
     refine le_of ⟨rfl, rfl, rfl, rfl⟩ ?_ rfl
     show leO _ [(0, Ob.box 85 [C.lit (.int .i64 ((k + 1 : Nat) : Int)), C.lit (.int .i64 ((s.size : Int) - (c.2.1.length : Nat))), C.lit (.string (bytes c.1)), C.lit (.bool c.2.2)])]
     rw [← bytes_size c.2.1]
     exact rfl
  ·have hr : r = [] := by
    simp only at hc
    have : bytes r = ⟨#[]⟩ := by simpa using hc
    have := congrArg (fun b => b.data.toList) this
    simpa [bytes_list] using this
   refine acodeY_exit ?_
   rw [hr] at h4
   have h5 : (linesT s).drop k = [] := by rw [h4]; cases f <;> rfl
   have h6 := List.drop_eq_nil_iff.1 h5
   exact ⟨.inr rfl, fun _ => by simp only [itLs, List.length_map]; omega⟩
end Q
end Ab
end Go.Proofs.YtlbainbjlibfiaaDoor
namespace Go.Proofs.YtlbainbjlibfiaaDoor
open Go.RowKit
namespace Ab
set_option maxRecDepth 100000
namespace Q
theorem split_c (s : ByteArray) : ACall Tryd.prog 41 [is s] (.one (.clo 50 (.addr .str s))) := by
  refine acall_of (rs := [2]) Tryd.func41 rfl rfl rfl teOk rfl ?_
  refine acode_seq ?_
  refine acode_region ?_
  refine acode_seq ?_
  refine acode_region ?_
  refine acode_frz [0] ?_
  refine acode_ret ?_
  rfl
def runS (p : PSt) : List Lne → (Int × Int) ⊕ PSt
  | [] => .inr p
  | l :: r => match takeS p l with
    | .inl e => .inl e
    | .inr q => runS q r
def parseS (s : ByteArray) : (Int × Int) ⊕ List Itm := match runS pst0 (linesT s) with
  | .inl e => .inl e
  | .inr p => match endS p with
    | .inl e => .inl e
    | .inr q => .inr q.its
def resP : (Int × Int) ⊕ List Itm → A
  | .inl e => .tup [(false, [.sl rItm []]), (false, [errF e.1 e.2])]
  | .inr l => .tup [(false, [.sl rItm l]), (false, [.lit .nilIface])]
theorem linesR_len : ∀ (f : Nat) (tot no : Int) (s : List UInt8), (linesR f tot no s).length ≤ s.length ∧ ((linesR f tot no s).map (·.2.2.1.size)).sum ≤ s.length
  | 0, _, _, _ => by simp [linesR]
  | f + 1, tot, no, [] => by simp [linesR]
  | f + 1, tot, no, a :: r => by
    obtain ⟨h1, h2⟩ := linesR_len f tot (no + 1) (Lib.cut (a :: r) [10]).2.1
    have h3 : (Lib.cut (a :: r) [10]).2.1.length < (a :: r).length := cut_less (by simp)
    have h4 : (Lib.cut (a :: r) [10]).1.length + (Lib.cut (a :: r) [10]).2.1.length ≤ (a :: r).length := by
      by_cases hm : (10 : UInt8) ∈ a :: r
      · obtain ⟨x, b, e, hn⟩ := List.eq_append_cons_of_mem hm
        rw [e, cut_at hn, List.length_append, List.length_cons]
        show x.length + b.length ≤ _
        omega
      · rw [cut_none hm]
        exact Nat.le_refl _
    unfold linesR
    simp only [List.length_cons, List.map_cons, List.sum_cons, bytes_size] at h3 h4 ⊢
    exact ⟨by omega, by omega⟩
theorem linesT_len (s : ByteArray) : (linesT s).length ≤ s.size ∧ ((linesT s).map (·.2.2.1.size)).sum ≤ s.size := by
  have := linesR_len s.size s.size 0 (ls s)
  rw [show (ls s).length = s.size from (size_list s).symm] at this
  exact this
def prP (L : List Lne) : Bool → Nat → PSt ⊕ (Int × Int) → Prop
  | false, k, .inl p => runS pst0 L = runS p (L.drop k) ∧ ∃ B, PB p B ∧ B + 3 * (L.drop k).length + 2 * ((L.drop k).map (·.2.2.1.size)).sum ≤ 600000
  | true, _, .inr e => runS pst0 L = .inl e
  | _, _, _ => False
def obP : PSt ⊕ (Int × Int) → Obs
  | .inl p => [(0, .box 22 [.lit (.slice none 0 0)]), (1, .box 41 [.lit .nilIface]), (2, .box 80 [.vec 4, .lit (.int .i64 p.frm), .lit (.bool p.full), .vec 5, .vec 6, .vec 7, .lit (.int .i64 p.recs)]), (3, .box 75 [.own 2 0]), (4, .vec 9 .str p.lns), (5, .vec 26 rItm p.its), (6, .vec 9 .str p.blk), (7, .vec 57 rFld p.flds)]
  | .inr e => [(0, .box 22 [.lit (.slice none 0 0)]), (1, .box 41 [errF e.1 e.2])]
theorem prP_next {L : List Lne} {k : Nat} {p q : PSt} {l : Lne} (hk : k < L.length) (hl : L[k] = l) (h : prP L false k (.inl p)) (ht : takeS p l = .inr q) : prP L false (k + 1) (.inl q) := by
  obtain ⟨h1, B, h2, h3⟩ := h
  rw [List.drop_eq_getElem_cons hk, hl] at h1 h3
  simp only [runS, ht] at h1
  simp only [List.length_cons, List.map_cons, List.sum_cons] at h3
  exact ⟨h1, _, takeS_B h2 ht, by omega⟩
theorem prP_stop {L : List Lne} {k : Nat} {p : PSt} {e : Int × Int} {l : Lne} (hk : k < L.length) (hl : L[k] = l) (h : prP L false k (.inl p)) (ht : takeS p l = .inl e) : prP L true (k + 1) (.inr e) := by
  obtain ⟨h1, B, h2, h3⟩ := h
  rw [List.drop_eq_getElem_cons hk, hl] at h1
  simp only [runS, ht] at h1
  exact h1
theorem prP_B {L : List Lne} {k : Nat} {p : PSt} {l : Lne} (hk : k < L.length) (hl : L[k] = l) (h : prP L false k (.inl p)) : PB p 800000 ∧ l.2.2.1.size ≤ 300000 := by
  obtain ⟨h1, B, h2, h3⟩ := h
  rw [List.drop_eq_getElem_cons hk, hl] at h3
  simp only [List.length_cons, List.map_cons, List.sum_cons] at h3
  exact ⟨h2.mono (by omega), by omega⟩
theorem prP_end {L : List Lne} {p : PSt} (h : prP L false L.length (.inl p)) : runS pst0 L = .inr p ∧ PB p 1000000 := by
  obtain ⟨h1, B, h2, h3⟩ := h
  rw [List.drop_length] at h1
  exact ⟨h1, h2.mono (by omega)⟩
theorem linesT_sz {s : ByteArray} {k : Nat} (hk : k < (linesT s).length) : ((linesT s)[k]).2.2.1.size ≤ s.size := by
  have h := (linesT_len s).2
  have h1 : (linesT s) = (linesT s).take k ++ (linesT s)[k] :: (linesT s).drop (k + 1) := by rw [← List.drop_eq_getElem_cons hk, List.take_append_drop]
  rw [h1, List.map_append, List.sum_append, List.map_cons, List.sum_cons] at h
  omega
theorem parse_a (s : ByteArray) (hs : s.size ≤ 60000) : ACall Tryd.prog 31 [is s] (resP (parseS s)) := by
  have hlen := linesT_len s
  refine acall_ofc (rs := [.cell 2 22, .cell 3 41]) Tryd.func31 rfl rfl rfl teOk rfl ?_
  refine acode_seq ?_
  refine acode_region ?_
  refine acode_seq ?_
  refine acode_seq ?_
  refine acode_region ?_
  refine acode_cond rfl (fun h10 => ?_) (fun h10 => ?_)
  ·try simp only [decide_eq_true_eq] at h10
   try simp only [Int.toNat_natCast, dflt_sl, dflt_st, dflt_str, dflt_int, dflt_bool] at h10
   omega
  ·try simp only [decide_eq_false_iff_not, Int.not_lt] at h10
   try simp only [Int.toNat_natCast, dflt_sl, dflt_st, dflt_str, dflt_int, dflt_bool] at h10
   refine acode_skip ?_
   refine acode_seq ?_
   refine acode_region ?_
   refine acode_seq ?_
   refine acode_seq ?_
   refine acode_nilcell 2 0 9 .str rfl rfl rfl ?_
   refine acode_nilcell 2 3 26 rItm rfl rfl rfl ?_
   refine acode_nilcell 2 4 9 .str rfl rfl rfl ?_
   refine acode_nilcell 2 5 57 rFld rfl rfl rfl ?_
   refine acode_region ?_
   refine Or.inl ?_
   refine And.intro (rfl) ?_
   refine Exists.intro _ (And.intro (split_c s) ?_)
   refine acode_block ?_
   refine acode_range (caps := [.one (.addr .str s)]) (xs := itLs s) [(2, .one (.own 0 0)), (3, .one (.own 1 0)), (4, .one (.own 3 0)), (15, .one (.clo 50 (.addr .str s)))] 8 (prP (linesT s)) obP (fun _ => .ret) (.inl pst0) rfl rfl (split_iter s (by omega)) (le_of ⟨rfl, rfl, rfl, rfl⟩ ⟨rfl, rfl, rfl, rfl, rfl, rfl, rfl, rfl⟩ rfl) ⟨rfl, 0, ⟨Nat.le_refl _, Nat.le_refl _, Nat.le_refl _, Nat.le_refl _, Nat.le_refl _, Nat.le_refl _, Int.le_refl _, Int.le_refl _⟩, by rw [List.drop_zero]; omega⟩ (fun k hk => by simp [itLs]) rfl rfl rfl (fun k i h => by cases i with | inl p => rfl | inr e => exact h.elim) rfl ?_ ?_ ?_
   ·intro k i hk hp
    have hk2 : k < (linesT s).length := (by have := hk; unfold itLs at this; rwa [List.length_map] at this)
    rw [show (itLs s)[k] = [A.agg (toL rLne ((linesT s)[k]))] from by simp [itLs]]
    obtain ⟨l, hl⟩ : ∃ l, (linesT s)[k] = l := ⟨_, rfl⟩
    rw [hl]
    cases i with | inr e => exact hp.elim | inl p => ?_
    obtain ⟨hB, hz⟩ := prP_B hk2 hl hp
    have hz2 : l.2.2.1.size ≤ 90000 := (by have h1 := linesT_sz hk2; rw [hl] at h1; omega)
    refine acode_region ?_
    refine acode_block ?_
    refine acode_seq ?_
    rcases ht : takeS p l with ⟨at_, n⟩ | q
    ·refine acode_region ?_
     refine Or.inr (Or.inl (Exists.intro [] (Exists.intro [2, 4, 5, 6, 7] (Exists.intro _ (Exists.intro _ (Exists.intro _ (Exists.intro _ (Exists.intro _ (And.intro (take_err ht hB hz2) (And.intro rfl (And.intro (And.intro (And.intro rfl rfl) (And.intro (And.intro rfl rfl) (And.intro (And.intro rfl rfl) (And.intro (And.intro rfl rfl) (And.intro (And.intro rfl rfl) True.intro))))) (And.intro rfl ?_))))))))))))
     refine acode_seq ?_
     refine acode_region ?_
     refine acode_cond rfl (fun h21 => ?_) (fun h21 => ?_)
     ·skip
      refine acode_seq ?_
      refine acode_region ?_
      refine acode_ret ?_
      exact ⟨.inr (at_, n), prP_stop hk2 hl hp ht, rfl, le_of trivial ⟨rfl, rfl⟩ rfl⟩
     ·try simp only [decide_eq_true_eq, decide_eq_false_iff_not, Bool.and_eq_true, Bool.not_eq_true', Bool.not_eq_false', Bool.or_eq_false_iff, Bool.or_eq_true, Bool.and_eq_false_iff, Int.not_lt, Int.not_le] at h21
      try simp only [Int.toNat_natCast, dflt_sl, dflt_st, dflt_str, dflt_int, dflt_bool] at h21
      cases h21
    ·refine acode_region ?_
     refine Or.inr (Or.inl (Exists.intro [] (Exists.intro [2, 4, 5, 6, 7] (Exists.intro _ (Exists.intro _ (Exists.intro _ (Exists.intro _ (Exists.intro _ (And.intro (take_ok ht hB hz2) (And.intro rfl (And.intro (And.intro (And.intro rfl rfl) (And.intro (And.intro rfl rfl) (And.intro (And.intro rfl rfl) (And.intro (And.intro rfl rfl) (And.intro (And.intro rfl rfl) True.intro))))) (And.intro rfl ?_))))))))))))
     refine acode_seq ?_
     refine acode_region ?_
     refine acode_cond rfl (fun h21 => ?_) (fun h21 => ?_)
     ·try simp only [Bool.not_eq_true'] at h21
      try simp only [Int.toNat_natCast, dflt_sl, dflt_st, dflt_str, dflt_int, dflt_bool] at h21
      cases h21
     ·try simp only [Bool.not_eq_false'] at h21
      try simp only [Int.toNat_natCast, dflt_sl, dflt_st, dflt_str, dflt_int, dflt_bool] at h21
      refine acode_skip ?_
      exact ⟨.inl q, prP_next hk2 hl hp ht, le_of trivial ⟨rfl, rfl, rfl, rfl, rfl, rfl, rfl, rfl⟩ rfl⟩
   ·intro i hp
    cases i with | inr e => exact hp.elim | inl p => ?_
    rw [show (itLs s).length = (linesT s).length from by simp [itLs]] at hp
    obtain ⟨hr, hB⟩ := prP_end hp
    refine acode_seq ?_
    refine acode_seq ?_
    rcases he : endS p with ⟨at_, n⟩ | q
    ·refine acode_region ?_
     refine Or.inr (Or.inl (Exists.intro [] (Exists.intro [2, 4, 5, 6, 7] (Exists.intro _ (Exists.intro _ (Exists.intro _ (Exists.intro _ (Exists.intro _ (And.intro (end_err he hB) (And.intro rfl (And.intro (And.intro (And.intro rfl rfl) (And.intro (And.intro rfl rfl) (And.intro (And.intro rfl rfl) (And.intro (And.intro rfl rfl) (And.intro (And.intro rfl rfl) True.intro))))) (And.intro rfl ?_))))))))))))
     refine acode_seq ?_
     refine acode_region ?_
     refine acode_cond rfl (fun h26 => ?_) (fun h26 => ?_)
     ·skip
      refine acode_seq ?_
      refine acode_region ?_
      refine acode_nilcell 0 0 26 rItm rfl rfl rfl ?_
      refine acode_ret ?_
      rw [show parseS s = .inl (at_, n) from by unfold parseS; rw [hr]; simp only [he]]
      exact rfl
     ·try simp only [decide_eq_true_eq, decide_eq_false_iff_not, Bool.and_eq_true, Bool.not_eq_true', Bool.not_eq_false', Bool.or_eq_false_iff, Bool.or_eq_true, Bool.and_eq_false_iff, Int.not_lt, Int.not_le] at h26
      try simp only [Int.toNat_natCast, dflt_sl, dflt_st, dflt_str, dflt_int, dflt_bool] at h26
      cases h26
    ·refine acode_region ?_
     refine Or.inr (Or.inl (Exists.intro [] (Exists.intro [2, 4, 5, 6, 7] (Exists.intro _ (Exists.intro _ (Exists.intro _ (Exists.intro _ (Exists.intro _ (And.intro (end_ok he hB) (And.intro rfl (And.intro (And.intro (And.intro rfl rfl) (And.intro (And.intro rfl rfl) (And.intro (And.intro rfl rfl) (And.intro (And.intro rfl rfl) (And.intro (And.intro rfl rfl) True.intro))))) (And.intro rfl ?_))))))))))))
     refine acode_seq ?_
     refine acode_region ?_
     refine acode_cond rfl (fun h26 => ?_) (fun h26 => ?_)
     ·try simp only [Bool.not_eq_true'] at h26
      try simp only [Int.toNat_natCast, dflt_sl, dflt_st, dflt_str, dflt_int, dflt_bool] at h26
      cases h26
     ·try simp only [Bool.not_eq_false'] at h26
      try simp only [Int.toNat_natCast, dflt_sl, dflt_st, dflt_str, dflt_int, dflt_bool] at h26
      refine acode_skip ?_
      refine acode_seq ?_
      refine acode_region ?_
      refine acode_ret ?_
      rw [show parseS s = .inr q.its from by unfold parseS; rw [hr]; simp only [he]]
      exact rfl
   ·intro k i hp
    cases i with | inl p => exact hp.elim | inr e => ?_
    have hp : runS pst0 (linesT s) = .inl e := hp
    refine acode_nilcell 0 0 26 rItm rfl rfl rfl ?_
    refine acode_ret ?_
    rw [show parseS s = .inl e from by unfold parseS; rw [hp]]
    exact rfl
end Q
end Ab
end Go.Proofs.YtlbainbjlibfiaaDoor
namespace Go.Proofs.YtlbainbjlibfiaaDoor
open Go.RowKit
namespace Ab
set_option maxRecDepth 100000
namespace Q
end Q
end Ab
end Go.Proofs.YtlbainbjlibfiaaDoor
namespace Go.Proofs.YtlbainbjlibfiaaDoor
open Go.RowKit
namespace Ab
set_option maxRecDepth 100000
namespace Q
theorem items_c (a b : List Itm) : ACall Tryd.prog 9 [.one (.sl rItm a), .one (.sl rItm b)] (ib (decide (a = b))) := by
  refine acall_of (rs := [4]) Tryd.func9 rfl rfl rfl teOk rfl ?_
  refine acode_seq ?_
  refine acode_region ?_
  refine acode_seq ?_
  refine acode_seq ?_
  refine acode_region ?_
  intro l1_1
  try simp only [Int.toNat_natCast, dflt_sl, dflt_st, dflt_str, dflt_int, dflt_bool] at l1_1
  intro l1_3
  try simp only [Int.toNat_natCast, dflt_sl, dflt_st, dflt_str, dflt_int, dflt_bool] at l1_3
  refine acode_cond rfl (fun h10 => ?_) (fun h10 => ?_)
  ·try simp only [decide_eq_false_iff_not, Bool.not_eq_true'] at h10
   try simp only [Int.toNat_natCast, dflt_sl, dflt_st, dflt_str, dflt_int, dflt_bool] at h10
   refine acode_seq ?_
   refine acode_region ?_
   refine acode_ret ?_
   exact ib_eq (decide_eq_false (fun e => by rw [e] at h10; omega)).symm
  ·try simp only [decide_eq_true_eq, Bool.not_eq_false'] at h10
   try simp only [Int.toNat_natCast, dflt_sl, dflt_st, dflt_str, dflt_int, dflt_bool] at h10
   refine acode_skip ?_
   refine acode_seq ?_
   refine acode_seq ?_
   refine acode_region ?_
   intro l3_1
   try simp only [Int.toNat_natCast, dflt_sl, dflt_st, dflt_str, dflt_int, dflt_bool] at l3_1
   refine acode_block ?_
   refine acode_loopP (fun (i : Nat) => i ≤ a.length ∧ a.take i = b.take i) (fun (i : Nat) => [(0, .one (.sl rItm a)), (1, .one (.sl rItm b)), (12, ii .i64 a.length), (13, ii .i64 i)]) (fun (i : Nat) => []) 0 (fun (i : Nat) => a.length - i) 0 (⟨Nat.zero_le _, by simp⟩) (le_of ⟨rfl, rfl, rfl, rfl⟩ trivial rfl) ?_
   intro i hI0
   obtain ⟨hi, ht⟩ := hI0
   refine acode_seq ?_
   refine acode_region ?_
   refine acode_seq ?_
   refine acode_cond rfl (fun h14 => ?_) (fun h14 => ?_)
   ·try simp only [decide_eq_true_eq] at h14
    try simp only [Int.toNat_natCast, dflt_sl, dflt_st, dflt_str, dflt_int, dflt_bool] at h14
    have hla : i < a.length := by omega
    have hlb : i < b.length := by omega
    refine acode_skip ?_
    refine acode_seq ?_
    refine acode_block ?_
    refine acode_seq ?_
    refine acode_region ?_
    refine acode_seq ?_
    refine acode_draw rfl (by kernel_rfl) ?_
    refine And.intro (by first | omega | assumption | decide | (simp only [Int.toNat_natCast, dflt_sl, dflt_st, dflt_str, dflt_int, dflt_bool]; omega) | (simp <;> omega)) ?_
    refine And.intro (by first | omega | assumption | decide | (simp only [Int.toNat_natCast, dflt_sl, dflt_st, dflt_str, dflt_int, dflt_bool]; omega) | (simp <;> omega)) ?_
    refine And.intro (fun h => trivial) ?_
    refine And.intro (fun h => trivial) ?_
    refine And.intro (fun h => ⟨⟨⟨h, trivial⟩, ⟨h, trivial⟩, trivial⟩, by first | omega | decide | (simp only [Int.toNat_natCast, dflt_sl, dflt_st, dflt_str, dflt_int, dflt_bool]; omega) | (have h9 := of_decide_eq_true h; omega) | (simp [gq] at h; omega)⟩) ?_
    refine And.intro (fun h => ⟨⟨h, trivial⟩, trivial⟩) ?_
    refine And.intro (fun h => ⟨⟨h, trivial⟩, trivial⟩) ?_
    refine And.intro (fun h => trivial) ?_
    refine And.intro (fun h => trivial) ?_
    refine And.intro (fun h => ⟨⟨⟨h, trivial⟩, ⟨h, trivial⟩, trivial⟩, by first | omega | decide | (simp only [Int.toNat_natCast, dflt_sl, dflt_st, dflt_str, dflt_int, dflt_bool]; omega) | (have h9 := of_decide_eq_true h; omega) | (simp [gq] at h; omega)⟩) ?_
    refine And.intro (fun h => ⟨⟨h, trivial⟩, trivial⟩) ?_
    refine And.intro (fun h => ⟨⟨h, trivial⟩, trivial⟩) ?_
    refine And.intro (fun h => ⟨⟨h, trivial⟩, ⟨h, trivial⟩, trivial⟩) ?_
    refine And.intro (by first | (intro h; rw [h]; rfl) | (intro h; cases h)) ?_
    refine And.intro (fun h => trivial) ?_
    refine And.intro (fun h => trivial) ?_
    refine And.intro (fun h => ⟨⟨⟨h, trivial⟩, ⟨h, trivial⟩, trivial⟩, by first | omega | decide | (simp only [Int.toNat_natCast, dflt_sl, dflt_st, dflt_str, dflt_int, dflt_bool]; omega) | (have h9 := of_decide_eq_true h; omega) | (simp [gq] at h; omega)⟩) ?_
    refine And.intro (fun h => ⟨⟨h, trivial⟩, trivial⟩) ?_
    refine And.intro (fun h => ⟨⟨h, trivial⟩, trivial⟩) ?_
    refine And.intro (fun h => trivial) ?_
    refine And.intro (fun h => trivial) ?_
    refine And.intro (fun h => ⟨⟨⟨h, trivial⟩, ⟨h, trivial⟩, trivial⟩, by first | omega | decide | (simp only [Int.toNat_natCast, dflt_sl, dflt_st, dflt_str, dflt_int, dflt_bool]; omega) | (have h9 := of_decide_eq_true h; omega) | (simp [gq] at h; omega)⟩) ?_
    refine And.intro (fun h => ⟨⟨h, trivial⟩, trivial⟩) ?_
    refine And.intro (fun h => ⟨⟨h, trivial⟩, trivial⟩) ?_
    refine And.intro (rfl) ?_
    refine Exists.intro _ (And.intro (fun h => ⟨⟨⟨h, trivial⟩, ⟨h, trivial⟩, trivial⟩, fields_c (a.getD i ((0 : Int), ByteArray.empty, ([] : List Fld))).2.2 (b.getD i ((0 : Int), ByteArray.empty, ([] : List Fld))).2.2⟩) ?_)
    refine And.intro (fun h => ⟨⟨h, trivial⟩, trivial⟩) ?_
    refine And.intro (by first | (intro h; rw [h]; rfl) | (intro h; cases h)) ?_
    refine acode_cond rfl (fun h53 => ?_) (fun h53 => ?_)
    ·try simp only [decide_eq_false_iff_not, Bool.not_eq_true', Bool.or_eq_true] at h53
     try simp only [Int.toNat_natCast, dflt_sl, dflt_st, dflt_str, dflt_int] at h53
     refine acode_seq ?_
     refine acode_region ?_
     refine acode_ret ?_
     exact ib_eq (decide_eq_false (ne_at (i := i) ((0 : Int), ByteArray.empty, ([] : List Fld)) (fun e => h53.elim (fun h => h.elim (fun h => h (congrArg Prod.fst e)) (fun h => h (congrArg (·.2.1) e))) (fun h => h (congrArg (·.2.2) e))))).symm
    ·try simp only [decide_eq_true_eq, Bool.not_eq_false', Bool.or_eq_false_iff] at h53
     try simp only [Int.toNat_natCast, dflt_sl, dflt_st, dflt_str, dflt_int] at h53
     refine acode_skip ?_
     refine acode_region ?_
     refine And.intro (by first | omega | assumption | decide | (simp only [Int.toNat_natCast, dflt_sl, dflt_st, dflt_str, dflt_int, dflt_bool]; omega) | (simp <;> omega)) ?_
     exact ⟨i + 1, ⟨by omega, list_ext_take ((0 : Int), ByteArray.empty, ([] : List Fld)) hla hlb ht (Prod.ext h53.1.1 (Prod.ext h53.1.2 h53.2))⟩, by first | omega | (simp <;> omega), le_of ⟨rfl, rfl, rfl, (ii_eq (by omega))⟩ trivial rfl⟩
   ·try simp only [decide_eq_false_iff_not, Int.not_lt] at h14
    try simp only [Int.toNat_natCast, dflt_sl, dflt_st, dflt_str, dflt_int, dflt_bool] at h14
    refine acode_exit ?_
    refine acode_seq ?_
    refine acode_region ?_
    refine acode_ret ?_
    exact ib_eq (decide_eq_true (by rw [List.take_of_length_le (by omega), List.take_of_length_le (by omega)] at ht; exact ht)).symm
end Q
end Ab
end Go.Proofs.YtlbainbjlibfiaaDoor
namespace Go.Proofs.YtlbainbjlibfiaaDoor
open Go.RowKit
namespace Ab
set_option maxRecDepth 100000
namespace Q
def oneL (k : Nat) : List UInt8 := (List.replicate k [65, 58, 10]).flatten
def manyL (k : Nat) : List UInt8 := (List.replicate k [65, 58, 10, 10]).flatten
def PClean (p : PSt) (r : Int) : Prop := p.lns = [] ∧ p.blk = [] ∧ p.flds = [] ∧ p.recs = r
theorem linesR_cons (f : Nat) (tot no : Int) (a : UInt8) (r : List UInt8) : linesR (f + 1) tot no (a :: r) = (no, tot - ((a :: r).length : Nat), bytes (Lib.cut (a :: r) [10]).1, (Lib.cut (a :: r) [10]).2.2) :: linesR f tot (no + 1) (Lib.cut (a :: r) [10]).2.1 := rfl
end Q
end Ab
end Go.Proofs.YtlbainbjlibfiaaDoor
namespace Go.Proofs.YtlbainbjlibfiaaDoor
open Go.RowKit
namespace Ab
set_option maxRecDepth 100000
namespace Q
def linesB : Nat → List UInt8 → List (ByteArray × Bool)
  | 0, _ => []
  | f + 1, s => match s with
    | [] => []
    | s => (bytes (Lib.cut s [10]).1, (Lib.cut s [10]).2.2) :: linesB f (Lib.cut s [10]).2.1
theorem linesB_cons (f : Nat) (a : UInt8) (r : List UInt8) : linesB (f + 1) (a :: r) = (bytes (Lib.cut (a :: r) [10]).1, (Lib.cut (a :: r) [10]).2.2) :: linesB f (Lib.cut (a :: r) [10]).2.1 := rfl
theorem texts_linesR : ∀ (f : Nat) (tot no : Int) (s : List UInt8), (linesR f tot no s).map (·.2.2) = linesB f s
  | 0, _, _, _ => rfl
  | f + 1, _, _, [] => rfl
  | f + 1, tot, no, a :: r => by rw [linesR_cons, linesB_cons, List.map_cons, texts_linesR]
def glue : List (ByteArray × Bool) → List UInt8
  | [] => []
  | l :: r => ls l.1 ++ ((if l.2 then [10] else []) ++ glue r)
theorem cut_cases {a : UInt8} {s : List UInt8} {c : UInt8} : (∃ x b, a :: s = x ++ c :: b ∧ c ∉ x ∧ Lib.cut (a :: s) [c] = (x, b, true)) ∨ (c ∉ a :: s ∧ Lib.cut (a :: s) [c] = (a :: s, [], false)) := by
  by_cases hm : c ∈ a :: s
  · obtain ⟨x, b, e, hn⟩ := List.eq_append_cons_of_mem hm
    exact .inl ⟨x, b, e, hn, by rw [e]; exact cut_at hn⟩
  · exact .inr ⟨hm, cut_none hm⟩
theorem glue_lines : ∀ (f : Nat) (s : List UInt8), s.length ≤ f → glue (linesB f s) = s
  | 0, s, h => by
    obtain rfl := List.eq_nil_of_length_eq_zero (Nat.le_zero.1 h)
    rfl
  | f + 1, [], _ => rfl
  | f + 1, a :: r, h => by
    have h3 := cut_less (r := a :: r) (c := 10) (by simp)
    rw [linesB_cons]
    simp only [glue]
    rw [glue_lines f _ (by omega)]
    rcases cut_cases (a := a) (s := r) (c := 10) with ⟨x, b, e, _, hc⟩ | ⟨_, hc⟩
    · rw [hc, e]; simp [bytes_list]
    · rw [hc]; simp [bytes_list]
theorem lines_glue : ∀ (L : List (ByteArray × Bool)) (f : Nat), (∀ l ∈ L, l.2 = true ∧ (10 : UInt8) ∉ ls l.1) → (glue L).length ≤ f → linesB f (glue L) = L
  | [], f, _, _ => by cases f <;> rfl
  | (t, e) :: r, f, h, hf => by
    obtain ⟨h1, h2⟩ := h _ List.mem_cons_self
    simp only at h1 h2
    subst h1
    have hg : glue ((t, true) :: r) = ls t ++ 10 :: glue r := by simp [glue]
    rw [hg] at hf ⊢
    rw [List.length_append, List.length_cons] at hf
    obtain ⟨f', rfl⟩ : ∃ f', f = f' + 1 := ⟨f - 1, by omega⟩
    have hc : Lib.cut (ls t ++ 10 :: glue r) [10] = (ls t, glue r, true) := cut_at h2
    obtain ⟨a, w, hw⟩ : ∃ a w, ls t ++ 10 :: glue r = a :: w := by cases ls t <;> exact ⟨_, _, rfl⟩
    rw [hw] at hc ⊢
    rw [linesB_cons, hc]
    simp only
    rw [bytes_ls, lines_glue r f' (fun l hl => h l (List.mem_cons_of_mem _ hl)) (by omega)]
structure Rel (I : List Itm) (c : Int) (p q : PSt) : Prop where
  lns : p.lns = q.lns
  full : q.full = true → p.full = true
  its : p.its = I ++ q.its
  blk : p.blk = q.blk
  flds : p.flds = q.flds
  recs : p.recs = q.recs + c
  c0 : 0 ≤ c
  r4 : p.recs ≤ 400
  rf : p.flds ≠ [] → p.recs < 400
  rl : p.lns ≠ [] → p.full = false → p.recs < 400
section
variable {I : List Itm} {c : Int} {p q p1 : PSt}
theorem flush_lns (hf : flushS p = .inr p1) : p1.lns = [] := by
  unfold flushS at hf
  split at hf
  · rename_i h; cases hf; exact h
  · split at hf
    · cases hf
    · split at hf
      · cases hf
      · cases hf; rfl
theorem flush_rel (h : Rel I c p q) (hf : flushS p = .inr p1) : ∃ q1, flushS q = .inr q1 ∧ Rel I c p1 q1 := by
  unfold flushS at hf ⊢
  by_cases h0 : p.lns = []
  · rw [if_pos h0] at hf; cases hf
    rw [if_pos (by rw [← h.lns]; exact h0)]
    exact ⟨_, rfl, h⟩
  · rw [if_neg h0] at hf
    rw [if_neg (by rw [← h.lns]; exact h0), ← h.lns]
    split at hf
    · cases hf
    · rename_i h1
      rw [if_neg h1]
      split at hf
      · cases hf
      · rename_i h2
        cases hf
        have h3 : p.full = false := by simpa using h2
        have h4 : ¬ q.full = true := fun e => h2 (h.full e)
        rw [if_neg h4]
        exact ⟨_, rfl, rfl, h.full, h.its, h.blk, by simp only [h.flds], h.recs, h.c0, h.r4, fun _ => h.rl h0 h3, fun e => absurd rfl e⟩
theorem close_rel (h : Rel I c p q) (hl : p.lns = []) : Rel I c (closeS p) (closeS q) := by
  unfold closeS
  rw [← h.blk, ← h.flds]
  split
  · exact ⟨h.lns, h.full, h.its, rfl, rfl, h.recs, h.c0, h.r4, fun e => absurd rfl e, fun e => absurd hl e⟩
  · by_cases hf : p.flds = []
    · simp only [if_pos hf]
      exact ⟨h.lns, h.full, by simp only [h.its, List.append_assoc], rfl, rfl, h.recs, h.c0, h.r4, fun e => absurd rfl e, fun e => absurd hl e⟩
    · have h1 := h.rf hf
      have h2 := h.recs
      simp only [if_neg hf]
      exact ⟨h.lns, h.full, by simp only [h.its, List.append_assoc], rfl, rfl, by simp only; omega, h.c0, by simp only; omega, fun e => absurd rfl e, fun e => absurd hl e⟩
theorem end_rel (h : Rel I c p q) (hf : endS p = .inr p1) : ∃ q1, endS q = .inr q1 ∧ Rel I c p1 q1 := by
  unfold endS at hf ⊢
  cases e : flushS p with
  | inl x => rw [e] at hf; cases hf
  | inr r =>
    rw [e] at hf
    cases hf
    obtain ⟨q1, e1, h1⟩ := flush_rel h e
    rw [e1]
    exact ⟨_, rfl, close_rel h1 (flush_lns e)⟩
theorem begin_rel {a b a' b' : Int} {t : ByteArray × Bool} (h : Rel I c p q) : Rel I c (beginS p (a, b, t)) (beginS q (a', b', t)) := by
  have h1 := h.recs
  have h2 := h.c0
  have h3 := h.r4
  refine ⟨rfl, fun e => ?_, h.its, h.blk, h.flds, h.recs, h.c0, h.r4, h.rf, fun _ e => ?_⟩
  · simp only [beginS, ← h.flds, Bool.or_eq_true, Bool.and_eq_true, decide_eq_true_eq] at e ⊢
    rcases e with e | ⟨e1, e2⟩
    · exact .inl e
    · exact .inr ⟨e1, by omega⟩
  · simp only [beginS, Bool.or_eq_false_iff, Bool.and_eq_false_iff, decide_eq_false_iff_not] at e ⊢
    by_cases hf : p.flds = []
    · rcases e.2 with e | e
      · rw [hf] at e; simp at e
      · omega
    · exact h.rf hf
theorem more_rel {t : ByteArray} (h : Rel I c p q) (h0 : p.lns ≠ []) : Rel I c { p with lns := p.lns ++ [t] } { q with lns := q.lns ++ [t] } :=
  ⟨by simp only [h.lns], h.full, h.its, h.blk, h.flds, h.recs, h.c0, h.r4, h.rf, fun _ e => h.rl h0 e⟩
theorem ahead_rel {a b a' b' : Int} {t : ByteArray × Bool} {k : Int} (h : Rel I c p q) (hf : aheadS p (a, b, t) k = .inr p1) : ∃ q1, aheadS q (a', b', t) k = .inr q1 ∧ Rel I c p1 q1 := by
  unfold aheadS at hf ⊢
  split at hf
  · rename_i hk
    rw [if_pos hk]
    by_cases h0 : p.lns = []
    · rw [if_pos h0] at hf; cases hf
    · rw [if_neg h0] at hf
      rw [if_neg (by rw [← h.lns]; exact h0)]
      split at hf
      · rename_i he
        rw [if_pos he]
        cases hf
        exact ⟨_, rfl, more_rel h h0⟩
      · rename_i he
        rw [if_neg he]
        exact flush_rel (more_rel h h0) hf
  · rename_i hk
    rw [if_neg hk]
    split at hf
    · rename_i h1; rw [if_pos h1]; exact end_rel h hf
    · rename_i h1; rw [if_neg h1]; exact flush_rel h hf
theorem take_rel {a b a' b' : Int} {t : ByteArray × Bool} (h : Rel I c p q) (hf : takeS p (a, b, t) = .inr p1) : ∃ q1, takeS q (a', b', t) = .inr q1 ∧ Rel I c p1 q1 := by
  unfold takeS at hf ⊢
  simp only at hf ⊢
  cases e : aheadS p (a, b, t) (kindL (ls t.1)) with
  | inl x => rw [e] at hf; cases hf
  | inr r =>
    rw [e] at hf
    obtain ⟨r', e1, h1⟩ := ahead_rel (a' := a') (b' := b') h e
    rw [e1]
    simp only at hf ⊢
    unfold lineS at hf ⊢
    split at hf
    · cases hf
    · rename_i g1
      rw [if_neg g1]
      split at hf
      · rename_i g2
        rw [if_pos g2]
        cases hf
        exact ⟨_, rfl, h1.lns, h1.full, by simp only [h1.its, List.append_assoc], h1.blk, h1.flds, h1.recs, h1.c0, h1.r4, h1.rf, h1.rl⟩
      · rename_i g2
        rw [if_neg g2]
        split at hf
        · rename_i g3
          rw [if_pos g3]
          cases hf
          have h2 := begin_rel (a := a) (b := b) (a' := a') (b' := b') (t := t) h1
          exact ⟨_, rfl, h2.lns, h2.full, h2.its, by simp only [h1.blk], h2.flds, h2.recs, h2.c0, h2.r4, h2.rf, h2.rl⟩
        · rename_i g3
          rw [if_neg g3]
          cases hf
          exact ⟨_, rfl, h1.lns, h1.full, h1.its, by simp only [h1.blk], h1.flds, h1.recs, h1.c0, h1.r4, h1.rf, h1.rl⟩
end
theorem run_rel {I : List Itm} {c : Int} : ∀ (L L' : List Lne) (p q p1 : PSt), L.map (·.2.2) = L'.map (·.2.2) → Rel I c p q → runS p L = .inr p1 → ∃ q1, runS q L' = .inr q1 ∧ Rel I c p1 q1
  | [], [], p, q, p1, _, h, hr => by cases hr; exact ⟨_, rfl, h⟩
  | [], _ :: _, _, _, _, e, _, _ => by cases e
  | _ :: _, [], _, _, _, e, _, _ => by cases e
  | (a, b, t) :: r, (a', b', t') :: r', p, q, p1, e, h, hr => by
    simp only [List.map_cons, List.cons.injEq] at e
    obtain ⟨rfl, e⟩ := e
    simp only [runS] at hr ⊢
    cases e1 : takeS p (a, b, t) with
    | inl x => rw [e1] at hr; cases hr
    | inr p2 =>
      rw [e1] at hr
      obtain ⟨q2, e2, h2⟩ := take_rel (a' := a') (b' := b') h e1
      rw [e2]
      exact run_rel r r' p2 q2 p1 e h2 hr
end Q
end Ab
end Go.Proofs.YtlbainbjlibfiaaDoor
namespace Go.Proofs.YtlbainbjlibfiaaDoor
open Go.RowKit
namespace Ab
set_option maxRecDepth 100000
namespace Q
def szI (l : List Itm) : Nat := (l.map (·.2.1.size)).sum
def szB (l : List ByteArray) : Nat := (l.map (fun b => b.size + 1)).sum
def rawN (p : PSt) : Nat := szI p.its + szB p.blk
def Idle (p : PSt) : Prop := p.lns = [] ∧ p.blk = [] ∧ p.flds = []
theorem szI_app (a b : List Itm) : szI (a ++ b) = szI a + szI b := by simp [szI]
theorem szB_app (a b : List ByteArray) : szB (a ++ b) = szB a + szB b := by simp [szB]
theorem join_eq (c : UInt8) : ∀ (l : List ByteArray), l ≠ [] → (Lib.join (l.map (·.data.toList)) [c]).length + 1 = szB l
  | [], h => absurd rfl h
  | [a], _ => by
    rw [List.map_cons, List.map_nil, show Lib.join [a.data.toList] [c] = a.data.toList from by simp [Lib.join]]
    rw [← size_list]
    simp [szB]
  | a :: b :: r, _ => by
    have := join_eq c (b :: r) (by simp)
    rw [List.map_cons] at this
    rw [List.map_cons, List.map_cons, join_two]
    simp only [List.length_append, List.length_cons, List.length_nil, szB, List.map_cons, List.sum_cons, ← size_list] at this ⊢
    omega
theorem rawB_size {l : List ByteArray} (h : l ≠ []) : (rawB l).size = szB l := by
  have := join_eq 10 l h
  unfold rawB
  rw [ByteArray.size_append, bytes_size]
  exact this
theorem flush_same {p q : PSt} (h : flushS p = .inr q) : q.its = p.its ∧ q.blk = p.blk := by
  unfold flushS at h
  split at h
  · cases h; exact ⟨rfl, rfl⟩
  · split at h
    · cases h
    · split at h
      · cases h
      · cases h; exact ⟨rfl, rfl⟩
theorem close_took (p : PSt) : (∃ X, (closeS p).its = p.its ++ X ∧ ∀ x ∈ X, x.1 ≠ 1) ∧ rawN (closeS p) = rawN p ∧ (closeS p).blk = [] ∧ (closeS p).flds = [] ∧ (closeS p).lns = p.lns := by
  unfold closeS
  split
  · rename_i h
    exact ⟨⟨[], by simp, by simp⟩, by simp [rawN, h], rfl, rfl, rfl⟩
  · rename_i h
    refine ⟨⟨_, rfl, fun x hx => ?_⟩, ?_, rfl, rfl, rfl⟩
    · rw [List.mem_singleton.1 hx]
      simp only
      split <;> decide
    · simp only [rawN, szI_app]
      simp only [szI, List.map_cons, List.map_nil, List.sum_cons, List.sum_nil, rawB_size h]
      simp [szB]
theorem end_took {p q : PSt} (h : endS p = .inr q) : (∃ X, q.its = p.its ++ X ∧ ∀ x ∈ X, x.1 ≠ 1) ∧ rawN q = rawN p ∧ Idle q := by
  unfold endS at h
  cases e : flushS p with
  | inl x => rw [e] at h; cases h
  | inr r =>
    rw [e] at h
    cases h
    obtain ⟨h1, h2⟩ := flush_same e
    obtain ⟨h3, h4, h5, h6, h7⟩ := close_took r
    rw [h1] at h3
    refine ⟨h3, ?_, h7.trans (flush_lns e), h5, h6⟩
    rw [h4]
    unfold rawN
    rw [h1, h2]
theorem ahead_took {p q : PSt} {l : Lne} {k : Int} (h : aheadS p l k = .inr q) : (∃ X, q.its = p.its ++ X ∧ ∀ x ∈ X, x.1 ≠ 1) ∧ rawN q = rawN p ∧ (k = 1 → Idle q) := by
  unfold aheadS at h
  split at h
  · rename_i hk
    subst hk
    split at h
    · cases h
    · split at h
      · cases h
        exact ⟨⟨[], by simp, by simp⟩, rfl, fun e => by cases e⟩
      · obtain ⟨h1, h2⟩ := flush_same h
        exact ⟨⟨[], by simp [h1], by simp⟩, by unfold rawN; rw [h1, h2], fun e => by cases e⟩
  · split at h
    · obtain ⟨h1, h2, h3⟩ := end_took h
      exact ⟨h1, h2, fun _ => h3⟩
    · rename_i hk
      obtain ⟨h1, h2⟩ := flush_same h
      exact ⟨⟨[], by simp [h1], by simp⟩, by unfold rawN; rw [h1, h2], fun e => absurd e hk⟩
theorem take_took {p q : PSt} {l : Lne} (h : takeS p l = .inr q) : l.2.2.2 = true ∧ rawN q = rawN p + (l.2.2.1.size + 1) ∧ ∃ X Y, q.its = p.its ++ X ++ Y ∧ (∀ x ∈ X, x.1 ≠ 1) ∧ (Y = [] ∨ (∃ b, Y = [b]) ∧ Idle q) := by
  unfold takeS at h
  cases e : aheadS p l (kindL (ls l.2.2.1)) with
  | inl x => rw [e] at h; cases h
  | inr r =>
    rw [e] at h
    obtain ⟨⟨X, h1, h2⟩, h3, h4⟩ := ahead_took e
    simp only at h
    unfold lineS at h
    split at h
    · cases h
    · rename_i g0
      have he : l.2.2.2 = true := by
        cases e : l.2.2.2
        · exact absurd (.inr e) g0
        · rfl
      refine ⟨he, ?_⟩
      split at h
      · rename_i g1
        cases h
        obtain ⟨i1, i2, i3⟩ := h4 g1
        refine ⟨?_, X, [(1, l.2.2.1 ++ ⟨#[10]⟩, [])], by simp only [h1], h2, .inr ⟨⟨_, rfl⟩, i1, i2, i3⟩⟩
        rw [← h3]
        simp only [rawN, szI_app]
        simp only [szI, List.map_cons, List.map_nil, List.sum_cons, List.sum_nil, ByteArray.size_append]
        rw [show ByteArray.size ⟨#[10]⟩ = 1 from rfl]
        omega
      · split at h
        · cases h
          refine ⟨?_, X, [], by simp [beginS, h1], h2, .inl rfl⟩
          rw [← h3]
          simp only [rawN, szB_app, beginS]
          simp only [szB, List.map_cons, List.map_nil, List.sum_cons, List.sum_nil]
          omega
        · cases h
          refine ⟨?_, X, [], by simp [h1], h2, .inl rfl⟩
          rw [← h3]
          simp only [rawN, szB_app]
          simp only [szB, List.map_cons, List.map_nil, List.sum_cons, List.sum_nil]
          omega
def szL (L : List Lne) : Nat := (L.map (fun l => l.2.2.1.size + 1)).sum
theorem run_app : ∀ (L M : List Lne) (p q : PSt), runS p L = .inr q → runS p (L ++ M) = runS q M
  | [], M, p, q, h => by cases h; rfl
  | l :: r, M, p, q, h => by
    simp only [runS, List.cons_append] at h ⊢
    cases e : takeS p l with
    | inl x => rw [e] at h; cases h
    | inr p1 =>
      rw [e] at h
      exact run_app r M p1 q h
theorem rel_0 : Rel [] 0 pst0 pst0 := ⟨rfl, id, rfl, rfl, rfl, rfl, by decide, by decide, fun e => absurd rfl e, fun e => absurd rfl e⟩
theorem parse_of {s : ByteArray} {L : List Lne} {q q2 : PSt} (hL : (linesT s).map (·.2.2) = L.map (·.2.2)) (hr : runS pst0 L = .inr q) (he : endS q = .inr q2) : parseS s = .inr q2.its := by
  obtain ⟨q', h1, h2⟩ := run_rel L (linesT s) pst0 pst0 q hL.symm rel_0 hr
  obtain ⟨q3, h3, h4⟩ := end_rel h2 he
  unfold parseS
  rw [h1]
  simp only [h3]
  rw [h4.its]
  rfl
theorem lines_text (s : ByteArray) : (linesT s).map (·.2.2) = linesB s.size (ls s) := texts_linesR _ _ _ _
theorem lines_of {L : List Lne} (h : ∀ l ∈ L, l.2.2.2 = true ∧ (10 : UInt8) ∉ ls l.2.2.1) : (linesT (bytes (glue (L.map (·.2.2))))).map (·.2.2) = L.map (·.2.2) := by
  rw [lines_text, show ls (bytes (glue (L.map (·.2.2)))) = glue (L.map (·.2.2)) from bytes_list _]
  refine lines_glue _ _ (fun x hx => ?_) (by rw [bytes_size]; exact Nat.le_refl _)
  obtain ⟨l, hl, rfl⟩ := List.mem_map.1 hx
  exact h l hl
end Q
end Ab
end Go.Proofs.YtlbainbjlibfiaaDoor
namespace Go.Proofs.YtlbainbjlibfiaaDoor
open Go.RowKit
namespace Ab
set_option maxRecDepth 100000
namespace Q
def mkL (t : ByteArray) : Lne := (0, 0, t, true)
theorem lineB_map2 (k v : ByteArray) : (lineB k v).map ls = linesL k.data.toList v.data.toList := by
  unfold lineB
  rw [List.map_map]
  conv => rhs; rw [← List.map_id (linesL k.data.toList v.data.toList)]
  exact List.map_congr_left fun s _ => bytes_list s
theorem lineB_cut {f : Fld} (h : checkF f = 0) : ∃ a r, lineB f.1 f.2 = a :: r ∧ kindL (ls a) = 4 ∧ (∀ x ∈ r, kindL (ls x) = 3) ∧ unfoldL ((a :: r).map ls) = ((f.1.data.toList, f.2.data.toList), 0) := by
  obtain ⟨h1, h2, h3⟩ := check_ok h
  rw [size_list] at h2
  have hno := parts_no f.2.data.toList
  have h0 : (10 : UInt8) ∉ (partsL f.2.data.toList).headD [] := by
    cases e : partsL f.2.data.toList with
    | nil => exact absurd e (split_ne f.2.data.toList [10])
    | cons p ps => rw [e] at hno; exact hno p (by simp)
  have hu := unfold_lines h1 h2
  rw [← lineB_map2] at hu
  refine ⟨bytes (firstL f.1.data.toList ((partsL f.2.data.toList).headD [])), ((partsL f.2.data.toList).drop 1).map (fun s => bytes (32 :: stuffL s)), ?_, ?_, ?_, ?_⟩
  · unfold lineB linesL
    rw [List.map_cons, List.map_map]
    rfl
  · rw [show ls (bytes (firstL f.1.data.toList ((partsL f.2.data.toList).headD []))) = _ from bytes_list _]
    exact (first_kind h1 h0).1
  · intro x hx
    obtain ⟨s, hs, rfl⟩ := List.mem_map.1 hx
    rw [show ls (bytes (32 :: stuffL s)) = _ from bytes_list _]
    exact more_kind (hno s (List.mem_of_mem_drop hs))
  · rw [← hu]
    refine congrArg (fun x : List ByteArray => unfoldL (x.map ls)) ?_
    unfold lineB linesL
    rw [List.map_cons, List.map_map]
    rfl
def Ready (p : PSt) (F : List Fld) : Prop := ∃ q, flushS p = .inr q ∧ q.lns = [] ∧ q.flds = F ∧ q.its = p.its ∧ q.recs = p.recs ∧ q.blk = p.blk
theorem more_run : ∀ (r : List ByteArray) (p : PSt), (∀ x ∈ r, kindL (ls x) = 3) → p.lns ≠ [] → runS p (r.map mkL) = .inr { p with lns := p.lns ++ r, blk := p.blk ++ r }
  | [], p, _, _ => by simp [runS]
  | x :: r, p, h, h0 => by
    have hk := h x List.mem_cons_self
    have ht : takeS p (mkL x) = .inr { p with lns := p.lns ++ [x], blk := p.blk ++ [x] } := by
      unfold takeS mkL
      simp only [hk]
      simp [aheadS, lineS, h0]
    rw [List.map_cons]
    simp only [runS, ht]
    rw [more_run r _ (fun y hy => h y (List.mem_cons_of_mem _ hy)) (by simp)]
    simp
theorem field_run {f : Fld} (h : checkF f = 0) {p : PSt} {F : List Fld} (hr : Ready p F) (hF : F.length < 40) (hrec : p.recs ≠ 400) : ∃ q, runS p ((lineB f.1 f.2).map mkL) = .inr q ∧ Ready q (F ++ [f]) ∧ q.its = p.its ∧ q.recs = p.recs ∧ q.blk ≠ [] := by
  obtain ⟨a, r, e, hk4, hk3, hu⟩ := lineB_cut h
  obtain ⟨q, f1, f2, f3, f4, f5, f6⟩ := hr
  have hfull : (decide ((q.flds.length : Int) = 40) || (decide ((q.flds.length : Int) = 0) && decide (q.recs = 400))) = false := by
    rw [f3, f5]
    have h1 : ¬ (F.length : Int) = 40 := by omega
    simp [h1, hrec]
  have ht : takeS p (mkL a) = .inr ⟨[a], 0, false, q.its, q.blk ++ [a], q.flds, q.recs⟩ := by
    unfold takeS mkL
    simp only [hk4]
    have : aheadS p (0, 0, a, true) 4 = .inr q := by unfold aheadS; rw [if_neg (by decide), if_neg (by decide)]; exact f1
    rw [this]
    simp only [lineS, beginS, hfull]
    simp
  rw [e, List.map_cons]
  simp only [runS, ht]
  rw [more_run r _ hk3 (by simp)]
  refine ⟨_, rfl, ?_, f4, f5, by simp⟩
  refine ⟨⟨[], 0, false, q.its, q.blk ++ [a] ++ r, q.flds ++ [f], q.recs⟩, ?_, rfl, by simp only [f3], rfl, rfl, rfl⟩
  unfold flushS
  have e2 : ([a] ++ r).map ls = (a :: r).map ls := rfl
  rw [if_neg (by simp)]
  simp only [e2, hu]
  rw [bytes_ls f.1, bytes_ls f.2]
  rfl
theorem fields_run : ∀ (fs : List Fld) (p : PSt) (F : List Fld), (∀ f ∈ fs, checkF f = 0) → Ready p F → F.length + fs.length ≤ 40 → p.recs ≠ 400 → fs ≠ [] → ∃ q, runS p ((fs.flatMap fun f => lineB f.1 f.2).map mkL) = .inr q ∧ Ready q (F ++ fs) ∧ q.its = p.its ∧ q.recs = p.recs ∧ q.blk ≠ []
  | [], _, _, _, _, _, _, h => absurd rfl h
  | f :: r, p, F, h, hr, hF, hrec, _ => by
    rw [List.length_cons] at hF
    obtain ⟨q, e1, e2, e3, e4, e5⟩ := field_run (h f List.mem_cons_self) hr (by omega) hrec
    rw [List.flatMap_cons, List.map_append, run_app _ _ _ _ e1]
    by_cases h0 : r = []
    · subst h0
      exact ⟨q, rfl, e2, e3, e4, e5⟩
    · obtain ⟨q2, i1, i2, i3, i4, i5⟩ := fields_run r q (F ++ [f]) (fun g hg => h g (List.mem_cons_of_mem _ hg)) e2 (by rw [List.length_append, List.length_singleton]; omega) (by rw [e4]; exact hrec) h0
      exact ⟨q2, i1, by rw [List.append_assoc] at i2; exact i2, i3.trans e3, i4.trans e4, i5⟩
theorem ready_idle {p : PSt} {F : List Fld} (h : p.lns = []) (hF : p.flds = F) : Ready p F := ⟨p, by unfold flushS; rw [if_pos h], h, hF, rfl, rfl, rfl⟩
theorem end_run {p : PSt} {F : List Fld} (hr : Ready p F) (h0 : F ≠ []) (hb : p.blk ≠ []) : ∃ r q, endS p = .inr q ∧ Idle q ∧ q.its = p.its ++ [(3, r, F)] ∧ q.recs = p.recs + 1 := by
  obtain ⟨q, f1, f2, f3, f4, f5, f6⟩ := hr
  refine ⟨rawB q.blk, closeS q, ?_, ?_⟩
  · unfold endS
    rw [f1]
  · unfold closeS
    rw [if_neg (by rw [f6]; exact hb), f3]
    simp only [if_neg h0]
    exact ⟨⟨f2, rfl, rfl⟩, by rw [f4], by rw [f5]⟩
def foldsL (a b : List Fld) (n : List UInt8) : List ByteArray := bytes (35 :: n) :: ((a.flatMap fun f => lineB f.1 f.2) ++ (⟨#[]⟩ :: ((b.flatMap fun f => lineB f.1 f.2) ++ [bytes (35 :: n)])))
theorem glue_mk : ∀ (T : List ByteArray), glue ((T.map mkL).map (·.2.2)) = endL (T.map ls)
  | [] => rfl
  | t :: r => by
    rw [List.map_cons, List.map_cons]
    simp only [glue, glue_mk r, mkL, if_true]
    simp [endL]
theorem endL_flat (c : List Fld) : endL ((c.flatMap fun f => lineB f.1 f.2).map ls) = foldL c := by
  induction c with
  | nil => rfl
  | cons f r ih =>
    rw [List.flatMap_cons, List.map_append]
    unfold endL foldL at *
    rw [List.flatMap_append, ih, List.flatMap_cons, lineB_map2]
    rfl
end Q
end Ab
end Go.Proofs.YtlbainbjlibfiaaDoor
namespace Go.Proofs.YtlbainbjlibfiaaDoor
open Go.RowKit
namespace Ab
set_option maxRecDepth 100000
namespace Q
def recsT (l : List Itm) : List (List Fld) := (l.filter fun x => decide (x.1 = 3)).map (·.2.2)
def fldL (a : List Fld) : List ByteArray := a.flatMap fun f => lineB f.1 f.2
def textT : List (List Fld) → List ByteArray
  | [] => []
  | [a] => fldL a
  | a :: b :: r => fldL a ++ (⟨#[]⟩ :: textT (b :: r))
def GoodS (a : List Fld) : Prop := a ≠ [] ∧ a.length ≤ 40 ∧ ∀ f ∈ a, checkF f = 0
end Q
end Ab
end Go.Proofs.YtlbainbjlibfiaaDoor
namespace Go.Proofs.YtlbainbjlibfiaaDoor
open Go.RowKit
namespace Ab
set_option maxRecDepth 100000
namespace Q
def more (l : Lne) : Bool := decide (kindL (ls l.2.2.1) = 3)
def saidL (l : Lne) (r : List Lne) : List ByteArray := l.2.2.1 :: (r.takeWhile more).map (·.2.2.1)
def wrongL (bh : Bool) (l : Lne) (r : List Lne) (fields recs : Int) : Int :=
  if kindL (ls l.2.2.1) = 5 ∨ (kindL (ls l.2.2.1) = 3 ∧ bh = false) ∨ l.2.2.2 = false then 2
  else if kindL (ls l.2.2.1) ≠ 4 then 0
  else if (unfoldL ((saidL l r).map ls)).2 ≠ 0 then (unfoldL ((saidL l r).map ls)).2
  else if 40 ≤ fields ∨ (fields = 0 ∧ 400 ≤ recs) then 11
  else 0
structure RSt where
  kind : Int
  raw : ByteArray
  flds : List Fld
  out : List Itm
  recs : Int
def fldOf (L : List ByteArray) : Fld := (bytes (unfoldL (L.map ls)).1.1, bytes (unfoldL (L.map ls)).1.2)
def stepR (t : RSt) (l : Lne) (r : List Lne) : RSt :=
  if kindL (ls l.2.2.1) = 1 then ⟨2, ByteArray.empty, [], (if t.raw = ByteArray.empty then t.out else t.out ++ [(t.kind, t.raw, t.flds)]) ++ [(1, l.2.2.1 ++ ⟨#[10]⟩, [])], t.recs⟩
  else if kindL (ls l.2.2.1) = 4 then ⟨3, t.raw ++ l.2.2.1 ++ ⟨#[10]⟩, t.flds ++ [fldOf (saidL l r)], t.out, if t.kind = 2 then t.recs + 1 else t.recs⟩
  else { t with raw := t.raw ++ l.2.2.1 ++ ⟨#[10]⟩ }
def runR (bh : Bool) (t : RSt) : List Lne → (Int × Int) ⊕ List Itm
  | [] => .inr (if t.raw = ByteArray.empty then t.out else t.out ++ [(t.kind, t.raw, t.flds)])
  | l :: r => if wrongL bh l r t.flds.length t.recs ≠ 0 then .inl (l.1, wrongL bh l r t.flds.length t.recs)
    else runR (decide (kindL (ls l.2.2.1) = 4) || decide (kindL (ls l.2.2.1) = 3)) (stepR t l r) r
def rst0 : RSt := ⟨2, ByteArray.empty, [], [], 0⟩
def outP (p : PSt) (L : List Lne) : (Int × Int) ⊕ List Itm := match runS p L with
  | .inl e => .inl e
  | .inr q => match endS q with
    | .inl e => .inl e
    | .inr q => .inr q.its
def Ends : List Lne → Prop
  | [] => True
  | l :: r => (l.2.2.2 = false → r = []) ∧ Ends r
def rawC (b : List ByteArray) : ByteArray := bytes (endL (b.map ls))
theorem join_endL (c : UInt8) : ∀ (l : List (List UInt8)), l ≠ [] → Lib.join l [c] ++ [c] = l.flatMap fun s => s ++ [c]
  | [], h => absurd rfl h
  | [a], _ => by rw [Lib.join_one]; simp
  | a :: b :: r, _ => by
    have := join_endL c (b :: r) (by simp)
    rw [join_two, List.flatMap_cons, ← this]
    simp
theorem rawB_C {b : List ByteArray} (h : b ≠ []) : rawB b = rawC b := by
  unfold rawB rawC endL
  rw [show b.map ls = b.map (·.data.toList) from rfl, ← join_endL 10 (b.map (·.data.toList)) (by simpa using h), bytes_app]
  rfl
structure Alike (p : PSt) (t : RSt) (bh : Bool) (L : List Lne) : Prop where
  its : t.out = p.its
  raw : t.raw = rawC p.blk
  bh : bh = true ↔ p.lns ≠ []
  flds : t.flds = p.flds ++ (if p.lns = [] then [] else [fldOf (p.lns ++ (L.takeWhile more).map (·.2.2.1))])
  kind : t.kind = if t.flds = [] then 2 else 3
  recs : t.recs = p.recs + (if t.flds = [] then 0 else 1)
  pend : p.lns ≠ [] → p.full = false ∧ (unfoldL ((p.lns ++ (L.takeWhile more).map (·.2.2.1)).map ls)).2 = 0
  blk0 : p.blk = [] → t.flds = []
  r4 : p.recs ≤ 400
  rf : t.flds ≠ [] → p.recs < 400
  f40 : t.flds.length ≤ 40
section
variable {p : PSt} {t : RSt} {bh : Bool} {L : List Lne}
end
end Q
end Ab
end Go.Proofs.YtlbainbjlibfiaaDoor
namespace Go.Proofs.YtlbainbjlibfiaaDoor
open Go.RowKit
namespace Ab
set_option maxRecDepth 100000
namespace Q
theorem at_fault (at_ n : Int) : ACall Tryd.prog 28 [.one (errF at_ n)] (ii .i64 at_) := by
  refine acall_of (rs := [2]) Tryd.func28 rfl rfl rfl teOk rfl ?_
  refine acode_seq ?_
  refine acode_region ?_
  refine acode_seq ?_
  refine acode_seq ?_
  refine acode_region ?_
  refine acode_seq ?_
  refine acode_region ?_
  refine And.intro (fun h => trivial) ?_
  refine And.intro (fun h => ⟨⟨h, trivial⟩, trivial⟩) ?_
  refine And.intro (by exact fun h => h) ?_
  refine acode_cond rfl (fun h14 => ?_) (fun h14 => ?_)
  ·try simp only [Bool.and_eq_true] at h14
   try simp only [Int.toNat_natCast, dflt_sl, dflt_st, dflt_str, dflt_int, dflt_bool] at h14
   refine acode_seq ?_
   refine acode_region ?_
   refine acode_ret ?_
   rfl
  ·try simp only [Bool.and_eq_false_iff] at h14
   try simp only [Int.toNat_natCast, dflt_sl, dflt_st, dflt_str, dflt_int, dflt_bool] at h14
   simp at h14
theorem at_nil : ACall Tryd.prog 28 [.one (.lit .nilIface)] (ii .i64 (-9)) := by
  refine acall_of (rs := [2]) Tryd.func28 rfl rfl rfl teOk rfl ?_
  refine acode_seq ?_
  refine acode_region ?_
  refine acode_seq ?_
  refine acode_seq ?_
  refine acode_region ?_
  refine acode_seq ?_
  refine acode_region ?_
  refine And.intro (fun h => trivial) ?_
  refine And.intro (fun h => ⟨⟨h, trivial⟩, trivial⟩) ?_
  refine And.intro (by exact fun h => h) ?_
  refine acode_cond rfl (fun h14 => ?_) (fun h14 => ?_)
  ·try simp only [Bool.and_eq_true, Bool.not_eq_true'] at h14
   try simp only [Int.toNat_natCast, dflt_sl, dflt_st, dflt_str, dflt_int, dflt_bool] at h14
   simp at h14
  ·try simp only [Bool.not_eq_false', Bool.and_eq_false_iff] at h14
   try simp only [Int.toNat_natCast, dflt_sl, dflt_st, dflt_str, dflt_int, dflt_bool] at h14
   refine acode_skip ?_
   refine acode_seq ?_
   refine acode_region ?_
   refine acode_ret ?_
   rfl
end Q
end Ab
end Go.Proofs.YtlbainbjlibfiaaDoor
namespace Go.Proofs.YtlbainbjlibfiaaDoor
open Go.RowKit
namespace Ab
set_option maxRecDepth 100000
namespace Q
theorem endL_len : ∀ (L : List (List UInt8)), (endL L).length = (L.map (·.length)).sum + L.length
  | [] => rfl
  | x :: r => by
    have := endL_len r
    unfold endL at this ⊢
    simp only [List.flatMap_cons, List.length_append, List.length_cons, List.length_nil, List.map_cons, List.sum_cons, this]
    omega
theorem stuff_len2 (s : List UInt8) : (stuffL s).length ≤ s.length + 1 := by
  unfold stuffL
  split <;> simp
theorem join_sum (c : UInt8) : ∀ l : List (List UInt8), l ≠ [] → (Lib.join l [c]).length + 1 = (l.map (·.length)).sum + l.length
  | [], h => absurd rfl h
  | [a], _ => by rw [Lib.join_one]; simp
  | a :: b :: r, _ => by
    have := join_sum c (b :: r) (by simp)
    rw [join_two]
    simp only [List.length_append, List.length_cons, List.length_nil, List.map_cons, List.sum_cons] at this ⊢
    omega
theorem textL_len (f : Fld) : (textL f).length ≤ f.1.size + 4 * f.2.size + 3 := by
  unfold textL
  rw [endL_len]
  unfold linesL
  have h1 := join_sum 10 (partsL f.2.data.toList) (split_ne _ _)
  rw [parts_join] at h1
  cases e : partsL f.2.data.toList with
  | nil => exact absurd e (split_ne _ _)
  | cons p r =>
    rw [e] at h1
    have h2 := map_sum_le (fun s : List UInt8 => (32 :: stuffL s).length) (fun s => s.length + 2) r (fun s _ => by have := stuff_len2 s; simp only [List.length_cons]; omega)
    have h3 : (r.map fun s => s.length + 2).sum = (r.map (·.length)).sum + 2 * r.length := by
      clear h1 h2 e
      induction r with
      | nil => rfl
      | cons a r ih => simp only [List.map_cons, List.sum_cons, List.length_cons, ih]; omega
    have h4 : (firstL f.1.data.toList p).length ≤ f.1.size + 2 + p.length := by
      unfold firstL
      rw [size_list]
      split
      · simp only [List.length_append, List.length_cons, List.length_nil]; omega
      · simp only [List.length_append, List.length_cons, List.length_nil]; omega
    simp only [List.headD_cons, List.map_cons, List.sum_cons, List.length_cons, List.length_map, List.map_map, List.drop_succ_cons, List.drop_zero] at h1 h2 ⊢
    rw [size_list f.2]
    have h5 : (r.map ((fun x : List UInt8 => x.length) ∘ fun s => 32 :: stuffL s)).sum = (r.map fun s => (32 :: stuffL s).length).sum := rfl
    simp only [List.length_cons] at h5
    omega
theorem foldL_le : ∀ (l : List Fld), (∀ f ∈ l, checkF f = 0) → (foldL l).length ≤ 4 * sumF l + 3 * l.length
  | [], _ => by simp [foldL]
  | f :: r, h => by
    have h1 := foldL_le r (fun g hg => h g (List.mem_cons_of_mem _ hg))
    have h2 := textL_len f
    obtain ⟨_, h3, h4⟩ := check_ok (h f List.mem_cons_self)
    unfold foldL sumF at *
    simp only [List.flatMap_cons, List.length_append, List.map_cons, List.sum_cons, List.length_cons]
    omega
theorem much_sum {l : List Fld} (h : muchB l = false) : sumF l ≤ 6000 := by
  unfold muchB at h
  simp only [Bool.or_eq_false_iff, decide_eq_false_iff_not] at h
  omega
theorem foldB_size {l : List Fld} (h : muchB l = false) (hb : badF l = 0) (h4 : l.length ≤ 40) : (bytes (foldL l)).size ≤ 24120 := by
  rw [bytes_size]
  have h1 := foldL_le l (badF_zero hb)
  have h2 := much_sum h
  omega
end Q
end Ab
end Go.Proofs.YtlbainbjlibfiaaDoor
namespace Go.Proofs.YtlbainbjlibfiaaDoor
open Go.RowKit
namespace Ab
set_option maxRecDepth 100000
namespace Q
end Q
end Ab
end Go.Proofs.YtlbainbjlibfiaaDoor
namespace Go.Proofs.YtlbainbjlibfiaaDoor
open Go.RowKit
namespace Ab
set_option maxRecDepth 100000
namespace Q
structure SpI (s : ByteArray) (i at_ : Nat) (out : List Lne) : Prop where
  ai : at_ ≤ i
  is : i ≤ s.size
  no : (10 : UInt8) ∉ ((ls s).drop at_).take (i - at_)
  ol : out.length ≤ at_
  eq : ∃ f, ((ls s).drop at_).length ≤ f ∧ out ++ linesR f s.size out.length ((ls s).drop at_) = linesT s
def rawsL (l : List Itm) : List UInt8 := l.flatMap fun x => ls x.2.1
end Q
end Ab
end Go.Proofs.YtlbainbjlibfiaaDoor
namespace Go.Proofs.YtlbainbjlibfiaaDoor
open Go.RowKit
namespace Ab
set_option maxRecDepth 100000
namespace Q
def bhI (k : List Int) (i : Nat) : Bool := decide (0 < i) && (decide (k.getD (i - 1) 0 = 4) || decide (k.getD (i - 1) 0 = 3))
structure RI (L : List Lne) (k : List Int) (i : Nat) (t : RSt) : Prop where
  il : i ≤ L.length
  eq : runR false rst0 L = runR (bhI k i) t (L.drop i)
  r0 : 0 ≤ t.recs
  ri : t.recs ≤ i
  oi : t.out.length ≤ 2 * i
  fi : t.flds.length ≤ i
  rw_ : t.raw.size ≤ ((L.take i).map (fun l => l.2.2.1.size + 1)).sum
  rd : t.raw = ByteArray.empty ↔ t.raw.size = 0
def resR : (Int × Int) ⊕ List Itm → A
  | .inl e => .tup [(false, [.sl rItm []]), (false, [.lit (.int .i64 e.1)]), (false, [.lit (.int .i64 e.2)])]
  | .inr l => .tup [(false, [.sl rItm l]), (false, [.lit (.int .i64 (-9))]), (false, [.lit (.int .i64 0)])]
end Q
end Ab
end Go.Proofs.YtlbainbjlibfiaaDoor
namespace Go.Proofs.YtlbainbjlibfiaaDoor
open Go.RowKit
namespace Ab
set_option maxRecDepth 100000
namespace Q
abbrev rRow : Rd (List Fld) := .sl rFld
def recsL (l : List Itm) : List (List Fld) := (l.filter fun x => decide (x.1 = 3)).map (·.2.2)
def contP (p : PSt) : List UInt8 := rawsL p.its ++ endL (p.blk.map ls)
theorem raws_app (a b : List Itm) : rawsL (a ++ b) = rawsL a ++ rawsL b := by simp [rawsL]
theorem endL_app (a b : List (List UInt8)) : endL (a ++ b) = endL a ++ endL b := by simp [endL]
theorem close_cont (p : PSt) : contP (closeS p) = contP p := by
  unfold closeS
  split
  · rename_i h
    unfold contP
    simp [h]
  · rename_i h
    unfold contP
    simp only [raws_app]
    rw [rawB_C h]
    have : rawsL [((if p.flds = [] then 2 else 3 : Int), rawC p.blk, p.flds)] = endL (p.blk.map ls) := by
      unfold rawsL rawC
      simp only [List.flatMap_cons, List.flatMap_nil, List.append_nil]
      exact bytes_list _
    rw [this]
    simp [endL]
theorem flush_cont {p q : PSt} (h : flushS p = .inr q) : contP q = contP p := by
  obtain ⟨h1, h2⟩ := flush_same h
  unfold contP
  rw [h1, h2]
theorem end_cont {p q : PSt} (h : endS p = .inr q) : contP q = contP p := by
  unfold endS at h
  cases e : flushS p with
  | inl x => rw [e] at h; cases h
  | inr r =>
    rw [e] at h
    cases h
    rw [close_cont, flush_cont e]
theorem ahead_cont {p q : PSt} {l : Lne} {k : Int} (h : aheadS p l k = .inr q) : contP q = contP p := by
  unfold aheadS at h
  split at h
  · split at h
    · cases h
    · split at h
      · cases h; rfl
      · rw [flush_cont h]; rfl
  · split at h
    · exact end_cont h
    · exact flush_cont h
theorem take_cont {p q : PSt} {l : Lne} (h : takeS p l = .inr q) : contP q = contP p ++ (ls l.2.2.1 ++ [10]) := by
  have hi := fun hk => (ahead_took (p := p) (l := l) (k := kindL (ls l.2.2.1)) (q := q) hk)
  unfold takeS at h
  cases e : aheadS p l (kindL (ls l.2.2.1)) with
  | inl x => rw [e] at h; cases h
  | inr r =>
    rw [e] at h
    have hc := ahead_cont e
    obtain ⟨_, _, h4⟩ := ahead_took e
    simp only at h
    unfold lineS at h
    split at h
    · cases h
    · split at h
      · rename_i g1
        cases h
        rw [← hc]
        unfold contP
        simp only [raws_app, (h4 g1).2.1]
        simp [rawsL, endL, ls]
      · split at h
        · cases h
          rw [← hc]
          unfold contP beginS
          simp only [List.map_append, endL_app]
          simp [endL, ls]
        · cases h
          rw [← hc]
          unfold contP
          simp only [List.map_append, endL_app]
          simp [endL, ls]
theorem run_cont : ∀ (L : List Lne) (p q : PSt), runS p L = .inr q → contP q = contP p ++ glue (L.map (·.2.2))
  | [], p, q, h => by cases h; simp [glue]
  | l :: r, p, q, h => by
    simp only [runS] at h
    cases e : takeS p l with
    | inl x => rw [e] at h; cases h
    | inr p1 =>
      rw [e] at h
      obtain ⟨he, _⟩ := take_took e
      rw [run_cont r p1 q h, take_cont e, List.map_cons]
      simp only [glue, he, if_true, List.append_assoc]
theorem raws_text {s : ByteArray} {l : List Itm} (hp : parseS s = .inr l) : bytes (rawsL l) = s := by
  unfold parseS at hp
  cases e : runS pst0 (linesT s) with
  | inl x => rw [e] at hp; cases hp
  | inr p =>
    rw [e] at hp
    simp only at hp
    cases e2 : endS p with
    | inl x => rw [e2] at hp; cases hp
    | inr q =>
      rw [e2] at hp
      cases hp
      obtain ⟨_, _, hidle⟩ := end_took e2
      have h1 : contP q = rawsL q.its := by unfold contP; rw [hidle.2.1]; simp [endL]
      rw [← h1, end_cont e2, run_cont _ _ _ e, lines_text, glue_lines _ _ (by rw [show (ls s).length = s.size from (size_list s).symm]; exact Nat.le_refl _)]
      exact bytes_ls s
theorem at_errno (n : Int) : ACall Tryd.prog 28 [.one (errN n)] (ii .i64 (-9)) := by
  refine acall_of (rs := [2]) Tryd.func28 rfl rfl rfl teOk rfl ?_
  refine acode_seq ?_
  refine acode_region ?_
  refine acode_seq ?_
  refine acode_seq ?_
  refine acode_region ?_
  refine acode_seq ?_
  refine acode_region ?_
  refine And.intro (fun h => trivial) ?_
  refine And.intro (fun h => ⟨⟨h, trivial⟩, trivial⟩) ?_
  refine And.intro (by exact fun h => h) ?_
  refine acode_cond rfl (fun h14 => ?_) (fun h14 => ?_)
  ·try simp only [Bool.and_eq_true, Bool.not_eq_true'] at h14
   try simp only [Int.toNat_natCast, dflt_sl, dflt_st, dflt_str, dflt_int, dflt_bool] at h14
   simp at h14
  ·try simp only [Bool.not_eq_false', Bool.and_eq_false_iff] at h14
   try simp only [Int.toNat_natCast, dflt_sl, dflt_st, dflt_str, dflt_int, dflt_bool] at h14
   refine acode_skip ?_
   refine acode_seq ?_
   refine acode_region ?_
   refine acode_ret ?_
   rfl
end Q
end Ab
end Go.Proofs.YtlbainbjlibfiaaDoor
namespace Go.Proofs.YtlbainbjlibfiaaDoor
open Go.RowKit
namespace Ab
set_option maxRecDepth 100000
namespace Q
def badAt : Int → List Fld → Int × Int
  | _, [] => (-9, 0)
  | i, f :: r => if checkF f ≠ 0 then (i, checkF f) else badAt (i + 1) r
def chkR (l : List Fld) : Int × Int := if l = [] then (-9, 2) else if 40 < l.length then (-9, 11) else badAt 0 l
def chkA (l : List Fld) : C := if (chkR l).2 = 0 then .lit .nilIface else if (chkR l).1 = -9 then errN (chkR l).2 else errF (chkR l).1 (chkR l).2
theorem badAt_hit : ∀ (l : List Fld) (i : Nat) (k : Int), i < l.length → (∀ f ∈ l.take i, checkF f = 0) → checkF (l.getD i (ByteArray.empty, ByteArray.empty)) ≠ 0 → badAt k l = (k + i, checkF (l.getD i (ByteArray.empty, ByteArray.empty)))
  | [], i, k, h, _, _ => by simp at h
  | f :: r, 0, k, _, _, hb => by
    unfold badAt
    rw [if_pos (by simpa using hb)]
    simp
  | f :: r, i + 1, k, h, ht, hb => by
    unfold badAt
    rw [if_neg (by simpa using ht f (by simp))]
    rw [badAt_hit r i (k + 1) (by simpa using h) (fun g hg => ht g (by simp [hg])) (by simpa using hb)]
    simp only [List.getD_cons_succ]
    congr 1
    omega
theorem badAt_no : ∀ (l : List Fld) (k : Int), (∀ f ∈ l, checkF f = 0) → badAt k l = (-9, 0)
  | [], _, _ => rfl
  | f :: r, k, h => by
    unfold badAt
    rw [if_neg (by simpa using h f (by simp))]
    exact badAt_no r (k + 1) (fun g hg => h g (by simp [hg]))
theorem chkA_nil {l : List Fld} (h : chkR l = (-9, 0)) : chkA l = .lit .nilIface := by unfold chkA; rw [h]; rfl
theorem chkA_no {l : List Fld} {n : Int} (h : chkR l = (-9, n)) (hn : n ≠ 0) : chkA l = errN n := by unfold chkA; rw [h, if_neg hn, if_pos rfl]
theorem chkA_at {l : List Fld} {i n : Int} (h : chkR l = (i, n)) (hn : n ≠ 0) (hi : 0 ≤ i) : chkA l = errF i n := by unfold chkA; rw [h, if_neg hn, if_neg (by show ¬ i = -9; omega)]
theorem pcheck_c {κ : Nat} (l : List Fld) (hl : FldsOk l) : ACall Tryd.prog 25 [.one (.slk κ rFld l)] (.one (chkA l)) := by
  have hln := hl.1
  refine acall_of (rs := [2]) Tryd.func25 rfl rfl rfl teOk rfl ?_
  refine acode_seq ?_
  refine acode_region ?_
  refine acode_seq ?_
  refine acode_block ?_
  refine acode_seq ?_
  refine acode_region ?_
  intro l1_1
  try simp only [Int.toNat_natCast, dflt_sl, dflt_st, dflt_str, dflt_int, dflt_bool] at l1_1
  refine acode_cond rfl (fun h6 => ?_) (fun h6 => ?_)
  ·try simp only [decide_eq_true_eq] at h6
   try simp only [Int.toNat_natCast, dflt_sl, dflt_st, dflt_str, dflt_int, dflt_bool] at h6
   refine acode_seq ?_
   refine acode_region ?_
   refine acode_ret ?_
   rw [chkA_no (l := l) (n := 2) (by unfold chkR; rw [if_pos (List.eq_nil_of_length_eq_zero (by omega))]) (by decide)]
   rfl
  ·try simp only [decide_eq_false_iff_not] at h6
   try simp only [Int.toNat_natCast, dflt_sl, dflt_st, dflt_str, dflt_int, dflt_bool] at h6
   refine acode_seq ?_
   refine acode_region ?_
   intro l3_1
   try simp only [Int.toNat_natCast, dflt_sl, dflt_st, dflt_str, dflt_int, dflt_bool] at l3_1
   refine acode_cond rfl (fun h11 => ?_) (fun h11 => ?_)
   ·try simp only [decide_eq_true_eq] at h11
    try simp only [Int.toNat_natCast, dflt_sl, dflt_st, dflt_str, dflt_int, dflt_bool] at h11
    refine acode_seq ?_
    refine acode_region ?_
    refine acode_ret ?_
    rw [chkA_no (l := l) (n := 11) (by unfold chkR; rw [if_neg (fun e => h6 (by rw [e]; rfl)), if_pos (by omega)]) (by decide)]
    rfl
   ·try simp only [decide_eq_false_iff_not, Int.not_lt] at h11
    try simp only [Int.toNat_natCast, dflt_sl, dflt_st, dflt_str, dflt_int, dflt_bool] at h11
    refine acode_skip ?_
    refine acode_seq ?_
    refine acode_seq ?_
    refine acode_region ?_
    intro l5_1
    try simp only [Int.toNat_natCast, dflt_sl, dflt_st, dflt_str, dflt_int, dflt_bool] at l5_1
    refine acode_block ?_
    refine acode_loopP (fun (i : Nat) => i ≤ l.length ∧ ∀ f ∈ l.take i, checkF f = 0) (fun (i : Nat) => [(16, .one (.slk κ rFld l)), (17, ii .i64 l.length), (18, ii .i64 i)]) (fun (i : Nat) => []) 0 (fun (i : Nat) => l.length - i) 0 (⟨Nat.zero_le _, by simp⟩) (le_of ⟨rfl, rfl, rfl⟩ trivial rfl) ?_
    intro i hI1
    obtain ⟨hi, hall⟩ := hI1
    refine acode_seq ?_
    refine acode_region ?_
    refine acode_seq ?_
    refine acode_cond rfl (fun h19 => ?_) (fun h19 => ?_)
    ·try simp only [decide_eq_true_eq] at h19
     try simp only [Int.toNat_natCast, dflt_sl, dflt_st, dflt_str, dflt_int, dflt_bool] at h19
     have hlt : i < l.length := (by omega)
     have hm := hl.2 _ (getD_mem hlt (ByteArray.empty, ByteArray.empty))
     have hne : l ≠ [] := (fun e => by rw [e] at hlt; simp at hlt)
     refine acode_skip ?_
     refine acode_seq ?_
     refine acode_block ?_
     refine acode_seq ?_
     refine acode_region ?_
     refine And.intro (by first | omega | assumption | decide | (simp only [Int.toNat_natCast, dflt_sl, dflt_st, dflt_str, dflt_int, dflt_bool]; omega) | (simp <;> omega)) ?_
     refine acode_seq ?_
     rcases check_cases (l.getD i (ByteArray.empty, ByteArray.empty)) with hc|hc|hc
     ·refine acode_region ?_
      refine Or.inl ?_
      refine And.intro (rfl) ?_
      refine Exists.intro _ (And.intro (check_v (l.getD i (ByteArray.empty, ByteArray.empty)) _ (by omega) hc) ?_)
      refine acode_seq ?_
      refine acode_region ?_
      refine acode_cond rfl (fun h26 => ?_) (fun h26 => ?_)
      ·skip
       refine acode_seq ?_
       refine acode_region ?_
       refine acode_ret ?_
       rw [chkA_at (l := l) (i := i) (n := 5) (by unfold chkR; rw [if_neg hne, if_neg (by omega), badAt_hit l i 0 hlt hall (by rw [hc]; decide), hc]; simp) (by decide) (by omega)]
       rfl
      ·try simp only [decide_eq_true_eq, decide_eq_false_iff_not, Bool.and_eq_true, Bool.not_eq_true', Bool.not_eq_false', Bool.or_eq_false_iff, Bool.or_eq_true, Bool.and_eq_false_iff, Int.not_lt, Int.not_le] at h26
       try simp only [Int.toNat_natCast, dflt_sl, dflt_st, dflt_str, dflt_int, dflt_bool] at h26
       cases h26
     ·refine acode_region ?_
      refine Or.inl ?_
      refine And.intro (rfl) ?_
      refine Exists.intro _ (And.intro (check_v (l.getD i (ByteArray.empty, ByteArray.empty)) _ (by omega) hc) ?_)
      refine acode_seq ?_
      refine acode_region ?_
      refine acode_cond rfl (fun h26 => ?_) (fun h26 => ?_)
      ·skip
       refine acode_seq ?_
       refine acode_region ?_
       refine acode_ret ?_
       rw [chkA_at (l := l) (i := i) (n := 6) (by unfold chkR; rw [if_neg hne, if_neg (by omega), badAt_hit l i 0 hlt hall (by rw [hc]; decide), hc]; simp) (by decide) (by omega)]
       rfl
      ·try simp only [decide_eq_true_eq, decide_eq_false_iff_not, Bool.and_eq_true, Bool.not_eq_true', Bool.not_eq_false', Bool.or_eq_false_iff, Bool.or_eq_true, Bool.and_eq_false_iff, Int.not_lt, Int.not_le] at h26
       try simp only [Int.toNat_natCast, dflt_sl, dflt_st, dflt_str, dflt_int, dflt_bool] at h26
       cases h26
     ·refine acode_region ?_
      refine Or.inl ?_
      refine And.intro (rfl) ?_
      refine Exists.intro _ (And.intro (check_v (l.getD i (ByteArray.empty, ByteArray.empty)) _ (by omega) hc) ?_)
      refine acode_seq ?_
      refine acode_region ?_
      refine acode_cond rfl (fun h26 => ?_) (fun h26 => ?_)
      ·try simp only [Bool.not_eq_true'] at h26
       try simp only [Int.toNat_natCast, dflt_sl, dflt_st, dflt_str, dflt_int, dflt_bool] at h26
       cases h26
      ·try simp only [Bool.not_eq_false'] at h26
       try simp only [Int.toNat_natCast, dflt_sl, dflt_st, dflt_str, dflt_int, dflt_bool] at h26
       refine acode_skip ?_
       refine acode_region ?_
       refine And.intro (by first | omega | assumption | decide | (simp only [Int.toNat_natCast, dflt_sl, dflt_st, dflt_str, dflt_int, dflt_bool]; omega) | (simp <;> omega)) ?_
       exact ⟨i + 1, ⟨by omega, by rw [← take_snoc (ByteArray.empty, ByteArray.empty) hlt]; intro f hf; rcases List.mem_append.1 hf with h|h; exact hall f h; rw [List.mem_singleton.1 h]; exact hc⟩, by first | omega | (simp <;> omega), le_of ⟨rfl, rfl, (ii_eq (by omega))⟩ trivial rfl⟩
    ·try simp only [decide_eq_false_iff_not, Int.not_lt] at h19
     try simp only [Int.toNat_natCast, dflt_sl, dflt_st, dflt_str, dflt_int, dflt_bool] at h19
     refine acode_exit ?_
     refine acode_seq ?_
     refine acode_region ?_
     refine acode_ret ?_
     rw [List.take_of_length_le (by omega)] at hall
     rw [chkA_nil (by unfold chkR; rw [if_neg (fun e => h6 (by rw [e]; rfl)), if_neg (by omega)]; exact badAt_no l 0 hall)]
     rfl
theorem badAt_zero : ∀ (l : List Fld) (k : Int), (badAt k l).2 = 0 → (∀ f ∈ l, checkF f = 0)
  | [], _, _, f, hf => by cases hf
  | g :: r, k, h, f, hf => by
    unfold badAt at h
    split at h
    · rename_i hg; exact absurd h hg
    · rename_i hg
      rcases List.mem_cons.1 hf with rfl | hf
      · exact Classical.not_not.1 hg
      · exact badAt_zero r (k + 1) h f hf
theorem chk_good {l : List Fld} (h : (chkR l).2 = 0) : GoodS l ∧ badF l = 0 ∧ chkA l = .lit .nilIface := by
  have hA : chkA l = .lit .nilIface := by unfold chkA; rw [if_pos h]
  unfold chkR at h
  split at h
  · cases h
  · rename_i h0
    split at h
    · cases h
    · rename_i h4
      have := badAt_zero l 0 h
      exact ⟨⟨h0, by omega, this⟩, badF_ok this, hA⟩
theorem chk_bad {l : List Fld} (h : (chkR l).2 ≠ 0) : ∃ e, chkA l = e ∧ ((∃ n, n ≠ 0 ∧ e = errN n ∧ chkR l = (-9, n)) ∨ ∃ i n, n ≠ 0 ∧ e = errF i n ∧ chkR l = (i, n)) := by
  refine ⟨_, rfl, ?_⟩
  unfold chkA
  rw [if_neg h]
  by_cases h9 : (chkR l).1 = -9
  · rw [if_pos h9]
    exact .inl ⟨_, h, rfl, Prod.ext h9 rfl⟩
  · rw [if_neg h9]
    exact .inr ⟨_, _, h, rfl, rfl⟩
theorem pstanza_ok {κ : Nat} {l : List Fld} (hl : FldsOk l) (h : (chkR l).2 = 0) : ACall Tryd.prog 23 [.one (.slk κ rFld l)] (.tup [(false, [.lit (.string (bytes (foldL l)))]), (false, [.lit .nilIface])]) := by
  obtain ⟨h1, h2, h3⟩ := chk_good h
  have hc := pcheck_c (κ := κ) l hl
  rw [h3] at hc
  refine acall_of (rs := [2, 3]) Tryd.func23 rfl rfl rfl teOk rfl ?_
  refine acode_seq ?_
  refine acode_region ?_
  refine acode_seq ?_
  refine acode_seq ?_
  refine acode_region ?_
  refine Or.inl ?_
  refine And.intro (rfl) ?_
  refine Exists.intro _ (And.intro (hc) ?_)
  refine acode_seq ?_
  refine acode_region ?_
  refine acode_cond rfl (fun h8 => ?_) (fun h8 => ?_)
  ·try simp only [Bool.not_eq_true'] at h8
   try simp only [Int.toNat_natCast, dflt_sl, dflt_st, dflt_str, dflt_int, dflt_bool] at h8
   cases h8
  ·try simp only [Bool.not_eq_false'] at h8
   try simp only [Int.toNat_natCast, dflt_sl, dflt_st, dflt_str, dflt_int, dflt_bool] at h8
   refine acode_skip ?_
   refine acode_seq ?_
   refine acode_region ?_
   refine Or.inl ?_
   refine And.intro (rfl) ?_
   refine Exists.intro _ (And.intro (fold_yes hl h2) ?_)
   refine acode_ret ?_
   rfl
theorem pstanza_err {κ : Nat} {l : List Fld} (hl : FldsOk l) (h : (chkR l).2 ≠ 0) : ACall Tryd.prog 23 [.one (.slk κ rFld l)] (.tup [(false, [.lit (.string ⟨#[]⟩)]), (false, [chkA l])]) := by
  have hc := pcheck_c (κ := κ) l hl
  obtain ⟨e, he, hs⟩ := chk_bad h
  rw [he] at hc ⊢
  rcases hs with ⟨n, hn, rfl, _⟩ | ⟨i, n, hn, rfl, _⟩
  ·
    refine acall_of (rs := [2, 3]) Tryd.func23 rfl rfl rfl teOk rfl ?_
    refine acode_seq ?_
    refine acode_region ?_
    refine acode_seq ?_
    refine acode_seq ?_
    refine acode_region ?_
    refine Or.inl ?_
    refine And.intro (rfl) ?_
    refine Exists.intro _ (And.intro (hc) ?_)
    refine acode_seq ?_
    refine acode_region ?_
    refine acode_cond rfl (fun h8 => ?_) (fun h8 => ?_)
    ·skip
     refine acode_seq ?_
     refine acode_region ?_
     refine acode_ret ?_
     rfl
    ·try simp only [decide_eq_true_eq, decide_eq_false_iff_not, Bool.and_eq_true, Bool.not_eq_true', Bool.not_eq_false', Bool.or_eq_false_iff, Bool.or_eq_true, Bool.and_eq_false_iff, Int.not_lt, Int.not_le] at h8
     try simp only [Int.toNat_natCast, dflt_sl, dflt_st, dflt_str, dflt_int, dflt_bool] at h8
     cases h8
  ·
    refine acall_of (rs := [2, 3]) Tryd.func23 rfl rfl rfl teOk rfl ?_
    refine acode_seq ?_
    refine acode_region ?_
    refine acode_seq ?_
    refine acode_seq ?_
    refine acode_region ?_
    refine Or.inl ?_
    refine And.intro (rfl) ?_
    refine Exists.intro _ (And.intro (hc) ?_)
    refine acode_seq ?_
    refine acode_region ?_
    refine acode_cond rfl (fun h8 => ?_) (fun h8 => ?_)
    ·skip
     refine acode_seq ?_
     refine acode_region ?_
     refine acode_ret ?_
     rfl
    ·try simp only [decide_eq_true_eq, decide_eq_false_iff_not, Bool.and_eq_true, Bool.not_eq_true', Bool.not_eq_false', Bool.or_eq_false_iff, Bool.or_eq_true, Bool.and_eq_false_iff, Int.not_lt, Int.not_le] at h8
     try simp only [Int.toNat_natCast, dflt_sl, dflt_st, dflt_str, dflt_int, dflt_bool] at h8
     cases h8
theorem foldG_len {a : List Fld} (h : GoodS a) : (foldL a).length ≤ 40 * 5000000 :=
  Nat.le_trans (flat_le textL 5000000 a fun f hf => (text_len (h.2.2 f hf)).1) (Nat.mul_le_mul_right _ h.2.1)
theorem map_foldB (l : List (List Fld)) : (l.map fun a => bytes (foldL a)).map (·.data.toList) = l.map foldL := by
  rw [List.map_map]
  exact List.map_congr_left fun a _ => bytes_list _
theorem joinG_len {l : List (List Fld)} (h : ∀ a ∈ l, GoodS a) (hl : l.length ≤ 1000) : (Lib.join ((l.map fun a => bytes (foldL a)).map (·.data.toList)) [10]).length ≤ 140737488355328 := by
  rw [map_foldB]
  refine Nat.le_trans (joinL_len 10 _) ?_
  rw [List.map_map, List.length_map]
  have h1 : ∀ m : List (List Fld), (∀ a ∈ m, GoodS a) → (m.map ((·.length) ∘ foldL)).sum ≤ m.length * 200000000 := by
    intro m
    induction m with
    | nil => intro _; simp
    | cons a r ih =>
      intro hm
      have h2 := ih fun b hb => hm b (List.mem_cons_of_mem _ hb)
      have h3 := foldG_len (hm a List.mem_cons_self)
      simp only [List.map_cons, List.sum_cons, List.length_cons, Function.comp_apply]
      omega
  have := h1 l h
  omega
theorem ptext_ok {l : List (List Fld)} (hl : l.length ≤ 1000) (hf : ∀ a ∈ l, FldsOk a) (h : ∀ a ∈ l, (chkR a).2 = 0) : ACall Tryd.prog 32 [.one (.sl rRow l)] (.tup [(false, [.lit (.string (bytes (Lib.join (l.map foldL) [10])))]), (false, [.lit .nilIface])]) := by
  have hg : ∀ a ∈ l, GoodS a := fun a ha => (chk_good (h a ha)).1
  have hjl := joinG_len hg hl
  have hj := join_c (l.map fun a => bytes (foldL a)) ⟨#[10]⟩ (by rw [List.length_map]; omega) hjl
  rw [map_foldB] at hj
  refine acall_of (rs := [2, 3]) Tryd.func32 rfl rfl rfl teOk rfl ?_
  refine acode_seq ?_
  refine acode_region ?_
  refine acode_seq ?_
  refine acode_region ?_
  refine acode_seq ?_
  refine acode_seq ?_
  refine acode_nilvec 4 9 .str rfl ?_
  refine acode_region ?_
  intro l2_1
  try simp only [Int.toNat_natCast, dflt_sl, dflt_st, dflt_str, dflt_int, dflt_bool] at l2_1
  refine acode_block ?_
  refine acode_loopP (fun (i : Nat) => i ≤ l.length) (fun (i : Nat) => [(4, .one (.vec 0)), (9, .one (.sl rRow l)), (10, ii .i64 l.length), (11, ii .i64 i)]) (fun (i : Nat) => [(0, .vec 9 .str ((l.take i).map fun a => bytes (foldL a)))]) 1 (fun (i : Nat) => l.length - i) 0 (Nat.zero_le _) (le_of ⟨rfl, rfl, rfl, rfl⟩ rfl rfl) ?_
  intro i hI0
  refine acode_seq ?_
  refine acode_region ?_
  refine acode_seq ?_
  refine acode_cond rfl (fun h12 => ?_) (fun h12 => ?_)
  ·try simp only [decide_eq_true_eq] at h12
   try simp only [Int.toNat_natCast, dflt_sl, dflt_st, dflt_str, dflt_int, dflt_bool] at h12
   have hil : i < l.length := (by omega)
   have hm := getD_mem hil ([] : List Fld)
   refine acode_skip ?_
   refine acode_seq ?_
   refine acode_block ?_
   refine acode_seq ?_
   refine acode_region ?_
   refine And.intro (by first | omega | assumption | decide | (simp only [Int.toNat_natCast, dflt_sl, dflt_st, dflt_str, dflt_int, dflt_bool]; omega) | (simp <;> omega)) ?_
   refine acode_seq ?_
   refine acode_region ?_
   refine Or.inl ?_
   refine And.intro (rfl) ?_
   refine Exists.intro _ (And.intro (pstanza_ok (hf _ hm) (h _ hm)) ?_)
   refine acode_seq ?_
   refine acode_seq ?_
   refine acode_region ?_
   refine acode_cond rfl (fun h21 => ?_) (fun h21 => ?_)
   ·try simp only [Bool.not_eq_true'] at h21
    try simp only [Int.toNat_natCast, dflt_sl, dflt_st, dflt_str, dflt_int, dflt_bool] at h21
    cases h21
   ·try simp only [Bool.not_eq_false'] at h21
    try simp only [Int.toNat_natCast, dflt_sl, dflt_st, dflt_str, dflt_int, dflt_bool] at h21
    refine acode_skip ?_
    refine acode_region ?_
    refine And.intro (by first | exact app_le (by first | omega | (simp only [List.length_cons, List.length_nil, List.length_map, List.length_take]; omega) | (simp; omega)) (by decide) | omega | assumption | decide | (simp only [Int.toNat_natCast, dflt_sl, dflt_st, dflt_str, dflt_int, dflt_bool]; omega) | (simp <;> omega)) ?_
    refine acode_region ?_
    refine And.intro (by first | omega | assumption | decide | (simp only [Int.toNat_natCast, dflt_sl, dflt_st, dflt_str, dflt_int, dflt_bool]; omega) | (simp <;> omega)) ?_
    exact ⟨i + 1, by omega, by first | omega | (simp <;> omega), le_of ⟨rfl, rfl, rfl, (ii_eq (by omega))⟩ (vec_eq (by rw [← take_snoc ([] : List Fld) hil, List.map_append]; rfl)) rfl⟩
  ·try simp only [decide_eq_false_iff_not, Int.not_lt] at h12
   try simp only [Int.toNat_natCast, dflt_sl, dflt_st, dflt_str, dflt_int, dflt_bool] at h12
   refine acode_exit ?_
   refine acode_seq ?_
   rw [List.take_of_length_le (by omega)]
   refine acode_region ?_
   refine Or.inl ?_
   refine And.intro (rfl) ?_
   refine Exists.intro _ (And.intro (hj) ?_)
   refine acode_ret ?_
   rfl
end Q
end Ab
end Go.Proofs.YtlbainbjlibfiaaDoor
namespace Go.Proofs.YtlbainbjlibfiaaDoor
open Go.RowKit
namespace Ab
set_option maxRecDepth 100000
namespace Q
def apartK (k : Int) : List Itm → List Itm
  | [] => []
  | x :: r => if k ≠ 1 ∧ x.1 ≠ 1 then (1, ⟨#[10]⟩, []) :: x :: apartK x.1 r else x :: apartK x.1 r
def apartL (l : List Itm) : List Itm := apartK 1 l
def altK (k : Int) : List Itm → Prop
  | [] => True
  | x :: r => (k = 1 ∨ x.1 = 1) ∧ altK x.1 r
def lastK (k : Int) : List Itm → Int
  | [] => k
  | x :: r => lastK x.1 r
def AltP (p : PSt) : Prop := altK 1 p.its ∧ lastK 1 p.its = 1
end Q
end Ab
end Go.Proofs.YtlbainbjlibfiaaDoor
namespace Go.Proofs.YtlbainbjlibfiaaDoor
open Go.RowKit
namespace Ab
set_option maxRecDepth 100000
namespace Q
def al6 : List (List Fld) := [[(⟨#[65]⟩, ⟨#[49]⟩)], [(⟨#[66]⟩, ⟨#[50]⟩)]]
theorem al6_chk : ∀ a ∈ al6, (chkR a).2 = 0 := by
  intro a ha
  unfold al6 at ha
  simp only [List.mem_cons, List.not_mem_nil, or_false] at ha
  rcases ha with rfl | rfl <;> decide +kernel
theorem al6_text : bytes (Lib.join (al6.map foldL) [10]) = ⟨#[65, 58, 32, 49, 10, 10, 66, 58, 32, 50, 10]⟩ := by decide +kernel
theorem alive6_c : ACall Tryd.prog 6 [] (ib true) := by
  have hp := ptext_ok (l := al6) (by decide) (fun a ha => (by
    unfold al6 at ha
    simp only [List.mem_cons, List.not_mem_nil, or_false] at ha
    rcases ha with rfl | rfl <;> exact ⟨by simp, fun f hf => by rw [List.mem_singleton.1 hf]; exact ⟨by decide, by decide⟩⟩)) al6_chk
  rw [al6_text] at hp
  refine acall_of (rs := [0]) Tryd.func6 rfl rfl rfl teOk rfl ?_
  refine acode_seq ?_
  refine acode_region ?_
  refine acode_seq ?_
  refine acode_region ?_
  refine Or.inl ?_
  refine And.intro (rfl) ?_
  refine Exists.intro _ (And.intro (hp) ?_)
  refine acode_seq ?_
  refine acode_region ?_
  refine And.intro (fun h => trivial) ?_
  refine And.intro (fun h => ⟨⟨h, trivial⟩, trivial⟩) ?_
  refine And.intro (by exact fun h => h) ?_
  refine acode_ret ?_
  rfl
end Q
end Ab
end Go.Proofs.YtlbainbjlibfiaaDoor
namespace Go.Proofs.YtlbainbjlibfiaaDoor
open Go.RowKit
namespace Ab
set_option maxRecDepth 100000
abbrev rItm3 : Rd Itm := rItm.kd 3
namespace Q
theorem spoil7_c : ASpoil Tryd.prog 16 := by
  refine aspoil_of Tryd.func16 rfl rfl rfl teOk rfl (fun xs => ?_)
  refine acode_seq ?_
  refine acode_region ?_
  intro l0_1
  try simp only [Int.toNat_natCast, dflt_sl, dflt_st, dflt_str, dflt_int, dflt_bool] at l0_1
  refine acode_block ?_
  refine acode_loopP (fun (i : Nat) => i ≤ xs.length) (fun (i : Nat) => [(0, .one (.slk 7 rUnk2 xs)), (4, ii .i64 xs.length), (5, ii .i64 i)]) (fun (i : Nat) => []) 1000000 (fun (i : Nat) => xs.length - i) 0 (Nat.zero_le _) (le_of ⟨rfl, rfl, rfl⟩ trivial rfl) ?_
  intro i hI0
  refine acode_seq ?_
  refine acode_region ?_
  refine acode_seq ?_
  refine acode_cond rfl (fun h6 => ?_) (fun h6 => ?_)
  · try simp only [decide_eq_true_eq] at h6
    try simp only [Int.toNat_natCast, dflt_sl, dflt_st, dflt_str, dflt_int, dflt_bool] at h6
    refine acode_skip ?_
    refine acode_seq ?_
    refine acode_block ?_
    refine acode_seq ?_
    refine acode_region ?_
    show ACode _ _ _ _ _ _ _ _ _
    refine acode_store7 4 rfl rfl rfl (by rfl) ?_
    refine And.intro (by first | omega | assumption | decide | (simp only [Int.toNat_natCast, dflt_sl, dflt_st, dflt_str, dflt_int, dflt_bool]; omega) | (simp <;> omega)) ?_
    refine Exists.intro _ (Exists.intro _ (Exists.intro _ (Exists.intro _ (Exists.intro _ (And.intro rfl (And.intro rfl (And.intro rfl (And.intro rfl ?_))))))))
    refine acode_region ?_
    refine And.intro (by first | omega | assumption | decide | (simp only [Int.toNat_natCast, dflt_sl, dflt_st, dflt_str, dflt_int, dflt_bool]; omega) | (simp <;> omega)) ?_
    exact ⟨i + 1, by omega, by first | omega | (simp <;> omega), le_of ⟨rfl, rfl, (ii_eq (by omega))⟩ trivial rfl⟩
  · try simp only [decide_eq_false_iff_not, Int.not_lt] at h6
    try simp only [Int.toNat_natCast, dflt_sl, dflt_st, dflt_str, dflt_int, dflt_bool] at h6
    refine acode_exit ?_
    exact Or.inr rfl
theorem clone3_o (l : List Fld) (hl : l.length ≤ 1000000) : ACallO Tryd.prog 38 [.one (.sl rFld l)] [] 0 (.one (.slk 3 rFld l)) [] 0 := by
  refine acallo_of (rs := [2]) Tryd.func38 rfl rfl rfl teOk (by decide) rfl ?_
  refine acode_seq ?_
  refine acode_region ?_
  refine acode_seq ?_
  refine acode_seq ?_
  refine acode_isnil (q := 0) [_] _ (R := rFld) (xs := l) rfl rfl rfl rfl (e := 57) rfl rfl ?_
  refine ⟨rfl, fun b hb => ?_⟩
  refine acode_cond rfl (fun h4 => ?_) (fun h4 => ?_)
  ·have hl0 := hb h4
   subst hl0
   refine acode_seq ?_
   refine acode_region ?_
   refine acode_nilvec 2 57 rFld rfl ?_
   refine acode_frzk 0 3 rfl ?_
   refine acode_ret ?_
   exact ⟨rfl, trivial, rfl⟩
  ·refine acode_skip ?_
   refine acode_seq ?_
   refine acode_region ?_
   refine And.intro (by first | exact app_le (show l.length ≤ 1000000000 by omega) (by decide) | exact app_le (show 0 + l.length ≤ 1000000000 by omega) (by decide)) ?_
   refine acode_frzk 0 3 rfl ?_
   refine acode_ret ?_
   exact ⟨rfl, trivial, rfl⟩
end Q
end Ab
end Go.Proofs.YtlbainbjlibfiaaDoor
namespace Go.Proofs.YtlbainbjlibfiaaDoor
open Go.RowKit
namespace Ab
set_option maxRecDepth 100000
namespace Q
theorem fields7_c {κ : Nat} (a b : List Fld) : ACall Tryd.prog 29 [.one (.slk κ rFld a), .one (.sl rFld b)] (ib (decide (a = b))) := by
  refine acall_of (rs := [4]) Tryd.func29 rfl rfl rfl teOk rfl ?_
  refine acode_seq ?_
  refine acode_region ?_
  refine acode_seq ?_
  refine acode_seq ?_
  refine acode_region ?_
  intro l1_1
  try simp only [Int.toNat_natCast, dflt_sl, dflt_st, dflt_str, dflt_int, dflt_bool] at l1_1
  intro l1_3
  try simp only [Int.toNat_natCast, dflt_sl, dflt_st, dflt_str, dflt_int, dflt_bool] at l1_3
  refine acode_cond rfl (fun h10 => ?_) (fun h10 => ?_)
  ·try simp only [decide_eq_false_iff_not, Bool.not_eq_true'] at h10
   try simp only [Int.toNat_natCast, dflt_sl, dflt_st, dflt_str, dflt_int, dflt_bool] at h10
   refine acode_seq ?_
   refine acode_region ?_
   refine acode_ret ?_
   exact ib_eq (decide_eq_false (fun e => by rw [e] at h10; omega)).symm
  ·try simp only [decide_eq_true_eq, Bool.not_eq_false'] at h10
   try simp only [Int.toNat_natCast, dflt_sl, dflt_st, dflt_str, dflt_int, dflt_bool] at h10
   refine acode_skip ?_
   refine acode_seq ?_
   refine acode_seq ?_
   refine acode_region ?_
   intro l3_1
   try simp only [Int.toNat_natCast, dflt_sl, dflt_st, dflt_str, dflt_int, dflt_bool] at l3_1
   refine acode_block ?_
   refine acode_loopP (fun (i : Nat) => i ≤ a.length ∧ a.take i = b.take i) (fun (i : Nat) => [(0, .one (.slk κ rFld a)), (1, .one (.sl rFld b)), (12, ii .i64 a.length), (13, ii .i64 i)]) (fun (i : Nat) => []) 0 (fun (i : Nat) => a.length - i) 0 (⟨Nat.zero_le _, by simp⟩) (le_of ⟨rfl, rfl, rfl, rfl⟩ trivial rfl) ?_
   intro i hI0
   obtain ⟨hi, ht⟩ := hI0
   refine acode_seq ?_
   refine acode_region ?_
   refine acode_seq ?_
   refine acode_cond rfl (fun h14 => ?_) (fun h14 => ?_)
   ·try simp only [decide_eq_true_eq] at h14
    try simp only [Int.toNat_natCast, dflt_sl, dflt_st, dflt_str, dflt_int, dflt_bool] at h14
    have hla : i < a.length := by omega
    have hlb : i < b.length := by omega
    refine acode_skip ?_
    refine acode_seq ?_
    refine acode_block ?_
    refine acode_seq ?_
    refine acode_region ?_
    refine acode_seq ?_
    refine acode_draw rfl (by kernel_rfl) ?_
    refine And.intro (by first | omega | assumption | decide | (simp only [Int.toNat_natCast, dflt_sl, dflt_st, dflt_str, dflt_int, dflt_bool]; omega) | (simp <;> omega)) ?_
    refine And.intro (by first | omega | assumption | decide | (simp only [Int.toNat_natCast, dflt_sl, dflt_st, dflt_str, dflt_int, dflt_bool]; omega) | (simp <;> omega)) ?_
    refine And.intro (by rfl) ?_
    refine acode_cond rfl (fun h24 => ?_) (fun h24 => ?_)
    ·try simp only [decide_eq_false_iff_not, Bool.not_eq_true', Bool.and_eq_false_iff] at h24
     try simp only [Int.toNat_natCast, dflt_st, dflt_str] at h24
     refine acode_seq ?_
     refine acode_region ?_
     refine acode_ret ?_
     exact ib_eq (decide_eq_false (ne_at (i := i) (ByteArray.empty, ByteArray.empty) (fun e => h24.elim (fun h => h (congrArg Prod.fst e)) (fun h => h (congrArg Prod.snd e))))).symm
    ·try simp only [decide_eq_true_eq, Bool.and_eq_true, Bool.not_eq_false'] at h24
     try simp only [Int.toNat_natCast, dflt_st, dflt_str] at h24
     refine acode_skip ?_
     refine acode_region ?_
     refine And.intro (by first | omega | assumption | decide | (simp only [Int.toNat_natCast, dflt_sl, dflt_st, dflt_str, dflt_int, dflt_bool]; omega) | (simp <;> omega)) ?_
     exact ⟨i + 1, ⟨by omega, list_ext_take (ByteArray.empty, ByteArray.empty) hla hlb ht (Prod.ext h24.1 h24.2)⟩, by first | omega | (simp <;> omega), le_of ⟨rfl, rfl, rfl, (ii_eq (by omega))⟩ trivial rfl⟩
   ·try simp only [decide_eq_false_iff_not, Int.not_lt] at h14
    try simp only [Int.toNat_natCast, dflt_sl, dflt_st, dflt_str, dflt_int, dflt_bool] at h14
    refine acode_exit ?_
    refine acode_seq ?_
    refine acode_region ?_
    refine acode_ret ?_
    exact ib_eq (decide_eq_true (by rw [List.take_of_length_le (by omega), List.take_of_length_le (by omega)] at ht; exact ht)).symm
def unkR (l : List (List Fld)) : List (List (Unit × Unit)) := l.map fun r => r.map fun _ => ((), ())
theorem fld_unk {ok : Oks} {w : World} {cs : List Value} {f : Fld} (h : rFld.is ok w cs f) : rUnk2.is ok w cs ((), ()) :=
  unks_is rUnk2 rfl (rFld.len h) (rFld.ones h)
theorem row_unk {ok : Oks} {w : World} {cs : List Value} {r : List Fld} (h : (Rd.slk 7 rFld).is ok w cs r) : (Rd.slk 7 rUnk2).is ok w cs (r.map fun _ => ((), ())) := by
  obtain ⟨v, e, a, cap, h1, h2, h3, h4⟩ := h
  refine ⟨v, e, a, cap, by rw [List.length_map]; exact h1, by rw [List.length_map]; exact h2, h3, fun i hi => ?_⟩
  rw [List.length_map] at hi
  obtain ⟨b, off, cs, h5, h6, h7, h8, h9⟩ := h4 i hi
  exact ⟨b, off, cs, h5, h6, h7, h8, fld_unk h9⟩
end Q
end Ab
end Go.Proofs.YtlbainbjlibfiaaDoor
namespace Go.Proofs.YtlbainbjlibfiaaDoor
open Go.RowKit
namespace Ab
set_option maxRecDepth 100000
namespace Q
theorem refChk_c (l : List Fld) (hl : FldsOk l) : ACall Tryd.prog 26 [.one (.sl rFld l)] (.tup [(false, [.lit (.int .i64 (chkR l).1)]), (false, [.lit (.int .i64 (chkR l).2)])]) := by
  have hln := hl.1
  refine acall_of (rs := [2, 3]) Tryd.func26 rfl rfl rfl teOk rfl ?_
  refine acode_seq ?_
  refine acode_region ?_
  refine acode_seq ?_
  refine acode_seq ?_
  refine acode_region ?_
  intro l1_1
  try simp only [Int.toNat_natCast, dflt_sl, dflt_st, dflt_str, dflt_int, dflt_bool] at l1_1
  refine acode_cond rfl (fun h8 => ?_) (fun h8 => ?_)
  ·try simp only [decide_eq_true_eq] at h8
   try simp only [Int.toNat_natCast, dflt_sl, dflt_st, dflt_str, dflt_int, dflt_bool] at h8
   refine acode_seq ?_
   refine acode_region ?_
   refine acode_ret ?_
   have e : chkR l = (-9, 2) := (by unfold chkR; rw [if_pos (List.eq_nil_of_length_eq_zero (by omega))])
   rw [e]
   rfl
  ·try simp only [decide_eq_false_iff_not] at h8
   try simp only [Int.toNat_natCast, dflt_sl, dflt_st, dflt_str, dflt_int, dflt_bool] at h8
   refine acode_skip ?_
   refine acode_seq ?_
   refine acode_seq ?_
   refine acode_region ?_
   intro l3_1
   try simp only [Int.toNat_natCast, dflt_sl, dflt_st, dflt_str, dflt_int, dflt_bool] at l3_1
   refine acode_cond rfl (fun h11 => ?_) (fun h11 => ?_)
   ·try simp only [decide_eq_true_eq] at h11
    try simp only [Int.toNat_natCast, dflt_sl, dflt_st, dflt_str, dflt_int, dflt_bool] at h11
    refine acode_seq ?_
    refine acode_region ?_
    refine acode_ret ?_
    have e : chkR l = (-9, 11) := (by unfold chkR; rw [if_neg (fun e => h8 (by rw [e]; rfl)), if_pos (by omega)])
    rw [e]
    rfl
   ·try simp only [decide_eq_false_iff_not, Int.not_lt] at h11
    try simp only [Int.toNat_natCast, dflt_sl, dflt_st, dflt_str, dflt_int, dflt_bool] at h11
    refine acode_skip ?_
    refine acode_seq ?_
    refine acode_seq ?_
    refine acode_region ?_
    refine acode_block ?_
    refine acode_loopP (fun (i : Nat) => i ≤ l.length ∧ ∀ f ∈ l.take i, checkF f = 0) (fun (i : Nat) => [(0, .one (.sl rFld l)), (4, ii .i64 i)]) (fun (i : Nat) => []) 0 (fun (i : Nat) => l.length - i) 0 (⟨Nat.zero_le _, by simp⟩) (le_of ⟨rfl, rfl⟩ trivial rfl) ?_
    intro i hI0
    obtain ⟨hi, hall⟩ := hI0
    refine acode_seq ?_
    refine acode_seq ?_
    refine acode_region ?_
    intro l6_2
    try simp only [Int.toNat_natCast, dflt_sl, dflt_st, dflt_str, dflt_int, dflt_bool] at l6_2
    refine acode_cond rfl (fun h15 => ?_) (fun h15 => ?_)
    ·try simp only [decide_eq_true_eq] at h15
     try simp only [Int.toNat_natCast, dflt_sl, dflt_st, dflt_str, dflt_int, dflt_bool] at h15
     have hlt : i < l.length := (by omega)
     have hm := hl.2 _ (getD_mem hlt (ByteArray.empty, ByteArray.empty))
     have hne : l ≠ [] := (fun e => by rw [e] at hlt; simp at hlt)
     refine acode_skip ?_
     refine acode_seq ?_
     refine acode_block ?_
     refine acode_seq ?_
     refine acode_region ?_
     refine And.intro (by first | omega | assumption | decide | (simp only [Int.toNat_natCast, dflt_sl, dflt_st, dflt_str, dflt_int, dflt_bool]; omega) | (simp <;> omega)) ?_
     refine Or.inl ?_
     refine And.intro (rfl) ?_
     refine Exists.intro _ (And.intro (refCheck_c (l.getD i (ByteArray.empty, ByteArray.empty)) (by omega)) ?_)
     refine acode_seq ?_
     refine acode_region ?_
     refine acode_cond rfl (fun h24 => ?_) (fun h24 => ?_)
     ·try simp only [decide_eq_false_iff_not, Bool.not_eq_true'] at h24
      try simp only [Int.toNat_natCast, dflt_sl, dflt_st, dflt_str, dflt_int, dflt_bool] at h24
      refine acode_seq ?_
      refine acode_region ?_
      refine acode_ret ?_
      have e : chkR l = ((i : Int), checkF (l.getD i (ByteArray.empty, ByteArray.empty))) := (by unfold chkR; rw [if_neg hne, if_neg (by omega), badAt_hit l i 0 hlt hall h24, Int.zero_add])
      rw [e]
      rfl
     ·try simp only [decide_eq_true_eq, Bool.not_eq_false'] at h24
      try simp only [Int.toNat_natCast, dflt_sl, dflt_st, dflt_str, dflt_int, dflt_bool] at h24
      refine acode_skip ?_
      refine acode_region ?_
      refine And.intro (by first | omega | assumption | decide | (simp only [Int.toNat_natCast, dflt_sl, dflt_st, dflt_str, dflt_int, dflt_bool]; omega) | (simp <;> omega)) ?_
      exact ⟨i + 1, ⟨by omega, by rw [← take_snoc (ByteArray.empty, ByteArray.empty) hlt]; intro f hf; rcases List.mem_append.1 hf with h|h; exact hall f h; rw [List.mem_singleton.1 h]; exact h24⟩, by first | omega | (simp <;> omega), le_of ⟨rfl, (ii_eq (by omega))⟩ trivial rfl⟩
    ·try simp only [decide_eq_false_iff_not, Int.not_lt] at h15
     try simp only [Int.toNat_natCast, dflt_sl, dflt_st, dflt_str, dflt_int, dflt_bool] at h15
     refine acode_exit ?_
     refine acode_seq ?_
     refine acode_region ?_
     refine acode_ret ?_
     rw [List.take_of_length_le (by omega)] at hall
     have e : chkR l = (-9, 0) := (by unfold chkR; rw [if_neg (fun e => h8 (by rw [e]; rfl)), if_neg (by omega)]; exact badAt_no l 0 hall)
     rw [e]
     rfl
end Q
end Ab
end Go.Proofs.YtlbainbjlibfiaaDoor
namespace Go.Proofs.YtlbainbjlibfiaaDoor
open Go.RowKit
namespace Ab
set_option maxRecDepth 100000
namespace Q
structure Fwd (I : List Itm) (c : Int) (p q : PSt) : Prop where
  lns : p.lns = q.lns
  full : q.lns ≠ [] → q.full = false → p.full = false
  its : p.its = I ++ q.its
  blk : p.blk = q.blk
  flds : p.flds = q.flds
  recs : p.recs = q.recs + c
  c0 : 0 ≤ c
section
variable {I : List Itm} {c : Int} {p q q1 : PSt}
end
def Blk (x : Itm) : Prop := ∃ (L : List Lne) (q qe : PSt), (∀ l ∈ L, l.2.2.2 = true ∧ (10 : UInt8) ∉ ls l.2.2.1) ∧ runS pst0 L = .inr q ∧ q.its = [] ∧ q.recs = 0 ∧ endS q = .inr qe ∧ qe.its = [x] ∧ glue (L.map (·.2.2)) = ls x.2.1
def Par (p : PSt) : Prop := ∃ (I : List Itm) (c : Int) (L : List Lne) (q : PSt), Rel I c p q ∧ runS pst0 L = .inr q ∧ q.its = [] ∧ q.recs = 0 ∧ (∀ l ∈ L, l.2.2.2 = true ∧ (10 : UInt8) ∉ ls l.2.2.1) ∧ ∀ x ∈ I, x.1 ≠ 1 → Blk x
def mix1 (l : List Itm) (k : Nat) : List Itm := if k < l.length ∧ (l.getD k ((0 : Int), ByteArray.empty, ([] : List Fld))).1 ≠ 1 then [l.getD k ((0 : Int), ByteArray.empty, ([] : List Fld))] else []
def mixL (turn : Bool) (l m : List Itm) (i : Nat) : List Itm := (List.range i).flatMap fun k => mix1 l k ++ if turn then mix1 m k else []
end Q
end Ab
end Go.Proofs.YtlbainbjlibfiaaDoor
namespace Go.Proofs.YtlbainbjlibfiaaDoor
open Go.RowKit
namespace Ab
set_option maxRecDepth 100000
namespace Q
theorem items7_c {κ κ' : Nat} (a b : List Itm) : ACall Tryd.prog 9 [.one (.slk κ (rItm.kd κ') a), .one (.sl rItm b)] (ib (decide (a = b))) := by
  refine acall_of (rs := [4]) Tryd.func9 rfl rfl rfl teOk rfl ?_
  refine acode_seq ?_
  refine acode_region ?_
  refine acode_seq ?_
  refine acode_seq ?_
  refine acode_region ?_
  intro l1_1
  try simp only [Int.toNat_natCast, dflt_sl, dflt_st, dflt_str, dflt_int, dflt_bool] at l1_1
  intro l1_3
  try simp only [Int.toNat_natCast, dflt_sl, dflt_st, dflt_str, dflt_int, dflt_bool] at l1_3
  refine acode_cond rfl (fun h10 => ?_) (fun h10 => ?_)
  ·try simp only [decide_eq_false_iff_not, Bool.not_eq_true'] at h10
   try simp only [Int.toNat_natCast, dflt_sl, dflt_st, dflt_str, dflt_int, dflt_bool] at h10
   refine acode_seq ?_
   refine acode_region ?_
   refine acode_ret ?_
   exact ib_eq (decide_eq_false (fun e => by rw [e] at h10; omega)).symm
  ·try simp only [decide_eq_true_eq, Bool.not_eq_false'] at h10
   try simp only [Int.toNat_natCast, dflt_sl, dflt_st, dflt_str, dflt_int, dflt_bool] at h10
   refine acode_skip ?_
   refine acode_seq ?_
   refine acode_seq ?_
   refine acode_region ?_
   intro l3_1
   try simp only [Int.toNat_natCast, dflt_sl, dflt_st, dflt_str, dflt_int, dflt_bool] at l3_1
   refine acode_block ?_
   refine acode_loopP (fun (i : Nat) => i ≤ a.length ∧ a.take i = b.take i) (fun (i : Nat) => [(0, .one (.slk κ (rItm.kd κ') a)), (1, .one (.sl rItm b)), (12, ii .i64 a.length), (13, ii .i64 i)]) (fun (i : Nat) => []) 0 (fun (i : Nat) => a.length - i) 0 (⟨Nat.zero_le _, by simp⟩) (le_of ⟨rfl, rfl, rfl, rfl⟩ trivial rfl) ?_
   intro i hI0
   obtain ⟨hi, ht⟩ := hI0
   refine acode_seq ?_
   refine acode_region ?_
   refine acode_seq ?_
   refine acode_cond rfl (fun h14 => ?_) (fun h14 => ?_)
   ·try simp only [decide_eq_true_eq] at h14
    try simp only [Int.toNat_natCast, dflt_sl, dflt_st, dflt_str, dflt_int, dflt_bool] at h14
    have hla : i < a.length := by omega
    have hlb : i < b.length := by omega
    refine acode_skip ?_
    refine acode_seq ?_
    refine acode_block ?_
    refine acode_seq ?_
    refine acode_region ?_
    refine acode_seq ?_
    refine acode_draw rfl (by kernel_rfl) ?_
    refine And.intro (by first | omega | assumption | decide | (simp only [Int.toNat_natCast, dflt_sl, dflt_st, dflt_str, dflt_int, dflt_bool]; omega) | (simp <;> omega)) ?_
    refine And.intro (by first | omega | assumption | decide | (simp only [Int.toNat_natCast, dflt_sl, dflt_st, dflt_str, dflt_int, dflt_bool]; omega) | (simp <;> omega)) ?_
    refine And.intro (fun h => trivial) ?_
    refine And.intro (fun h => trivial) ?_
    refine And.intro (fun h => ⟨⟨⟨h, trivial⟩, ⟨h, trivial⟩, trivial⟩, by first | omega | decide | (simp only [Int.toNat_natCast, dflt_sl, dflt_st, dflt_str, dflt_int, dflt_bool]; omega) | (have h9 := of_decide_eq_true h; omega) | (simp [gq] at h; omega)⟩) ?_
    refine And.intro (fun h => ⟨⟨h, trivial⟩, trivial⟩) ?_
    refine And.intro (fun h => ⟨⟨h, trivial⟩, trivial⟩) ?_
    refine And.intro (fun h => trivial) ?_
    refine And.intro (fun h => trivial) ?_
    refine And.intro (fun h => ⟨⟨⟨h, trivial⟩, ⟨h, trivial⟩, trivial⟩, by first | omega | decide | (simp only [Int.toNat_natCast, dflt_sl, dflt_st, dflt_str, dflt_int, dflt_bool]; omega) | (have h9 := of_decide_eq_true h; omega) | (simp [gq] at h; omega)⟩) ?_
    refine And.intro (fun h => ⟨⟨h, trivial⟩, trivial⟩) ?_
    refine And.intro (fun h => ⟨⟨h, trivial⟩, trivial⟩) ?_
    refine And.intro (fun h => ⟨⟨h, trivial⟩, ⟨h, trivial⟩, trivial⟩) ?_
    refine And.intro (by first | (intro h; rw [h]; rfl) | (intro h; cases h)) ?_
    refine And.intro (fun h => trivial) ?_
    refine And.intro (fun h => trivial) ?_
    refine And.intro (fun h => ⟨⟨⟨h, trivial⟩, ⟨h, trivial⟩, trivial⟩, by first | omega | decide | (simp only [Int.toNat_natCast, dflt_sl, dflt_st, dflt_str, dflt_int, dflt_bool]; omega) | (have h9 := of_decide_eq_true h; omega) | (simp [gq] at h; omega)⟩) ?_
    refine And.intro (fun h => ⟨⟨h, trivial⟩, trivial⟩) ?_
    refine And.intro (fun h => ⟨⟨h, trivial⟩, trivial⟩) ?_
    refine And.intro (fun h => trivial) ?_
    refine And.intro (fun h => trivial) ?_
    refine And.intro (fun h => ⟨⟨⟨h, trivial⟩, ⟨h, trivial⟩, trivial⟩, by first | omega | decide | (simp only [Int.toNat_natCast, dflt_sl, dflt_st, dflt_str, dflt_int, dflt_bool]; omega) | (have h9 := of_decide_eq_true h; omega) | (simp [gq] at h; omega)⟩) ?_
    refine And.intro (fun h => ⟨⟨h, trivial⟩, trivial⟩) ?_
    refine And.intro (fun h => ⟨⟨h, trivial⟩, trivial⟩) ?_
    refine And.intro (rfl) ?_
    refine Exists.intro _ (And.intro (fun h => ⟨⟨⟨h, trivial⟩, ⟨h, trivial⟩, trivial⟩, fields7_c (κ := κ') (a.getD i ((0 : Int), ByteArray.empty, ([] : List Fld))).2.2 (b.getD i ((0 : Int), ByteArray.empty, ([] : List Fld))).2.2⟩) ?_)
    refine And.intro (fun h => ⟨⟨h, trivial⟩, trivial⟩) ?_
    refine And.intro (by first | (intro h; rw [h]; rfl) | (intro h; cases h)) ?_
    refine acode_cond rfl (fun h53 => ?_) (fun h53 => ?_)
    ·try simp only [decide_eq_false_iff_not, Bool.not_eq_true', Bool.or_eq_true] at h53
     try simp only [Int.toNat_natCast, dflt_sl, dflt_st, dflt_str, dflt_int] at h53
     refine acode_seq ?_
     refine acode_region ?_
     refine acode_ret ?_
     exact ib_eq (decide_eq_false (ne_at (i := i) ((0 : Int), ByteArray.empty, ([] : List Fld)) (fun e => h53.elim (fun h => h.elim (fun h => h (congrArg Prod.fst e)) (fun h => h (congrArg (·.2.1) e))) (fun h => h (congrArg (·.2.2) e))))).symm
    ·try simp only [decide_eq_true_eq, Bool.not_eq_false', Bool.or_eq_false_iff] at h53
     try simp only [Int.toNat_natCast, dflt_sl, dflt_st, dflt_str, dflt_int] at h53
     refine acode_skip ?_
     refine acode_region ?_
     refine And.intro (by first | omega | assumption | decide | (simp only [Int.toNat_natCast, dflt_sl, dflt_st, dflt_str, dflt_int, dflt_bool]; omega) | (simp <;> omega)) ?_
     exact ⟨i + 1, ⟨by omega, list_ext_take ((0 : Int), ByteArray.empty, ([] : List Fld)) hla hlb ht (Prod.ext h53.1.1 (Prod.ext h53.1.2 h53.2))⟩, by first | omega | (simp <;> omega), le_of ⟨rfl, rfl, rfl, (ii_eq (by omega))⟩ trivial rfl⟩
   ·try simp only [decide_eq_false_iff_not, Int.not_lt] at h14
    try simp only [Int.toNat_natCast, dflt_sl, dflt_st, dflt_str, dflt_int, dflt_bool] at h14
    refine acode_exit ?_
    refine acode_seq ?_
    refine acode_region ?_
    refine acode_ret ?_
    exact ib_eq (decide_eq_true (by rw [List.take_of_length_le (by omega), List.take_of_length_le (by omega)] at ht; exact ht)).symm
def plainI (x : Itm) : Bool := decide ((chkR x.2.2).2 = 0) && decide (x.1 = 3) && decide (bytes (foldL x.2.2) = x.2.1)
abbrev rItmU : Rd (Int × ByteArray × List (Unit × Unit)) := .st (.int .i64) (.st .str (.slk 7 rUnk2))
def unkI (l : List Itm) : List (Int × ByteArray × List (Unit × Unit)) := l.map fun x => (x.1, x.2.1, x.2.2.map fun _ => ((), ()))
end Q
end Ab
end Go.Proofs.YtlbainbjlibfiaaDoor
namespace Go.Proofs.YtlbainbjlibfiaaDoor
open Go.RowKit
namespace Ab
set_option maxRecDepth 100000
namespace Q
theorem pitem_err {κ : Nat} {l : List Fld} (hl : FldsOk l) (h : (chkR l).2 ≠ 0) : ACall Tryd.prog 24 [.one (.slk κ rFld l)] (.tup [(true, [.lit (.int .i64 0), .lit (.string ⟨#[]⟩), .lit (.slice none 0 0)]), (false, [chkA l])]) := by
  have hc := pstanza_err (κ := κ) hl h
  obtain ⟨e, he, hs⟩ := chk_bad h
  rw [he] at hc ⊢
  rcases hs with ⟨n, hn, rfl, _⟩ | ⟨i, n, hn, rfl, _⟩
  ·
    refine acall_ofc (rs := [.cell 2 26, .tmp 3]) Tryd.func24 rfl rfl rfl teOk rfl ?_
    refine acode_seq ?_
    refine acode_region ?_
    refine acode_seq ?_
    refine acode_region ?_
    refine Or.inl ?_
    refine And.intro (rfl) ?_
    refine Exists.intro _ (And.intro (hc) ?_)
    refine acode_seq ?_
    refine acode_seq ?_
    refine acode_region ?_
    refine acode_cond rfl (fun h12 => ?_) (fun h12 => ?_)
    ·skip
     refine acode_seq ?_
     refine acode_region ?_
     refine acode_ret ?_
     rfl
    ·try simp only [decide_eq_true_eq, decide_eq_false_iff_not, Bool.and_eq_true, Bool.not_eq_true', Bool.not_eq_false', Bool.or_eq_false_iff, Bool.or_eq_true, Bool.and_eq_false_iff, Int.not_lt, Int.not_le] at h12
     try simp only [Int.toNat_natCast, dflt_sl, dflt_st, dflt_str, dflt_int, dflt_bool] at h12
     cases h12
  ·
    refine acall_ofc (rs := [.cell 2 26, .tmp 3]) Tryd.func24 rfl rfl rfl teOk rfl ?_
    refine acode_seq ?_
    refine acode_region ?_
    refine acode_seq ?_
    refine acode_region ?_
    refine Or.inl ?_
    refine And.intro (rfl) ?_
    refine Exists.intro _ (And.intro (hc) ?_)
    refine acode_seq ?_
    refine acode_seq ?_
    refine acode_region ?_
    refine acode_cond rfl (fun h12 => ?_) (fun h12 => ?_)
    ·skip
     refine acode_seq ?_
     refine acode_region ?_
     refine acode_ret ?_
     rfl
    ·try simp only [decide_eq_true_eq, decide_eq_false_iff_not, Bool.and_eq_true, Bool.not_eq_true', Bool.not_eq_false', Bool.or_eq_false_iff, Bool.or_eq_true, Bool.and_eq_false_iff, Int.not_lt, Int.not_le] at h12
     try simp only [Int.toNat_natCast, dflt_sl, dflt_st, dflt_str, dflt_int, dflt_bool] at h12
     cases h12
end Q
end Ab
end Go.Proofs.YtlbainbjlibfiaaDoor
namespace Go.Proofs.YtlbainbjlibfiaaDoor
open Go.RowKit
namespace Ab
set_option maxRecDepth 100000
namespace Q
def joinT (l : List (List Fld)) : List UInt8 := Lib.join (l.map foldL) [10]
def much6B (l : List (List Fld)) : Bool := decide (13 < l.length) || l.any muchB
end Q
end Ab
end Go.Proofs.YtlbainbjlibfiaaDoor
