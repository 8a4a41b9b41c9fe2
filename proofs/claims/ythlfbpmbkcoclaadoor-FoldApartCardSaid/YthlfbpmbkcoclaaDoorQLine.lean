/-
  A selector's line: what the program prints.
-/
import Derived.Test.YthlfbpmbkcoclaaDoorQGood
namespace Go.Proofs.YthlfbpmbkcoclaaDoor
open Go.RowKit
namespace Ab
set_option maxRecDepth 100000
namespace Q
theorem escape_v (s m : ByteArray) (l e : List UInt8) (hm : m.data.toList = l) (he : escL l s.data.toList = e) (hs : s.size ≤ 1000000) : ACall Tryd.prog 143 [is s, is m] (is (bytes e)) := by
  subst hm he; exact escape_c s m hs
theorem sign_one {r : Int} (h : 1 ≤ r ∧ r ≤ 5) : (⟨#[63, 61, 94, 126, 60]⟩ : ByteArray).extract (r - 1).toNat r.toNat = bytes [signOf r] := by
  have : r = 1 ∨ r = 2 ∨ r = 3 ∨ r = 4 ∨ r = 5 := by omega
  rcases this with rfl | rfl | rfl | rfl | rfl <;> decide +kernel
theorem termL_len (t : Term) : (termL t).length ≤ 2 + 2 * t.2.1.size + 2 * t.2.2.2.size := by
  unfold termL
  have h1 := esc_len (moreOf true) (ls t.2.1)
  have h2 := esc_len (moreOf false) (ls t.2.2.2)
  rw [size_list, size_list]
  unfold ls at *
  simp only [List.length_append, List.length_cons]
  cases t.1 <;> simp only [if_true, Bool.false_eq_true, if_false, List.length_cons, List.length_nil] <;> omega
theorem nil_app (x : ByteArray) : bytes [] ++ x = x := by apply ByteArray.ext; simp [bytes]
theorem line_c (t : Term) (ht : TxtOk t) (hr : RelOk t) : ACall Tryd.prog 107 [.agg (toL rTerm t)] (is (bytes (termL t))) := by
  obtain ⟨e1, he1⟩ : ∃ e, escL (moreOf true) t.2.1.data.toList = e := ⟨_, rfl⟩
  obtain ⟨e2, he2⟩ : ∃ e, escL (moreOf false) t.2.2.2.data.toList = e := ⟨_, rfl⟩
  have hl1 : (bytes e1).size ≤ 2000000 := by rw [bytes_size, ← he1]; have := esc_len (moreOf true) t.2.1.data.toList; have := ht.1; rw [size_list] at this; omega
  have hl2 : (bytes e2).size ≤ 2000000 := by rw [bytes_size, ← he2]; have := esc_len (moreOf false) t.2.2.2.data.toList; have := ht.2; rw [size_list] at this; omega
  have hx := sign_one hr
  have hxs : ((⟨#[63, 61, 94, 126, 60]⟩ : ByteArray).extract (t.2.2.1 - 1).toNat t.2.2.1.toNat).size = 1 := by rw [hx]; rfl
  obtain ⟨hr1, hr2⟩ := hr
  have hT : bytes (termL t) = bytes (if t.1 then [33] else []) ++ (bytes e1 ++ bytes [signOf t.2.2.1] ++ bytes e2) := by
    unfold termL
    rw [← bytes_app, ← bytes_app, ← bytes_app, ← he1, ← he2]
    simp
  refine acall_of (rs := [2]) Tryd.func107 rfl rfl rfl teOk rfl ?_
  refine acode_seq ?_
  refine acode_region ?_
  refine acode_seq ?_
  refine acode_draw rfl (by kernel_rfl) ?_
  refine And.intro (rfl) ?_
  refine Exists.intro _ (And.intro (escape_v _ _ (moreOf true) e1 rfl he1 ht.1) ?_)
  refine And.intro (by first | omega | assumption | decide | (simp only [Int.toNat_natCast, dflt_sl, dflt_st, dflt_str, dflt_int, dflt_bool]; omega) | (simp; omega)) ?_
  refine And.intro (by exact ⟨by omega, by omega, by show _ ≤ (5 : Int); omega⟩) ?_
  refine And.intro (by first | omega | (simp only [ByteArray.size_append]; omega) | (unfold maxLen; (try simp only [ByteArray.size_append]); omega)) ?_
  refine And.intro (rfl) ?_
  refine Exists.intro _ (And.intro (escape_v _ _ (moreOf false) e2 rfl he2 ht.2) ?_)
  refine And.intro (by first | omega | (simp only [ByteArray.size_append]; omega) | (unfold maxLen; (try simp only [ByteArray.size_append]); omega)) ?_
  refine acode_seq ?_
  refine acode_seq ?_
  refine acode_region ?_
  refine acode_cond rfl (fun h19 => ?_) (fun h19 => ?_)
  · try simp only [decide_eq_true_eq, decide_eq_false_iff_not, Bool.and_eq_true, Bool.not_eq_true', Bool.not_eq_false', Bool.or_eq_false_iff, Bool.or_eq_true, Bool.and_eq_false_iff, Int.not_lt, Int.not_le] at h19
    try simp only [Int.toNat_natCast, dflt_sl, dflt_st, dflt_str, dflt_int, dflt_bool] at h19
    refine acode_seq ?_
    refine acode_region ?_
    refine And.intro (by unfold maxLen; simp only [ByteArray.size_append]; rw [show ByteArray.size ⟨#[33]⟩ = 1 from rfl]; omega) ?_
    refine acode_ret ?_
    refine is_eq ?_
    rw [hT, h19, hx]
    rfl
  · try simp only [decide_eq_true_eq, decide_eq_false_iff_not, Bool.and_eq_true, Bool.not_eq_true', Bool.not_eq_false', Bool.or_eq_false_iff, Bool.or_eq_true, Bool.and_eq_false_iff, Int.not_lt, Int.not_le] at h19
    try simp only [Int.toNat_natCast, dflt_sl, dflt_st, dflt_str, dflt_int, dflt_bool] at h19
    refine acode_skip ?_
    refine acode_seq ?_
    refine acode_region ?_
    refine acode_ret ?_
    refine is_eq ?_
    rw [hT, h19, hx]
    exact (nil_app _).symm

theorem join_len {sep : List UInt8} {B : Nat} : ∀ {ps : List (List UInt8)}, (∀ p ∈ ps, p.length ≤ B) → (Lib.join ps sep).length ≤ ps.length * (B + sep.length)
  | [], _ => by rw [Lib.join_nil]; simp
  | [p], h => by rw [Lib.join_one]; have := h p (by simp); simp only [List.length_cons, List.length_nil]; omega
  | p :: q :: ps, h => by
    have h1 := h p (by simp)
    have ih := join_len (sep := sep) (B := B) (ps := q :: ps) (fun p hp => h p (by simp [List.mem_cons.1 hp]))
    rw [join_two, List.length_append, List.length_append, List.length_cons, Nat.succ_mul]
    omega
theorem join_v (xs : List ByteArray) (sep : ByteArray) (ps : List (List UInt8)) (l : List UInt8) (hx : xs.map ls = ps) (hl : sep.data.toList = l) (hN : ps.length ≤ 1000000) (hlen : (Lib.join ps l).length ≤ 140737488355328) :
    ACall Tryd.prog 65 [.one (.sl .str xs), is sep] (is (bytes (Lib.join ps l))) := by
  subst hx hl
  exact join_c xs sep (by rw [List.length_map] at hN; omega) hlen
def TermsOk (r : List Term) : Prop := r.length ≤ 20 ∧ ∀ t ∈ r, TxtOk t ∧ RelOk t
theorem rowL_len {r : List Term} (h : TermsOk r) : (rowL r).length ≤ 80000100 := by
  unfold rowL
  split
  · simp
  · have := join_len (sep := [32]) (B := 4000002) (ps := r.map termL) (fun p hp => by
      obtain ⟨t, ht, rfl⟩ := List.mem_map.1 hp
      have h1 := termL_len t
      obtain ⟨⟨h2, h3⟩, _⟩ := h.2 t ht
      omega)
    rw [List.length_map] at this
    have h1 := h.1
    simp only [List.length_cons, List.length_nil] at this
    have : r.length * 4000003 ≤ 20 * 4000003 := Nat.mul_le_mul_right _ h1
    omega
theorem map_snoc {α β : Type} (f : α → β) {l : List α} {i : Nat} (d : α) (h : i < l.length) : (l.take i).map f ++ [f (l.getD i d)] = (l.take (i + 1)).map f := (map_take_succ f l d i h).symm
theorem notEmpty {α : Type} {r : List α} (h : ¬ (r.length : Int) = 0) : r.isEmpty = false := by
  cases r
  · exact absurd rfl h
  · rfl
theorem rowLine_c (r : List Term) (h : TermsOk r) : ACall Tryd.prog 64 [.one (.sl rTerm r)] (is (bytes (rowL r))) := by
  have hJ := rowL_len h
  have h20 := h.1
  refine acall_of (rs := [2]) Tryd.func64 rfl rfl rfl teOk rfl ?_
  refine acode_seq ?_
  refine acode_region ?_
  refine acode_seq ?_
  refine acode_seq ?_
  refine acode_region ?_
  intro l1_1
  try simp only [Int.toNat_natCast, dflt_sl, dflt_st, dflt_str, dflt_int, dflt_bool] at l1_1
  refine acode_cond rfl (fun h8 => ?_) (fun h8 => ?_)
  · try simp only [decide_eq_true_eq] at h8
    try simp only [Int.toNat_natCast, dflt_sl, dflt_st, dflt_str, dflt_int, dflt_bool] at h8
    refine acode_seq ?_
    refine acode_region ?_
    refine acode_ret ?_
    refine is_eq ?_
    rw [List.eq_nil_of_length_eq_zero (show r.length = 0 by omega)]
    rfl
  · try simp only [decide_eq_false_iff_not] at h8
    try simp only [Int.toNat_natCast, dflt_sl, dflt_st, dflt_str, dflt_int, dflt_bool] at h8
    have hN := notEmpty h8
    refine acode_skip ?_
    refine acode_seq ?_
    refine acode_region ?_
    refine acode_seq ?_
    refine acode_seq ?_
    refine acode_nilvec 3 9 .str rfl ?_
    refine acode_region ?_
    intro l4_1
    try simp only [Int.toNat_natCast, dflt_sl, dflt_st, dflt_str, dflt_int, dflt_bool] at l4_1
    refine acode_block ?_
    refine acode_loopP (fun (i : Nat) => i ≤ r.length) (fun (i : Nat) => [(3, .one (.vec 0)), (9, .one (.sl rTerm r)), (10, ii .i64 r.length), (11, ii .i64 i)]) (fun (i : Nat) => [(0, .vec 9 .str ((r.take i).map fun t => bytes (termL t)))]) 1 (fun (i : Nat) => r.length - i) 0 (Nat.zero_le _) (le_of ⟨rfl, rfl, rfl, rfl⟩ rfl rfl) ?_
    intro i hI0
    have hi := hI0
    refine acode_seq ?_
    refine acode_region ?_
    refine acode_seq ?_
    refine acode_cond rfl (fun h12 => ?_) (fun h12 => ?_)
    · try simp only [decide_eq_true_eq] at h12
      try simp only [Int.toNat_natCast, dflt_sl, dflt_st, dflt_str, dflt_int, dflt_bool] at h12
      have hlt : i < r.length := by omega
      have hm := h.2 _ (getD_mem hlt (false, ByteArray.empty, 0, ByteArray.empty))
      refine acode_skip ?_
      refine acode_seq ?_
      refine acode_block ?_
      refine acode_seq ?_
      refine acode_region ?_
      refine And.intro (by first | omega | assumption | decide | (simp only [Int.toNat_natCast, dflt_sl, dflt_st, dflt_str, dflt_int, dflt_bool]; omega) | (simp; omega)) ?_
      refine acode_region ?_
      refine Or.inl ?_
      refine And.intro (rfl) ?_
      refine Exists.intro _ (And.intro (line_c _ hm.1 hm.2) ?_)
      refine And.intro (by simp only [List.length_map, List.length_take]; show (_ + 1) * 16 ≤ 140737488355328; omega) ?_
      refine acode_region ?_
      refine And.intro (by first | omega | assumption | decide | (simp only [Int.toNat_natCast, dflt_sl, dflt_st, dflt_str, dflt_int, dflt_bool]; omega) | (simp; omega)) ?_
      exact ⟨i + 1, by omega, by first | omega | (simp; omega), le_of ⟨rfl, rfl, rfl, (ii_eq (by omega))⟩ (vec_eq (map_snoc (fun t => bytes (termL t)) (false, ByteArray.empty, 0, ByteArray.empty) hlt)) rfl⟩
    · try simp only [decide_eq_false_iff_not, Int.not_lt] at h12
      try simp only [Int.toNat_natCast, dflt_sl, dflt_st, dflt_str, dflt_int, dflt_bool] at h12
      refine acode_exit ?_
      refine acode_seq ?_
      refine acode_region ?_
      refine Or.inl ?_
      refine And.intro (rfl) ?_
      refine Exists.intro _ (And.intro (join_v _ _ (r.map termL) [32] (by rw [List.take_of_length_le (by omega), List.map_map]; exact List.map_congr_left fun t _ => bytes_list _) rfl (by rw [List.length_map]; omega) (by unfold rowL at hJ; rw [hN] at hJ; exact Nat.le_trans hJ (by decide))) ?_)
      refine acode_ret ?_
      refine is_eq ?_
      unfold rowL
      rw [hN]
      rfl

theorem good_ok {s : List (List Term)} (hs : TxtsOk s) (hg : goodS s = true) : s.length ≤ 20 ∧ ∀ r ∈ s, TermsOk r := by
  unfold goodS at hg
  simp only [Bool.and_eq_true, decide_eq_true_eq] at hg
  refine ⟨hg.1, fun r hr => ?_⟩
  have h := List.all_eq_true.1 hg.2 r hr
  unfold goodR at h
  simp only [Bool.and_eq_true, decide_eq_true_eq] at h
  refine ⟨h.1, fun t ht => ⟨hs r hr t ht, ?_⟩⟩
  have h2 := goodT_iff.1 (List.all_eq_true.1 h.2 t ht)
  exact ⟨h2.1.1.2, h2.1.2⟩
theorem selL_len {s : List (List Term)} (h : s.length ≤ 20 ∧ ∀ r ∈ s, TermsOk r) : (selL s).length ≤ 1600003000 := by
  unfold selL
  split
  · simp
  · have := join_len (sep := [32, 124, 32]) (B := 80000100) (ps := s.map rowL) (fun p hp => by
      obtain ⟨r, hr, rfl⟩ := List.mem_map.1 hp
      exact rowL_len (h.2 r hr))
    rw [List.length_map] at this
    have h1 := h.1
    simp only [List.length_cons, List.length_nil] at this
    have : s.length * 80000103 ≤ 20 * 80000103 := Nat.mul_le_mul_right _ h1
    omega
def errForm : C := .lit (.iface 35 (.int .i64 2))
def printA (s : List (List Term)) : A := if goodS s then .tup [(false, [.lit (.string (bytes (selL s)))]), (false, [.lit .nilIface])] else .tup [(false, [.lit (.string ⟨#[]⟩)]), (false, [errForm])]
theorem print_c (s : List (List Term)) (hs : TxtsOk s) : ACall Tryd.prog 18 [.one (.sl (.sl rTerm) s)] (printA s) := by
  refine acall_of (rs := [2, 3]) Tryd.func18 rfl rfl rfl teOk rfl ?_
  refine acode_seq ?_
  refine acode_region ?_
  refine acode_seq ?_
  refine acode_seq ?_
  refine acode_region ?_
  refine Or.inl ?_
  refine And.intro (rfl) ?_
  refine Exists.intro _ (And.intro (good_c s hs) ?_)
  refine acode_cond rfl (fun h9 => ?_) (fun h9 => ?_)
  · try simp only [Bool.not_eq_true'] at h9
    try simp only [Int.toNat_natCast, dflt_sl, dflt_st, dflt_str, dflt_int, dflt_bool] at h9
    refine acode_seq ?_
    refine acode_region ?_
    refine acode_ret ?_
    unfold printA
    rw [if_neg (by rw [h9]; decide)]
    rfl
  · try simp only [Bool.not_eq_false'] at h9
    try simp only [Int.toNat_natCast, dflt_sl, dflt_st, dflt_str, dflt_int, dflt_bool] at h9
    have hok := good_ok hs h9
    have hJ := selL_len hok
    have h20 := hok.1
    refine acode_skip ?_
    refine acode_seq ?_
    refine acode_seq ?_
    refine acode_region ?_
    intro l3_1
    try simp only [Int.toNat_natCast, dflt_sl, dflt_st, dflt_str, dflt_int, dflt_bool] at l3_1
    refine acode_cond rfl (fun h13 => ?_) (fun h13 => ?_)
    · try simp only [decide_eq_true_eq] at h13
      try simp only [Int.toNat_natCast, dflt_sl, dflt_st, dflt_str, dflt_int, dflt_bool] at h13
      refine acode_seq ?_
      refine acode_region ?_
      refine acode_ret ?_
      unfold printA
      rw [if_pos h9, List.eq_nil_of_length_eq_zero (show s.length = 0 by omega)]
      rfl
    · try simp only [decide_eq_false_iff_not] at h13
      try simp only [Int.toNat_natCast, dflt_sl, dflt_st, dflt_str, dflt_int, dflt_bool] at h13
      have hN := notEmpty h13
      refine acode_skip ?_
      refine acode_seq ?_
      refine acode_region ?_
      refine acode_seq ?_
      refine acode_seq ?_
      refine acode_nilvec 4 9 .str rfl ?_
      refine acode_region ?_
      intro l6_1
      try simp only [Int.toNat_natCast, dflt_sl, dflt_st, dflt_str, dflt_int, dflt_bool] at l6_1
      refine acode_block ?_
      refine acode_loopP (fun (i : Nat) => i ≤ s.length) (fun (i : Nat) => [(4, .one (.vec 0)), (14, .one (.sl (.sl rTerm) s)), (15, ii .i64 s.length), (16, ii .i64 i)]) (fun (i : Nat) => [(0, .vec 9 .str ((s.take i).map fun r => bytes (rowL r)))]) 1 (fun (i : Nat) => s.length - i) 0 (Nat.zero_le _) (le_of ⟨rfl, rfl, rfl, rfl⟩ rfl rfl) ?_
      intro i hI0
      have hi := hI0
      refine acode_seq ?_
      refine acode_region ?_
      refine acode_seq ?_
      refine acode_cond rfl (fun h17 => ?_) (fun h17 => ?_)
      · try simp only [decide_eq_true_eq] at h17
        try simp only [Int.toNat_natCast, dflt_sl, dflt_st, dflt_str, dflt_int, dflt_bool] at h17
        have hlt : i < s.length := by omega
        have hm := hok.2 _ (getD_mem hlt [])
        refine acode_skip ?_
        refine acode_seq ?_
        refine acode_block ?_
        refine acode_seq ?_
        refine acode_region ?_
        refine And.intro (by first | omega | assumption | decide | (simp only [Int.toNat_natCast, dflt_sl, dflt_st, dflt_str, dflt_int, dflt_bool]; omega) | (simp; omega)) ?_
        refine acode_region ?_
        refine Or.inl ?_
        refine And.intro (rfl) ?_
        refine Exists.intro _ (And.intro (rowLine_c _ hm) ?_)
        refine And.intro (by simp only [List.length_map, List.length_take]; show (_ + 1) * 16 ≤ 140737488355328; omega) ?_
        refine acode_region ?_
        refine And.intro (by first | omega | assumption | decide | (simp only [Int.toNat_natCast, dflt_sl, dflt_st, dflt_str, dflt_int, dflt_bool]; omega) | (simp; omega)) ?_
        exact ⟨i + 1, by omega, by first | omega | (simp; omega), le_of ⟨rfl, rfl, rfl, (ii_eq (by omega))⟩ (vec_eq (map_snoc (fun r => bytes (rowL r)) [] hlt)) rfl⟩
      · try simp only [decide_eq_false_iff_not, Int.not_lt] at h17
        try simp only [Int.toNat_natCast, dflt_sl, dflt_st, dflt_str, dflt_int, dflt_bool] at h17
        refine acode_exit ?_
        refine acode_seq ?_
        refine acode_region ?_
        refine Or.inl ?_
        refine And.intro (rfl) ?_
        refine Exists.intro _ (And.intro (join_v _ _ (s.map rowL) [32, 124, 32] (by rw [List.take_of_length_le (by omega), List.map_map]; exact List.map_congr_left fun t _ => bytes_list _) rfl (by rw [List.length_map]; omega) (by unfold selL at hJ; rw [hN] at hJ; exact Nat.le_trans hJ (by decide))) ?_)
        refine acode_ret ?_
        unfold printA selL
        rw [if_pos h9, hN]
        rfl
end Q
end Ab
end Go.Proofs.YthlfbpmbkcoclaaDoor
