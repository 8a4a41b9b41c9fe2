/-
  The texts of this proof, joined: abstract values, the library, the functions of the program and what they compute (part 5). No condition.
-/
import Derived.Test.YtklhlkhlndhepaaDoorK1
import Derived.Test.YtklhlkhlndhepaaDoorK2
import Derived.Test.YtklhlkhlndhepaaDoorK3
import Derived.Test.YtklhlkhlndhepaaDoorK4
namespace Go.Proofs.YtklhlkhlndhepaaDoor
open Go.RowKit
namespace Ab
set_option maxRecDepth 100000
namespace Q
theorem tlines {k v : ByteArray} : (lineB k v).length = (linesL k.data.toList v.data.toList).length := by unfold lineB; rw [List.length_map]
theorem text_step (x e p : List UInt8) (g : ByteArray) (hg : g = bytes p) : bytes (x ++ e) ++ g ++ ⟨#[10]⟩ = bytes (x ++ (e ++ (p ++ [10]))) := by
  rw [hg, ← List.append_assoc, ← List.append_assoc, bytes_app _ [10], bytes_app _ p]; rfl
theorem refFold_c (l : List Fld) (hl : ∀ f ∈ l, checkF f = 0) (hn : l.length ≤ 1000) : ACall Tryd.prog 42 [.one (.sl rFld l)] (is (bytes (foldL l))) := by
  refine acall_of (rs := [2]) Tryd.func42 rfl rfl rfl teOk rfl ?_
  refine acode_seq ?_
  refine acode_region ?_
  refine acode_seq ?_
  refine acode_region ?_
  refine acode_seq ?_
  refine acode_seq ?_
  refine acode_region ?_
  refine acode_block ?_
  refine acode_loopP (fun (i : Nat) => i ≤ l.length) (fun (i : Nat) => [(0, .one (.sl rFld l)), (3, is (bytes (foldL (l.take i)))), (4, ii .i64 i)]) (fun (i : Nat) => []) 0 (fun (i : Nat) => l.length - i) 0 (Nat.zero_le _) (le_of ⟨rfl, rfl, rfl⟩ trivial rfl) ?_
  intro i hI0
  have hi := hI0
  refine acode_seq ?_
  refine acode_seq ?_
  refine acode_region ?_
  intro l3_2
  try simp only [Int.toNat_natCast, dflt_sl, dflt_st, dflt_str, dflt_int, dflt_bool] at l3_2
  refine acode_cond rfl (fun h10 => ?_) (fun h10 => ?_)
  · try simp only [decide_eq_true_eq] at h10
    try simp only [Int.toNat_natCast, dflt_sl, dflt_st, dflt_str, dflt_int, dflt_bool] at h10
    have hlt : i < l.length := by omega
    have hm := hl _ (getD_mem hlt (ByteArray.empty, ByteArray.empty))
    have hco := check_ok hm
    have hfl : (foldL (l.take i)).length ≤ 1000 * 5000000 := by refine Nat.le_trans (flat_le textL 5000000 _ fun f hf => (text_len (hl f (List.mem_of_mem_take hf))).1) (Nat.mul_le_mul_right _ (by rw [List.length_take]; omega))
    refine acode_skip ?_
    refine acode_seq ?_
    refine acode_block ?_
    refine acode_seq ?_
    refine acode_region ?_
    refine And.intro (by first | omega | assumption | decide | (simp only [Int.toNat_natCast, dflt_sl, dflt_st, dflt_str, dflt_int, dflt_bool]; omega) | (simp <;> omega)) ?_
    refine Or.inl ?_
    refine And.intro (rfl) ?_
    refine Exists.intro _ (And.intro (refLines_c (l.getD i (ByteArray.empty, ByteArray.empty)) (by omega) (by omega)) ?_)
    intro l5_5
    try simp only [Int.toNat_natCast, dflt_sl, dflt_st, dflt_str, dflt_int, dflt_bool] at l5_5
    refine acode_block ?_
    refine acode_loopP (fun (k : Nat) => k ≤ (lineB (l.getD i (ByteArray.empty, ByteArray.empty)).1 (l.getD i (ByteArray.empty, ByteArray.empty)).2).length) (fun (k : Nat) => [(0, .one (.sl rFld l)), (3, is (bytes (foldL (l.take i) ++ endL ((linesL (l.getD i (ByteArray.empty, ByteArray.empty)).1.data.toList (l.getD i (ByteArray.empty, ByteArray.empty)).2.data.toList).take k)))), (4, ii .i64 i), (17, .one (.sl .str (lineB (l.getD i (ByteArray.empty, ByteArray.empty)).1 (l.getD i (ByteArray.empty, ByteArray.empty)).2))), (18, ii .i64 (lineB (l.getD i (ByteArray.empty, ByteArray.empty)).1 (l.getD i (ByteArray.empty, ByteArray.empty)).2).length), (19, ii .i64 k)]) (fun (k : Nat) => []) 0 (fun (k : Nat) => (lineB (l.getD i (ByteArray.empty, ByteArray.empty)).1 (l.getD i (ByteArray.empty, ByteArray.empty)).2).length - k) 0 (Nat.zero_le _) (le_of ⟨rfl, (is_eq (by simp [endL])), rfl, rfl, rfl, rfl⟩ trivial rfl) ?_
    intro k hI2
    have hk := hI2
    refine acode_seq ?_
    refine acode_region ?_
    refine acode_seq ?_
    refine acode_cond rfl (fun h20 => ?_) (fun h20 => ?_)
    · try simp only [decide_eq_true_eq] at h20
      try simp only [Int.toNat_natCast, dflt_sl, dflt_st, dflt_str, dflt_int, dflt_bool] at h20
      have hlk : k < (lineB (l.getD i (ByteArray.empty, ByteArray.empty)).1 (l.getD i (ByteArray.empty, ByteArray.empty)).2).length := by omega
      have hg := lineB_get hlk
      have hlk2 : k < (linesL (l.getD i (ByteArray.empty, ByteArray.empty)).1.data.toList (l.getD i (ByteArray.empty, ByteArray.empty)).2.data.toList).length := by rw [tlines] at hlk; exact hlk
      have hgs : ((lineB (l.getD i (ByteArray.empty, ByteArray.empty)).1 (l.getD i (ByteArray.empty, ByteArray.empty)).2).getD k ByteArray.empty).size ≤ 2000 := by rw [hg, bytes_size]; have h2 := hco.2.1; have h3 := hco.2.2; rw [size_list] at h2 h3; exact (line_len h3 h2).2 _ (getD_mem hlk2 _)
      have hen := (text_len hm).2 k
      have h10 : ByteArray.size ⟨#[10]⟩ = 1 := rfl
      have hps : (bytes (foldL (l.take i) ++ endL ((linesL (l.getD i (ByteArray.empty, ByteArray.empty)).1.data.toList (l.getD i (ByteArray.empty, ByteArray.empty)).2.data.toList).take k))).size ≤ 6000000000 := by rw [bytes_size, List.length_append]; omega
      have hgs' : ((lineB (l.getD i (ByteArray.empty, ByteArray.empty)).1 (l.getD i (ByteArray.empty, ByteArray.empty)).2).getD (k : Int).toNat Rd.str.dflt).size ≤ 2000 := hgs
      refine acode_skip ?_
      refine acode_seq ?_
      refine acode_block ?_
      refine acode_seq ?_
      refine acode_region ?_
      refine And.intro (by first | omega | assumption | decide | (simp only [Int.toNat_natCast, dflt_sl, dflt_st, dflt_str, dflt_int, dflt_bool]; omega) | (simp <;> omega)) ?_
      refine acode_region ?_
      refine And.intro (by first | omega | (simp only [ByteArray.size_append]; omega) | (unfold maxLen; (try simp only [ByteArray.size_append]); omega)) ?_
      refine And.intro (by (have hk0 : ByteArray.size { data := #[10] } = 1 := rfl; first | (unfold maxLen; omega) | (simp only [ByteArray.size_append]; omega) | (unfold maxLen; (try simp only [ByteArray.size_append]); omega))) ?_
      refine acode_region ?_
      refine And.intro (by first | omega | assumption | decide | (simp only [Int.toNat_natCast, dflt_sl, dflt_st, dflt_str, dflt_int, dflt_bool]; omega) | (simp <;> omega)) ?_
      exact ⟨k + 1, by omega, by first | omega | (simp <;> omega), le_of ⟨rfl, (is_eq (by rw [endL_snoc _ _ hlk2]; exact text_step _ _ _ _ hg)), rfl, rfl, rfl, (ii_eq (by omega))⟩ trivial rfl⟩
    · try simp only [decide_eq_false_iff_not, Int.not_lt] at h20
      try simp only [Int.toNat_natCast, dflt_sl, dflt_st, dflt_str, dflt_int, dflt_bool] at h20
      refine acode_exit ?_
      refine acode_region ?_
      refine And.intro (by first | omega | assumption | decide | (simp only [Int.toNat_natCast, dflt_sl, dflt_st, dflt_str, dflt_int, dflt_bool]; omega) | (simp <;> omega)) ?_
      exact ⟨i + 1, by omega, by first | omega | (simp <;> omega), le_of ⟨rfl, (is_eq (by rw [foldL_snoc l i (ByteArray.empty, ByteArray.empty) hlt, show List.take k (linesL (l.getD i (ByteArray.empty, ByteArray.empty)).1.data.toList (l.getD i (ByteArray.empty, ByteArray.empty)).2.data.toList) = linesL (l.getD i (ByteArray.empty, ByteArray.empty)).1.data.toList (l.getD i (ByteArray.empty, ByteArray.empty)).2.data.toList from List.take_of_length_le (by rw [← tlines]; omega)]; rfl)), (ii_eq (by omega))⟩ trivial rfl⟩
  · try simp only [decide_eq_false_iff_not, Int.not_lt] at h10
    try simp only [Int.toNat_natCast, dflt_sl, dflt_st, dflt_str, dflt_int, dflt_bool] at h10
    refine acode_exit ?_
    refine acode_seq ?_
    refine acode_region ?_
    refine acode_ret ?_
    exact is_eq (by rw [List.take_of_length_le (by omega)])
theorem copies_c (l : List Fld) (hn : l.length ≤ 1000) : ACall Tryd.prog 16 [.one (.sl rFld l)] (.one (.sl rFld l)) := by
  refine acall_of (rs := [2]) Tryd.func16 rfl rfl rfl teOk rfl ?_
  refine acode_seq ?_
  refine acode_region ?_
  refine acode_seq ?_
  refine acode_region ?_
  refine And.intro (by first | exact app_le (by first | omega | (simp only [List.length_nil]; omega) | (simp; omega)) (by decide) | omega | assumption | decide | (simp only [Int.toNat_natCast, dflt_sl, dflt_st, dflt_str, dflt_int, dflt_bool]; omega) | (simp <;> omega)) ?_
  refine acode_ret ?_
  exact sl_eq (by rfl)
theorem list_ext_take {α : Type} {a b : List α} {i : Nat} (d : α) (ha : i < a.length) (hb : i < b.length) (h : a.take i = b.take i) (he : a.getD i d = b.getD i d) : a.take (i + 1) = b.take (i + 1) := by
  rw [← take_snoc d ha, ← take_snoc d hb, h, he]
theorem ne_at {α : Type} {a b : List α} {i : Nat} (d : α) (he : a.getD i d ≠ b.getD i d) : ¬ a = b := fun e => he (by rw [e])
theorem fields_c (a b : List Fld) : ACall Tryd.prog 30 [.one (.sl rFld a), .one (.sl rFld b)] (ib (decide (a = b))) := by
  refine acall_of (rs := [4]) Tryd.func30 rfl rfl rfl teOk rfl ?_
  refine acode_seq ?_
  refine acode_region ?_
  refine acode_seq ?_
  refine acode_seq ?_
  refine acode_region ?_
  intro l1_1
  try simp only [Int.toNat_natCast, dflt_sl, dflt_st, dflt_str, dflt_int, dflt_bool] at l1_1
  intro l1_3
  try simp only [Int.toNat_natCast, dflt_sl, dflt_st, dflt_str, dflt_int, dflt_bool] at l1_3
  refine acode_cond rfl (fun h10 => ?_) (fun h10 => ?_)
  · try simp only [decide_eq_false_iff_not, Bool.not_eq_true'] at h10
    try simp only [Int.toNat_natCast, dflt_sl, dflt_st, dflt_str, dflt_int, dflt_bool] at h10
    refine acode_seq ?_
    refine acode_region ?_
    refine acode_ret ?_
    exact ib_eq (decide_eq_false (fun e => by rw [e] at h10; omega)).symm
  · try simp only [decide_eq_true_eq, Bool.not_eq_false'] at h10
    try simp only [Int.toNat_natCast, dflt_sl, dflt_st, dflt_str, dflt_int, dflt_bool] at h10
    refine acode_skip ?_
    refine acode_seq ?_
    refine acode_seq ?_
    refine acode_region ?_
    intro l3_1
    try simp only [Int.toNat_natCast, dflt_sl, dflt_st, dflt_str, dflt_int, dflt_bool] at l3_1
    refine acode_block ?_
    refine acode_loopP (fun (i : Nat) => i ≤ a.length ∧ a.take i = b.take i) (fun (i : Nat) => [(0, .one (.sl rFld a)), (1, .one (.sl rFld b)), (12, ii .i64 a.length), (13, ii .i64 i)]) (fun (i : Nat) => []) 0 (fun (i : Nat) => a.length - i) 0 (⟨Nat.zero_le _, by simp⟩) (le_of ⟨rfl, rfl, rfl, rfl⟩ trivial rfl) ?_
    intro i hI0
    obtain ⟨hi, ht⟩ := hI0
    refine acode_seq ?_
    refine acode_region ?_
    refine acode_seq ?_
    refine acode_cond rfl (fun h14 => ?_) (fun h14 => ?_)
    · try simp only [decide_eq_true_eq] at h14
      try simp only [Int.toNat_natCast, dflt_sl, dflt_st, dflt_str, dflt_int, dflt_bool] at h14
      have hla : i < a.length := by omega
      have hlb : i < b.length := by omega
      refine acode_skip ?_
      refine acode_seq ?_
      refine acode_block ?_
      refine acode_seq ?_
      refine acode_region ?_
      refine acode_seq ?_
      refine acode_draw rfl (by kernel_rfl) ?_
      refine And.intro (by first | omega | assumption | decide | (simp only [Int.toNat_natCast, dflt_sl, dflt_st, dflt_str, dflt_int, dflt_bool]; omega) | (simp <;> omega)) ?_
      refine And.intro (by first | omega | assumption | decide | (simp only [Int.toNat_natCast, dflt_sl, dflt_st, dflt_str, dflt_int, dflt_bool]; omega) | (simp <;> omega)) ?_
      refine And.intro (by rfl) ?_
      refine acode_cond rfl (fun h24 => ?_) (fun h24 => ?_)
      · try simp only [decide_eq_false_iff_not, Bool.not_eq_true', Bool.and_eq_false_iff] at h24
        try simp only [Int.toNat_natCast, dflt_st, dflt_str] at h24
        refine acode_seq ?_
        refine acode_region ?_
        refine acode_ret ?_
        exact ib_eq (decide_eq_false (ne_at (i := i) (ByteArray.empty, ByteArray.empty) (fun e => h24.elim (fun h => h (congrArg Prod.fst e)) (fun h => h (congrArg Prod.snd e))))).symm
      · try simp only [decide_eq_true_eq, Bool.and_eq_true, Bool.not_eq_false'] at h24
        try simp only [Int.toNat_natCast, dflt_st, dflt_str] at h24
        refine acode_skip ?_
        refine acode_region ?_
        refine And.intro (by first | omega | assumption | decide | (simp only [Int.toNat_natCast, dflt_sl, dflt_st, dflt_str, dflt_int, dflt_bool]; omega) | (simp <;> omega)) ?_
        exact ⟨i + 1, ⟨by omega, list_ext_take (ByteArray.empty, ByteArray.empty) hla hlb ht (Prod.ext h24.1 h24.2)⟩, by first | omega | (simp <;> omega), le_of ⟨rfl, rfl, rfl, (ii_eq (by omega))⟩ trivial rfl⟩
    · try simp only [decide_eq_false_iff_not, Int.not_lt] at h14
      try simp only [Int.toNat_natCast, dflt_sl, dflt_st, dflt_str, dflt_int, dflt_bool] at h14
      refine acode_exit ?_
      refine acode_seq ?_
      refine acode_region ?_
      refine acode_ret ?_
      exact ib_eq (decide_eq_true (by rw [List.take_of_length_le (by omega), List.take_of_length_le (by omega)] at ht; exact ht)).symm
abbrev rFault : Rd (Int × Value) := .st (.int .i64) .raw
def errF (at_ n : Int) : C := .ifc 80 (.addr rFault (at_, .iface 64 (.int .i64 n)))
theorem num_nil : ACall Tryd.prog 28 [.one (.lit .nilIface)] (ii .i64 0) := by
  refine acall_of (rs := [2]) Tryd.func28 rfl rfl rfl teOk rfl ?_
  refine acode_seq ?_
  refine acode_region ?_
  refine acode_seq ?_
  refine acode_seq ?_
  refine acode_region ?_
  refine acode_block ?_
  refine acode_loopP (fun (u : Unit) => True) (fun (u : Unit) => [(0, .one (.lit .nilIface)), (7, ii .i64 0)]) (fun (u : Unit) => []) 0 (fun (u : Unit) => 0) () (trivial) (le_of ⟨rfl, rfl⟩ trivial rfl) ?_
  intro u hI0
  refine acode_seq ?_
  refine acode_region ?_
  refine acode_seq ?_
  refine acode_cond rfl (fun h8 => ?_) (fun h8 => ?_)
  · try simp only [decide_eq_true_eq] at h8
    try simp only [Int.toNat_natCast, dflt_sl, dflt_st, dflt_str, dflt_int, dflt_bool] at h8
    refine acode_skip ?_
    refine acode_seq ?_
    refine acode_block ?_
    refine acode_seq ?_
    refine acode_seq ?_
    refine acode_region ?_
    refine acode_cond rfl (fun h10 => ?_) (fun h10 => ?_)
    · try simp only [Bool.not_eq_true'] at h10
      try simp only [Int.toNat_natCast, dflt_sl, dflt_st, dflt_str, dflt_int, dflt_bool] at h10
      refine acode_seq ?_
      refine acode_region ?_
      refine acode_ret ?_
      rfl
    · try simp only [Bool.not_eq_false'] at h10
      try simp only [Int.toNat_natCast, dflt_sl, dflt_st, dflt_str, dflt_int, dflt_bool] at h10
      cases h10
  · try simp only [decide_eq_false_iff_not, Int.not_lt] at h8
    try simp only [Int.toNat_natCast, dflt_sl, dflt_st, dflt_str, dflt_int, dflt_bool] at h8
    cases h8
theorem num_errno (n : Int) (hn : n ≠ 0) : ACall Tryd.prog 28 [.one (errN n)] (ii .i64 n) := by
  refine acall_of (rs := [2]) Tryd.func28 rfl rfl rfl teOk rfl ?_
  refine acode_seq ?_
  refine acode_region ?_
  refine acode_seq ?_
  refine acode_seq ?_
  refine acode_region ?_
  refine acode_block ?_
  refine acode_loopP (fun (u : Unit) => True) (fun (u : Unit) => [(0, .one (errN n)), (7, ii .i64 0)]) (fun (u : Unit) => []) 0 (fun (u : Unit) => 0) () (trivial) (le_of ⟨rfl, rfl⟩ trivial rfl) ?_
  intro u hI0
  refine acode_seq ?_
  refine acode_region ?_
  refine acode_seq ?_
  refine acode_cond rfl (fun h8 => ?_) (fun h8 => ?_)
  · try simp only [decide_eq_true_eq] at h8
    try simp only [Int.toNat_natCast, dflt_sl, dflt_st, dflt_str, dflt_int, dflt_bool] at h8
    refine acode_skip ?_
    refine acode_seq ?_
    refine acode_block ?_
    refine acode_seq ?_
    refine acode_seq ?_
    refine acode_region ?_
    refine acode_cond rfl (fun h10 => ?_) (fun h10 => ?_)
    · try simp only [decide_eq_true_eq, decide_eq_false_iff_not, Bool.and_eq_true, Bool.not_eq_true', Bool.not_eq_false', Bool.or_eq_false_iff, Bool.or_eq_true, Bool.and_eq_false_iff, Int.not_lt, Int.not_le] at h10
      try simp only [Int.toNat_natCast, dflt_sl, dflt_st, dflt_str, dflt_int, dflt_bool] at h10
      cases h10
    · skip
      refine acode_skip ?_
      refine acode_seq ?_
      refine acode_seq ?_
      refine acode_region ?_
      refine acode_seq ?_
      refine acode_region ?_
      refine And.intro (fun h => trivial) ?_
      refine And.intro (fun h => ⟨⟨h, trivial⟩, trivial⟩) ?_
      refine And.intro (by exact fun h => h) ?_
      refine acode_cond rfl (fun h20 => ?_) (fun h20 => ?_)
      · try simp only [decide_eq_false_iff_not, Bool.and_eq_true, Bool.not_eq_true'] at h20
        try simp only [Int.toNat_natCast, dflt_sl, dflt_st, dflt_str, dflt_int, dflt_bool] at h20
        refine acode_seq ?_
        refine acode_region ?_
        refine acode_ret ?_
        rfl
      · try simp only [decide_eq_true_eq, Bool.not_eq_false', Bool.and_eq_false_iff] at h20
        try simp only [Int.toNat_natCast, dflt_sl, dflt_st, dflt_str, dflt_int, dflt_bool] at h20
        exact absurd (h20.resolve_left (fun e => by cases e)) hn
  · try simp only [decide_eq_false_iff_not, Int.not_lt] at h8
    try simp only [Int.toNat_natCast, dflt_sl, dflt_st, dflt_str, dflt_int, dflt_bool] at h8
    cases h8
theorem num_fault (at_ n : Int) (hn : n ≠ 0) : ACall Tryd.prog 28 [.one (errF at_ n)] (ii .i64 n) := by
  refine acall_of (rs := [2]) Tryd.func28 rfl rfl rfl teOk rfl ?_
  refine acode_seq ?_
  refine acode_region ?_
  refine acode_seq ?_
  refine acode_seq ?_
  refine acode_region ?_
  refine acode_block ?_
  refine acode_loopP (fun (b : Bool) => True) (fun (b : Bool) => [(0, cond b (.one (errN n)) (.one (errF at_ n))), (7, ii .i64 (cond b 1 0))]) (fun (b : Bool) => []) 0 (fun (b : Bool) => cond b 0 1) false (trivial) (le_of ⟨rfl, rfl⟩ trivial rfl) ?_
  intro b hI0
  refine acode_seq ?_
  cases b
  · refine acode_region ?_
    refine acode_seq ?_
    refine acode_cond rfl (fun h8 => ?_) (fun h8 => ?_)
    · try simp only [decide_eq_true_eq] at h8
      try simp only [Int.toNat_natCast, dflt_sl, dflt_st, dflt_str, dflt_int, dflt_bool] at h8
      refine acode_skip ?_
      refine acode_seq ?_
      refine acode_block ?_
      refine acode_seq ?_
      refine acode_seq ?_
      refine acode_region ?_
      refine acode_cond rfl (fun h10 => ?_) (fun h10 => ?_)
      · try simp only [decide_eq_true_eq, decide_eq_false_iff_not, Bool.and_eq_true, Bool.not_eq_true', Bool.not_eq_false', Bool.or_eq_false_iff, Bool.or_eq_true, Bool.and_eq_false_iff, Int.not_lt, Int.not_le] at h10
        try simp only [Int.toNat_natCast, dflt_sl, dflt_st, dflt_str, dflt_int, dflt_bool] at h10
        cases h10
      · skip
        refine acode_skip ?_
        refine acode_seq ?_
        refine acode_seq ?_
        refine acode_region ?_
        refine acode_seq ?_
        refine acode_region ?_
        refine And.intro (fun h => trivial) ?_
        refine And.intro (fun h => ⟨⟨h, trivial⟩, trivial⟩) ?_
        refine And.intro (by exact fun h => h) ?_
        refine acode_cond rfl (fun h20 => ?_) (fun h20 => ?_)
        · try simp only [decide_eq_false_iff_not, Bool.and_eq_true, Bool.not_eq_true'] at h20
          try simp only [Int.toNat_natCast, dflt_sl, dflt_st, dflt_str, dflt_int, dflt_bool] at h20
          exact absurd h20.1 (by decide)
        · try simp only [decide_eq_true_eq, Bool.not_eq_false', Bool.and_eq_false_iff] at h20
          try simp only [Int.toNat_natCast, dflt_sl, dflt_st, dflt_str, dflt_int, dflt_bool] at h20
          refine acode_skip ?_
          refine acode_seq ?_
          refine acode_region ?_
          refine acode_seq ?_
          refine acode_seq ?_
          refine acode_region ?_
          refine And.intro (fun h => trivial) ?_
          refine And.intro (fun h => ⟨⟨h, trivial⟩, trivial⟩) ?_
          refine And.intro (by first | (intro h; rw [h]; rfl) | (intro h; cases h)) ?_
          refine And.intro (fun h => trivial) ?_
          refine And.intro (fun h => ⟨⟨h, trivial⟩, trivial⟩) ?_
          refine And.intro (fun h => ⟨⟨h, trivial⟩, trivial⟩) ?_
          refine And.intro (fun h => ⟨⟨h, trivial⟩, trivial⟩) ?_
          refine And.intro (fun h => ⟨⟨h, trivial⟩, trivial⟩) ?_
          refine And.intro (by first | (intro h; rw [h]; rfl) | (intro h; cases h)) ?_
          refine acode_cond rfl (fun h39 => ?_) (fun h39 => ?_)
          · try simp only [Bool.not_eq_true', Bool.or_eq_true] at h39
            try simp only [Int.toNat_natCast, dflt_sl, dflt_st, dflt_str, dflt_int, dflt_bool] at h39
            exact absurd h39 (by decide)
          · try simp only [Bool.not_eq_false', Bool.or_eq_false_iff] at h39
            try simp only [Int.toNat_natCast, dflt_sl, dflt_st, dflt_str, dflt_int, dflt_bool] at h39
            refine acode_skip ?_
            refine acode_region ?_
            refine acode_region ?_
            refine And.intro (by first | omega | assumption | decide | (simp only [Int.toNat_natCast, dflt_sl, dflt_st, dflt_str, dflt_int, dflt_bool]; omega) | (simp <;> omega)) ?_
            exact ⟨true, trivial, by decide, le_of ⟨rfl, rfl⟩ trivial rfl⟩
    · try simp only [decide_eq_false_iff_not, Int.not_lt] at h8
      try simp only [Int.toNat_natCast, dflt_sl, dflt_st, dflt_str, dflt_int, dflt_bool] at h8
      exact absurd h8 (by decide)
  · refine acode_region ?_
    refine acode_seq ?_
    refine acode_cond rfl (fun h8 => ?_) (fun h8 => ?_)
    · try simp only [decide_eq_true_eq] at h8
      try simp only [Int.toNat_natCast, dflt_sl, dflt_st, dflt_str, dflt_int, dflt_bool] at h8
      refine acode_skip ?_
      refine acode_seq ?_
      refine acode_block ?_
      refine acode_seq ?_
      refine acode_seq ?_
      refine acode_region ?_
      refine acode_cond rfl (fun h10 => ?_) (fun h10 => ?_)
      · try simp only [decide_eq_true_eq, decide_eq_false_iff_not, Bool.and_eq_true, Bool.not_eq_true', Bool.not_eq_false', Bool.or_eq_false_iff, Bool.or_eq_true, Bool.and_eq_false_iff, Int.not_lt, Int.not_le] at h10
        try simp only [Int.toNat_natCast, dflt_sl, dflt_st, dflt_str, dflt_int, dflt_bool] at h10
        cases h10
      · skip
        refine acode_skip ?_
        refine acode_seq ?_
        refine acode_seq ?_
        refine acode_region ?_
        refine acode_seq ?_
        refine acode_region ?_
        refine And.intro (fun h => trivial) ?_
        refine And.intro (fun h => ⟨⟨h, trivial⟩, trivial⟩) ?_
        refine And.intro (by exact fun h => h) ?_
        refine acode_cond rfl (fun h20 => ?_) (fun h20 => ?_)
        · try simp only [decide_eq_false_iff_not, Bool.and_eq_true, Bool.not_eq_true'] at h20
          try simp only [Int.toNat_natCast, dflt_sl, dflt_st, dflt_str, dflt_int, dflt_bool] at h20
          refine acode_seq ?_
          refine acode_region ?_
          refine acode_ret ?_
          rfl
        · try simp only [decide_eq_true_eq, Bool.not_eq_false', Bool.and_eq_false_iff] at h20
          try simp only [Int.toNat_natCast, dflt_sl, dflt_st, dflt_str, dflt_int, dflt_bool] at h20
          exact absurd (h20.resolve_left (fun e => by cases e)) hn
    · try simp only [decide_eq_false_iff_not, Int.not_lt] at h8
      try simp only [Int.toNat_natCast, dflt_sl, dflt_st, dflt_str, dflt_int, dflt_bool] at h8
      exact absurd h8 (by decide)
end Q
end Ab
end Go.Proofs.YtklhlkhlndhepaaDoor
namespace Go.Proofs.YtklhlkhlndhepaaDoor
open Go.RowKit
namespace Ab
set_option maxRecDepth 100000
namespace Q
/-- Lines that are not too many, nor too long together. -/
def LinesOk (l : List ByteArray) : Prop := l.length ≤ 1000000 ∧ (l.map (·.size)).sum ≤ 100000000
theorem sum_mem {l : List ByteArray} {s : ByteArray} (h : s ∈ l) : s.size ≤ (l.map (·.size)).sum := by
  induction l with
  | nil => cases h
  | cons a r ih =>
    rw [List.map_cons, List.sum_cons]
    rcases List.mem_cons.1 h with rfl | h
    · omega
    · have := ih h; omega
theorem sum_drop (l : List ByteArray) (n : Nat) : ((l.drop n).map (·.size)).sum ≤ (l.map (·.size)).sum := by
  conv => rhs; rw [← List.take_append_drop n l, List.map_append, List.sum_append]
  omega
def unfA (l : List ByteArray) : A := if (unfoldL (l.map ls)).2 = 0 then .tup [(true, [.lit (.string (bytes (unfoldL (l.map ls)).1.1)), .lit (.string (bytes (unfoldL (l.map ls)).1.2))]), (false, [.lit .nilIface])]
  else .tup [(true, [.lit (.string ⟨#[]⟩), .lit (.string ⟨#[]⟩)]), (false, [errN (unfoldL (l.map ls)).2])]
theorem unfA_bad {l : List ByteArray} {n : Int} (h : (unfoldL (l.map ls)).2 = n) (hn : n ≠ 0) : unfA l = .tup [(true, [.lit (.string ⟨#[]⟩), .lit (.string ⟨#[]⟩)]), (false, [errN n])] := by
  unfold unfA; rw [if_neg (by rw [h]; exact hn), h]
theorem unfA_ok {l : List ByteArray} {k v : List UInt8} (h : unfoldL (l.map ls) = ((k, v), 0)) : unfA l = .tup [(true, [.lit (.string (bytes k)), .lit (.string (bytes v))]), (false, [.lit .nilIface])] := by
  unfold unfA; rw [if_pos (by rw [h]), h]
theorem trimP_len (s p : List UInt8) : (Lib.trimPrefix s p).length ≤ s.length := by
  unfold Lib.trimPrefix; split
  · rw [List.length_drop]; omega
  · exact Nat.le_refl _
theorem joinL_len (c : UInt8) : ∀ l : List (List UInt8), (Lib.join l [c]).length ≤ (l.map (·.length)).sum + l.length
  | [] => by simp [Lib.join]
  | [a] => by rw [Lib.join_one]; simp
  | a :: b :: r => by
    have := joinL_len c (b :: r)
    rw [join_two]
    simp only [List.length_append, List.length_cons, List.length_nil, List.map_cons, List.sum_cons] at this ⊢
    omega
theorem map_sum_le {α : Type} (f g : α → Nat) : ∀ l : List α, (∀ x ∈ l, f x ≤ g x) → (l.map f).sum ≤ (l.map g).sum
  | [], _ => Nat.le_refl _
  | a :: r, h => by
    simp only [List.map_cons, List.sum_cons]
    have := h a (by simp)
    have := map_sum_le f g r fun x hx => h x (by simp [hx])
    omega
/-- What stands on a further line. -/
def moreB (s : ByteArray) : ByteArray := bytes (Lib.trimPrefix (s.data.toList.drop 1) [46])
def firstB (s : ByteArray) : ByteArray := bytes (Lib.trimPrefix (Lib.cut s.data.toList [58]).2.1 [32])
theorem value_join (s : ByteArray) (r : List ByteArray) : Lib.join ((firstB s :: r.map moreB).map (·.data.toList)) [10] = valueL (ls s) (r.map ls) := by
  unfold valueL firstB moreB
  rw [List.map_cons, bytes_list, List.map_map, List.map_map]
  congr 2
theorem value_len (s : ByteArray) (r : List ByteArray) : (valueL (ls s) (r.map ls)).length ≤ s.size + (r.map (·.size)).sum + r.length + 1 := by
  unfold valueL
  refine Nat.le_trans (joinL_len 10 _) ?_
  rw [List.map_cons, List.sum_cons, List.length_cons, List.map_map, List.map_map, List.length_map, List.length_map]
  have h1 := trimP_len (Lib.cut (ls s) [58]).2.1 [32]
  have h2 := (cut_len (ls s) [58]).2
  have h3 : s.size = (ls s).length := size_list s
  have h4 := map_sum_le (((fun l : List UInt8 => l.length) ∘ (fun s : List UInt8 => Lib.trimPrefix (s.drop 1) [46])) ∘ ls) (fun s : ByteArray => s.size) r fun x _ => by
    have h5 := trimP_len ((ls x).drop 1) [46]
    have h6 : x.size = (ls x).length := size_list x
    simp only [Function.comp]
    rw [List.length_drop] at h5
    omega
  omega
theorem cutL_ok {l : List UInt8} (h : (cutL l).2.2 = true) : kindL l = 4 ∧ cutL l = Lib.cut l [58] ∧ keyOk (Lib.cut l [58]).1 = true := by
  unfold cutL at h ⊢
  split
  · rename_i h4
    refine ⟨h4, rfl, ?_⟩
    have := h4
    unfold kindL at this
    split at this
    · cases this
    · split at this
      · cases this
      · split at this
        · cases this
        · split at this
          · cases this
          · split at this
            · rename_i h5; rw [Bool.and_eq_true] at h5; exact h5.2
            · cases this
  · rename_i h4; rw [if_neg h4] at h; cases h
theorem cutL_no {l : List UInt8} (h : (cutL l).2.2 = false) : kindL l ≠ 4 := fun h4 => by
  unfold cutL at h
  rw [if_pos h4] at h
  unfold kindL at h4
  split at h4
  · cases h4
  · split at h4
    · cases h4
    · split at h4
      · cases h4
      · split at h4
        · cases h4
        · split at h4
          · rename_i h5; rw [Bool.and_eq_true] at h5; rw [h] at h5; cases h5.1
          · cases h4
theorem kind3_pos {l : List UInt8} (h : kindL l = 3) : 1 ≤ l.length := by
  cases l with
  | nil => cases h
  | cons a r => simp
theorem unf_form {s : ByteArray} {r : List ByteArray} (h : kindL (ls s) ≠ 4 ∨ ∃ x ∈ r, kindL (ls x) ≠ 3) : (unfoldL ((s :: r).map ls)).2 = 2 := by
  rw [List.map_cons, unfoldL, if_pos]
  rcases h with h | ⟨x, hx, h⟩
  · exact .inl h
  · exact .inr (List.any_eq_true.2 ⟨ls x, List.mem_map.2 ⟨x, hx, rfl⟩, by rw [decide_eq_false h]; rfl⟩)
theorem unf_good {s : ByteArray} {r : List ByteArray} (h : kindL (ls s) = 4) (hr : ∀ x ∈ r, kindL (ls x) = 3) : unfoldL ((s :: r).map ls) = if 1000 < (valueL (ls s) (r.map ls)).length then (([], []), 6) else (((Lib.cut (ls s) [58]).1, valueL (ls s) (r.map ls)), 0) := by
  rw [List.map_cons, unfoldL, if_neg]
  rintro (h1 | h1)
  · exact h1 h
  · obtain ⟨x, hx, h2⟩ := List.any_eq_true.1 h1
    obtain ⟨y, hy, rfl⟩ := List.mem_map.1 hx
    rw [hr y hy] at h2
    exact absurd h2 (by decide)
theorem lcut_v (s : ByteArray) (c : List UInt8 × List UInt8 × Bool) (hc : cutL s.data.toList = c) (hs : s.size ≤ 1000000000) : ACall Tryd.prog 105 [is s] (cutA c) := by
  subst hc; exact lcut_c s hs
theorem drop_size (s : ByteArray) (n : Nat) : (s.extract n s.size).data.toList = s.data.toList.drop n := by
  rw [extract_ls, List.take_of_length_le (by rw [List.length_drop, size_list]; omega)]
theorem more_eq (s : ByteArray) : (⟨(Lib.trimPrefix (s.extract (Int.toNat 1) (s.size : Int).toNat).data.toList ({ data := #[46] } : ByteArray).data.toList).toArray⟩ : ByteArray) = moreB s := by
  rw [Int.toNat_natCast, show Int.toNat 1 = 1 from rfl, drop_size]; rfl
theorem join_v (s : ByteArray) (r : List ByteArray) (h : LinesOk (s :: r)) : ACall Tryd.prog 59 [.one (.sl .str (firstB s :: r.map moreB)), is ⟨#[10]⟩] (is (bytes (valueL (ls s) (r.map ls)))) := by
  have h1 := h.1
  have h2 := h.2
  simp only [List.length_cons, List.map_cons, List.sum_cons] at h1 h2
  have hv := value_len s r
  have := join_c (firstB s :: r.map moreB) ⟨#[10]⟩ (by simp only [List.length_cons, List.length_map]; omega) (by rw [show (⟨#[10]⟩ : ByteArray).data.toList = [10] from rfl, value_join]; omega)
  rw [show (⟨#[10]⟩ : ByteArray).data.toList = [10] from rfl, value_join] at this
  exact this
theorem check_kv (k v : List UInt8) (hk : keyOk k = true) : checkF (bytes k, bytes v) = if 1000 < v.length then 6 else 0 := by
  unfold checkF
  rw [if_pos (by rw [bytes_list]; exact hk), bytes_size]
theorem unfold_c (s0 : ByteArray) (r : List ByteArray) (hl : LinesOk (s0 :: r)) : ACall Tryd.prog 87 [.one (.sl .str (s0 :: r))] (unfA (s0 :: r)) := by
  obtain ⟨l, hl0⟩ : ∃ l, s0 :: r = l := ⟨_, rfl⟩
  rw [hl0] at hl ⊢
  have hsz : ∀ x ∈ l, x.size ≤ 100000000 := fun x hx => Nat.le_trans (sum_mem hx) hl.2
  have hll := hl.1
  have hd : l.drop 1 = r := by rw [← hl0]; rfl
  have h0 : l.getD 0 ByteArray.empty = s0 := by rw [← hl0]; rfl
  have hs0 : s0.size ≤ 100000000 := hsz _ (by rw [← hl0]; simp)
  obtain ⟨c, hc⟩ : ∃ c, cutL s0.data.toList = c := ⟨_, rfl⟩
  have hlen : l.length = r.length + 1 := by rw [← hl0]; rfl
  have hdl : (l.drop 1).length = l.length - 1 := List.length_drop
  refine acall_ofc (rs := [.cell 2 69, .tmp 3]) Tryd.func87 rfl rfl rfl teOk rfl ?_
  refine acode_seq ?_
  refine acode_region ?_
  refine acode_seq ?_
  refine acode_seq ?_
  refine acode_region ?_
  intro l1_1
  try simp only [Int.toNat_natCast, dflt_sl, dflt_st, dflt_str, dflt_int, dflt_bool] at l1_1
  refine acode_cond rfl (fun h14 => ?_) (fun h14 => ?_)
  · try simp only [decide_eq_true_eq] at h14
    try simp only [Int.toNat_natCast, dflt_sl, dflt_st, dflt_str, dflt_int, dflt_bool] at h14
    exfalso; omega
  · try simp only [decide_eq_false_iff_not] at h14
    try simp only [Int.toNat_natCast, dflt_sl, dflt_st, dflt_str, dflt_int, dflt_bool] at h14
    refine acode_skip ?_
    refine acode_seq ?_
    refine acode_region ?_
    refine And.intro (by first | omega | assumption | decide | (simp only [Int.toNat_natCast, dflt_sl, dflt_st, dflt_str, dflt_int, dflt_bool]; omega) | (simp <;> omega)) ?_
    refine Or.inl ?_
    refine And.intro (rfl) ?_
    refine Exists.intro _ (And.intro ((lcut_v (l.getD 0 ByteArray.empty) c (by rw [h0]; exact hc) (by rw [h0]; omega))) ?_)
    refine acode_seq ?_
    refine acode_seq ?_
    refine acode_region ?_
    refine acode_cond rfl (fun h26 => ?_) (fun h26 => ?_)
    · try simp only [Bool.not_eq_true'] at h26
      try simp only [Int.toNat_natCast, dflt_sl, dflt_st, dflt_str, dflt_int, dflt_bool] at h26
      refine acode_seq ?_
      refine acode_region ?_
      refine acode_ret ?_
      rw [unfA_bad (n := 2) (by rw [← hl0]; exact unf_form (.inl (cutL_no (by rw [show ls s0 = s0.data.toList from rfl, hc]; exact h26)))) (by decide)]
      rfl
    · try simp only [Bool.not_eq_false'] at h26
      try simp only [Int.toNat_natCast, dflt_sl, dflt_st, dflt_str, dflt_int, dflt_bool] at h26
      have hco : (cutL s0.data.toList).2.2 = true := by rw [hc]; exact h26
      obtain ⟨hk4, hcc, hko⟩ := cutL_ok hco
      have hcl : c = Lib.cut s0.data.toList [58] := by rw [← hc, hcc]
      refine acode_skip ?_
      refine acode_seq ?_
      refine acode_region ?_
      refine Or.inl ?_
      refine And.intro (rfl) ?_
      refine Exists.intro _ (And.intro (trimPrefix_c _ _) ?_)
      refine acode_seq ?_
      refine acode_seq ?_
      refine acode_region ?_
      refine And.intro (by first | omega | assumption | decide | (simp only [Int.toNat_natCast, dflt_sl, dflt_st, dflt_str, dflt_int, dflt_bool]; omega) | (simp <;> omega)) ?_
      intro l7_2
      try simp only [Int.toNat_natCast, dflt_sl, dflt_st, dflt_str, dflt_int, dflt_bool] at l7_2
      refine acode_block ?_
      refine acode_loopP (fun (i : Nat) => i ≤ (l.drop 1).length ∧ ∀ x ∈ (l.drop 1).take i, kindL (ls x) = 3) (fun (i : Nat) => [(2, .one (.own 0 0)), (4, is (bytes c.1)), (7, .one (.vec 1)), (33, .one (.sl .str (l.drop 1))), (34, ii .i64 (l.drop 1).length), (35, ii .i64 i)]) (fun (i : Nat) => [(0, .box 69 [.lit (.string ⟨#[]⟩), .lit (.string ⟨#[]⟩)]), (1, .vec 9 .str (firstB s0 :: ((l.drop 1).take i).map moreB))]) 2 (fun (i : Nat) => (l.drop 1).length - i) 0 (⟨Nat.zero_le _, by simp⟩) (le_of ⟨rfl, rfl, rfl, rfl, rfl, rfl⟩ ⟨rfl, (vec_eq (by rw [List.take_zero, List.map_nil, bytes_list, hcl]; rfl))⟩ rfl) ?_
      intro i hI0
      obtain ⟨hi, hall⟩ := hI0
      refine acode_seq ?_
      refine acode_region ?_
      refine acode_seq ?_
      refine acode_cond rfl (fun h36 => ?_) (fun h36 => ?_)
      · try simp only [decide_eq_true_eq] at h36
        try simp only [Int.toNat_natCast, dflt_sl, dflt_st, dflt_str, dflt_int, dflt_bool] at h36
        have hlt : i < (l.drop 1).length := by omega
        have hm := List.mem_of_mem_drop (getD_mem hlt ByteArray.empty)
        have hms := hsz _ hm
        refine acode_skip ?_
        refine acode_seq ?_
        refine acode_block ?_
        refine acode_seq ?_
        refine acode_region ?_
        refine And.intro (by first | omega | assumption | decide | (simp only [Int.toNat_natCast, dflt_sl, dflt_st, dflt_str, dflt_int, dflt_bool]; omega) | (simp <;> omega)) ?_
        refine acode_seq ?_
        refine acode_seq ?_
        refine acode_region ?_
        refine Or.inl ?_
        refine And.intro (rfl) ?_
        refine Exists.intro _ (And.intro (kind_c ((l.drop 1).getD i ByteArray.empty) (by omega)) ?_)
        refine acode_cond rfl (fun h41 => ?_) (fun h41 => ?_)
        · try simp only [decide_eq_false_iff_not, Bool.not_eq_true'] at h41
          try simp only [Int.toNat_natCast, dflt_sl, dflt_st, dflt_str, dflt_int, dflt_bool] at h41
          refine acode_seq ?_
          refine acode_region ?_
          refine acode_ret ?_
          rw [unfA_bad (n := 2) (by rw [← hl0]; exact unf_form (.inr ⟨_, by rw [← hd]; exact getD_mem hlt ByteArray.empty, h41⟩)) (by decide)]
          rfl
        · try simp only [decide_eq_true_eq, Bool.not_eq_false'] at h41
          try simp only [Int.toNat_natCast, dflt_sl, dflt_st, dflt_str, dflt_int, dflt_bool] at h41
          have h1 := kind3_pos h41
          have hz := size_list ((l.drop 1).getD i ByteArray.empty)
          refine acode_skip ?_
          refine acode_region ?_
          refine And.intro (by first | omega | assumption | decide | (simp only [Int.toNat_natCast, dflt_str]; omega) | (simp <;> omega)) ?_
          refine Or.inl ?_
          refine And.intro (rfl) ?_
          refine Exists.intro _ (And.intro (trimPrefix_c _ _) ?_)
          refine And.intro (by first | exact app_le (by first | omega | (simp only [List.length_cons, List.length_nil, List.length_map, List.length_take, List.length_drop]; omega) | (simp; omega)) (by decide) | omega | assumption | decide | (simp only [Int.toNat_natCast, dflt_sl, dflt_st, dflt_str, dflt_int, dflt_bool]; omega) | (simp <;> omega)) ?_
          refine acode_region ?_
          refine And.intro (by first | omega | assumption | decide | (simp only [Int.toNat_natCast, dflt_sl, dflt_st, dflt_str, dflt_int, dflt_bool]; omega) | (simp <;> omega)) ?_
          exact ⟨i + 1, ⟨by omega, by rw [← take_snoc ByteArray.empty hlt]; intro f hf; rcases List.mem_append.1 hf with h|h; exact hall f h; rw [List.mem_singleton.1 h]; exact h41⟩, by first | omega | (simp <;> omega), le_of ⟨rfl, rfl, rfl, rfl, rfl, (ii_eq (by omega))⟩ ⟨rfl, (vec_eq (map_next moreB ByteArray.empty hlt _ (more_eq _) [_]))⟩ rfl⟩
      · try simp only [decide_eq_false_iff_not, Int.not_lt] at h36
        try simp only [Int.toNat_natCast, dflt_sl, dflt_st, dflt_str, dflt_int, dflt_bool] at h36
        rw [List.take_of_length_le (by omega)] at hall ⊢
        rw [hd] at hall ⊢
        refine acode_exit ?_
        refine acode_seq ?_
        refine acode_region ?_
        refine Or.inl ?_
        refine And.intro (rfl) ?_
        refine Exists.intro _ (And.intro (join_v s0 r (by rw [hl0]; exact hl)) ?_)
        refine acode_seq ?_
        refine acode_seq ?_
        by_cases hv : 1000 < (valueL (ls s0) (r.map ls)).length
        · refine acode_region ?_
          refine Or.inl ?_
          refine And.intro (rfl) ?_
          refine Exists.intro _ (And.intro ((check_v (bytes c.1, bytes (valueL (ls s0) (r.map ls))) 6 (by rw [bytes_size]; have := (cut_len s0.data.toList [58]).1; rw [hcl]; rw [size_list] at hs0; omega) (by rw [check_kv _ _ (by rw [hcl]; exact hko), if_pos hv]) : ACall _ _ _ (.one (errN 6)))) ?_)
          refine acode_seq ?_
          refine acode_region ?_
          refine acode_cond rfl (fun h58 => ?_) (fun h58 => ?_)
          · skip
            refine acode_seq ?_
            refine acode_region ?_
            refine acode_ret ?_
            rw [unfA_bad (n := 6) (by rw [← hl0, unf_good hk4 hall, if_pos hv]) (by decide)]
            rfl
          · try simp only [decide_eq_true_eq, decide_eq_false_iff_not, Bool.and_eq_true, Bool.not_eq_true', Bool.not_eq_false', Bool.or_eq_false_iff, Bool.or_eq_true, Bool.and_eq_false_iff, Int.not_lt, Int.not_le] at h58
            try simp only [Int.toNat_natCast, dflt_sl, dflt_st, dflt_str, dflt_int, dflt_bool] at h58
            cases h58
        · refine acode_region ?_
          refine Or.inl ?_
          refine And.intro (rfl) ?_
          refine Exists.intro _ (And.intro ((check_v (bytes c.1, bytes (valueL (ls s0) (r.map ls))) 0 (by rw [bytes_size]; have := (cut_len s0.data.toList [58]).1; rw [hcl]; rw [size_list] at hs0; omega) (by rw [check_kv _ _ (by rw [hcl]; exact hko), if_neg hv]) : ACall _ _ _ (.one (.lit .nilIface)))) ?_)
          refine acode_seq ?_
          refine acode_region ?_
          refine acode_cond rfl (fun h58 => ?_) (fun h58 => ?_)
          · try simp only [Bool.not_eq_true'] at h58
            try simp only [Int.toNat_natCast, dflt_sl, dflt_st, dflt_str, dflt_int, dflt_bool] at h58
            cases h58
          · try simp only [Bool.not_eq_false'] at h58
            try simp only [Int.toNat_natCast, dflt_sl, dflt_st, dflt_str, dflt_int, dflt_bool] at h58
            refine acode_skip ?_
            refine acode_seq ?_
            refine acode_region ?_
            refine acode_ret ?_
            rw [unfA_ok (k := c.1) (v := valueL (ls s0) (r.map ls)) (by rw [← hl0, unf_good hk4 hall, if_neg hv, hcl])]
            rfl
end Q
end Ab
end Go.Proofs.YtklhlkhlndhepaaDoor
namespace Go.Proofs.YtklhlkhlndhepaaDoor
open Go.RowKit
namespace Ab
set_option maxRecDepth 100000
namespace Q
theorem unfold_e : ACall Tryd.prog 87 [.one (.sl .str [])] (unfA []) := by
  refine acall_ofc (rs := [.cell 2 69, .tmp 3]) Tryd.func87 rfl rfl rfl teOk rfl ?_
  refine acode_seq ?_
  refine acode_region ?_
  refine acode_seq ?_
  refine acode_seq ?_
  refine acode_region ?_
  intro l1_1
  try simp only [Int.toNat_natCast, dflt_sl, dflt_st, dflt_str, dflt_int, dflt_bool] at l1_1
  refine acode_cond rfl (fun h14 => ?_) (fun h14 => ?_)
  · try simp only [decide_eq_true_eq] at h14
    try simp only [Int.toNat_natCast, dflt_sl, dflt_st, dflt_str, dflt_int, dflt_bool] at h14
    refine acode_seq ?_
    refine acode_region ?_
    refine acode_ret ?_
    rfl
  · try simp only [decide_eq_false_iff_not] at h14
    try simp only [Int.toNat_natCast, dflt_sl, dflt_st, dflt_str, dflt_int, dflt_bool] at h14
    exact absurd rfl h14
theorem unfold_a (l : List ByteArray) (hl : LinesOk l) : ACall Tryd.prog 87 [.one (.sl .str l)] (unfA l) := by
  cases l with
  | nil => exact unfold_e
  | cons s r => exact unfold_c s r hl
theorem kind4_key {l : List UInt8} (h4 : kindL l = 4) : 10 ∉ l ∧ ((Lib.cut l [58]).2.2 && keyOk (Lib.cut l [58]).1) = true := by
  unfold kindL at h4
  split at h4
  · cases h4
  · rename_i h10
    refine ⟨h10, ?_⟩
    split at h4
    · cases h4
    · split at h4
      · cases h4
      · split at h4
        · cases h4
        · split at h4
          · rename_i h5; exact h5
          · cases h4
theorem unf_cases (L : List (List UInt8)) : (∃ n, (n = 2 ∨ n = 6) ∧ unfoldL L = (([], []), n)) ∨ ∃ k v, unfoldL L = ((k, v), 0) ∧ keyOk k = true ∧ v.length ≤ 1000 := by
  cases L with
  | nil => exact .inl ⟨2, .inl rfl, rfl⟩
  | cons a r =>
    rw [unfoldL]
    split
    · exact .inl ⟨2, .inl rfl, rfl⟩
    · rename_i h1
      split
      · exact .inl ⟨6, .inr rfl, rfl⟩
      · rename_i h2
        have h4 : kindL a = 4 := Classical.not_not.1 fun h => h1 (.inl h)
        have := (kind4_key h4).2
        rw [Bool.and_eq_true] at this
        exact .inr ⟨_, _, rfl, this.2, by omega⟩
theorem unfold_bad (l : List ByteArray) (hl : LinesOk l) {n : Int} (h : unfoldL (l.map ls) = (([], []), n)) (hn : n = 2 ∨ n = 6) : ACall Tryd.prog 87 [.one (.sl .str l)] (.tup [(true, [.lit (.string ⟨#[]⟩), .lit (.string ⟨#[]⟩)]), (false, [errN n])]) := by
  have := unfold_a l hl
  rw [unfA_bad (n := n) (by rw [h]) (by rcases hn with rfl | rfl <;> decide)] at this
  exact this
theorem unfold_ok (l : List ByteArray) (hl : LinesOk l) {k v : List UInt8} (h : unfoldL (l.map ls) = ((k, v), 0)) : ACall Tryd.prog 87 [.one (.sl .str l)] (.tup [(true, [.lit (.string (bytes k)), .lit (.string (bytes v))]), (false, [.lit .nilIface])]) := by
  have := unfold_a l hl
  rw [unfA_ok h] at this
  exact this
/-- Are lines those of the field that they say? -/
def plainL (l : List ByteArray) : Bool := decide ((unfoldL (l.map ls)).2 = 0) && decide (lineB (bytes (unfoldL (l.map ls)).1.1) (bytes (unfoldL (l.map ls)).1.2) = l)
theorem plain_bad {l : List ByteArray} {n : Int} (h : unfoldL (l.map ls) = (([], []), n)) (hn : n = 2 ∨ n = 6) : plainL l = false := by
  unfold plainL
  rw [h, decide_eq_false (by rcases hn with rfl | rfl <;> decide)]; rfl
theorem plain_ok {l : List ByteArray} {k v : List UInt8} (h : unfoldL (l.map ls) = ((k, v), 0)) : plainL l = decide (lineB (bytes k) (bytes v) = l) := by
  unfold plainL
  rw [h, decide_eq_true rfl]; rfl
theorem keyOk_len {k : List UInt8} (h : keyOk k = true) : k.length ≤ 32 := by
  obtain ⟨_, _, _, _, _, _, _, h1⟩ := keyOk_spec h
  exact h1
theorem lines_ok (k v : List UInt8) (hk : keyOk k = true) (hv : v.length ≤ 1000) : ACall Tryd.prog 62 [.agg (toL rFld (bytes k, bytes v))] (.tup [(false, [.sl .str (lineB (bytes k) (bytes v))]), (false, [.lit .nilIface])]) := by
  have h1 := keyOk_len hk
  have := lines_c (bytes k, bytes v) (by rw [bytes_size]; omega) (by rw [bytes_size]; omega)
  rw [linesA_ok (by rw [check_kv _ _ hk, if_neg (by omega)])] at this
  exact this
theorem kind3_two {l : List UInt8} (h : kindL l = 3) : 2 ≤ l.length := by
  match l with
  | [] => cases h
  | [a] =>
    exfalso
    unfold kindL at h
    split at h
    · cases h
    · split at h
      · cases h
      · rename_i h2
        split at h
        · cases h
        · split at h
          · rename_i h4
            unfold blankL at h4
            simp at h2 h4
            rw [h4] at h2
            cases h2
          · split at h <;> cases h
  | a :: b :: r => simp
theorem valueL_snoc (s : List UInt8) (r : List (List UInt8)) (x : List UInt8) : valueL s (r ++ [x]) = valueL s r ++ ([10] ++ Lib.trimPrefix (x.drop 1) [46]) := by
  unfold valueL
  rw [List.map_append, List.map_cons, List.map_nil, ← List.cons_append, join_snoc _ _ (by simp)]
theorem trimP_yes {c : UInt8} {l : List UInt8} (h : 0 < l.length) (hc : l.getD 0 0 = c) : Lib.trimPrefix l [c] = l.drop 1 := by
  unfold Lib.trimPrefix
  rw [if_pos]
  · rfl
  · rw [hasPrefix_one]
    cases l with
    | nil => cases h
    | cons a b => simp only [List.getD_cons_zero] at hc; rw [hc]; simp
theorem trimP_no {c : UInt8} {l : List UInt8} (hc : l.getD 0 0 ≠ c ∨ l = []) : Lib.trimPrefix l [c] = l := by
  unfold Lib.trimPrefix
  rw [if_neg]
  rw [hasPrefix_one]
  cases l with
  | nil => simp
  | cons a b =>
    rcases hc with hc | hc
    · simp only [List.getD_cons_zero] at hc; simp [hc]
    · cases hc
def refUnfA (l : List ByteArray) : A := .tup [(true, [.lit (.string (bytes (unfoldL (l.map ls)).1.1)), .lit (.string (bytes (unfoldL (l.map ls)).1.2))]), (false, [.lit (.int .i64 (unfoldL (l.map ls)).2)])]
theorem refUnfA_eq {l : List ByteArray} {k v : List UInt8} {n : Int} (h : unfoldL (l.map ls) = ((k, v), n)) : refUnfA l = .tup [(true, [.lit (.string (bytes k)), .lit (.string (bytes v))]), (false, [.lit (.int .i64 n)])] := by
  unfold refUnfA; rw [h]
theorem unf_form2 {s : ByteArray} {r : List ByteArray} (h : kindL (ls s) ≠ 4 ∨ ∃ x ∈ r, kindL (ls x) ≠ 3) : unfoldL ((s :: r).map ls) = (([], []), 2) := by
  rw [List.map_cons, unfoldL, if_pos]
  rcases h with h | ⟨x, hx, h⟩
  · exact .inl h
  · exact .inr (List.any_eq_true.2 ⟨ls x, List.mem_map.2 ⟨x, hx, rfl⟩, by rw [decide_eq_false h]; rfl⟩)
theorem take_map_ls (r : List ByteArray) (i : Nat) (h : i < r.length) : (r.take (i + 1)).map ls = (r.take i).map ls ++ [ls (r.getD i ByteArray.empty)] := by
  rw [← take_snoc ByteArray.empty h, List.map_append]; rfl
theorem ext1 (s : ByteArray) : s.extract (Int.toNat 1) (s.size : Int).toNat = bytes (s.data.toList.drop 1) := by
  rw [Int.toNat_natCast, show Int.toNat 1 = 1 from rfl]
  exact ls_inj (drop_size s 1)
theorem ext1' (s : ByteArray) : s.extract (Int.toNat 1) s.size = bytes (s.data.toList.drop 1) := ext1 s
end Q
end Ab
end Go.Proofs.YtklhlkhlndhepaaDoor
namespace Go.Proofs.YtklhlkhlndhepaaDoor
open Go.RowKit
namespace Ab
set_option maxRecDepth 100000
abbrev Itm := Int × ByteArray × List Fld
abbrev rItm : Rd Itm := .st (.int .i64) (.st .str (.sl rFld))
abbrev Lne := Int × Int × ByteArray × Bool
abbrev rLne : Rd Lne := .st (.int .i64) (.st (.int .i64) (.st .str .bool))
namespace Q
/-- What a parser holds: the lines of the field that is under way, the line at which it begins, whether it is one too many; the items; the block's lines and its fields; how many stanzas there were. -/
structure PSt where
  lns : List ByteArray
  frm : Int
  full : Bool
  its : List Itm
  blk : List ByteArray
  flds : List Fld
  recs : Int
def flushS (p : PSt) : (Int × Int) ⊕ PSt :=
  if p.lns = [] then .inr p
  else if (unfoldL (p.lns.map ls)).2 ≠ 0 then .inl (p.frm, (unfoldL (p.lns.map ls)).2)
  else if p.full = true then .inl (p.frm, 11)
  else .inr { p with flds := p.flds ++ [(bytes (unfoldL (p.lns.map ls)).1.1, bytes (unfoldL (p.lns.map ls)).1.2)], lns := [] }
def rawB (blk : List ByteArray) : ByteArray := bytes (Lib.join (blk.map (·.data.toList)) [10]) ++ ⟨#[10]⟩
def closeS (q : PSt) : PSt :=
  if q.blk = [] then { q with blk := [], flds := [] }
  else { q with its := q.its ++ [((if q.flds = [] then 2 else 3 : Int), rawB q.blk, q.flds)], recs := if q.flds = [] then q.recs else q.recs + 1, blk := [], flds := [] }
def endS (p : PSt) : (Int × Int) ⊕ PSt := match flushS p with
  | .inl e => .inl e
  | .inr q => .inr (closeS q)
def beginS (p : PSt) (l : Lne) : PSt := { p with lns := [l.2.2.1], frm := l.1, full := decide ((p.flds.length : Int) = 40) || (decide ((p.flds.length : Int) = 0) && decide (p.recs = 400)) }
def aheadS (p : PSt) (l : Lne) (kind : Int) : (Int × Int) ⊕ PSt :=
  if kind = 3 then
    if p.lns = [] then .inl (l.1, 2)
    else if l.2.2.2 = true then .inr { p with lns := p.lns ++ [l.2.2.1] }
    else flushS { p with lns := p.lns ++ [l.2.2.1] }
  else if kind = 1 then endS p
  else flushS p
def lineS (q : PSt) (l : Lne) (kind : Int) : (Int × Int) ⊕ PSt :=
  if kind = 5 ∨ l.2.2.2 = false then .inl (l.1, 2)
  else if kind = 1 then .inr { q with its := q.its ++ [(1, l.2.2.1 ++ ⟨#[10]⟩, [])] }
  else if kind = 4 then .inr { beginS q l with blk := q.blk ++ [l.2.2.1] }
  else .inr { q with blk := q.blk ++ [l.2.2.1] }
def takeS (p : PSt) (l : Lne) : (Int × Int) ⊕ PSt := match aheadS p l (kindL (ls l.2.2.1)) with
  | .inl e => .inl e
  | .inr q => lineS q l (kindL (ls l.2.2.1))
/-- How much a parser holds, at most. -/
structure PB (p : PSt) (B : Nat) : Prop where
  lns : p.lns.length ≤ B
  lnb : (p.lns.map (·.size)).sum ≤ B
  its : p.its.length ≤ B
  blk : p.blk.length ≤ B
  blb : (p.blk.map (·.size)).sum ≤ B
  flds : p.flds.length ≤ B
  rec0 : 0 ≤ p.recs
  recB : p.recs ≤ B
theorem PB.mono {p : PSt} {B B' : Nat} (h : PB p B) (hB : B ≤ B') : PB p B' :=
  ⟨by have := h.lns; omega, by have := h.lnb; omega, by have := h.its; omega, by have := h.blk; omega, by have := h.blb; omega, by have := h.flds; omega, h.rec0, by have := h.recB; omega⟩
theorem flushS_B {p q : PSt} {B : Nat} (h : PB p B) (hf : flushS p = .inr q) : PB q (B + 1) := by
  unfold flushS at hf
  split at hf
  · cases hf; exact h.mono (by omega)
  · split at hf
    · cases hf
    · split at hf
      · cases hf
      · cases hf
        have := h.flds
        exact ⟨by simp, by simp, by have := h.its; simp only; omega, by have := h.blk; simp only; omega, by have := h.blb; simp only; omega, by simp; omega, h.rec0, by have := h.recB; simp only; omega⟩
theorem closeS_B {p : PSt} {B : Nat} (h : PB p B) : PB (closeS p) (B + 1) := by
  have h1 := h.lns
  have h2 := h.lnb
  have h3 := h.its
  have h4 := h.rec0
  have h5 := h.recB
  unfold closeS
  split
  · exact ⟨by simp only; omega, by simp only; omega, by simp only; omega, by simp, by simp, by simp, h4, by simp only; omega⟩
  · refine ⟨by simp only; omega, by simp only; omega, by simp; omega, by simp, by simp, by simp, ?_, ?_⟩
    · simp only; split <;> omega
    · simp only; split <;> omega
theorem endS_B {p q : PSt} {B : Nat} (h : PB p B) (hf : endS p = .inr q) : PB q (B + 2) := by
  unfold endS at hf
  split at hf
  · cases hf
  · rename_i r e
    cases hf
    exact closeS_B (flushS_B h e)
theorem more_B {p : PSt} {B : Nat} (s : ByteArray) (h : PB p B) : PB { p with lns := p.lns ++ [s] } (B + 1 + s.size) := by
  have h1 := h.lns
  have h2 := h.lnb
  have h3 := h.its
  have h5 := h.recB
  have h6 := h.blk
  have h7 := h.blb
  have h8 := h.flds
  exact ⟨by simp; omega, by simp; omega, by simp only; omega, by simp only; omega, by simp only; omega, by simp only; omega, h.rec0, by simp only; omega⟩
theorem aheadS_B {p q : PSt} {B : Nat} {l : Lne} {k : Int} (h : PB p B) (hf : aheadS p l k = .inr q) : PB q (B + 2 + l.2.2.1.size) := by
  unfold aheadS at hf
  split at hf
  · split at hf
    · cases hf
    · split at hf
      · cases hf; exact (more_B _ h).mono (by omega)
      · exact (flushS_B (more_B _ h) hf).mono (by omega)
  · split at hf
    · exact (endS_B h hf).mono (by omega)
    · exact (flushS_B h hf).mono (by omega)
theorem lineS_B {p q : PSt} {B : Nat} {l : Lne} {k : Int} (h : PB p B) (hs : l.2.2.1.size ≤ B) (_hB : 1 ≤ B) (hf : lineS p l k = .inr q) : PB q (B + 1 + l.2.2.1.size) := by
  have h1 := h.lns
  have h2 := h.lnb
  have h3 := h.its
  have h5 := h.recB
  have h6 := h.blk
  have h7 := h.blb
  have h8 := h.flds
  unfold lineS at hf
  split at hf
  · cases hf
  · split at hf
    · cases hf
      exact ⟨by simp only; omega, by simp only; omega, by simp; omega, by simp only; omega, by simp only; omega, by simp only; omega, h.rec0, by simp only; omega⟩
    · split at hf
      · cases hf
        exact ⟨by simp [beginS]; omega, by simp [beginS], by simp only [beginS]; omega, by simp; omega, by simp; omega, by simp only [beginS]; omega, h.rec0, by simp only [beginS]; omega⟩
      · cases hf
        exact ⟨by simp only; omega, by simp only; omega, by simp only; omega, by simp; omega, by simp; omega, by simp only; omega, h.rec0, by simp only; omega⟩
theorem takeS_B {p q : PSt} {B : Nat} {l : Lne} (h : PB p B) (hf : takeS p l = .inr q) : PB q (B + 3 + 2 * l.2.2.1.size) := by
  unfold takeS at hf
  split at hf
  · cases hf
  · rename_i r e
    exact (lineS_B (aheadS_B h e) (by omega) (by omega) hf).mono (by omega)
def pst0 : PSt := ⟨[], 0, false, [], [], [], 0⟩
end Q
end Ab
end Go.Proofs.YtklhlkhlndhepaaDoor
namespace Go.Proofs.YtklhlkhlndhepaaDoor
open Go.RowKit
namespace Ab
set_option maxRecDepth 100000
namespace Q
theorem fault_c (at_ n : Int) : ACall Tryd.prog 69 [ii .i64 at_, .one (errN n)] (.one (errF at_ n)) := by
  refine acall_of (rs := [4]) Tryd.func69 rfl rfl rfl teOk rfl ?_
  refine acode_seq ?_
  refine acode_region ?_
  refine acode_seq ?_
  refine acode_region ?_
  refine acode_ret ?_
  rfl
def psO (p : PSt) : Obs := [(0, .box 91 [.vec 1, .lit (.int .i64 p.frm), .lit (.bool p.full), .vec 2, .vec 3, .vec 4, .lit (.int .i64 p.recs)]), (1, .vec 9 .str p.lns), (2, .vec 26 rItm p.its), (3, .vec 9 .str p.blk), (4, .vec 69 rFld p.flds)]
theorem flush_nil (p : PSt) (h : p.lns = []) : ACallO Tryd.prog 71 [.one (.own 0 0)] (psO p) 5 (.one (.lit .nilIface)) (psO p) 5 := by
  refine acallo_of (rs := [2]) Tryd.func71 rfl rfl rfl teOk (by decide) rfl ?_
  refine acode_seq ?_
  refine acode_region ?_
  refine acode_seq ?_
  refine acode_seq ?_
  refine acode_region ?_
  intro l1_5
  try simp only [Int.toNat_natCast, dflt_sl, dflt_st, dflt_str, dflt_int, dflt_bool] at l1_5
  refine acode_cond rfl (fun h11 => ?_) (fun h11 => ?_)
  · try simp only [decide_eq_true_eq] at h11
    try simp only [Int.toNat_natCast, dflt_sl, dflt_st, dflt_str, dflt_int, dflt_bool] at h11
    refine acode_seq ?_
    refine acode_region ?_
    refine acode_ret ?_
    exact ⟨rfl, ⟨rfl, rfl, rfl, rfl, rfl⟩, rfl⟩
  · try simp only [decide_eq_false_iff_not] at h11
    try simp only [Int.toNat_natCast, dflt_sl, dflt_st, dflt_str, dflt_int, dflt_bool] at h11
    exact absurd (by rw [h]; rfl) h11
theorem flush_good (p : PSt) {k v : List UInt8} (h0 : p.lns ≠ []) (hu : unfoldL (p.lns.map ls) = ((k, v), 0)) (hf : p.full = false) (hb : PB p 1000000) : ACallO Tryd.prog 71 [.one (.own 0 0)] (psO p) 5 (.one (.lit .nilIface)) (psO { p with flds := p.flds ++ [(bytes k, bytes v)], lns := [] }) 5 := by
  have hfl := hb.flds
  refine acallo_of (rs := [2]) Tryd.func71 rfl rfl rfl teOk (by decide) rfl ?_
  refine acode_seq ?_
  refine acode_region ?_
  refine acode_seq ?_
  refine acode_seq ?_
  refine acode_region ?_
  intro l1_5
  try simp only [Int.toNat_natCast, dflt_sl, dflt_st, dflt_str, dflt_int, dflt_bool] at l1_5
  refine acode_cond rfl (fun h11 => ?_) (fun h11 => ?_)
  · try simp only [decide_eq_true_eq] at h11
    try simp only [Int.toNat_natCast, dflt_sl, dflt_st, dflt_str, dflt_int, dflt_bool] at h11
    exact absurd (List.eq_nil_of_length_eq_zero (by omega)) h0
  · try simp only [decide_eq_false_iff_not] at h11
    try simp only [Int.toNat_natCast, dflt_sl, dflt_st, dflt_str, dflt_int, dflt_bool] at h11
    refine acode_skip ?_
    refine acode_seq ?_
    refine acode_renew 1 rfl ?_
    refine acode_region ?_
    refine Or.inl ?_
    refine And.intro (rfl) ?_
    refine Exists.intro _ (And.intro (unfold_ok p.lns ⟨hb.lns, Nat.le_trans hb.lnb (by decide)⟩ hu) ?_)
    refine acode_seq ?_
    refine acode_block ?_
    refine acode_seq ?_
    refine acode_region ?_
    refine acode_cond rfl (fun h21 => ?_) (fun h21 => ?_)
    · try simp only [Bool.not_eq_true'] at h21
      try simp only [Int.toNat_natCast, dflt_sl, dflt_st, dflt_str, dflt_int, dflt_bool] at h21
      cases h21
    · try simp only [Bool.not_eq_false'] at h21
      try simp only [Int.toNat_natCast, dflt_sl, dflt_st, dflt_str, dflt_int, dflt_bool] at h21
      refine acode_seq ?_
      refine acode_region ?_
      refine acode_cond rfl (fun h31 => ?_) (fun h31 => ?_)
      · try simp only [decide_eq_true_eq, decide_eq_false_iff_not, Bool.and_eq_true, Bool.not_eq_true', Bool.not_eq_false', Bool.or_eq_false_iff, Bool.or_eq_true, Bool.and_eq_false_iff, Int.not_lt, Int.not_le] at h31
        try simp only [Int.toNat_natCast, dflt_sl, dflt_st, dflt_str, dflt_int, dflt_bool] at h31
        exact absurd h31 (by rw [hf]; decide)
      · try simp only [decide_eq_true_eq, decide_eq_false_iff_not, Bool.and_eq_true, Bool.not_eq_true', Bool.not_eq_false', Bool.or_eq_false_iff, Bool.or_eq_true, Bool.and_eq_false_iff, Int.not_lt, Int.not_le] at h31
        try simp only [Int.toNat_natCast, dflt_sl, dflt_st, dflt_str, dflt_int, dflt_bool] at h31
        refine acode_skip ?_
        refine acode_seq ?_
        refine acode_ord rfl ?_
        refine aord_light 0 rfl rfl rfl (by kernel_rfl) ?_
        refine aord_light 1 rfl rfl rfl (by kernel_rfl) ?_
        refine aord_light 2 rfl rfl rfl (by kernel_rfl) ?_
        refine aord_light 3 rfl rfl rfl (by kernel_rfl) ?_
        refine aord_light 4 rfl rfl rfl (by kernel_rfl) ?_
        refine aord_all [5, 6] (by kernel_rfl) rfl ?_
        refine And.intro ?_ ?_
        · refine aord_all [6] (by kernel_rfl) rfl ?_
          refine aord_all [7] (by kernel_rfl) rfl ?_
          refine aord_all [8] (by kernel_rfl) rfl ?_
          refine And.intro (by first | exact app_le (by first | omega | (simp only [List.length_cons, List.length_nil]; omega) | (simp; omega)) (by decide) | omega | assumption | decide | (simp only [Int.toNat_natCast, dflt_sl, dflt_st, dflt_str, dflt_int, dflt_bool]; omega) | (simp <;> omega)) ?_
          refine aord_light 9 rfl rfl rfl (by kernel_rfl) ?_
          refine aord_light 10 rfl rfl rfl (by kernel_rfl) ?_
          refine aord_all [11] (by kernel_rfl) rfl ?_
          refine aord_light 12 rfl rfl rfl (by kernel_rfl) ?_
          refine aord_light 13 rfl rfl rfl (by kernel_rfl) ?_
          refine aord_light 14 rfl rfl rfl (by kernel_rfl) ?_
          refine aord_all [15] (by kernel_rfl) rfl ?_
          refine aord_done (by kernel_rfl) ?_
          refine acode_seq ?_
          refine acode_nilcell 0 0 9 .str rfl rfl rfl ?_
          refine acode_swap 1 7 rfl rfl ?_
          refine acode_region ?_
          refine acode_ret ?_
          exact ⟨rfl, ⟨rfl, rfl, rfl, rfl, rfl⟩, rfl⟩
        · refine aord_all [5, 7] (by kernel_rfl) rfl ?_
          refine And.intro ?_ ?_
          · refine aord_all [7] (by kernel_rfl) rfl ?_
            refine aord_all [8] (by kernel_rfl) rfl ?_
            refine And.intro (by first | exact app_le (by first | omega | (simp only [List.length_cons, List.length_nil]; omega) | (simp; omega)) (by decide) | omega | assumption | decide | (simp only [Int.toNat_natCast, dflt_sl, dflt_st, dflt_str, dflt_int, dflt_bool]; omega) | (simp <;> omega)) ?_
            refine aord_light 9 rfl rfl rfl (by kernel_rfl) ?_
            refine aord_light 10 rfl rfl rfl (by kernel_rfl) ?_
            refine aord_all [11] (by kernel_rfl) rfl ?_
            refine aord_light 12 rfl rfl rfl (by kernel_rfl) ?_
            refine aord_light 13 rfl rfl rfl (by kernel_rfl) ?_
            refine aord_light 14 rfl rfl rfl (by kernel_rfl) ?_
            refine aord_all [15] (by kernel_rfl) rfl ?_
            refine aord_done (by kernel_rfl) ?_
            refine acode_seq ?_
            refine acode_nilcell 0 0 9 .str rfl rfl rfl ?_
            refine acode_swap 1 7 rfl rfl ?_
            refine acode_region ?_
            refine acode_ret ?_
            exact ⟨rfl, ⟨rfl, rfl, rfl, rfl, rfl⟩, rfl⟩
          · refine aord_all [5] (by kernel_rfl) rfl ?_
            refine aord_all [8] (by kernel_rfl) rfl ?_
            refine And.intro (by first | exact app_le (by first | omega | (simp only [List.length_cons, List.length_nil]; omega) | (simp; omega)) (by decide) | omega | assumption | decide | (simp only [Int.toNat_natCast, dflt_sl, dflt_st, dflt_str, dflt_int, dflt_bool]; omega) | (simp <;> omega)) ?_
            refine aord_light 9 rfl rfl rfl (by kernel_rfl) ?_
            refine aord_light 10 rfl rfl rfl (by kernel_rfl) ?_
            refine aord_all [11] (by kernel_rfl) rfl ?_
            refine aord_light 12 rfl rfl rfl (by kernel_rfl) ?_
            refine aord_light 13 rfl rfl rfl (by kernel_rfl) ?_
            refine aord_light 14 rfl rfl rfl (by kernel_rfl) ?_
            refine aord_all [15] (by kernel_rfl) rfl ?_
            refine aord_done (by kernel_rfl) ?_
            refine acode_seq ?_
            refine acode_nilcell 0 0 9 .str rfl rfl rfl ?_
            refine acode_swap 1 7 rfl rfl ?_
            refine acode_region ?_
            refine acode_ret ?_
            exact ⟨rfl, ⟨rfl, rfl, rfl, rfl, rfl⟩, rfl⟩
theorem flush_bad (p : PSt) {n : Int} (h0 : p.lns ≠ []) (hu : unfoldL (p.lns.map ls) = (([], []), n)) (hn : n = 2 ∨ n = 6) (hb : PB p 1000000) : ACallO Tryd.prog 71 [.one (.own 0 0)] (psO p) 5 (.one (errF p.frm n)) [] 5 := by
  refine acallo_of (rs := [2]) Tryd.func71 rfl rfl rfl teOk (by decide) rfl ?_
  refine acode_seq ?_
  refine acode_region ?_
  refine acode_seq ?_
  refine acode_seq ?_
  refine acode_region ?_
  intro l1_5
  try simp only [Int.toNat_natCast, dflt_sl, dflt_st, dflt_str, dflt_int, dflt_bool] at l1_5
  refine acode_cond rfl (fun h11 => ?_) (fun h11 => ?_)
  · try simp only [decide_eq_true_eq] at h11
    try simp only [Int.toNat_natCast, dflt_sl, dflt_st, dflt_str, dflt_int, dflt_bool] at h11
    exact absurd (List.eq_nil_of_length_eq_zero (by omega)) h0
  · try simp only [decide_eq_false_iff_not] at h11
    try simp only [Int.toNat_natCast, dflt_sl, dflt_st, dflt_str, dflt_int, dflt_bool] at h11
    refine acode_skip ?_
    refine acode_seq ?_
    refine acode_renew 1 rfl ?_
    refine acode_region ?_
    refine Or.inl ?_
    refine And.intro (rfl) ?_
    refine Exists.intro _ (And.intro (unfold_bad p.lns ⟨hb.lns, Nat.le_trans hb.lnb (by decide)⟩ hu hn) ?_)
    refine acode_seq ?_
    refine acode_block ?_
    refine acode_seq ?_
    refine acode_region ?_
    refine acode_cond rfl (fun h21 => ?_) (fun h21 => ?_)
    · skip
      refine acode_seq ?_
      refine acode_region ?_
      refine Or.inl ?_
      refine And.intro (rfl) ?_
      refine Exists.intro _ (And.intro (fault_c p.frm n) ?_)
      refine acode_ret ?_
      exact ⟨rfl, trivial, rfl⟩
    · try simp only [decide_eq_true_eq, decide_eq_false_iff_not, Bool.and_eq_true, Bool.not_eq_true', Bool.not_eq_false', Bool.or_eq_false_iff, Bool.or_eq_true, Bool.and_eq_false_iff, Int.not_lt, Int.not_le] at h21
      try simp only [Int.toNat_natCast, dflt_sl, dflt_st, dflt_str, dflt_int, dflt_bool] at h21
      cases h21
theorem flush_full (p : PSt) {k v : List UInt8} (h0 : p.lns ≠ []) (hu : unfoldL (p.lns.map ls) = ((k, v), 0)) (hf : p.full = true) (hb : PB p 1000000) : ACallO Tryd.prog 71 [.one (.own 0 0)] (psO p) 5 (.one (errF p.frm 11)) [] 5 := by
  refine acallo_of (rs := [2]) Tryd.func71 rfl rfl rfl teOk (by decide) rfl ?_
  refine acode_seq ?_
  refine acode_region ?_
  refine acode_seq ?_
  refine acode_seq ?_
  refine acode_region ?_
  intro l1_5
  try simp only [Int.toNat_natCast, dflt_sl, dflt_st, dflt_str, dflt_int, dflt_bool] at l1_5
  refine acode_cond rfl (fun h11 => ?_) (fun h11 => ?_)
  · try simp only [decide_eq_true_eq] at h11
    try simp only [Int.toNat_natCast, dflt_sl, dflt_st, dflt_str, dflt_int, dflt_bool] at h11
    exact absurd (List.eq_nil_of_length_eq_zero (by omega)) h0
  · try simp only [decide_eq_false_iff_not] at h11
    try simp only [Int.toNat_natCast, dflt_sl, dflt_st, dflt_str, dflt_int, dflt_bool] at h11
    refine acode_skip ?_
    refine acode_seq ?_
    refine acode_renew 1 rfl ?_
    refine acode_region ?_
    refine Or.inl ?_
    refine And.intro (rfl) ?_
    refine Exists.intro _ (And.intro (unfold_ok p.lns ⟨hb.lns, Nat.le_trans hb.lnb (by decide)⟩ hu) ?_)
    refine acode_seq ?_
    refine acode_block ?_
    refine acode_seq ?_
    refine acode_region ?_
    refine acode_cond rfl (fun h21 => ?_) (fun h21 => ?_)
    · try simp only [Bool.not_eq_true'] at h21
      try simp only [Int.toNat_natCast, dflt_sl, dflt_st, dflt_str, dflt_int, dflt_bool] at h21
      cases h21
    · try simp only [Bool.not_eq_false'] at h21
      try simp only [Int.toNat_natCast, dflt_sl, dflt_st, dflt_str, dflt_int, dflt_bool] at h21
      refine acode_seq ?_
      refine acode_region ?_
      refine acode_cond rfl (fun h31 => ?_) (fun h31 => ?_)
      · try simp only [decide_eq_true_eq, decide_eq_false_iff_not, Bool.and_eq_true, Bool.not_eq_true', Bool.not_eq_false', Bool.or_eq_false_iff, Bool.or_eq_true, Bool.and_eq_false_iff, Int.not_lt, Int.not_le] at h31
        try simp only [Int.toNat_natCast, dflt_sl, dflt_st, dflt_str, dflt_int, dflt_bool] at h31
        refine acode_seq ?_
        refine acode_region ?_
        refine Or.inl ?_
        refine And.intro (rfl) ?_
        refine Exists.intro _ (And.intro (fault_c p.frm 11) ?_)
        refine acode_ret ?_
        exact ⟨rfl, trivial, rfl⟩
      · try simp only [decide_eq_true_eq, decide_eq_false_iff_not, Bool.and_eq_true, Bool.not_eq_true', Bool.not_eq_false', Bool.or_eq_false_iff, Bool.or_eq_true, Bool.and_eq_false_iff, Int.not_lt, Int.not_le] at h31
        try simp only [Int.toNat_natCast, dflt_sl, dflt_st, dflt_str, dflt_int, dflt_bool] at h31
        exact absurd h31 (by rw [hf]; decide)
theorem flush_ok {p q : PSt} (h : flushS p = .inr q) (hb : PB p 1000000) : ACallO Tryd.prog 71 [.one (.own 0 0)] (psO p) 5 (.one (.lit .nilIface)) (psO q) 5 := by
  unfold flushS at h
  split at h
  · rename_i h0; cases h; exact flush_nil p h0
  · rename_i h0
    rcases unf_cases (p.lns.map ls) with ⟨n, hn, hu⟩ | ⟨k, v, hu, _, _⟩
    · rw [hu, if_pos (by rcases hn with rfl | rfl <;> decide)] at h; cases h
    · rw [hu, if_neg (by simp)] at h
      split at h
      · cases h
      · rename_i hf; cases h; exact flush_good p h0 hu (by simpa using hf) hb
theorem flush_err {p : PSt} {at_ n : Int} (h : flushS p = .inl (at_, n)) (hb : PB p 1000000) : ACallO Tryd.prog 71 [.one (.own 0 0)] (psO p) 5 (.one (errF at_ n)) [] 5 := by
  unfold flushS at h
  split at h
  · cases h
  · rename_i h0
    rcases unf_cases (p.lns.map ls) with ⟨m, hn, hu⟩ | ⟨k, v, hu, _, _⟩
    · rw [hu, if_pos (by rcases hn with rfl | rfl <;> decide)] at h; cases h; exact flush_bad p h0 hu hn hb
    · rw [hu, if_neg (by simp)] at h
      split at h
      · rename_i hf; cases h; exact flush_full p h0 hu hf hb
      · cases h
end Q
end Ab
end Go.Proofs.YtklhlkhlndhepaaDoor
namespace Go.Proofs.YtklhlkhlndhepaaDoor
open Go.RowKit
namespace Ab
set_option maxRecDepth 100000
set_option maxHeartbeats 4000000
namespace Q
theorem join_sz (l : List ByteArray) : (Lib.join (l.map (·.data.toList)) [10]).length ≤ (l.map (·.size)).sum + l.length := by
  refine Nat.le_trans (joinL_len 10 _) ?_
  rw [List.map_map, List.length_map]
  refine Nat.add_le_add_right (Nat.le_of_eq ?_) _
  exact congrArg _ (List.map_congr_left fun s _ => (size_list s).symm)
theorem raw_sz {l : List ByteArray} (h1 : l.length ≤ 2000000) (h2 : (l.map (·.size)).sum ≤ 2000000) : ByteArray.size { data := (Lib.join (l.map (fun x => x.data.toList)) [10]).toArray } ≤ 4000000 := by
  have := join_sz l
  show Array.size _ ≤ _
  rw [List.size_toArray]
  omega
theorem closeS_nil {q : PSt} (h : q.blk = []) : closeS q = { q with blk := [], flds := [] } := by
  exact if_pos h
theorem end_nil {p q : PSt} (h : flushS p = .inr q) (hq : q.blk = []) (hb : PB p 1000000) : ACallO Tryd.prog 51 [.one (.own 0 0)] (psO p) 5 (.one (.lit .nilIface)) (psO { q with blk := [], flds := [] }) 5 := by
  refine acallo_of (rs := [2]) Tryd.func51 rfl rfl rfl teOk (by decide) rfl ?_
  refine acode_seq ?_
  refine acode_region ?_
  refine acode_seq ?_
  refine acode_seq ?_
  refine acode_region ?_
  refine Or.inr (Or.inl (Exists.intro [] (Exists.intro [0, 1, 2, 3, 4] (Exists.intro _ (Exists.intro _ (Exists.intro _ (Exists.intro _ (Exists.intro _ (And.intro (flush_ok h hb) (And.intro rfl (And.intro (And.intro (And.intro rfl rfl) (And.intro (And.intro rfl rfl) (And.intro (And.intro rfl rfl) (And.intro (And.intro rfl rfl) (And.intro (And.intro rfl rfl) True.intro))))) (And.intro rfl ?_))))))))))))
  refine acode_seq ?_
  refine acode_region ?_
  refine acode_cond rfl (fun h8 => ?_) (fun h8 => ?_)
  · try simp only [Bool.not_eq_true'] at h8
    try simp only [Int.toNat_natCast, dflt_sl, dflt_st, dflt_str, dflt_int, dflt_bool] at h8
    cases h8
  · try simp only [Bool.not_eq_false'] at h8
    try simp only [Int.toNat_natCast, dflt_sl, dflt_st, dflt_str, dflt_int, dflt_bool] at h8
    refine acode_skip ?_
    refine acode_seq ?_
    refine acode_seq ?_
    refine acode_renew 3 rfl ?_
    refine acode_renew 4 rfl ?_
    refine acode_region ?_
    intro l4_4
    try simp only [Int.toNat_natCast, dflt_sl, dflt_st, dflt_str, dflt_int, dflt_bool] at l4_4
    refine acode_cond rfl (fun h15 => ?_) (fun h15 => ?_)
    · try simp only [decide_eq_true_eq] at h15
      try simp only [Int.toNat_natCast, dflt_sl, dflt_st, dflt_str, dflt_int, dflt_bool] at h15
      exact absurd (by rw [hq]; rfl : (q.blk.length : Int) = 0) (by omega)
    · try simp only [decide_eq_false_iff_not, Int.not_lt] at h15
      try simp only [Int.toNat_natCast, dflt_sl, dflt_st, dflt_str, dflt_int, dflt_bool] at h15
      refine acode_skip ?_
      refine acode_seq ?_
      refine acode_region ?_
      refine acode_seq ?_
      refine acode_nilcell 0 4 9 .str rfl rfl rfl ?_
      refine acode_swap 3 5 rfl rfl ?_
      refine acode_nilcell 0 5 69 rFld rfl rfl rfl ?_
      refine acode_swap 4 6 rfl rfl ?_
      refine acode_region ?_
      refine acode_ret ?_
      exact ⟨rfl, ⟨rfl, rfl, rfl, rfl, rfl⟩, rfl⟩
theorem end_blk {p q : PSt} (h : flushS p = .inr q) (hq : q.blk ≠ []) (hb : PB p 1000000) (hb2 : PB q 2000000) : ACallO Tryd.prog 51 [.one (.own 0 0)] (psO p) 5 (.one (.lit .nilIface)) (psO { q with its := q.its ++ [((if q.flds = [] then 2 else 3 : Int), rawB q.blk, q.flds)], recs := (if q.flds = [] then q.recs else q.recs + 1), blk := [], flds := [] }) 5 := by
  have hi := hb2.its
  have hjs := raw_sz hb2.blk hb2.blb
  have hr0 := hb2.rec0
  have hrB := hb2.recB
  refine acallo_of (rs := [2]) Tryd.func51 rfl rfl rfl teOk (by decide) rfl ?_
  refine acode_seq ?_
  refine acode_region ?_
  refine acode_seq ?_
  refine acode_seq ?_
  refine acode_region ?_
  refine Or.inr (Or.inl (Exists.intro [] (Exists.intro [0, 1, 2, 3, 4] (Exists.intro _ (Exists.intro _ (Exists.intro _ (Exists.intro _ (Exists.intro _ (And.intro (flush_ok h hb) (And.intro rfl (And.intro (And.intro (And.intro rfl rfl) (And.intro (And.intro rfl rfl) (And.intro (And.intro rfl rfl) (And.intro (And.intro rfl rfl) (And.intro (And.intro rfl rfl) True.intro))))) (And.intro rfl ?_))))))))))))
  refine acode_seq ?_
  refine acode_region ?_
  refine acode_cond rfl (fun h8 => ?_) (fun h8 => ?_)
  · try simp only [Bool.not_eq_true'] at h8
    try simp only [Int.toNat_natCast, dflt_sl, dflt_st, dflt_str, dflt_int, dflt_bool] at h8
    cases h8
  · try simp only [Bool.not_eq_false'] at h8
    try simp only [Int.toNat_natCast, dflt_sl, dflt_st, dflt_str, dflt_int, dflt_bool] at h8
    refine acode_skip ?_
    refine acode_cut (fun (u : Unit) => True) (fun (u : Unit) => [(0, .one (.own 0 0))]) (fun (u : Unit) => [(0, .box 91 [.vec 1, .lit (.int .i64 q.frm), .lit (.bool q.full), .vec 2, .sl .str q.blk, .sl rFld q.flds, .lit (.int .i64 (if q.flds = [] then q.recs else q.recs + 1))]), (1, .vec 9 .str q.lns), (2, .vec 26 rItm (q.its ++ [((if q.flds = [] then 2 else 3 : Int), rawB q.blk, q.flds)])), (3, .vec 9 .str []), (4, .vec 69 rFld [])]) 5 ?_ ?_
    · refine acode_seq ?_
      refine acode_renew 3 rfl ?_
      refine acode_renew 4 rfl ?_
      refine acode_region ?_
      intro l4_4
      try simp only [Int.toNat_natCast, dflt_sl, dflt_st, dflt_str, dflt_int, dflt_bool] at l4_4
      refine acode_cond rfl (fun h15 => ?_) (fun h15 => ?_)
      · try simp only [decide_eq_true_eq] at h15
        try simp only [Int.toNat_natCast, dflt_sl, dflt_st, dflt_str, dflt_int, dflt_bool] at h15
        refine acode_seq ?_
        refine acode_region ?_
        refine acode_cut (fun (u : Int × Int) => u = ((if q.flds = [] then 2 else 3 : Int), (if q.flds = [] then q.recs else q.recs + 1))) (fun (u : Int × Int) => [(0, .one (.own 0 0)), (4, ii .i64 u.1)]) (fun (u : Int × Int) => [(0, .box 91 [.vec 1, .lit (.int .i64 q.frm), .lit (.bool q.full), .vec 2, .sl .str q.blk, .sl rFld q.flds, .lit (.int .i64 u.2)]), (1, .vec 9 .str q.lns), (2, .vec 26 rItm q.its), (3, .vec 9 .str []), (4, .vec 69 rFld [])]) 5 ?_ ?_
        · refine acode_seq ?_
          refine acode_region ?_
          intro l6_4
          try simp only [Int.toNat_natCast, dflt_sl, dflt_st, dflt_str, dflt_int, dflt_bool] at l6_4
          refine acode_cond rfl (fun h21 => ?_) (fun h21 => ?_)
          · try simp only [decide_eq_true_eq] at h21
            try simp only [Int.toNat_natCast, dflt_sl, dflt_st, dflt_str, dflt_int, dflt_bool] at h21
            refine acode_seq ?_
            refine acode_region ?_
            refine acode_region ?_
            refine And.intro (by first | omega | assumption | decide | (simp only [Int.toNat_natCast, dflt_sl, dflt_st, dflt_str, dflt_int, dflt_bool]; omega) | (simp <;> omega)) ?_
            exact ⟨(3, q.recs + 1), by have hf : q.flds ≠ [] := (fun e => by rw [e] at h21; simp at h21); simp only [if_neg hf], le_of ⟨rfl, rfl⟩ ⟨rfl, rfl, rfl, rfl, rfl⟩ rfl⟩
          · try simp only [decide_eq_false_iff_not, Int.not_lt] at h21
            try simp only [Int.toNat_natCast, dflt_sl, dflt_st, dflt_str, dflt_int, dflt_bool] at h21
            refine acode_skip ?_
            exact ⟨(2, q.recs), by have hf : q.flds = [] := List.eq_nil_of_length_eq_zero (by omega); simp only [if_pos hf], le_of ⟨rfl, rfl⟩ ⟨rfl, rfl, rfl, rfl, rfl⟩ rfl⟩
        · intro u hcut9
          obtain ⟨k, rc⟩ := u
          obtain ⟨rfl, rfl⟩ := Prod.mk.inj hcut9
          refine acode_ord rfl ?_
          refine aord_light 0 rfl rfl rfl (by kernel_rfl) ?_
          refine aord_light 1 rfl rfl rfl (by kernel_rfl) ?_
          refine aord_light 2 rfl rfl rfl (by kernel_rfl) ?_
          refine aord_light 3 rfl rfl rfl (by kernel_rfl) ?_
          refine aord_light 5 rfl rfl rfl (by kernel_rfl) ?_
          refine aord_light 6 rfl rfl rfl (by kernel_rfl) ?_
          refine aord_light 7 rfl rfl rfl (by kernel_rfl) ?_
          refine aord_light 8 rfl rfl rfl (by kernel_rfl) ?_
          refine aord_light 12 rfl rfl rfl (by kernel_rfl) ?_
          refine aord_light 13 rfl rfl rfl (by kernel_rfl) ?_
          refine aord_light 14 rfl rfl rfl (by kernel_rfl) ?_
          refine aord_all [4, 9, 15] (by kernel_rfl) rfl ?_
          refine And.intro ?_ ?_
          · refine aord_all [9, 15] (by kernel_rfl) rfl ?_
            refine And.intro ?_ ?_
            · refine aord_all [10, 15] (by kernel_rfl) rfl ?_
              refine And.intro ?_ ?_
              · refine Or.inl ?_
                refine And.intro (rfl) ?_
                refine Exists.intro _ (And.intro (join_c q.blk ⟨#[10]⟩ (Nat.le_trans hb2.blk (by decide)) (Nat.le_trans (join_sz q.blk) (by have := hb2.blk; have := hb2.blb; omega))) ?_)
                refine aord_light 11 rfl rfl rfl (by kernel_rfl) ?_
                refine And.intro (by (have hk0 : ByteArray.size { data := #[10] } = 1 := rfl; first | (unfold maxLen; omega) | (simp only []; omega) | (unfold maxLen; (try simp only []); omega))) ?_
                refine aord_all [15] (by kernel_rfl) rfl ?_
                refine aord_all [16] (by kernel_rfl) rfl ?_
                refine aord_all [17] (by kernel_rfl) rfl ?_
                refine aord_all [18] (by kernel_rfl) rfl ?_
                refine And.intro (by first | exact app_le (by first | omega | (simp only [List.length_cons, List.length_nil]; omega) | (simp; omega)) (by decide) | omega | assumption | decide | (simp only [Int.toNat_natCast, dflt_sl, dflt_st, dflt_str, dflt_int, dflt_bool]; omega) | (simp <;> omega)) ?_
                refine aord_light 19 rfl rfl rfl (by kernel_rfl) ?_
                refine aord_light 20 rfl rfl rfl (by kernel_rfl) ?_
                refine aord_all [21] (by kernel_rfl) rfl ?_
                refine aord_done (by kernel_rfl) ?_
                exact ⟨(), trivial, le_of rfl ⟨rfl, rfl, rfl, rfl, rfl⟩ rfl⟩
              · refine aord_all [10] (by kernel_rfl) rfl ?_
                refine Or.inl ?_
                refine And.intro (rfl) ?_
                refine Exists.intro _ (And.intro (join_c q.blk ⟨#[10]⟩ (Nat.le_trans hb2.blk (by decide)) (Nat.le_trans (join_sz q.blk) (by have := hb2.blk; have := hb2.blb; omega))) ?_)
                refine aord_light 11 rfl rfl rfl (by kernel_rfl) ?_
                refine And.intro (by (have hk0 : ByteArray.size { data := #[10] } = 1 := rfl; first | (unfold maxLen; omega) | (simp only []; omega) | (unfold maxLen; (try simp only []); omega))) ?_
                refine aord_all [16] (by kernel_rfl) rfl ?_
                refine aord_all [17] (by kernel_rfl) rfl ?_
                refine aord_all [18] (by kernel_rfl) rfl ?_
                refine And.intro (by first | exact app_le (by first | omega | (simp only [List.length_cons, List.length_nil]; omega) | (simp; omega)) (by decide) | omega | assumption | decide | (simp only [Int.toNat_natCast, dflt_sl, dflt_st, dflt_str, dflt_int, dflt_bool]; omega) | (simp <;> omega)) ?_
                refine aord_light 19 rfl rfl rfl (by kernel_rfl) ?_
                refine aord_light 20 rfl rfl rfl (by kernel_rfl) ?_
                refine aord_all [21] (by kernel_rfl) rfl ?_
                refine aord_done (by kernel_rfl) ?_
                exact ⟨(), trivial, le_of rfl ⟨rfl, rfl, rfl, rfl, rfl⟩ rfl⟩
            · refine aord_all [9] (by kernel_rfl) rfl ?_
              refine aord_all [10] (by kernel_rfl) rfl ?_
              refine Or.inl ?_
              refine And.intro (rfl) ?_
              refine Exists.intro _ (And.intro (join_c q.blk ⟨#[10]⟩ (Nat.le_trans hb2.blk (by decide)) (Nat.le_trans (join_sz q.blk) (by have := hb2.blk; have := hb2.blb; omega))) ?_)
              refine aord_light 11 rfl rfl rfl (by kernel_rfl) ?_
              refine And.intro (by (have hk0 : ByteArray.size { data := #[10] } = 1 := rfl; first | (unfold maxLen; omega) | (simp only []; omega) | (unfold maxLen; (try simp only []); omega))) ?_
              refine aord_all [16] (by kernel_rfl) rfl ?_
              refine aord_all [17] (by kernel_rfl) rfl ?_
              refine aord_all [18] (by kernel_rfl) rfl ?_
              refine And.intro (by first | exact app_le (by first | omega | (simp only [List.length_cons, List.length_nil]; omega) | (simp; omega)) (by decide) | omega | assumption | decide | (simp only [Int.toNat_natCast, dflt_sl, dflt_st, dflt_str, dflt_int, dflt_bool]; omega) | (simp <;> omega)) ?_
              refine aord_light 19 rfl rfl rfl (by kernel_rfl) ?_
              refine aord_light 20 rfl rfl rfl (by kernel_rfl) ?_
              refine aord_all [21] (by kernel_rfl) rfl ?_
              refine aord_done (by kernel_rfl) ?_
              exact ⟨(), trivial, le_of rfl ⟨rfl, rfl, rfl, rfl, rfl⟩ rfl⟩
          refine And.intro ?_ ?_
          · refine aord_all [4, 10, 15] (by kernel_rfl) rfl ?_
            refine And.intro ?_ ?_
            · refine aord_all [10, 15] (by kernel_rfl) rfl ?_
              refine And.intro ?_ ?_
              · refine Or.inl ?_
                refine And.intro (rfl) ?_
                refine Exists.intro _ (And.intro (join_c q.blk ⟨#[10]⟩ (Nat.le_trans hb2.blk (by decide)) (Nat.le_trans (join_sz q.blk) (by have := hb2.blk; have := hb2.blb; omega))) ?_)
                refine aord_light 11 rfl rfl rfl (by kernel_rfl) ?_
                refine And.intro (by (have hk0 : ByteArray.size { data := #[10] } = 1 := rfl; first | (unfold maxLen; omega) | (simp only []; omega) | (unfold maxLen; (try simp only []); omega))) ?_
                refine aord_all [15] (by kernel_rfl) rfl ?_
                refine aord_all [16] (by kernel_rfl) rfl ?_
                refine aord_all [17] (by kernel_rfl) rfl ?_
                refine aord_all [18] (by kernel_rfl) rfl ?_
                refine And.intro (by first | exact app_le (by first | omega | (simp only [List.length_cons, List.length_nil]; omega) | (simp; omega)) (by decide) | omega | assumption | decide | (simp only [Int.toNat_natCast, dflt_sl, dflt_st, dflt_str, dflt_int, dflt_bool]; omega) | (simp <;> omega)) ?_
                refine aord_light 19 rfl rfl rfl (by kernel_rfl) ?_
                refine aord_light 20 rfl rfl rfl (by kernel_rfl) ?_
                refine aord_all [21] (by kernel_rfl) rfl ?_
                refine aord_done (by kernel_rfl) ?_
                exact ⟨(), trivial, le_of rfl ⟨rfl, rfl, rfl, rfl, rfl⟩ rfl⟩
              · refine aord_all [10] (by kernel_rfl) rfl ?_
                refine Or.inl ?_
                refine And.intro (rfl) ?_
                refine Exists.intro _ (And.intro (join_c q.blk ⟨#[10]⟩ (Nat.le_trans hb2.blk (by decide)) (Nat.le_trans (join_sz q.blk) (by have := hb2.blk; have := hb2.blb; omega))) ?_)
                refine aord_light 11 rfl rfl rfl (by kernel_rfl) ?_
                refine And.intro (by (have hk0 : ByteArray.size { data := #[10] } = 1 := rfl; first | (unfold maxLen; omega) | (simp only []; omega) | (unfold maxLen; (try simp only []); omega))) ?_
                refine aord_all [16] (by kernel_rfl) rfl ?_
                refine aord_all [17] (by kernel_rfl) rfl ?_
                refine aord_all [18] (by kernel_rfl) rfl ?_
                refine And.intro (by first | exact app_le (by first | omega | (simp only [List.length_cons, List.length_nil]; omega) | (simp; omega)) (by decide) | omega | assumption | decide | (simp only [Int.toNat_natCast, dflt_sl, dflt_st, dflt_str, dflt_int, dflt_bool]; omega) | (simp <;> omega)) ?_
                refine aord_light 19 rfl rfl rfl (by kernel_rfl) ?_
                refine aord_light 20 rfl rfl rfl (by kernel_rfl) ?_
                refine aord_all [21] (by kernel_rfl) rfl ?_
                refine aord_done (by kernel_rfl) ?_
                exact ⟨(), trivial, le_of rfl ⟨rfl, rfl, rfl, rfl, rfl⟩ rfl⟩
            refine And.intro ?_ ?_
            · refine Or.inl ?_
              refine And.intro (rfl) ?_
              refine Exists.intro _ (And.intro (join_c q.blk ⟨#[10]⟩ (Nat.le_trans hb2.blk (by decide)) (Nat.le_trans (join_sz q.blk) (by have := hb2.blk; have := hb2.blb; omega))) ?_)
              refine aord_light 11 rfl rfl rfl (by kernel_rfl) ?_
              refine And.intro (by (have hk0 : ByteArray.size { data := #[10] } = 1 := rfl; first | (unfold maxLen; omega) | (simp only []; omega) | (unfold maxLen; (try simp only []); omega))) ?_
              refine aord_all [4, 15] (by kernel_rfl) rfl ?_
              refine And.intro ?_ ?_
              · refine aord_all [15] (by kernel_rfl) rfl ?_
                refine aord_all [16] (by kernel_rfl) rfl ?_
                refine aord_all [17] (by kernel_rfl) rfl ?_
                refine aord_all [18] (by kernel_rfl) rfl ?_
                refine And.intro (by first | exact app_le (by first | omega | (simp only [List.length_cons, List.length_nil]; omega) | (simp; omega)) (by decide) | omega | assumption | decide | (simp only [Int.toNat_natCast, dflt_sl, dflt_st, dflt_str, dflt_int, dflt_bool]; omega) | (simp <;> omega)) ?_
                refine aord_light 19 rfl rfl rfl (by kernel_rfl) ?_
                refine aord_light 20 rfl rfl rfl (by kernel_rfl) ?_
                refine aord_all [21] (by kernel_rfl) rfl ?_
                refine aord_done (by kernel_rfl) ?_
                exact ⟨(), trivial, le_of rfl ⟨rfl, rfl, rfl, rfl, rfl⟩ rfl⟩
              · refine aord_all [4, 16] (by kernel_rfl) rfl ?_
                refine And.intro ?_ ?_
                · refine aord_all [16] (by kernel_rfl) rfl ?_
                  refine aord_all [17] (by kernel_rfl) rfl ?_
                  refine aord_all [18] (by kernel_rfl) rfl ?_
                  refine And.intro (by first | exact app_le (by first | omega | (simp only [List.length_cons, List.length_nil]; omega) | (simp; omega)) (by decide) | omega | assumption | decide | (simp only [Int.toNat_natCast, dflt_sl, dflt_st, dflt_str, dflt_int, dflt_bool]; omega) | (simp <;> omega)) ?_
                  refine aord_light 19 rfl rfl rfl (by kernel_rfl) ?_
                  refine aord_light 20 rfl rfl rfl (by kernel_rfl) ?_
                  refine aord_all [21] (by kernel_rfl) rfl ?_
                  refine aord_done (by kernel_rfl) ?_
                  exact ⟨(), trivial, le_of rfl ⟨rfl, rfl, rfl, rfl, rfl⟩ rfl⟩
                · refine aord_all [4, 17] (by kernel_rfl) rfl ?_
                  refine And.intro ?_ ?_
                  · refine aord_all [17] (by kernel_rfl) rfl ?_
                    refine aord_all [18] (by kernel_rfl) rfl ?_
                    refine And.intro (by first | exact app_le (by first | omega | (simp only [List.length_cons, List.length_nil]; omega) | (simp; omega)) (by decide) | omega | assumption | decide | (simp only [Int.toNat_natCast, dflt_sl, dflt_st, dflt_str, dflt_int, dflt_bool]; omega) | (simp <;> omega)) ?_
                    refine aord_light 19 rfl rfl rfl (by kernel_rfl) ?_
                    refine aord_light 20 rfl rfl rfl (by kernel_rfl) ?_
                    refine aord_all [21] (by kernel_rfl) rfl ?_
                    refine aord_done (by kernel_rfl) ?_
                    exact ⟨(), trivial, le_of rfl ⟨rfl, rfl, rfl, rfl, rfl⟩ rfl⟩
                  · refine aord_all [4] (by kernel_rfl) rfl ?_
                    refine aord_all [18] (by kernel_rfl) rfl ?_
                    refine And.intro (by first | exact app_le (by first | omega | (simp only [List.length_cons, List.length_nil]; omega) | (simp; omega)) (by decide) | omega | assumption | decide | (simp only [Int.toNat_natCast, dflt_sl, dflt_st, dflt_str, dflt_int, dflt_bool]; omega) | (simp <;> omega)) ?_
                    refine aord_light 19 rfl rfl rfl (by kernel_rfl) ?_
                    refine aord_light 20 rfl rfl rfl (by kernel_rfl) ?_
                    refine aord_all [21] (by kernel_rfl) rfl ?_
                    refine aord_done (by kernel_rfl) ?_
                    exact ⟨(), trivial, le_of rfl ⟨rfl, rfl, rfl, rfl, rfl⟩ rfl⟩
            · refine aord_all [4, 10] (by kernel_rfl) rfl ?_
              refine And.intro ?_ ?_
              · refine aord_all [10] (by kernel_rfl) rfl ?_
                refine Or.inl ?_
                refine And.intro (rfl) ?_
                refine Exists.intro _ (And.intro (join_c q.blk ⟨#[10]⟩ (Nat.le_trans hb2.blk (by decide)) (Nat.le_trans (join_sz q.blk) (by have := hb2.blk; have := hb2.blb; omega))) ?_)
                refine aord_light 11 rfl rfl rfl (by kernel_rfl) ?_
                refine And.intro (by (have hk0 : ByteArray.size { data := #[10] } = 1 := rfl; first | (unfold maxLen; omega) | (simp only []; omega) | (unfold maxLen; (try simp only []); omega))) ?_
                refine aord_all [16] (by kernel_rfl) rfl ?_
                refine aord_all [17] (by kernel_rfl) rfl ?_
                refine aord_all [18] (by kernel_rfl) rfl ?_
                refine And.intro (by first | exact app_le (by first | omega | (simp only [List.length_cons, List.length_nil]; omega) | (simp; omega)) (by decide) | omega | assumption | decide | (simp only [Int.toNat_natCast, dflt_sl, dflt_st, dflt_str, dflt_int, dflt_bool]; omega) | (simp <;> omega)) ?_
                refine aord_light 19 rfl rfl rfl (by kernel_rfl) ?_
                refine aord_light 20 rfl rfl rfl (by kernel_rfl) ?_
                refine aord_all [21] (by kernel_rfl) rfl ?_
                refine aord_done (by kernel_rfl) ?_
                exact ⟨(), trivial, le_of rfl ⟨rfl, rfl, rfl, rfl, rfl⟩ rfl⟩
              · refine Or.inl ?_
                refine And.intro (rfl) ?_
                refine Exists.intro _ (And.intro (join_c q.blk ⟨#[10]⟩ (Nat.le_trans hb2.blk (by decide)) (Nat.le_trans (join_sz q.blk) (by have := hb2.blk; have := hb2.blb; omega))) ?_)
                refine aord_light 11 rfl rfl rfl (by kernel_rfl) ?_
                refine And.intro (by (have hk0 : ByteArray.size { data := #[10] } = 1 := rfl; first | (unfold maxLen; omega) | (simp only []; omega) | (unfold maxLen; (try simp only []); omega))) ?_
                refine aord_all [4, 16] (by kernel_rfl) rfl ?_
                refine And.intro ?_ ?_
                · refine aord_all [16] (by kernel_rfl) rfl ?_
                  refine aord_all [17] (by kernel_rfl) rfl ?_
                  refine aord_all [18] (by kernel_rfl) rfl ?_
                  refine And.intro (by first | exact app_le (by first | omega | (simp only [List.length_cons, List.length_nil]; omega) | (simp; omega)) (by decide) | omega | assumption | decide | (simp only [Int.toNat_natCast, dflt_sl, dflt_st, dflt_str, dflt_int, dflt_bool]; omega) | (simp <;> omega)) ?_
                  refine aord_light 19 rfl rfl rfl (by kernel_rfl) ?_
                  refine aord_light 20 rfl rfl rfl (by kernel_rfl) ?_
                  refine aord_all [21] (by kernel_rfl) rfl ?_
                  refine aord_done (by kernel_rfl) ?_
                  exact ⟨(), trivial, le_of rfl ⟨rfl, rfl, rfl, rfl, rfl⟩ rfl⟩
                · refine aord_all [4, 17] (by kernel_rfl) rfl ?_
                  refine And.intro ?_ ?_
                  · refine aord_all [17] (by kernel_rfl) rfl ?_
                    refine aord_all [18] (by kernel_rfl) rfl ?_
                    refine And.intro (by first | exact app_le (by first | omega | (simp only [List.length_cons, List.length_nil]; omega) | (simp; omega)) (by decide) | omega | assumption | decide | (simp only [Int.toNat_natCast, dflt_sl, dflt_st, dflt_str, dflt_int, dflt_bool]; omega) | (simp <;> omega)) ?_
                    refine aord_light 19 rfl rfl rfl (by kernel_rfl) ?_
                    refine aord_light 20 rfl rfl rfl (by kernel_rfl) ?_
                    refine aord_all [21] (by kernel_rfl) rfl ?_
                    refine aord_done (by kernel_rfl) ?_
                    exact ⟨(), trivial, le_of rfl ⟨rfl, rfl, rfl, rfl, rfl⟩ rfl⟩
                  · refine aord_all [4] (by kernel_rfl) rfl ?_
                    refine aord_all [18] (by kernel_rfl) rfl ?_
                    refine And.intro (by first | exact app_le (by first | omega | (simp only [List.length_cons, List.length_nil]; omega) | (simp; omega)) (by decide) | omega | assumption | decide | (simp only [Int.toNat_natCast, dflt_sl, dflt_st, dflt_str, dflt_int, dflt_bool]; omega) | (simp <;> omega)) ?_
                    refine aord_light 19 rfl rfl rfl (by kernel_rfl) ?_
                    refine aord_light 20 rfl rfl rfl (by kernel_rfl) ?_
                    refine aord_all [21] (by kernel_rfl) rfl ?_
                    refine aord_done (by kernel_rfl) ?_
                    exact ⟨(), trivial, le_of rfl ⟨rfl, rfl, rfl, rfl, rfl⟩ rfl⟩
          · refine aord_all [4, 9] (by kernel_rfl) rfl ?_
            refine And.intro ?_ ?_
            · refine aord_all [9] (by kernel_rfl) rfl ?_
              refine aord_all [10] (by kernel_rfl) rfl ?_
              refine Or.inl ?_
              refine And.intro (rfl) ?_
              refine Exists.intro _ (And.intro (join_c q.blk ⟨#[10]⟩ (Nat.le_trans hb2.blk (by decide)) (Nat.le_trans (join_sz q.blk) (by have := hb2.blk; have := hb2.blb; omega))) ?_)
              refine aord_light 11 rfl rfl rfl (by kernel_rfl) ?_
              refine And.intro (by (have hk0 : ByteArray.size { data := #[10] } = 1 := rfl; first | (unfold maxLen; omega) | (simp only []; omega) | (unfold maxLen; (try simp only []); omega))) ?_
              refine aord_all [16] (by kernel_rfl) rfl ?_
              refine aord_all [17] (by kernel_rfl) rfl ?_
              refine aord_all [18] (by kernel_rfl) rfl ?_
              refine And.intro (by first | exact app_le (by first | omega | (simp only [List.length_cons, List.length_nil]; omega) | (simp; omega)) (by decide) | omega | assumption | decide | (simp only [Int.toNat_natCast, dflt_sl, dflt_st, dflt_str, dflt_int, dflt_bool]; omega) | (simp <;> omega)) ?_
              refine aord_light 19 rfl rfl rfl (by kernel_rfl) ?_
              refine aord_light 20 rfl rfl rfl (by kernel_rfl) ?_
              refine aord_all [21] (by kernel_rfl) rfl ?_
              refine aord_done (by kernel_rfl) ?_
              exact ⟨(), trivial, le_of rfl ⟨rfl, rfl, rfl, rfl, rfl⟩ rfl⟩
            · refine aord_all [4, 10] (by kernel_rfl) rfl ?_
              refine And.intro ?_ ?_
              · refine aord_all [10] (by kernel_rfl) rfl ?_
                refine Or.inl ?_
                refine And.intro (rfl) ?_
                refine Exists.intro _ (And.intro (join_c q.blk ⟨#[10]⟩ (Nat.le_trans hb2.blk (by decide)) (Nat.le_trans (join_sz q.blk) (by have := hb2.blk; have := hb2.blb; omega))) ?_)
                refine aord_light 11 rfl rfl rfl (by kernel_rfl) ?_
                refine And.intro (by (have hk0 : ByteArray.size { data := #[10] } = 1 := rfl; first | (unfold maxLen; omega) | (simp only []; omega) | (unfold maxLen; (try simp only []); omega))) ?_
                refine aord_all [16] (by kernel_rfl) rfl ?_
                refine aord_all [17] (by kernel_rfl) rfl ?_
                refine aord_all [18] (by kernel_rfl) rfl ?_
                refine And.intro (by first | exact app_le (by first | omega | (simp only [List.length_cons, List.length_nil]; omega) | (simp; omega)) (by decide) | omega | assumption | decide | (simp only [Int.toNat_natCast, dflt_sl, dflt_st, dflt_str, dflt_int, dflt_bool]; omega) | (simp <;> omega)) ?_
                refine aord_light 19 rfl rfl rfl (by kernel_rfl) ?_
                refine aord_light 20 rfl rfl rfl (by kernel_rfl) ?_
                refine aord_all [21] (by kernel_rfl) rfl ?_
                refine aord_done (by kernel_rfl) ?_
                exact ⟨(), trivial, le_of rfl ⟨rfl, rfl, rfl, rfl, rfl⟩ rfl⟩
              · refine Or.inl ?_
                refine And.intro (rfl) ?_
                refine Exists.intro _ (And.intro (join_c q.blk ⟨#[10]⟩ (Nat.le_trans hb2.blk (by decide)) (Nat.le_trans (join_sz q.blk) (by have := hb2.blk; have := hb2.blb; omega))) ?_)
                refine aord_light 11 rfl rfl rfl (by kernel_rfl) ?_
                refine And.intro (by (have hk0 : ByteArray.size { data := #[10] } = 1 := rfl; first | (unfold maxLen; omega) | (simp only []; omega) | (unfold maxLen; (try simp only []); omega))) ?_
                refine aord_all [4, 16] (by kernel_rfl) rfl ?_
                refine And.intro ?_ ?_
                · refine aord_all [16] (by kernel_rfl) rfl ?_
                  refine aord_all [17] (by kernel_rfl) rfl ?_
                  refine aord_all [18] (by kernel_rfl) rfl ?_
                  refine And.intro (by first | exact app_le (by first | omega | (simp only [List.length_cons, List.length_nil]; omega) | (simp; omega)) (by decide) | omega | assumption | decide | (simp only [Int.toNat_natCast, dflt_sl, dflt_st, dflt_str, dflt_int, dflt_bool]; omega) | (simp <;> omega)) ?_
                  refine aord_light 19 rfl rfl rfl (by kernel_rfl) ?_
                  refine aord_light 20 rfl rfl rfl (by kernel_rfl) ?_
                  refine aord_all [21] (by kernel_rfl) rfl ?_
                  refine aord_done (by kernel_rfl) ?_
                  exact ⟨(), trivial, le_of rfl ⟨rfl, rfl, rfl, rfl, rfl⟩ rfl⟩
                · refine aord_all [4, 17] (by kernel_rfl) rfl ?_
                  refine And.intro ?_ ?_
                  · refine aord_all [17] (by kernel_rfl) rfl ?_
                    refine aord_all [18] (by kernel_rfl) rfl ?_
                    refine And.intro (by first | exact app_le (by first | omega | (simp only [List.length_cons, List.length_nil]; omega) | (simp; omega)) (by decide) | omega | assumption | decide | (simp only [Int.toNat_natCast, dflt_sl, dflt_st, dflt_str, dflt_int, dflt_bool]; omega) | (simp <;> omega)) ?_
                    refine aord_light 19 rfl rfl rfl (by kernel_rfl) ?_
                    refine aord_light 20 rfl rfl rfl (by kernel_rfl) ?_
                    refine aord_all [21] (by kernel_rfl) rfl ?_
                    refine aord_done (by kernel_rfl) ?_
                    exact ⟨(), trivial, le_of rfl ⟨rfl, rfl, rfl, rfl, rfl⟩ rfl⟩
                  · refine aord_all [4] (by kernel_rfl) rfl ?_
                    refine aord_all [18] (by kernel_rfl) rfl ?_
                    refine And.intro (by first | exact app_le (by first | omega | (simp only [List.length_cons, List.length_nil]; omega) | (simp; omega)) (by decide) | omega | assumption | decide | (simp only [Int.toNat_natCast, dflt_sl, dflt_st, dflt_str, dflt_int, dflt_bool]; omega) | (simp <;> omega)) ?_
                    refine aord_light 19 rfl rfl rfl (by kernel_rfl) ?_
                    refine aord_light 20 rfl rfl rfl (by kernel_rfl) ?_
                    refine aord_all [21] (by kernel_rfl) rfl ?_
                    refine aord_done (by kernel_rfl) ?_
                    exact ⟨(), trivial, le_of rfl ⟨rfl, rfl, rfl, rfl, rfl⟩ rfl⟩
      · try simp only [decide_eq_false_iff_not, Int.not_lt] at h15
        try simp only [Int.toNat_natCast, dflt_sl, dflt_st, dflt_str, dflt_int, dflt_bool] at h15
        exact absurd (List.eq_nil_of_length_eq_zero (by omega)) hq
    · intro u hcut10
      refine acode_seq ?_
      refine acode_region ?_
      refine acode_seq ?_
      refine acode_nilcell 0 4 9 .str rfl rfl rfl ?_
      refine acode_swap 3 5 rfl rfl ?_
      refine acode_nilcell 0 5 69 rFld rfl rfl rfl ?_
      refine acode_swap 4 6 rfl rfl ?_
      refine acode_region ?_
      refine acode_ret ?_
      exact ⟨rfl, ⟨rfl, rfl, rfl, rfl, rfl⟩, rfl⟩
theorem end_ok {p q : PSt} (h : endS p = .inr q) (hb : PB p 1000000) : ACallO Tryd.prog 51 [.one (.own 0 0)] (psO p) 5 (.one (.lit .nilIface)) (psO q) 5 := by
  unfold endS at h
  split at h
  · cases h
  · rename_i r e
    cases h
    have hb2 : PB r 2000000 := (flushS_B hb e).mono (by decide)
    unfold closeS
    split
    · rename_i h0; exact end_nil e h0 hb
    · rename_i h0; exact end_blk e h0 hb hb2
theorem end_err {p : PSt} {at_ n : Int} (h : endS p = .inl (at_, n)) (hb : PB p 1000000) : ACallO Tryd.prog 51 [.one (.own 0 0)] (psO p) 5 (.one (errF at_ n)) [] 5 := by
  have h : flushS p = .inl (at_, n) := by
    unfold endS at h
    split at h
    · rename_i e; cases h; exact e
    · cases h
  refine acallo_of (rs := [2]) Tryd.func51 rfl rfl rfl teOk (by decide) rfl ?_
  refine acode_seq ?_
  refine acode_region ?_
  refine acode_seq ?_
  refine acode_seq ?_
  refine acode_region ?_
  refine Or.inr (Or.inl (Exists.intro [] (Exists.intro [0, 1, 2, 3, 4] (Exists.intro _ (Exists.intro _ (Exists.intro _ (Exists.intro _ (Exists.intro _ (And.intro (flush_err h hb) (And.intro rfl (And.intro (And.intro (And.intro rfl rfl) (And.intro (And.intro rfl rfl) (And.intro (And.intro rfl rfl) (And.intro (And.intro rfl rfl) (And.intro (And.intro rfl rfl) True.intro))))) (And.intro rfl ?_))))))))))))
  refine acode_seq ?_
  refine acode_region ?_
  refine acode_cond rfl (fun h8 => ?_) (fun h8 => ?_)
  · skip
    refine acode_seq ?_
    refine acode_region ?_
    refine acode_ret ?_
    exact ⟨rfl, trivial, rfl⟩
  · try simp only [decide_eq_true_eq, decide_eq_false_iff_not, Bool.and_eq_true, Bool.not_eq_true', Bool.not_eq_false', Bool.or_eq_false_iff, Bool.or_eq_true, Bool.and_eq_false_iff, Int.not_lt, Int.not_le] at h8
    try simp only [Int.toNat_natCast, dflt_sl, dflt_st, dflt_str, dflt_int, dflt_bool] at h8
    cases h8
end Q
end Ab
end Go.Proofs.YtklhlkhlndhepaaDoor
namespace Go.Proofs.YtklhlkhlndhepaaDoor
open Go.RowKit
namespace Ab
set_option maxRecDepth 100000
namespace Q
theorem begin_c (p : PSt) (l : Lne) (_hb : PB p 1000000) : ACallO Tryd.prog 70 [.one (.own 0 0), .agg (toL rLne l)] (psO p) 5 (.tup []) (psO (beginS p l)) 5 := by
  refine acallo_of (rs := []) Tryd.func70 rfl rfl rfl teOk (by decide) rfl ?_
  refine acode_seq ?_
  refine acode_region ?_
  refine acode_seq ?_
  refine acode_region ?_
  intro l1_4
  try simp only [Int.toNat_natCast, dflt_sl, dflt_st, dflt_str, dflt_int, dflt_bool] at l1_4
  refine And.intro (fun h => trivial) ?_
  refine And.intro (fun h => ⟨⟨h, trivial⟩, trivial⟩) ?_
  refine And.intro (fun h => ⟨⟨h, trivial⟩, trivial⟩) ?_
  refine And.intro (fun h => ⟨⟨h, trivial⟩, trivial⟩) ?_
  refine And.intro (fun h => ⟨⟨h, trivial⟩, trivial⟩) ?_
  refine And.intro (fun h => ⟨⟨h, trivial⟩, trivial⟩) ?_
  refine And.intro (fun h => ⟨⟨h, trivial⟩, trivial⟩) ?_
  refine And.intro (fun h => trivial) ?_
  refine And.intro (fun h => ⟨⟨h, trivial⟩, trivial⟩) ?_
  refine And.intro (fun h => ⟨⟨h, trivial⟩, trivial⟩) ?_
  refine And.intro (fun h => ⟨⟨h, trivial⟩, trivial⟩) ?_
  refine And.intro (fun h => ⟨⟨h, trivial⟩, trivial⟩) ?_
  refine And.intro (fun h => ⟨⟨⟨h, trivial⟩, trivial⟩, by first | exact fun h2 => h2 | (intro h2; rw [h, h2]; rfl) | (intro h2; cases h2) | (intro h2; simp_all [gq])⟩) ?_
  refine And.intro (by first | (intro h; rw [h]; rfl) | (intro h; cases h)) ?_
  refine acode_mend 1 6 ?_
  refine acode_region ?_
  exact ⟨rfl, rfl, rfl, ⟨rfl, rfl, rfl, rfl, rfl⟩, rfl⟩
theorem ahead_none {p : PSt} (l : Lne) (h : p.lns = []) : ACallO Tryd.prog 68 [.one (.own 0 0), .agg (toL rLne l), ii .i64 3] (psO p) 5 (.one (errF l.1 2)) [] 5 := by
  refine acallo_of (rs := [6]) Tryd.func68 rfl rfl rfl teOk (by decide) rfl ?_
  refine acode_seq ?_
  refine acode_region ?_
  refine acode_seq ?_
  refine acode_seq ?_
  refine acode_region ?_
  refine acode_block ?_
  refine acode_seq ?_
  refine acode_region ?_
  refine acode_cond rfl (fun h8 => ?_) (fun h8 => ?_)
  · try simp only [decide_eq_true_eq] at h8
    try simp only [Int.toNat_natCast, dflt_sl, dflt_st, dflt_str, dflt_int, dflt_bool] at h8
    refine acode_seq ?_
    refine acode_seq ?_
    refine acode_region ?_
    intro l3_5
    try simp only [Int.toNat_natCast, dflt_sl, dflt_st, dflt_str, dflt_int, dflt_bool] at l3_5
    refine acode_cond rfl (fun h16 => ?_) (fun h16 => ?_)
    · try simp only [decide_eq_true_eq] at h16
      try simp only [Int.toNat_natCast, dflt_sl, dflt_st, dflt_str, dflt_int, dflt_bool] at h16
      refine acode_seq ?_
      refine acode_region ?_
      refine Or.inl ?_
      refine And.intro (rfl) ?_
      refine Exists.intro _ (And.intro (fault_c l.1 2) ?_)
      refine acode_ret ?_
      exact ⟨rfl, trivial, rfl⟩
    · try simp only [decide_eq_false_iff_not] at h16
      try simp only [Int.toNat_natCast, dflt_sl, dflt_st, dflt_str, dflt_int, dflt_bool] at h16
      exact absurd (by rw [h]; rfl) h16
  · try simp only [decide_eq_false_iff_not] at h8
    try simp only [Int.toNat_natCast, dflt_sl, dflt_st, dflt_str, dflt_int, dflt_bool] at h8
    exact absurd trivial h8
theorem ahead_more {p : PSt} {l : Lne} (h : p.lns ≠ []) (he : l.2.2.2 = true) (hb : PB p 1000000) : ACallO Tryd.prog 68 [.one (.own 0 0), .agg (toL rLne l), ii .i64 3] (psO p) 5 (.one (.lit .nilIface)) (psO { p with lns := p.lns ++ [l.2.2.1] }) 5 := by
  have hl := hb.lns
  refine acallo_of (rs := [6]) Tryd.func68 rfl rfl rfl teOk (by decide) rfl ?_
  refine acode_seq ?_
  refine acode_region ?_
  refine acode_seq ?_
  refine acode_seq ?_
  refine acode_region ?_
  refine acode_block ?_
  refine acode_seq ?_
  refine acode_region ?_
  refine acode_cond rfl (fun h8 => ?_) (fun h8 => ?_)
  · try simp only [decide_eq_true_eq] at h8
    try simp only [Int.toNat_natCast, dflt_sl, dflt_st, dflt_str, dflt_int, dflt_bool] at h8
    refine acode_seq ?_
    refine acode_seq ?_
    refine acode_region ?_
    intro l3_5
    try simp only [Int.toNat_natCast, dflt_sl, dflt_st, dflt_str, dflt_int, dflt_bool] at l3_5
    refine acode_cond rfl (fun h16 => ?_) (fun h16 => ?_)
    · try simp only [decide_eq_true_eq] at h16
      try simp only [Int.toNat_natCast, dflt_sl, dflt_st, dflt_str, dflt_int, dflt_bool] at h16
      exact absurd (List.eq_nil_of_length_eq_zero (by omega)) h
    · try simp only [decide_eq_false_iff_not] at h16
      try simp only [Int.toNat_natCast, dflt_sl, dflt_st, dflt_str, dflt_int, dflt_bool] at h16
      refine acode_skip ?_
      refine acode_seq ?_
      refine acode_ord rfl ?_
      refine aord_light 0 rfl rfl rfl (by kernel_rfl) ?_
      refine aord_light 1 rfl rfl rfl (by kernel_rfl) ?_
      refine aord_light 2 rfl rfl rfl (by kernel_rfl) ?_
      refine aord_light 3 rfl rfl rfl (by kernel_rfl) ?_
      refine aord_light 4 rfl rfl rfl (by kernel_rfl) ?_
      refine aord_light 6 rfl rfl rfl (by kernel_rfl) ?_
      refine aord_all [5, 7] (by kernel_rfl) rfl ?_
      refine And.intro ?_ ?_
      · refine aord_all [7] (by kernel_rfl) rfl ?_
        refine aord_all [8] (by kernel_rfl) rfl ?_
        refine aord_all [9] (by kernel_rfl) rfl ?_
        refine And.intro (by first | exact app_le (by first | omega | (simp only [List.length_cons, List.length_nil]; omega) | (simp; omega)) (by decide) | omega | assumption | decide | (simp only [Int.toNat_natCast, dflt_sl, dflt_st, dflt_str, dflt_int, dflt_bool]; omega) | (simp <;> omega)) ?_
        refine aord_light 10 rfl rfl rfl (by kernel_rfl) ?_
        refine aord_light 11 rfl rfl rfl (by kernel_rfl) ?_
        refine aord_light 12 rfl rfl rfl (by kernel_rfl) ?_
        refine aord_all [13] (by kernel_rfl) rfl ?_
        refine aord_done (by kernel_rfl) ?_
        refine acode_seq ?_
        refine acode_seq ?_
        refine acode_region ?_
        refine acode_cond rfl (fun h35 => ?_) (fun h35 => ?_)
        · try simp only [decide_eq_true_eq, decide_eq_false_iff_not, Bool.and_eq_true, Bool.not_eq_true', Bool.not_eq_false', Bool.or_eq_false_iff, Bool.or_eq_true, Bool.and_eq_false_iff, Int.not_lt, Int.not_le] at h35
          try simp only [Int.toNat_natCast, dflt_sl, dflt_st, dflt_str, dflt_int, dflt_bool] at h35
          refine acode_seq ?_
          refine acode_region ?_
          refine acode_ret ?_
          exact ⟨rfl, ⟨rfl, rfl, rfl, rfl, rfl⟩, rfl⟩
        · try simp only [decide_eq_true_eq, decide_eq_false_iff_not, Bool.and_eq_true, Bool.not_eq_true', Bool.not_eq_false', Bool.or_eq_false_iff, Bool.or_eq_true, Bool.and_eq_false_iff, Int.not_lt, Int.not_le] at h35
          try simp only [Int.toNat_natCast, dflt_sl, dflt_st, dflt_str, dflt_int, dflt_bool] at h35
          exact absurd h35 (by rw [he]; decide)
      · refine aord_all [5, 8] (by kernel_rfl) rfl ?_
        refine And.intro ?_ ?_
        · refine aord_all [8] (by kernel_rfl) rfl ?_
          refine aord_all [9] (by kernel_rfl) rfl ?_
          refine And.intro (by first | exact app_le (by first | omega | (simp only [List.length_cons, List.length_nil]; omega) | (simp; omega)) (by decide) | omega | assumption | decide | (simp only [Int.toNat_natCast, dflt_sl, dflt_st, dflt_str, dflt_int, dflt_bool]; omega) | (simp <;> omega)) ?_
          refine aord_light 10 rfl rfl rfl (by kernel_rfl) ?_
          refine aord_light 11 rfl rfl rfl (by kernel_rfl) ?_
          refine aord_light 12 rfl rfl rfl (by kernel_rfl) ?_
          refine aord_all [13] (by kernel_rfl) rfl ?_
          refine aord_done (by kernel_rfl) ?_
          refine acode_seq ?_
          refine acode_seq ?_
          refine acode_region ?_
          refine acode_cond rfl (fun h35 => ?_) (fun h35 => ?_)
          · try simp only [decide_eq_true_eq, decide_eq_false_iff_not, Bool.and_eq_true, Bool.not_eq_true', Bool.not_eq_false', Bool.or_eq_false_iff, Bool.or_eq_true, Bool.and_eq_false_iff, Int.not_lt, Int.not_le] at h35
            try simp only [Int.toNat_natCast, dflt_sl, dflt_st, dflt_str, dflt_int, dflt_bool] at h35
            refine acode_seq ?_
            refine acode_region ?_
            refine acode_ret ?_
            exact ⟨rfl, ⟨rfl, rfl, rfl, rfl, rfl⟩, rfl⟩
          · try simp only [decide_eq_true_eq, decide_eq_false_iff_not, Bool.and_eq_true, Bool.not_eq_true', Bool.not_eq_false', Bool.or_eq_false_iff, Bool.or_eq_true, Bool.and_eq_false_iff, Int.not_lt, Int.not_le] at h35
            try simp only [Int.toNat_natCast, dflt_sl, dflt_st, dflt_str, dflt_int, dflt_bool] at h35
            exact absurd h35 (by rw [he]; decide)
        · refine aord_all [5] (by kernel_rfl) rfl ?_
          refine aord_all [9] (by kernel_rfl) rfl ?_
          refine And.intro (by first | exact app_le (by first | omega | (simp only [List.length_cons, List.length_nil]; omega) | (simp; omega)) (by decide) | omega | assumption | decide | (simp only [Int.toNat_natCast, dflt_sl, dflt_st, dflt_str, dflt_int, dflt_bool]; omega) | (simp <;> omega)) ?_
          refine aord_light 10 rfl rfl rfl (by kernel_rfl) ?_
          refine aord_light 11 rfl rfl rfl (by kernel_rfl) ?_
          refine aord_light 12 rfl rfl rfl (by kernel_rfl) ?_
          refine aord_all [13] (by kernel_rfl) rfl ?_
          refine aord_done (by kernel_rfl) ?_
          refine acode_seq ?_
          refine acode_seq ?_
          refine acode_region ?_
          refine acode_cond rfl (fun h35 => ?_) (fun h35 => ?_)
          · try simp only [decide_eq_true_eq, decide_eq_false_iff_not, Bool.and_eq_true, Bool.not_eq_true', Bool.not_eq_false', Bool.or_eq_false_iff, Bool.or_eq_true, Bool.and_eq_false_iff, Int.not_lt, Int.not_le] at h35
            try simp only [Int.toNat_natCast, dflt_sl, dflt_st, dflt_str, dflt_int, dflt_bool] at h35
            refine acode_seq ?_
            refine acode_region ?_
            refine acode_ret ?_
            exact ⟨rfl, ⟨rfl, rfl, rfl, rfl, rfl⟩, rfl⟩
          · try simp only [decide_eq_true_eq, decide_eq_false_iff_not, Bool.and_eq_true, Bool.not_eq_true', Bool.not_eq_false', Bool.or_eq_false_iff, Bool.or_eq_true, Bool.and_eq_false_iff, Int.not_lt, Int.not_le] at h35
            try simp only [Int.toNat_natCast, dflt_sl, dflt_st, dflt_str, dflt_int, dflt_bool] at h35
            exact absurd h35 (by rw [he]; decide)
  · try simp only [decide_eq_false_iff_not] at h8
    try simp only [Int.toNat_natCast, dflt_sl, dflt_st, dflt_str, dflt_int, dflt_bool] at h8
    exact absurd trivial h8
theorem ahead_last {p q : PSt} {l : Lne} (h : p.lns ≠ []) (he : l.2.2.2 = false) (hb : PB p 900000) (hs : l.2.2.1.size ≤ 90000) (hf : flushS { p with lns := p.lns ++ [l.2.2.1] } = .inr q) : ACallO Tryd.prog 68 [.one (.own 0 0), .agg (toL rLne l), ii .i64 3] (psO p) 5 (.one (.lit .nilIface)) (psO q) 5 := by
  have hl := hb.lns
  refine acallo_of (rs := [6]) Tryd.func68 rfl rfl rfl teOk (by decide) rfl ?_
  refine acode_seq ?_
  refine acode_region ?_
  refine acode_seq ?_
  refine acode_seq ?_
  refine acode_region ?_
  refine acode_block ?_
  refine acode_seq ?_
  refine acode_region ?_
  refine acode_cond rfl (fun h8 => ?_) (fun h8 => ?_)
  · try simp only [decide_eq_true_eq] at h8
    try simp only [Int.toNat_natCast, dflt_sl, dflt_st, dflt_str, dflt_int, dflt_bool] at h8
    refine acode_seq ?_
    refine acode_seq ?_
    refine acode_region ?_
    intro l3_5
    try simp only [Int.toNat_natCast, dflt_sl, dflt_st, dflt_str, dflt_int, dflt_bool] at l3_5
    refine acode_cond rfl (fun h16 => ?_) (fun h16 => ?_)
    · try simp only [decide_eq_true_eq] at h16
      try simp only [Int.toNat_natCast, dflt_sl, dflt_st, dflt_str, dflt_int, dflt_bool] at h16
      exact absurd (List.eq_nil_of_length_eq_zero (by omega)) h
    · try simp only [decide_eq_false_iff_not] at h16
      try simp only [Int.toNat_natCast, dflt_sl, dflt_st, dflt_str, dflt_int, dflt_bool] at h16
      refine acode_skip ?_
      refine acode_seq ?_
      refine acode_ord rfl ?_
      refine aord_light 0 rfl rfl rfl (by kernel_rfl) ?_
      refine aord_light 1 rfl rfl rfl (by kernel_rfl) ?_
      refine aord_light 2 rfl rfl rfl (by kernel_rfl) ?_
      refine aord_light 3 rfl rfl rfl (by kernel_rfl) ?_
      refine aord_light 4 rfl rfl rfl (by kernel_rfl) ?_
      refine aord_light 6 rfl rfl rfl (by kernel_rfl) ?_
      refine aord_all [5, 7] (by kernel_rfl) rfl ?_
      refine And.intro ?_ ?_
      · refine aord_all [7] (by kernel_rfl) rfl ?_
        refine aord_all [8] (by kernel_rfl) rfl ?_
        refine aord_all [9] (by kernel_rfl) rfl ?_
        refine And.intro (by first | exact app_le (by first | omega | (simp only [List.length_cons, List.length_nil]; omega) | (simp; omega)) (by decide) | omega | assumption | decide | (simp only [Int.toNat_natCast, dflt_sl, dflt_st, dflt_str, dflt_int, dflt_bool]; omega) | (simp <;> omega)) ?_
        refine aord_light 10 rfl rfl rfl (by kernel_rfl) ?_
        refine aord_light 11 rfl rfl rfl (by kernel_rfl) ?_
        refine aord_light 12 rfl rfl rfl (by kernel_rfl) ?_
        refine aord_all [13] (by kernel_rfl) rfl ?_
        refine aord_done (by kernel_rfl) ?_
        refine acode_seq ?_
        refine acode_seq ?_
        refine acode_region ?_
        refine acode_cond rfl (fun h35 => ?_) (fun h35 => ?_)
        · try simp only [decide_eq_true_eq, decide_eq_false_iff_not, Bool.and_eq_true, Bool.not_eq_true', Bool.not_eq_false', Bool.or_eq_false_iff, Bool.or_eq_true, Bool.and_eq_false_iff, Int.not_lt, Int.not_le] at h35
          try simp only [Int.toNat_natCast, dflt_sl, dflt_st, dflt_str, dflt_int, dflt_bool] at h35
          exact absurd h35 (by rw [he]; decide)
        · try simp only [decide_eq_true_eq, decide_eq_false_iff_not, Bool.and_eq_true, Bool.not_eq_true', Bool.not_eq_false', Bool.or_eq_false_iff, Bool.or_eq_true, Bool.and_eq_false_iff, Int.not_lt, Int.not_le] at h35
          try simp only [Int.toNat_natCast, dflt_sl, dflt_st, dflt_str, dflt_int, dflt_bool] at h35
          refine acode_skip ?_
          refine acode_seq ?_
          refine acode_region ?_
          refine Or.inr (Or.inl (Exists.intro [] (Exists.intro [0, 1, 2, 3, 4] (Exists.intro _ (Exists.intro _ (Exists.intro _ (Exists.intro _ (Exists.intro _ (And.intro (flush_ok hf ((more_B _ hb).mono (by omega))) (And.intro rfl (And.intro (And.intro (And.intro rfl rfl) (And.intro (And.intro rfl rfl) (And.intro (And.intro rfl rfl) (And.intro (And.intro rfl rfl) (And.intro (And.intro rfl rfl) True.intro))))) (And.intro rfl ?_))))))))))))
          refine acode_ret ?_
          exact ⟨rfl, ⟨rfl, rfl, rfl, rfl, rfl⟩, rfl⟩
      · refine aord_all [5, 8] (by kernel_rfl) rfl ?_
        refine And.intro ?_ ?_
        · refine aord_all [8] (by kernel_rfl) rfl ?_
          refine aord_all [9] (by kernel_rfl) rfl ?_
          refine And.intro (by first | exact app_le (by first | omega | (simp only [List.length_cons, List.length_nil]; omega) | (simp; omega)) (by decide) | omega | assumption | decide | (simp only [Int.toNat_natCast, dflt_sl, dflt_st, dflt_str, dflt_int, dflt_bool]; omega) | (simp <;> omega)) ?_
          refine aord_light 10 rfl rfl rfl (by kernel_rfl) ?_
          refine aord_light 11 rfl rfl rfl (by kernel_rfl) ?_
          refine aord_light 12 rfl rfl rfl (by kernel_rfl) ?_
          refine aord_all [13] (by kernel_rfl) rfl ?_
          refine aord_done (by kernel_rfl) ?_
          refine acode_seq ?_
          refine acode_seq ?_
          refine acode_region ?_
          refine acode_cond rfl (fun h35 => ?_) (fun h35 => ?_)
          · try simp only [decide_eq_true_eq, decide_eq_false_iff_not, Bool.and_eq_true, Bool.not_eq_true', Bool.not_eq_false', Bool.or_eq_false_iff, Bool.or_eq_true, Bool.and_eq_false_iff, Int.not_lt, Int.not_le] at h35
            try simp only [Int.toNat_natCast, dflt_sl, dflt_st, dflt_str, dflt_int, dflt_bool] at h35
            exact absurd h35 (by rw [he]; decide)
          · try simp only [decide_eq_true_eq, decide_eq_false_iff_not, Bool.and_eq_true, Bool.not_eq_true', Bool.not_eq_false', Bool.or_eq_false_iff, Bool.or_eq_true, Bool.and_eq_false_iff, Int.not_lt, Int.not_le] at h35
            try simp only [Int.toNat_natCast, dflt_sl, dflt_st, dflt_str, dflt_int, dflt_bool] at h35
            refine acode_skip ?_
            refine acode_seq ?_
            refine acode_region ?_
            refine Or.inr (Or.inl (Exists.intro [] (Exists.intro [0, 1, 2, 3, 4] (Exists.intro _ (Exists.intro _ (Exists.intro _ (Exists.intro _ (Exists.intro _ (And.intro (flush_ok hf ((more_B _ hb).mono (by omega))) (And.intro rfl (And.intro (And.intro (And.intro rfl rfl) (And.intro (And.intro rfl rfl) (And.intro (And.intro rfl rfl) (And.intro (And.intro rfl rfl) (And.intro (And.intro rfl rfl) True.intro))))) (And.intro rfl ?_))))))))))))
            refine acode_ret ?_
            exact ⟨rfl, ⟨rfl, rfl, rfl, rfl, rfl⟩, rfl⟩
        · refine aord_all [5] (by kernel_rfl) rfl ?_
          refine aord_all [9] (by kernel_rfl) rfl ?_
          refine And.intro (by first | exact app_le (by first | omega | (simp only [List.length_cons, List.length_nil]; omega) | (simp; omega)) (by decide) | omega | assumption | decide | (simp only [Int.toNat_natCast, dflt_sl, dflt_st, dflt_str, dflt_int, dflt_bool]; omega) | (simp <;> omega)) ?_
          refine aord_light 10 rfl rfl rfl (by kernel_rfl) ?_
          refine aord_light 11 rfl rfl rfl (by kernel_rfl) ?_
          refine aord_light 12 rfl rfl rfl (by kernel_rfl) ?_
          refine aord_all [13] (by kernel_rfl) rfl ?_
          refine aord_done (by kernel_rfl) ?_
          refine acode_seq ?_
          refine acode_seq ?_
          refine acode_region ?_
          refine acode_cond rfl (fun h35 => ?_) (fun h35 => ?_)
          · try simp only [decide_eq_true_eq, decide_eq_false_iff_not, Bool.and_eq_true, Bool.not_eq_true', Bool.not_eq_false', Bool.or_eq_false_iff, Bool.or_eq_true, Bool.and_eq_false_iff, Int.not_lt, Int.not_le] at h35
            try simp only [Int.toNat_natCast, dflt_sl, dflt_st, dflt_str, dflt_int, dflt_bool] at h35
            exact absurd h35 (by rw [he]; decide)
          · try simp only [decide_eq_true_eq, decide_eq_false_iff_not, Bool.and_eq_true, Bool.not_eq_true', Bool.not_eq_false', Bool.or_eq_false_iff, Bool.or_eq_true, Bool.and_eq_false_iff, Int.not_lt, Int.not_le] at h35
            try simp only [Int.toNat_natCast, dflt_sl, dflt_st, dflt_str, dflt_int, dflt_bool] at h35
            refine acode_skip ?_
            refine acode_seq ?_
            refine acode_region ?_
            refine Or.inr (Or.inl (Exists.intro [] (Exists.intro [0, 1, 2, 3, 4] (Exists.intro _ (Exists.intro _ (Exists.intro _ (Exists.intro _ (Exists.intro _ (And.intro (flush_ok hf ((more_B _ hb).mono (by omega))) (And.intro rfl (And.intro (And.intro (And.intro rfl rfl) (And.intro (And.intro rfl rfl) (And.intro (And.intro rfl rfl) (And.intro (And.intro rfl rfl) (And.intro (And.intro rfl rfl) True.intro))))) (And.intro rfl ?_))))))))))))
            refine acode_ret ?_
            exact ⟨rfl, ⟨rfl, rfl, rfl, rfl, rfl⟩, rfl⟩
  · try simp only [decide_eq_false_iff_not] at h8
    try simp only [Int.toNat_natCast, dflt_sl, dflt_st, dflt_str, dflt_int, dflt_bool] at h8
    exact absurd trivial h8
theorem ahead_fail {p : PSt} {l : Lne} {at_ n : Int} (h : p.lns ≠ []) (he : l.2.2.2 = false) (hb : PB p 900000) (hs : l.2.2.1.size ≤ 90000) (hf : flushS { p with lns := p.lns ++ [l.2.2.1] } = .inl (at_, n)) : ACallO Tryd.prog 68 [.one (.own 0 0), .agg (toL rLne l), ii .i64 3] (psO p) 5 (.one (errF at_ n)) [] 5 := by
  have hl := hb.lns
  refine acallo_of (rs := [6]) Tryd.func68 rfl rfl rfl teOk (by decide) rfl ?_
  refine acode_seq ?_
  refine acode_region ?_
  refine acode_seq ?_
  refine acode_seq ?_
  refine acode_region ?_
  refine acode_block ?_
  refine acode_seq ?_
  refine acode_region ?_
  refine acode_cond rfl (fun h8 => ?_) (fun h8 => ?_)
  · try simp only [decide_eq_true_eq] at h8
    try simp only [Int.toNat_natCast, dflt_sl, dflt_st, dflt_str, dflt_int, dflt_bool] at h8
    refine acode_seq ?_
    refine acode_seq ?_
    refine acode_region ?_
    intro l3_5
    try simp only [Int.toNat_natCast, dflt_sl, dflt_st, dflt_str, dflt_int, dflt_bool] at l3_5
    refine acode_cond rfl (fun h16 => ?_) (fun h16 => ?_)
    · try simp only [decide_eq_true_eq] at h16
      try simp only [Int.toNat_natCast, dflt_sl, dflt_st, dflt_str, dflt_int, dflt_bool] at h16
      exact absurd (List.eq_nil_of_length_eq_zero (by omega)) h
    · try simp only [decide_eq_false_iff_not] at h16
      try simp only [Int.toNat_natCast, dflt_sl, dflt_st, dflt_str, dflt_int, dflt_bool] at h16
      refine acode_skip ?_
      refine acode_seq ?_
      refine acode_ord rfl ?_
      refine aord_light 0 rfl rfl rfl (by kernel_rfl) ?_
      refine aord_light 1 rfl rfl rfl (by kernel_rfl) ?_
      refine aord_light 2 rfl rfl rfl (by kernel_rfl) ?_
      refine aord_light 3 rfl rfl rfl (by kernel_rfl) ?_
      refine aord_light 4 rfl rfl rfl (by kernel_rfl) ?_
      refine aord_light 6 rfl rfl rfl (by kernel_rfl) ?_
      refine aord_all [5, 7] (by kernel_rfl) rfl ?_
      refine And.intro ?_ ?_
      · refine aord_all [7] (by kernel_rfl) rfl ?_
        refine aord_all [8] (by kernel_rfl) rfl ?_
        refine aord_all [9] (by kernel_rfl) rfl ?_
        refine And.intro (by first | exact app_le (by first | omega | (simp only [List.length_cons, List.length_nil]; omega) | (simp; omega)) (by decide) | omega | assumption | decide | (simp only [Int.toNat_natCast, dflt_sl, dflt_st, dflt_str, dflt_int, dflt_bool]; omega) | (simp <;> omega)) ?_
        refine aord_light 10 rfl rfl rfl (by kernel_rfl) ?_
        refine aord_light 11 rfl rfl rfl (by kernel_rfl) ?_
        refine aord_light 12 rfl rfl rfl (by kernel_rfl) ?_
        refine aord_all [13] (by kernel_rfl) rfl ?_
        refine aord_done (by kernel_rfl) ?_
        refine acode_seq ?_
        refine acode_seq ?_
        refine acode_region ?_
        refine acode_cond rfl (fun h35 => ?_) (fun h35 => ?_)
        · try simp only [decide_eq_true_eq, decide_eq_false_iff_not, Bool.and_eq_true, Bool.not_eq_true', Bool.not_eq_false', Bool.or_eq_false_iff, Bool.or_eq_true, Bool.and_eq_false_iff, Int.not_lt, Int.not_le] at h35
          try simp only [Int.toNat_natCast, dflt_sl, dflt_st, dflt_str, dflt_int, dflt_bool] at h35
          exact absurd h35 (by rw [he]; decide)
        · try simp only [decide_eq_true_eq, decide_eq_false_iff_not, Bool.and_eq_true, Bool.not_eq_true', Bool.not_eq_false', Bool.or_eq_false_iff, Bool.or_eq_true, Bool.and_eq_false_iff, Int.not_lt, Int.not_le] at h35
          try simp only [Int.toNat_natCast, dflt_sl, dflt_st, dflt_str, dflt_int, dflt_bool] at h35
          refine acode_skip ?_
          refine acode_seq ?_
          refine acode_region ?_
          refine Or.inr (Or.inl (Exists.intro [] (Exists.intro [0, 1, 2, 3, 4] (Exists.intro _ (Exists.intro _ (Exists.intro _ (Exists.intro _ (Exists.intro _ (And.intro (flush_err hf ((more_B _ hb).mono (by omega))) (And.intro rfl (And.intro (And.intro (And.intro rfl rfl) (And.intro (And.intro rfl rfl) (And.intro (And.intro rfl rfl) (And.intro (And.intro rfl rfl) (And.intro (And.intro rfl rfl) True.intro))))) (And.intro rfl ?_))))))))))))
          refine acode_ret ?_
          exact ⟨rfl, trivial, rfl⟩
      · refine aord_all [5, 8] (by kernel_rfl) rfl ?_
        refine And.intro ?_ ?_
        · refine aord_all [8] (by kernel_rfl) rfl ?_
          refine aord_all [9] (by kernel_rfl) rfl ?_
          refine And.intro (by first | exact app_le (by first | omega | (simp only [List.length_cons, List.length_nil]; omega) | (simp; omega)) (by decide) | omega | assumption | decide | (simp only [Int.toNat_natCast, dflt_sl, dflt_st, dflt_str, dflt_int, dflt_bool]; omega) | (simp <;> omega)) ?_
          refine aord_light 10 rfl rfl rfl (by kernel_rfl) ?_
          refine aord_light 11 rfl rfl rfl (by kernel_rfl) ?_
          refine aord_light 12 rfl rfl rfl (by kernel_rfl) ?_
          refine aord_all [13] (by kernel_rfl) rfl ?_
          refine aord_done (by kernel_rfl) ?_
          refine acode_seq ?_
          refine acode_seq ?_
          refine acode_region ?_
          refine acode_cond rfl (fun h35 => ?_) (fun h35 => ?_)
          · try simp only [decide_eq_true_eq, decide_eq_false_iff_not, Bool.and_eq_true, Bool.not_eq_true', Bool.not_eq_false', Bool.or_eq_false_iff, Bool.or_eq_true, Bool.and_eq_false_iff, Int.not_lt, Int.not_le] at h35
            try simp only [Int.toNat_natCast, dflt_sl, dflt_st, dflt_str, dflt_int, dflt_bool] at h35
            exact absurd h35 (by rw [he]; decide)
          · try simp only [decide_eq_true_eq, decide_eq_false_iff_not, Bool.and_eq_true, Bool.not_eq_true', Bool.not_eq_false', Bool.or_eq_false_iff, Bool.or_eq_true, Bool.and_eq_false_iff, Int.not_lt, Int.not_le] at h35
            try simp only [Int.toNat_natCast, dflt_sl, dflt_st, dflt_str, dflt_int, dflt_bool] at h35
            refine acode_skip ?_
            refine acode_seq ?_
            refine acode_region ?_
            refine Or.inr (Or.inl (Exists.intro [] (Exists.intro [0, 1, 2, 3, 4] (Exists.intro _ (Exists.intro _ (Exists.intro _ (Exists.intro _ (Exists.intro _ (And.intro (flush_err hf ((more_B _ hb).mono (by omega))) (And.intro rfl (And.intro (And.intro (And.intro rfl rfl) (And.intro (And.intro rfl rfl) (And.intro (And.intro rfl rfl) (And.intro (And.intro rfl rfl) (And.intro (And.intro rfl rfl) True.intro))))) (And.intro rfl ?_))))))))))))
            refine acode_ret ?_
            exact ⟨rfl, trivial, rfl⟩
        · refine aord_all [5] (by kernel_rfl) rfl ?_
          refine aord_all [9] (by kernel_rfl) rfl ?_
          refine And.intro (by first | exact app_le (by first | omega | (simp only [List.length_cons, List.length_nil]; omega) | (simp; omega)) (by decide) | omega | assumption | decide | (simp only [Int.toNat_natCast, dflt_sl, dflt_st, dflt_str, dflt_int, dflt_bool]; omega) | (simp <;> omega)) ?_
          refine aord_light 10 rfl rfl rfl (by kernel_rfl) ?_
          refine aord_light 11 rfl rfl rfl (by kernel_rfl) ?_
          refine aord_light 12 rfl rfl rfl (by kernel_rfl) ?_
          refine aord_all [13] (by kernel_rfl) rfl ?_
          refine aord_done (by kernel_rfl) ?_
          refine acode_seq ?_
          refine acode_seq ?_
          refine acode_region ?_
          refine acode_cond rfl (fun h35 => ?_) (fun h35 => ?_)
          · try simp only [decide_eq_true_eq, decide_eq_false_iff_not, Bool.and_eq_true, Bool.not_eq_true', Bool.not_eq_false', Bool.or_eq_false_iff, Bool.or_eq_true, Bool.and_eq_false_iff, Int.not_lt, Int.not_le] at h35
            try simp only [Int.toNat_natCast, dflt_sl, dflt_st, dflt_str, dflt_int, dflt_bool] at h35
            exact absurd h35 (by rw [he]; decide)
          · try simp only [decide_eq_true_eq, decide_eq_false_iff_not, Bool.and_eq_true, Bool.not_eq_true', Bool.not_eq_false', Bool.or_eq_false_iff, Bool.or_eq_true, Bool.and_eq_false_iff, Int.not_lt, Int.not_le] at h35
            try simp only [Int.toNat_natCast, dflt_sl, dflt_st, dflt_str, dflt_int, dflt_bool] at h35
            refine acode_skip ?_
            refine acode_seq ?_
            refine acode_region ?_
            refine Or.inr (Or.inl (Exists.intro [] (Exists.intro [0, 1, 2, 3, 4] (Exists.intro _ (Exists.intro _ (Exists.intro _ (Exists.intro _ (Exists.intro _ (And.intro (flush_err hf ((more_B _ hb).mono (by omega))) (And.intro rfl (And.intro (And.intro (And.intro rfl rfl) (And.intro (And.intro rfl rfl) (And.intro (And.intro rfl rfl) (And.intro (And.intro rfl rfl) (And.intro (And.intro rfl rfl) True.intro))))) (And.intro rfl ?_))))))))))))
            refine acode_ret ?_
            exact ⟨rfl, trivial, rfl⟩
  · try simp only [decide_eq_false_iff_not] at h8
    try simp only [Int.toNat_natCast, dflt_sl, dflt_st, dflt_str, dflt_int, dflt_bool] at h8
    exact absurd trivial h8
theorem ahead_end {p q : PSt} {l : Lne} (hb : PB p 900000) (hf : endS p = .inr q) : ACallO Tryd.prog 68 [.one (.own 0 0), .agg (toL rLne l), ii .i64 1] (psO p) 5 (.one (.lit .nilIface)) (psO q) 5 := by
  refine acallo_of (rs := [6]) Tryd.func68 rfl rfl rfl teOk (by decide) rfl ?_
  refine acode_seq ?_
  refine acode_region ?_
  refine acode_seq ?_
  refine acode_seq ?_
  refine acode_region ?_
  refine acode_block ?_
  refine acode_seq ?_
  refine acode_region ?_
  refine acode_cond rfl (fun h8 => ?_) (fun h8 => ?_)
  · try simp only [decide_eq_true_eq] at h8
    try simp only [Int.toNat_natCast, dflt_sl, dflt_st, dflt_str, dflt_int, dflt_bool] at h8
    exact absurd h8 (by decide)
  · try simp only [decide_eq_false_iff_not] at h8
    try simp only [Int.toNat_natCast, dflt_sl, dflt_st, dflt_str, dflt_int, dflt_bool] at h8
    refine acode_seq ?_
    refine acode_region ?_
    refine acode_cond rfl (fun h38 => ?_) (fun h38 => ?_)
    · try simp only [decide_eq_true_eq] at h38
      try simp only [Int.toNat_natCast, dflt_sl, dflt_st, dflt_str, dflt_int, dflt_bool] at h38
      refine acode_seq ?_
      refine acode_region ?_
      refine Or.inr (Or.inl (Exists.intro [] (Exists.intro [0, 1, 2, 3, 4] (Exists.intro _ (Exists.intro _ (Exists.intro _ (Exists.intro _ (Exists.intro _ (And.intro (end_ok hf (hb.mono (by decide))) (And.intro rfl (And.intro (And.intro (And.intro rfl rfl) (And.intro (And.intro rfl rfl) (And.intro (And.intro rfl rfl) (And.intro (And.intro rfl rfl) (And.intro (And.intro rfl rfl) True.intro))))) (And.intro rfl ?_))))))))))))
      refine acode_ret ?_
      exact ⟨rfl, ⟨rfl, rfl, rfl, rfl, rfl⟩, rfl⟩
    · try simp only [decide_eq_false_iff_not] at h38
      try simp only [Int.toNat_natCast, dflt_sl, dflt_st, dflt_str, dflt_int, dflt_bool] at h38
      exact absurd trivial h38
theorem ahead_endf {p : PSt} {l : Lne} {at_ n : Int} (hb : PB p 900000) (hf : endS p = .inl (at_, n)) : ACallO Tryd.prog 68 [.one (.own 0 0), .agg (toL rLne l), ii .i64 1] (psO p) 5 (.one (errF at_ n)) [] 5 := by
  refine acallo_of (rs := [6]) Tryd.func68 rfl rfl rfl teOk (by decide) rfl ?_
  refine acode_seq ?_
  refine acode_region ?_
  refine acode_seq ?_
  refine acode_seq ?_
  refine acode_region ?_
  refine acode_block ?_
  refine acode_seq ?_
  refine acode_region ?_
  refine acode_cond rfl (fun h8 => ?_) (fun h8 => ?_)
  · try simp only [decide_eq_true_eq] at h8
    try simp only [Int.toNat_natCast, dflt_sl, dflt_st, dflt_str, dflt_int, dflt_bool] at h8
    exact absurd h8 (by decide)
  · try simp only [decide_eq_false_iff_not] at h8
    try simp only [Int.toNat_natCast, dflt_sl, dflt_st, dflt_str, dflt_int, dflt_bool] at h8
    refine acode_seq ?_
    refine acode_region ?_
    refine acode_cond rfl (fun h38 => ?_) (fun h38 => ?_)
    · try simp only [decide_eq_true_eq] at h38
      try simp only [Int.toNat_natCast, dflt_sl, dflt_st, dflt_str, dflt_int, dflt_bool] at h38
      refine acode_seq ?_
      refine acode_region ?_
      refine Or.inr (Or.inl (Exists.intro [] (Exists.intro [0, 1, 2, 3, 4] (Exists.intro _ (Exists.intro _ (Exists.intro _ (Exists.intro _ (Exists.intro _ (And.intro (end_err hf (hb.mono (by decide))) (And.intro rfl (And.intro (And.intro (And.intro rfl rfl) (And.intro (And.intro rfl rfl) (And.intro (And.intro rfl rfl) (And.intro (And.intro rfl rfl) (And.intro (And.intro rfl rfl) True.intro))))) (And.intro rfl ?_))))))))))))
      refine acode_ret ?_
      exact ⟨rfl, trivial, rfl⟩
    · try simp only [decide_eq_false_iff_not] at h38
      try simp only [Int.toNat_natCast, dflt_sl, dflt_st, dflt_str, dflt_int, dflt_bool] at h38
      exact absurd trivial h38
theorem ahead_flush {p q : PSt} {l : Lne} {k : Int} (h3 : k ≠ 3) (h1 : k ≠ 1) (hb : PB p 900000) (hf : flushS p = .inr q) : ACallO Tryd.prog 68 [.one (.own 0 0), .agg (toL rLne l), ii .i64 k] (psO p) 5 (.one (.lit .nilIface)) (psO q) 5 := by
  refine acallo_of (rs := [6]) Tryd.func68 rfl rfl rfl teOk (by decide) rfl ?_
  refine acode_seq ?_
  refine acode_region ?_
  refine acode_seq ?_
  refine acode_seq ?_
  refine acode_region ?_
  refine acode_block ?_
  refine acode_seq ?_
  refine acode_region ?_
  refine acode_cond rfl (fun h8 => ?_) (fun h8 => ?_)
  · try simp only [decide_eq_true_eq] at h8
    try simp only [Int.toNat_natCast, dflt_sl, dflt_st, dflt_str, dflt_int, dflt_bool] at h8
    exact absurd h8 h3
  · try simp only [decide_eq_false_iff_not] at h8
    try simp only [Int.toNat_natCast, dflt_sl, dflt_st, dflt_str, dflt_int, dflt_bool] at h8
    refine acode_seq ?_
    refine acode_region ?_
    refine acode_cond rfl (fun h38 => ?_) (fun h38 => ?_)
    · try simp only [decide_eq_true_eq] at h38
      try simp only [Int.toNat_natCast, dflt_sl, dflt_st, dflt_str, dflt_int, dflt_bool] at h38
      exact absurd h38 h1
    · try simp only [decide_eq_false_iff_not] at h38
      try simp only [Int.toNat_natCast, dflt_sl, dflt_st, dflt_str, dflt_int, dflt_bool] at h38
      refine acode_skip ?_
      refine acode_seq ?_
      refine acode_region ?_
      refine Or.inr (Or.inl (Exists.intro [] (Exists.intro [0, 1, 2, 3, 4] (Exists.intro _ (Exists.intro _ (Exists.intro _ (Exists.intro _ (Exists.intro _ (And.intro (flush_ok hf (hb.mono (by decide))) (And.intro rfl (And.intro (And.intro (And.intro rfl rfl) (And.intro (And.intro rfl rfl) (And.intro (And.intro rfl rfl) (And.intro (And.intro rfl rfl) (And.intro (And.intro rfl rfl) True.intro))))) (And.intro rfl ?_))))))))))))
      refine acode_ret ?_
      exact ⟨rfl, ⟨rfl, rfl, rfl, rfl, rfl⟩, rfl⟩
theorem ahead_flushf {p : PSt} {l : Lne} {k at_ n : Int} (h3 : k ≠ 3) (h1 : k ≠ 1) (hb : PB p 900000) (hf : flushS p = .inl (at_, n)) : ACallO Tryd.prog 68 [.one (.own 0 0), .agg (toL rLne l), ii .i64 k] (psO p) 5 (.one (errF at_ n)) [] 5 := by
  refine acallo_of (rs := [6]) Tryd.func68 rfl rfl rfl teOk (by decide) rfl ?_
  refine acode_seq ?_
  refine acode_region ?_
  refine acode_seq ?_
  refine acode_seq ?_
  refine acode_region ?_
  refine acode_block ?_
  refine acode_seq ?_
  refine acode_region ?_
  refine acode_cond rfl (fun h8 => ?_) (fun h8 => ?_)
  · try simp only [decide_eq_true_eq] at h8
    try simp only [Int.toNat_natCast, dflt_sl, dflt_st, dflt_str, dflt_int, dflt_bool] at h8
    exact absurd h8 h3
  · try simp only [decide_eq_false_iff_not] at h8
    try simp only [Int.toNat_natCast, dflt_sl, dflt_st, dflt_str, dflt_int, dflt_bool] at h8
    refine acode_seq ?_
    refine acode_region ?_
    refine acode_cond rfl (fun h38 => ?_) (fun h38 => ?_)
    · try simp only [decide_eq_true_eq] at h38
      try simp only [Int.toNat_natCast, dflt_sl, dflt_st, dflt_str, dflt_int, dflt_bool] at h38
      exact absurd h38 h1
    · try simp only [decide_eq_false_iff_not] at h38
      try simp only [Int.toNat_natCast, dflt_sl, dflt_st, dflt_str, dflt_int, dflt_bool] at h38
      refine acode_skip ?_
      refine acode_seq ?_
      refine acode_region ?_
      refine Or.inr (Or.inl (Exists.intro [] (Exists.intro [0, 1, 2, 3, 4] (Exists.intro _ (Exists.intro _ (Exists.intro _ (Exists.intro _ (Exists.intro _ (And.intro (flush_err hf (hb.mono (by decide))) (And.intro rfl (And.intro (And.intro (And.intro rfl rfl) (And.intro (And.intro rfl rfl) (And.intro (And.intro rfl rfl) (And.intro (And.intro rfl rfl) (And.intro (And.intro rfl rfl) True.intro))))) (And.intro rfl ?_))))))))))))
      refine acode_ret ?_
      exact ⟨rfl, trivial, rfl⟩
theorem ahead_ok {p q : PSt} {l : Lne} {k : Int} (h : aheadS p l k = .inr q) (hb : PB p 900000) (hs : l.2.2.1.size ≤ 90000) : ACallO Tryd.prog 68 [.one (.own 0 0), .agg (toL rLne l), ii .i64 k] (psO p) 5 (.one (.lit .nilIface)) (psO q) 5 := by
  unfold aheadS at h
  split at h
  · rename_i e
    subst e
    split at h
    · cases h
    · rename_i h0
      split at h
      · rename_i he; cases h; exact ahead_more h0 he (hb.mono (by decide))
      · rename_i he; exact ahead_last h0 (by simpa using he) hb hs h
  · rename_i h3
    split at h
    · rename_i e; subst e; exact ahead_end hb h
    · rename_i h1; exact ahead_flush h3 h1 hb h
theorem ahead_err {p : PSt} {l : Lne} {k at_ n : Int} (h : aheadS p l k = .inl (at_, n)) (hb : PB p 900000) (hs : l.2.2.1.size ≤ 90000) : ACallO Tryd.prog 68 [.one (.own 0 0), .agg (toL rLne l), ii .i64 k] (psO p) 5 (.one (errF at_ n)) [] 5 := by
  unfold aheadS at h
  split at h
  · rename_i e
    subst e
    split at h
    · rename_i h0; cases h; exact ahead_none l h0
    · rename_i h0
      split at h
      · cases h
      · rename_i he; exact ahead_fail h0 (by simpa using he) hb hs h
  · rename_i h3
    split at h
    · rename_i e; subst e; exact ahead_endf hb h
    · rename_i h1; exact ahead_flushf h3 h1 hb h
theorem take_err1 {p : PSt} {l : Lne} {at_ n : Int} (h : aheadS p l (kindL (ls l.2.2.1)) = .inl (at_, n)) (hb : PB p 900000) (hs : l.2.2.1.size ≤ 90000) : ACallO Tryd.prog 50 [.one (.own 0 0), .agg (toL rLne l)] (psO p) 5 (.one (errF at_ n)) [] 5 := by
  refine acallo_of (rs := [4]) Tryd.func50 rfl rfl rfl teOk (by decide) rfl ?_
  refine acode_seq ?_
  refine acode_region ?_
  refine acode_seq ?_
  refine acode_region ?_
  refine Or.inl ?_
  refine And.intro (rfl) ?_
  refine Exists.intro _ (And.intro (kind_c l.2.2.1 (Nat.le_trans hs (by decide))) ?_)
  refine acode_seq ?_
  refine acode_seq ?_
  refine acode_region ?_
  refine Or.inr (Or.inl (Exists.intro [] (Exists.intro [0, 1, 2, 3, 4] (Exists.intro _ (Exists.intro _ (Exists.intro _ (Exists.intro _ (Exists.intro _ (And.intro (ahead_err h hb hs) (And.intro rfl (And.intro (And.intro (And.intro rfl rfl) (And.intro (And.intro rfl rfl) (And.intro (And.intro rfl rfl) (And.intro (And.intro rfl rfl) (And.intro (And.intro rfl rfl) True.intro))))) (And.intro rfl ?_))))))))))))
  refine acode_seq ?_
  refine acode_region ?_
  refine acode_cond rfl (fun h15 => ?_) (fun h15 => ?_)
  · skip
    refine acode_seq ?_
    refine acode_region ?_
    refine acode_ret ?_
    exact ⟨rfl, trivial, rfl⟩
  · try simp only [decide_eq_true_eq, decide_eq_false_iff_not, Bool.and_eq_true, Bool.not_eq_true', Bool.not_eq_false', Bool.or_eq_false_iff, Bool.or_eq_true, Bool.and_eq_false_iff, Int.not_lt, Int.not_le] at h15
    try simp only [Int.toNat_natCast, dflt_sl, dflt_st, dflt_str, dflt_int, dflt_bool] at h15
    cases h15
theorem take_odd {p q : PSt} {l : Lne} (h : aheadS p l (kindL (ls l.2.2.1)) = .inr q) (hk : kindL (ls l.2.2.1) = 5 ∨ l.2.2.2 = false) (hb : PB p 900000) (hs : l.2.2.1.size ≤ 90000) : ACallO Tryd.prog 50 [.one (.own 0 0), .agg (toL rLne l)] (psO p) 5 (.one (errF l.1 2)) [] 5 := by
  refine acallo_of (rs := [4]) Tryd.func50 rfl rfl rfl teOk (by decide) rfl ?_
  refine acode_seq ?_
  refine acode_region ?_
  refine acode_seq ?_
  refine acode_region ?_
  refine Or.inl ?_
  refine And.intro (rfl) ?_
  refine Exists.intro _ (And.intro (kind_c l.2.2.1 (Nat.le_trans hs (by decide))) ?_)
  refine acode_seq ?_
  refine acode_seq ?_
  refine acode_region ?_
  refine Or.inr (Or.inl (Exists.intro [] (Exists.intro [0, 1, 2, 3, 4] (Exists.intro _ (Exists.intro _ (Exists.intro _ (Exists.intro _ (Exists.intro _ (And.intro (ahead_ok h hb hs) (And.intro rfl (And.intro (And.intro (And.intro rfl rfl) (And.intro (And.intro rfl rfl) (And.intro (And.intro rfl rfl) (And.intro (And.intro rfl rfl) (And.intro (And.intro rfl rfl) True.intro))))) (And.intro rfl ?_))))))))))))
  refine acode_seq ?_
  refine acode_region ?_
  refine acode_cond rfl (fun h15 => ?_) (fun h15 => ?_)
  · try simp only [Bool.not_eq_true'] at h15
    try simp only [Int.toNat_natCast, dflt_sl, dflt_st, dflt_str, dflt_int, dflt_bool] at h15
    cases h15
  · try simp only [Bool.not_eq_false'] at h15
    try simp only [Int.toNat_natCast, dflt_sl, dflt_st, dflt_str, dflt_int, dflt_bool] at h15
    refine acode_skip ?_
    refine acode_seq ?_
    refine acode_block ?_
    refine acode_seq ?_
    refine acode_region ?_
    refine And.intro (fun h => trivial) ?_
    refine And.intro (fun h => ⟨⟨h, trivial⟩, trivial⟩) ?_
    refine And.intro (fun h => ⟨⟨h, trivial⟩, trivial⟩) ?_
    refine And.intro (by first | (intro h; rw [h]; rfl) | (intro h; cases h)) ?_
    refine acode_cond rfl (fun h17 => ?_) (fun h17 => ?_)
    · try simp only [decide_eq_true_eq, Bool.not_eq_true', Bool.or_eq_true] at h17
      try simp only [Int.toNat_natCast, dflt_sl, dflt_st, dflt_str, dflt_int, dflt_bool] at h17
      refine acode_seq ?_
      refine acode_region ?_
      refine Or.inl ?_
      refine And.intro (rfl) ?_
      refine Exists.intro _ (And.intro (fault_c l.1 2) ?_)
      refine acode_ret ?_
      exact ⟨rfl, trivial, rfl⟩
    · try simp only [decide_eq_false_iff_not, Bool.not_eq_false', Bool.or_eq_false_iff] at h17
      try simp only [Int.toNat_natCast, dflt_sl, dflt_st, dflt_str, dflt_int, dflt_bool] at h17
      exact absurd h17 (by rcases hk with hk | hk <;> simp [hk])
theorem take_blank {p q : PSt} {l : Lne} (h : aheadS p l (kindL (ls l.2.2.1)) = .inr q) (hk : kindL (ls l.2.2.1) = 1) (he : l.2.2.2 = true) (hb : PB p 900000) (hq : PB q 2000000) (hs : l.2.2.1.size ≤ 90000) : ACallO Tryd.prog 50 [.one (.own 0 0), .agg (toL rLne l)] (psO p) 5 (.one (.lit .nilIface)) (psO { q with its := q.its ++ [(1, l.2.2.1 ++ ⟨#[10]⟩, [])] }) 5 := by
  have hi := hq.its
  refine acallo_of (rs := [4]) Tryd.func50 rfl rfl rfl teOk (by decide) rfl ?_
  refine acode_seq ?_
  refine acode_region ?_
  refine acode_seq ?_
  refine acode_region ?_
  refine Or.inl ?_
  refine And.intro (rfl) ?_
  refine Exists.intro _ (And.intro (kind_c l.2.2.1 (Nat.le_trans hs (by decide))) ?_)
  refine acode_seq ?_
  refine acode_seq ?_
  refine acode_region ?_
  refine Or.inr (Or.inl (Exists.intro [] (Exists.intro [0, 1, 2, 3, 4] (Exists.intro _ (Exists.intro _ (Exists.intro _ (Exists.intro _ (Exists.intro _ (And.intro (ahead_ok h hb hs) (And.intro rfl (And.intro (And.intro (And.intro rfl rfl) (And.intro (And.intro rfl rfl) (And.intro (And.intro rfl rfl) (And.intro (And.intro rfl rfl) (And.intro (And.intro rfl rfl) True.intro))))) (And.intro rfl ?_))))))))))))
  refine acode_seq ?_
  refine acode_region ?_
  refine acode_cond rfl (fun h15 => ?_) (fun h15 => ?_)
  · try simp only [Bool.not_eq_true'] at h15
    try simp only [Int.toNat_natCast, dflt_sl, dflt_st, dflt_str, dflt_int, dflt_bool] at h15
    cases h15
  · try simp only [Bool.not_eq_false'] at h15
    try simp only [Int.toNat_natCast, dflt_sl, dflt_st, dflt_str, dflt_int, dflt_bool] at h15
    refine acode_skip ?_
    refine acode_seq ?_
    refine acode_block ?_
    refine acode_seq ?_
    refine acode_region ?_
    refine And.intro (fun h => trivial) ?_
    refine And.intro (fun h => ⟨⟨h, trivial⟩, trivial⟩) ?_
    refine And.intro (fun h => ⟨⟨h, trivial⟩, trivial⟩) ?_
    refine And.intro (by first | (intro h; rw [h]; rfl) | (intro h; cases h)) ?_
    refine acode_cond rfl (fun h17 => ?_) (fun h17 => ?_)
    · try simp only [decide_eq_true_eq, Bool.not_eq_true', Bool.or_eq_true] at h17
      try simp only [Int.toNat_natCast, dflt_sl, dflt_st, dflt_str, dflt_int, dflt_bool] at h17
      exact absurd h17 (by simp [hk, he])
    · try simp only [decide_eq_false_iff_not, Bool.not_eq_false', Bool.or_eq_false_iff] at h17
      try simp only [Int.toNat_natCast, dflt_sl, dflt_st, dflt_str, dflt_int, dflt_bool] at h17
      refine acode_seq ?_
      refine acode_region ?_
      refine acode_cond rfl (fun h29 => ?_) (fun h29 => ?_)
      · try simp only [decide_eq_true_eq] at h29
        try simp only [Int.toNat_natCast, dflt_sl, dflt_st, dflt_str, dflt_int, dflt_bool] at h29
        refine acode_seq ?_
        refine acode_ord rfl ?_
        refine aord_light 0 rfl rfl rfl (by kernel_rfl) ?_
        refine aord_light 1 rfl rfl rfl (by kernel_rfl) ?_
        refine aord_light 2 rfl rfl rfl (by kernel_rfl) ?_
        refine aord_light 3 rfl rfl rfl (by kernel_rfl) ?_
        refine aord_light 5 rfl rfl rfl (by kernel_rfl) ?_
        refine aord_all [4, 6] (by kernel_rfl) rfl ?_
        refine And.intro ?_ ?_
        · refine aord_all [6] (by kernel_rfl) rfl ?_
          refine aord_light 7 rfl rfl rfl (by kernel_rfl) ?_
          refine And.intro (by (have hk0 : ByteArray.size { data := #[10] } = 1 := rfl; first | (unfold maxLen; omega) | (simp only [ByteArray.size_append]; omega) | (unfold maxLen; (try simp only [ByteArray.size_append]); omega))) ?_
          refine aord_all [8] (by kernel_rfl) rfl ?_
          refine aord_all [9] (by kernel_rfl) rfl ?_
          refine aord_all [10] (by kernel_rfl) rfl ?_
          refine And.intro (by first | exact app_le (by first | omega | (simp only [List.length_cons, List.length_nil]; omega) | (simp; omega)) (by decide) | omega | assumption | decide | (simp only [Int.toNat_natCast, dflt_sl, dflt_st, dflt_str, dflt_int, dflt_bool]; omega) | (simp <;> omega)) ?_
          refine aord_light 11 rfl rfl rfl (by kernel_rfl) ?_
          refine aord_light 12 rfl rfl rfl (by kernel_rfl) ?_
          refine aord_all [13] (by kernel_rfl) rfl ?_
          refine aord_done (by kernel_rfl) ?_
          refine acode_seq ?_
          refine acode_region ?_
          refine acode_ret ?_
          exact ⟨rfl, ⟨rfl, rfl, rfl, rfl, rfl⟩, rfl⟩
        · refine aord_light 7 rfl rfl rfl (by kernel_rfl) ?_
          refine And.intro (by (have hk0 : ByteArray.size { data := #[10] } = 1 := rfl; first | (unfold maxLen; omega) | (simp only [ByteArray.size_append]; omega) | (unfold maxLen; (try simp only [ByteArray.size_append]); omega))) ?_
          refine aord_all [4, 8] (by kernel_rfl) rfl ?_
          refine And.intro ?_ ?_
          · refine aord_all [8] (by kernel_rfl) rfl ?_
            refine aord_all [9] (by kernel_rfl) rfl ?_
            refine aord_all [10] (by kernel_rfl) rfl ?_
            refine And.intro (by first | exact app_le (by first | omega | (simp only [List.length_cons, List.length_nil]; omega) | (simp; omega)) (by decide) | omega | assumption | decide | (simp only [Int.toNat_natCast, dflt_sl, dflt_st, dflt_str, dflt_int, dflt_bool]; omega) | (simp <;> omega)) ?_
            refine aord_light 11 rfl rfl rfl (by kernel_rfl) ?_
            refine aord_light 12 rfl rfl rfl (by kernel_rfl) ?_
            refine aord_all [13] (by kernel_rfl) rfl ?_
            refine aord_done (by kernel_rfl) ?_
            refine acode_seq ?_
            refine acode_region ?_
            refine acode_ret ?_
            exact ⟨rfl, ⟨rfl, rfl, rfl, rfl, rfl⟩, rfl⟩
          · refine aord_all [4, 9] (by kernel_rfl) rfl ?_
            refine And.intro ?_ ?_
            · refine aord_all [9] (by kernel_rfl) rfl ?_
              refine aord_all [10] (by kernel_rfl) rfl ?_
              refine And.intro (by first | exact app_le (by first | omega | (simp only [List.length_cons, List.length_nil]; omega) | (simp; omega)) (by decide) | omega | assumption | decide | (simp only [Int.toNat_natCast, dflt_sl, dflt_st, dflt_str, dflt_int, dflt_bool]; omega) | (simp <;> omega)) ?_
              refine aord_light 11 rfl rfl rfl (by kernel_rfl) ?_
              refine aord_light 12 rfl rfl rfl (by kernel_rfl) ?_
              refine aord_all [13] (by kernel_rfl) rfl ?_
              refine aord_done (by kernel_rfl) ?_
              refine acode_seq ?_
              refine acode_region ?_
              refine acode_ret ?_
              exact ⟨rfl, ⟨rfl, rfl, rfl, rfl, rfl⟩, rfl⟩
            · refine aord_all [4] (by kernel_rfl) rfl ?_
              refine aord_all [10] (by kernel_rfl) rfl ?_
              refine And.intro (by first | exact app_le (by first | omega | (simp only [List.length_cons, List.length_nil]; omega) | (simp; omega)) (by decide) | omega | assumption | decide | (simp only [Int.toNat_natCast, dflt_sl, dflt_st, dflt_str, dflt_int, dflt_bool]; omega) | (simp <;> omega)) ?_
              refine aord_light 11 rfl rfl rfl (by kernel_rfl) ?_
              refine aord_light 12 rfl rfl rfl (by kernel_rfl) ?_
              refine aord_all [13] (by kernel_rfl) rfl ?_
              refine aord_done (by kernel_rfl) ?_
              refine acode_seq ?_
              refine acode_region ?_
              refine acode_ret ?_
              exact ⟨rfl, ⟨rfl, rfl, rfl, rfl, rfl⟩, rfl⟩
      · try simp only [decide_eq_false_iff_not] at h29
        try simp only [Int.toNat_natCast, dflt_sl, dflt_st, dflt_str, dflt_int, dflt_bool] at h29
        exact absurd hk h29
theorem take_pair {p q : PSt} {l : Lne} (h : aheadS p l (kindL (ls l.2.2.1)) = .inr q) (hk : kindL (ls l.2.2.1) = 4) (he : l.2.2.2 = true) (hb : PB p 900000) (hq : PB q 1000000) (hs : l.2.2.1.size ≤ 90000) : ACallO Tryd.prog 50 [.one (.own 0 0), .agg (toL rLne l)] (psO p) 5 (.one (.lit .nilIface)) (psO { beginS q l with blk := q.blk ++ [l.2.2.1] }) 5 := by
  have hi : (beginS q l).blk.length ≤ 1000000 := hq.blk
  refine acallo_of (rs := [4]) Tryd.func50 rfl rfl rfl teOk (by decide) rfl ?_
  refine acode_seq ?_
  refine acode_region ?_
  refine acode_seq ?_
  refine acode_region ?_
  refine Or.inl ?_
  refine And.intro (rfl) ?_
  refine Exists.intro _ (And.intro (kind_c l.2.2.1 (Nat.le_trans hs (by decide))) ?_)
  refine acode_seq ?_
  refine acode_seq ?_
  refine acode_region ?_
  refine Or.inr (Or.inl (Exists.intro [] (Exists.intro [0, 1, 2, 3, 4] (Exists.intro _ (Exists.intro _ (Exists.intro _ (Exists.intro _ (Exists.intro _ (And.intro (ahead_ok h hb hs) (And.intro rfl (And.intro (And.intro (And.intro rfl rfl) (And.intro (And.intro rfl rfl) (And.intro (And.intro rfl rfl) (And.intro (And.intro rfl rfl) (And.intro (And.intro rfl rfl) True.intro))))) (And.intro rfl ?_))))))))))))
  refine acode_seq ?_
  refine acode_region ?_
  refine acode_cond rfl (fun h15 => ?_) (fun h15 => ?_)
  · try simp only [Bool.not_eq_true'] at h15
    try simp only [Int.toNat_natCast, dflt_sl, dflt_st, dflt_str, dflt_int, dflt_bool] at h15
    cases h15
  · try simp only [Bool.not_eq_false'] at h15
    try simp only [Int.toNat_natCast, dflt_sl, dflt_st, dflt_str, dflt_int, dflt_bool] at h15
    refine acode_skip ?_
    refine acode_seq ?_
    refine acode_block ?_
    refine acode_seq ?_
    refine acode_region ?_
    refine And.intro (fun h => trivial) ?_
    refine And.intro (fun h => ⟨⟨h, trivial⟩, trivial⟩) ?_
    refine And.intro (fun h => ⟨⟨h, trivial⟩, trivial⟩) ?_
    refine And.intro (by first | (intro h; rw [h]; rfl) | (intro h; cases h)) ?_
    refine acode_cond rfl (fun h17 => ?_) (fun h17 => ?_)
    · try simp only [decide_eq_true_eq, Bool.not_eq_true', Bool.or_eq_true] at h17
      try simp only [Int.toNat_natCast, dflt_sl, dflt_st, dflt_str, dflt_int, dflt_bool] at h17
      exact absurd h17 (by simp [hk, he])
    · try simp only [decide_eq_false_iff_not, Bool.not_eq_false', Bool.or_eq_false_iff] at h17
      try simp only [Int.toNat_natCast, dflt_sl, dflt_st, dflt_str, dflt_int, dflt_bool] at h17
      refine acode_seq ?_
      refine acode_region ?_
      refine acode_cond rfl (fun h29 => ?_) (fun h29 => ?_)
      · try simp only [decide_eq_true_eq] at h29
        try simp only [Int.toNat_natCast, dflt_sl, dflt_st, dflt_str, dflt_int, dflt_bool] at h29
        exact absurd h29 (by rw [hk]; decide)
      · try simp only [decide_eq_false_iff_not] at h29
        try simp only [Int.toNat_natCast, dflt_sl, dflt_st, dflt_str, dflt_int, dflt_bool] at h29
        refine acode_seq ?_
        refine acode_region ?_
        refine acode_cond rfl (fun h45 => ?_) (fun h45 => ?_)
        · try simp only [decide_eq_true_eq] at h45
          try simp only [Int.toNat_natCast, dflt_sl, dflt_st, dflt_str, dflt_int, dflt_bool] at h45
          refine acode_region ?_
          refine Or.inr (Or.inl (Exists.intro [] (Exists.intro [0, 1, 2, 3, 4] (Exists.intro _ (Exists.intro _ (Exists.intro _ (Exists.intro _ (Exists.intro _ (And.intro (begin_c q l hq) (And.intro rfl (And.intro (And.intro (And.intro rfl rfl) (And.intro (And.intro rfl rfl) (And.intro (And.intro rfl rfl) (And.intro (And.intro rfl rfl) (And.intro (And.intro rfl rfl) True.intro))))) (And.intro rfl ?_))))))))))))
          refine acode_seq ?_
          refine acode_ord rfl ?_
          refine aord_light 0 rfl rfl rfl (by kernel_rfl) ?_
          refine aord_light 1 rfl rfl rfl (by kernel_rfl) ?_
          refine aord_light 2 rfl rfl rfl (by kernel_rfl) ?_
          refine aord_light 3 rfl rfl rfl (by kernel_rfl) ?_
          refine aord_light 5 rfl rfl rfl (by kernel_rfl) ?_
          refine aord_all [4, 6] (by kernel_rfl) rfl ?_
          refine And.intro ?_ ?_
          · refine aord_all [6] (by kernel_rfl) rfl ?_
            refine aord_all [7] (by kernel_rfl) rfl ?_
            refine aord_all [8] (by kernel_rfl) rfl ?_
            refine And.intro (by first | exact app_le (by first | omega | (simp only [List.length_cons, List.length_nil]; omega) | (simp; omega)) (by decide) | omega | assumption | decide | (simp only [Int.toNat_natCast, dflt_sl, dflt_st, dflt_str, dflt_int, dflt_bool]; omega) | (simp <;> omega)) ?_
            refine aord_light 9 rfl rfl rfl (by kernel_rfl) ?_
            refine aord_light 10 rfl rfl rfl (by kernel_rfl) ?_
            refine aord_all [11] (by kernel_rfl) rfl ?_
            refine aord_done (by kernel_rfl) ?_
            refine acode_seq ?_
            refine acode_region ?_
            refine acode_ret ?_
            exact ⟨rfl, ⟨rfl, rfl, rfl, rfl, rfl⟩, rfl⟩
          · refine aord_all [4, 7] (by kernel_rfl) rfl ?_
            refine And.intro ?_ ?_
            · refine aord_all [7] (by kernel_rfl) rfl ?_
              refine aord_all [8] (by kernel_rfl) rfl ?_
              refine And.intro (by first | exact app_le (by first | omega | (simp only [List.length_cons, List.length_nil]; omega) | (simp; omega)) (by decide) | omega | assumption | decide | (simp only [Int.toNat_natCast, dflt_sl, dflt_st, dflt_str, dflt_int, dflt_bool]; omega) | (simp <;> omega)) ?_
              refine aord_light 9 rfl rfl rfl (by kernel_rfl) ?_
              refine aord_light 10 rfl rfl rfl (by kernel_rfl) ?_
              refine aord_all [11] (by kernel_rfl) rfl ?_
              refine aord_done (by kernel_rfl) ?_
              refine acode_seq ?_
              refine acode_region ?_
              refine acode_ret ?_
              exact ⟨rfl, ⟨rfl, rfl, rfl, rfl, rfl⟩, rfl⟩
            · refine aord_all [4] (by kernel_rfl) rfl ?_
              refine aord_all [8] (by kernel_rfl) rfl ?_
              refine And.intro (by first | exact app_le (by first | omega | (simp only [List.length_cons, List.length_nil]; omega) | (simp; omega)) (by decide) | omega | assumption | decide | (simp only [Int.toNat_natCast, dflt_sl, dflt_st, dflt_str, dflt_int, dflt_bool]; omega) | (simp <;> omega)) ?_
              refine aord_light 9 rfl rfl rfl (by kernel_rfl) ?_
              refine aord_light 10 rfl rfl rfl (by kernel_rfl) ?_
              refine aord_all [11] (by kernel_rfl) rfl ?_
              refine aord_done (by kernel_rfl) ?_
              refine acode_seq ?_
              refine acode_region ?_
              refine acode_ret ?_
              exact ⟨rfl, ⟨rfl, rfl, rfl, rfl, rfl⟩, rfl⟩
        · try simp only [decide_eq_false_iff_not] at h45
          try simp only [Int.toNat_natCast, dflt_sl, dflt_st, dflt_str, dflt_int, dflt_bool] at h45
          exact absurd hk h45
theorem take_more {p q : PSt} {l : Lne} (h : aheadS p l (kindL (ls l.2.2.1)) = .inr q) (h5 : kindL (ls l.2.2.1) ≠ 5) (h1 : kindL (ls l.2.2.1) ≠ 1) (h4 : kindL (ls l.2.2.1) ≠ 4) (he : l.2.2.2 = true) (hb : PB p 900000) (hq : PB q 1000000) (hs : l.2.2.1.size ≤ 90000) : ACallO Tryd.prog 50 [.one (.own 0 0), .agg (toL rLne l)] (psO p) 5 (.one (.lit .nilIface)) (psO { q with blk := q.blk ++ [l.2.2.1] }) 5 := by
  have hi := hq.blk
  refine acallo_of (rs := [4]) Tryd.func50 rfl rfl rfl teOk (by decide) rfl ?_
  refine acode_seq ?_
  refine acode_region ?_
  refine acode_seq ?_
  refine acode_region ?_
  refine Or.inl ?_
  refine And.intro (rfl) ?_
  refine Exists.intro _ (And.intro (kind_c l.2.2.1 (Nat.le_trans hs (by decide))) ?_)
  refine acode_seq ?_
  refine acode_seq ?_
  refine acode_region ?_
  refine Or.inr (Or.inl (Exists.intro [] (Exists.intro [0, 1, 2, 3, 4] (Exists.intro _ (Exists.intro _ (Exists.intro _ (Exists.intro _ (Exists.intro _ (And.intro (ahead_ok h hb hs) (And.intro rfl (And.intro (And.intro (And.intro rfl rfl) (And.intro (And.intro rfl rfl) (And.intro (And.intro rfl rfl) (And.intro (And.intro rfl rfl) (And.intro (And.intro rfl rfl) True.intro))))) (And.intro rfl ?_))))))))))))
  refine acode_seq ?_
  refine acode_region ?_
  refine acode_cond rfl (fun h15 => ?_) (fun h15 => ?_)
  · try simp only [Bool.not_eq_true'] at h15
    try simp only [Int.toNat_natCast, dflt_sl, dflt_st, dflt_str, dflt_int, dflt_bool] at h15
    cases h15
  · try simp only [Bool.not_eq_false'] at h15
    try simp only [Int.toNat_natCast, dflt_sl, dflt_st, dflt_str, dflt_int, dflt_bool] at h15
    refine acode_skip ?_
    refine acode_seq ?_
    refine acode_block ?_
    refine acode_seq ?_
    refine acode_region ?_
    refine And.intro (fun h => trivial) ?_
    refine And.intro (fun h => ⟨⟨h, trivial⟩, trivial⟩) ?_
    refine And.intro (fun h => ⟨⟨h, trivial⟩, trivial⟩) ?_
    refine And.intro (by first | (intro h; rw [h]; rfl) | (intro h; cases h)) ?_
    refine acode_cond rfl (fun h17 => ?_) (fun h17 => ?_)
    · try simp only [decide_eq_true_eq, Bool.not_eq_true', Bool.or_eq_true] at h17
      try simp only [Int.toNat_natCast, dflt_sl, dflt_st, dflt_str, dflt_int, dflt_bool] at h17
      exact absurd h17 (by simp [h5, he])
    · try simp only [decide_eq_false_iff_not, Bool.not_eq_false', Bool.or_eq_false_iff] at h17
      try simp only [Int.toNat_natCast, dflt_sl, dflt_st, dflt_str, dflt_int, dflt_bool] at h17
      refine acode_seq ?_
      refine acode_region ?_
      refine acode_cond rfl (fun h29 => ?_) (fun h29 => ?_)
      · try simp only [decide_eq_true_eq] at h29
        try simp only [Int.toNat_natCast, dflt_sl, dflt_st, dflt_str, dflt_int, dflt_bool] at h29
        exact absurd h29 h1
      · try simp only [decide_eq_false_iff_not] at h29
        try simp only [Int.toNat_natCast, dflt_sl, dflt_st, dflt_str, dflt_int, dflt_bool] at h29
        refine acode_seq ?_
        refine acode_region ?_
        refine acode_cond rfl (fun h45 => ?_) (fun h45 => ?_)
        · try simp only [decide_eq_true_eq] at h45
          try simp only [Int.toNat_natCast, dflt_sl, dflt_st, dflt_str, dflt_int, dflt_bool] at h45
          exact absurd h45 h4
        · try simp only [decide_eq_false_iff_not] at h45
          try simp only [Int.toNat_natCast, dflt_sl, dflt_st, dflt_str, dflt_int, dflt_bool] at h45
          refine acode_skip ?_
          refine acode_seq ?_
          refine acode_ord rfl ?_
          refine aord_light 0 rfl rfl rfl (by kernel_rfl) ?_
          refine aord_light 1 rfl rfl rfl (by kernel_rfl) ?_
          refine aord_light 2 rfl rfl rfl (by kernel_rfl) ?_
          refine aord_light 3 rfl rfl rfl (by kernel_rfl) ?_
          refine aord_light 5 rfl rfl rfl (by kernel_rfl) ?_
          refine aord_all [4, 6] (by kernel_rfl) rfl ?_
          refine And.intro ?_ ?_
          · refine aord_all [6] (by kernel_rfl) rfl ?_
            refine aord_all [7] (by kernel_rfl) rfl ?_
            refine aord_all [8] (by kernel_rfl) rfl ?_
            refine And.intro (by first | exact app_le (by first | omega | (simp only [List.length_cons, List.length_nil]; omega) | (simp; omega)) (by decide) | omega | assumption | decide | (simp only [Int.toNat_natCast, dflt_sl, dflt_st, dflt_str, dflt_int, dflt_bool]; omega) | (simp <;> omega)) ?_
            refine aord_light 9 rfl rfl rfl (by kernel_rfl) ?_
            refine aord_light 10 rfl rfl rfl (by kernel_rfl) ?_
            refine aord_all [11] (by kernel_rfl) rfl ?_
            refine aord_done (by kernel_rfl) ?_
            refine acode_seq ?_
            refine acode_region ?_
            refine acode_ret ?_
            exact ⟨rfl, ⟨rfl, rfl, rfl, rfl, rfl⟩, rfl⟩
          · refine aord_all [4, 7] (by kernel_rfl) rfl ?_
            refine And.intro ?_ ?_
            · refine aord_all [7] (by kernel_rfl) rfl ?_
              refine aord_all [8] (by kernel_rfl) rfl ?_
              refine And.intro (by first | exact app_le (by first | omega | (simp only [List.length_cons, List.length_nil]; omega) | (simp; omega)) (by decide) | omega | assumption | decide | (simp only [Int.toNat_natCast, dflt_sl, dflt_st, dflt_str, dflt_int, dflt_bool]; omega) | (simp <;> omega)) ?_
              refine aord_light 9 rfl rfl rfl (by kernel_rfl) ?_
              refine aord_light 10 rfl rfl rfl (by kernel_rfl) ?_
              refine aord_all [11] (by kernel_rfl) rfl ?_
              refine aord_done (by kernel_rfl) ?_
              refine acode_seq ?_
              refine acode_region ?_
              refine acode_ret ?_
              exact ⟨rfl, ⟨rfl, rfl, rfl, rfl, rfl⟩, rfl⟩
            · refine aord_all [4] (by kernel_rfl) rfl ?_
              refine aord_all [8] (by kernel_rfl) rfl ?_
              refine And.intro (by first | exact app_le (by first | omega | (simp only [List.length_cons, List.length_nil]; omega) | (simp; omega)) (by decide) | omega | assumption | decide | (simp only [Int.toNat_natCast, dflt_sl, dflt_st, dflt_str, dflt_int, dflt_bool]; omega) | (simp <;> omega)) ?_
              refine aord_light 9 rfl rfl rfl (by kernel_rfl) ?_
              refine aord_light 10 rfl rfl rfl (by kernel_rfl) ?_
              refine aord_all [11] (by kernel_rfl) rfl ?_
              refine aord_done (by kernel_rfl) ?_
              refine acode_seq ?_
              refine acode_region ?_
              refine acode_ret ?_
              exact ⟨rfl, ⟨rfl, rfl, rfl, rfl, rfl⟩, rfl⟩
theorem take_ok {p q : PSt} {l : Lne} (h : takeS p l = .inr q) (hb : PB p 800000) (hs : l.2.2.1.size ≤ 90000) : ACallO Tryd.prog 50 [.one (.own 0 0), .agg (toL rLne l)] (psO p) 5 (.one (.lit .nilIface)) (psO q) 5 := by
  unfold takeS at h
  split at h
  · cases h
  · rename_i r e
    have hb' : PB p 900000 := hb.mono (by decide)
    have hr : PB r 1000000 := (aheadS_B hb e).mono (by omega)
    unfold lineS at h
    split at h
    · cases h
    · rename_i h0
      have h5 : kindL (ls l.2.2.1) ≠ 5 := fun e => h0 (.inl e)
      have he : l.2.2.2 = true := by
        cases e : l.2.2.2
        · exact absurd (.inr e) h0
        · rfl
      split at h
      · rename_i h1; cases h; exact take_blank e h1 he hb' (hr.mono (by decide)) hs
      · rename_i h1
        split at h
        · rename_i h4; cases h; exact take_pair e h4 he hb' hr hs
        · rename_i h4; cases h; exact take_more e h5 h1 h4 he hb' hr hs
theorem take_err {p : PSt} {l : Lne} {at_ n : Int} (h : takeS p l = .inl (at_, n)) (hb : PB p 800000) (hs : l.2.2.1.size ≤ 90000) : ACallO Tryd.prog 50 [.one (.own 0 0), .agg (toL rLne l)] (psO p) 5 (.one (errF at_ n)) [] 5 := by
  unfold takeS at h
  split at h
  · rename_i e; cases h; exact take_err1 e (hb.mono (by decide)) hs
  · rename_i r e
    unfold lineS at h
    split at h
    · rename_i h0; cases h; exact take_odd e h0 (hb.mono (by decide)) hs
    · split at h
      · cases h
      · split at h
        · cases h
        · cases h
end Q
end Ab
end Go.Proofs.YtklhlkhlndhepaaDoor
namespace Go.Proofs.YtklhlkhlndhepaaDoor
open Go.RowKit
namespace Ab
set_option maxRecDepth 100000
namespace Q
/-- A text's lines from one on: its number, where it begins, what it says, whether it is ended. -/
def linesR : Nat → Int → Int → List UInt8 → List Lne
  | 0, _, _, _ => []
  | f + 1, tot, no, s => match s with
    | [] => []
    | s => (no, tot - s.length, bytes (Lib.cut s [10]).1, (Lib.cut s [10]).2.2) :: linesR f tot (no + 1) (Lib.cut s [10]).2.1
def linesT (s : ByteArray) : List Lne := linesR s.size s.size 0 (ls s)
def itLs (s : ByteArray) : List (List A) := (linesT s).map fun l => [A.agg (toL rLne l)]
theorem cut_less {r : List UInt8} {c : UInt8} (h : r ≠ []) : (Lib.cut r [c]).2.1.length < r.length := by
  by_cases hm : c ∈ r
  · obtain ⟨a, b, rfl, hn⟩ := List.eq_append_cons_of_mem hm
    rw [cut_at hn, List.length_append, List.length_cons]
    show b.length < _
    omega
  · rw [cut_none hm]
    exact List.length_pos_iff.2 h
theorem le_refl {nx0 : Nat} {tm : Tm} {ob : Obs} {nx : Nat} : Le nx0 tm ob nx tm ob nx := ⟨fun _ _ ρ _ _ hs => ⟨ρ, hs⟩⟩
theorem split_iter (s : ByteArray) (hs : s.size ≤ 1000000) : AIter Tryd.prog 65 [.one (.addr .str s)] (itLs s) := by
  refine aiter_of Tryd.func65 rfl rfl rfl teOk rfl ?_
  intro l ι Pr J U n0 hU hab hy
  refine acodeY_seq ?_
  refine acodeY_seg hab hU rfl ?_
  refine acode_region ?_
  refine ⟨_, _, _, le_refl, ?_⟩
  refine acodeY_seq ?_
  refine acodeY_seg hab hU rfl ?_
  refine acode_region ?_
  refine ⟨_, _, _, le_refl, ?_⟩
  refine acodeY_block ?_
  refine acodeY_loop (κ := Nat × Nat × List UInt8 × ByteArray × Bool) (fun i => i.2.2.1.length ≤ i.1 ∧ i.2.1 + i.1 ≤ s.size ∧ i.2.1 ≤ (linesT s).length ∧ (linesT s).drop i.2.1 = linesR i.1 s.size i.2.1 i.2.2.1) (fun i => i.2.1) (fun i => [(0, .one (.lit (.func (.yield l) #[] #[]))), (1, .one (.addr .str s)), (3, .one (.own 0 0)), (4, is (bytes i.2.2.1))]) (fun i => [(0, .box 96 [.lit (.int .i64 i.2.1), .lit (.int .i64 (s.size - i.2.2.1.length)), .lit (.string i.2.2.2.1), .lit (.bool i.2.2.2.2)])]) 1 (fun i => i.1) (s.size, 0, ls s, ByteArray.empty, false) ⟨by rw [show (ls s).length = s.size from (size_list s).symm]; exact Nat.le_refl _, by simp, Nat.zero_le _, rfl⟩ hab hU (le_of ⟨rfl, rfl, rfl, by rw [bytes_ls]; rfl⟩ ?_ rfl) rfl ?_
  · show leO _ [(0, Ob.box 96 [_, C.lit (.int .i64 ((s.size : Int) - ((ls s).length : Nat))), _, _])]
    rw [show (ls s).length = s.size from (size_list s).symm, Int.sub_self]
    exact rfl
  intro i hi
  obtain ⟨f, k, r, t0, e0⟩ := i
  obtain ⟨h1, h2, h3, h4⟩ := hi
  simp only at h1 h2 h3 h4
  have hrs : r.length ≤ s.size := Nat.le_trans h1 (by omega)
  refine acodeY_seq ?_
  refine acodeY_seq ?_
  refine acodeY_seg hab hU rfl ?_
  refine acode_region ?_
  refine ⟨_, _, _, le_refl, ?_⟩
  refine acodeY_cond rfl (fun hc => ?_) (fun hc => ?_)
  · simp only at hc
    have hne : r ≠ [] := fun e => by
      have e' : bytes r = ⟨#[]⟩ := by rw [e]; rfl
      rw [e'] at hc
      simp at hc
    obtain ⟨f', hf⟩ : ∃ f', f = f' + 1 := ⟨f - 1, by have := List.length_pos_iff.2 hne; omega⟩
    subst hf
    have hd : (linesT s).drop k = ((k : Int), (s.size : Int) - r.length, bytes (Lib.cut r [10]).1, (Lib.cut r [10]).2.2) :: linesR f' s.size (k + 1 : Nat) (Lib.cut r [10]).2.1 := by
      rw [h4]
      cases r with
      | nil => exact absurd rfl hne
      | cons a r => rfl
    have hk : k < (linesT s).length := by
      rcases Nat.lt_or_ge k (linesT s).length with h | h
      · exact h
      · rw [List.drop_eq_nil_of_le h] at hd; cases hd
    have hget : (linesT s)[k] = ((k : Int), (s.size : Int) - r.length, bytes (Lib.cut r [10]).1, (Lib.cut r [10]).2.2) := by
      rw [List.drop_eq_getElem_cons hk] at hd
      exact (List.cons.inj hd).1
    have hdrop : (linesT s).drop (k + 1) = linesR f' s.size (k + 1 : Nat) (Lib.cut r [10]).2.1 := by
      rw [List.drop_eq_getElem_cons hk] at hd
      exact (List.cons.inj hd).2
    have hkx : k < (itLs s).length := by unfold itLs; rw [List.length_map]; exact hk
    have hx : (itLs s)[k] = [A.agg (toL rLne ((k : Int), (s.size : Int) - r.length, bytes (Lib.cut r [10]).1, (Lib.cut r [10]).2.2))] := by
      simp only [itLs, List.getElem_map, hget]
    have hcl : (Lib.cut r [10]).2.1.length < r.length := cut_less hne
    have hcc : ACall Tryd.prog 66 [is (bytes r), is ⟨#[10]⟩] (.tup [(false, [.lit (.string (bytes (Lib.cut r [10]).1))]), (false, [.lit (.string (bytes (Lib.cut r [10]).2.1))]), (false, [.lit (.bool (Lib.cut r [10]).2.2)])]) := by
      have := cut_c (bytes r) ⟨#[10]⟩ (by rw [bytes_size]; omega)
      rw [bytes_list] at this
      exact this
    generalize Lib.cut r [10] = c at *
    refine acodeY_skip ?_
    refine acodeY_block ?_
    refine acodeY_seq ?_
    refine acodeY_seg hab hU rfl ?_
    refine acode_region ?_
    refine Or.inl ?_
    refine And.intro (rfl) ?_
    refine Exists.intro _ (And.intro hcc ?_)
    refine ⟨_, _, _, le_refl, ?_⟩
    refine acodeY_seq ?_
    refine acodeY_seq ?_
    refine acodeY_yield (pre := [_, _]) (post := [_]) _ rfl rfl rfl hab hU hy hkx ?_
    refine ⟨_, _, _, le_refl, rfl, ?_, by rw [hx]; rfl, ?_⟩
    · rw [hx]
      rfl
    · intro st
      refine ⟨_, _, _, le_refl, ?_⟩
      refine acodeY_cond rfl (fun ht => ?_) (fun ht => ?_)
      · refine acodeY_ret ?_
        rw [Bool.not_not] at ht
        subst ht
        exact ⟨.inl rfl, fun e => by cases e⟩
      · rw [Bool.not_not] at ht
        subst ht
        refine acodeY_skip ?_
        refine acodeY_seq ?_
        refine acodeY_seg hab hU rfl ?_
        refine acode_region ?_
        refine And.intro (by simp only; omega) ?_
        refine ⟨_, _, _, le_refl, ?_⟩
        refine acodeY_seg hab hU rfl ?_
        refine acode_region ?_
        refine And.intro (by rw [bytes_size]; omega) ?_
        refine ⟨_, _, _, ?_, ⟨(f', k + 1, c.2.1, bytes c.1, c.2.2), ⟨by simp only; omega, by simp only; omega, hk, hdrop⟩, Nat.lt_succ_self _, rfl, rfl, rfl, rfl, rfl⟩⟩
        refine le_of ⟨rfl, rfl, rfl, rfl⟩ ?_ rfl
        show leO _ [(0, Ob.box 96 [C.lit (.int .i64 ((k + 1 : Nat) : Int)), C.lit (.int .i64 ((s.size : Int) - (c.2.1.length : Nat))), C.lit (.string (bytes c.1)), C.lit (.bool c.2.2)])]
        rw [← bytes_size c.2.1]
        exact rfl
  · have hr : r = [] := by
      simp only at hc
      have : bytes r = ⟨#[]⟩ := by simpa using hc
      have := congrArg (fun b => b.data.toList) this
      simpa [bytes_list] using this
    refine acodeY_exit ?_
    rw [hr] at h4
    have h5 : (linesT s).drop k = [] := by rw [h4]; cases f <;> rfl
    have h6 := List.drop_eq_nil_iff.1 h5
    exact ⟨.inr rfl, fun _ => by simp only [itLs, List.length_map]; omega⟩
end Q
end Ab
end Go.Proofs.YtklhlkhlndhepaaDoor
namespace Go.Proofs.YtklhlkhlndhepaaDoor
open Go.RowKit
namespace Ab
set_option maxRecDepth 100000
namespace Q
theorem split_c (s : ByteArray) : ACall Tryd.prog 49 [is s] (.one (.clo 65 (.addr .str s))) := by
  refine acall_of (rs := [2]) Tryd.func49 rfl rfl rfl teOk rfl ?_
  refine acode_seq ?_
  refine acode_region ?_
  refine acode_seq ?_
  refine acode_region ?_
  refine acode_frz [0] ?_
  refine acode_ret ?_
  rfl
def runS (p : PSt) : List Lne → (Int × Int) ⊕ PSt
  | [] => .inr p
  | l :: r => match takeS p l with
    | .inl e => .inl e
    | .inr q => runS q r
def parseS (s : ByteArray) : (Int × Int) ⊕ List Itm := match runS pst0 (linesT s) with
  | .inl e => .inl e
  | .inr p => match endS p with
    | .inl e => .inl e
    | .inr q => .inr q.its
def resP : (Int × Int) ⊕ List Itm → A
  | .inl e => .tup [(false, [.sl rItm []]), (false, [errF e.1 e.2])]
  | .inr l => .tup [(false, [.sl rItm l]), (false, [.lit .nilIface])]
theorem linesR_len : ∀ (f : Nat) (tot no : Int) (s : List UInt8), (linesR f tot no s).length ≤ s.length ∧ ((linesR f tot no s).map (·.2.2.1.size)).sum ≤ s.length
  | 0, _, _, _ => by simp [linesR]
  | f + 1, tot, no, [] => by simp [linesR]
  | f + 1, tot, no, a :: r => by
    obtain ⟨h1, h2⟩ := linesR_len f tot (no + 1) (Lib.cut (a :: r) [10]).2.1
    have h3 : (Lib.cut (a :: r) [10]).2.1.length < (a :: r).length := cut_less (by simp)
    have h4 : (Lib.cut (a :: r) [10]).1.length + (Lib.cut (a :: r) [10]).2.1.length ≤ (a :: r).length := by
      by_cases hm : (10 : UInt8) ∈ a :: r
      · obtain ⟨x, b, e, hn⟩ := List.eq_append_cons_of_mem hm
        rw [e, cut_at hn, List.length_append, List.length_cons]
        show x.length + b.length ≤ _
        omega
      · rw [cut_none hm]
        exact Nat.le_refl _
    unfold linesR
    simp only [List.length_cons, List.map_cons, List.sum_cons, bytes_size] at h3 h4 ⊢
    exact ⟨by omega, by omega⟩
theorem linesT_len (s : ByteArray) : (linesT s).length ≤ s.size ∧ ((linesT s).map (·.2.2.1.size)).sum ≤ s.size := by
  have := linesR_len s.size s.size 0 (ls s)
  rw [show (ls s).length = s.size from (size_list s).symm] at this
  exact this
def prP (L : List Lne) : Bool → Nat → PSt ⊕ (Int × Int) → Prop
  | false, k, .inl p => runS pst0 L = runS p (L.drop k) ∧ ∃ B, PB p B ∧ B + 3 * (L.drop k).length + 2 * ((L.drop k).map (·.2.2.1.size)).sum ≤ 600000
  | true, _, .inr e => runS pst0 L = .inl e
  | _, _, _ => False
def obP : PSt ⊕ (Int × Int) → Obs
  | .inl p => [(0, .box 22 [.lit (.slice none 0 0)]), (1, .box 41 [.lit .nilIface]), (2, .box 91 [.vec 4, .lit (.int .i64 p.frm), .lit (.bool p.full), .vec 5, .vec 6, .vec 7, .lit (.int .i64 p.recs)]), (3, .box 86 [.own 2 0]), (4, .vec 9 .str p.lns), (5, .vec 26 rItm p.its), (6, .vec 9 .str p.blk), (7, .vec 69 rFld p.flds)]
  | .inr e => [(0, .box 22 [.lit (.slice none 0 0)]), (1, .box 41 [errF e.1 e.2])]
theorem prP_next {L : List Lne} {k : Nat} {p q : PSt} {l : Lne} (hk : k < L.length) (hl : L[k] = l) (h : prP L false k (.inl p)) (ht : takeS p l = .inr q) : prP L false (k + 1) (.inl q) := by
  obtain ⟨h1, B, h2, h3⟩ := h
  rw [List.drop_eq_getElem_cons hk, hl] at h1 h3
  simp only [runS, ht] at h1
  simp only [List.length_cons, List.map_cons, List.sum_cons] at h3
  exact ⟨h1, _, takeS_B h2 ht, by omega⟩
theorem prP_stop {L : List Lne} {k : Nat} {p : PSt} {e : Int × Int} {l : Lne} (hk : k < L.length) (hl : L[k] = l) (h : prP L false k (.inl p)) (ht : takeS p l = .inl e) : prP L true (k + 1) (.inr e) := by
  obtain ⟨h1, B, h2, h3⟩ := h
  rw [List.drop_eq_getElem_cons hk, hl] at h1
  simp only [runS, ht] at h1
  exact h1
theorem prP_B {L : List Lne} {k : Nat} {p : PSt} {l : Lne} (hk : k < L.length) (hl : L[k] = l) (h : prP L false k (.inl p)) : PB p 800000 ∧ l.2.2.1.size ≤ 300000 := by
  obtain ⟨h1, B, h2, h3⟩ := h
  rw [List.drop_eq_getElem_cons hk, hl] at h3
  simp only [List.length_cons, List.map_cons, List.sum_cons] at h3
  exact ⟨h2.mono (by omega), by omega⟩
theorem prP_end {L : List Lne} {p : PSt} (h : prP L false L.length (.inl p)) : runS pst0 L = .inr p ∧ PB p 1000000 := by
  obtain ⟨h1, B, h2, h3⟩ := h
  rw [List.drop_length] at h1
  exact ⟨h1, h2.mono (by omega)⟩
theorem linesT_sz {s : ByteArray} {k : Nat} (hk : k < (linesT s).length) : ((linesT s)[k]).2.2.1.size ≤ s.size := by
  have h := (linesT_len s).2
  have h1 : (linesT s) = (linesT s).take k ++ (linesT s)[k] :: (linesT s).drop (k + 1) := by rw [← List.drop_eq_getElem_cons hk, List.take_append_drop]
  rw [h1, List.map_append, List.sum_append, List.map_cons, List.sum_cons] at h
  omega
theorem parse_a (s : ByteArray) (hs : s.size ≤ 60000) : ACall Tryd.prog 32 [is s] (resP (parseS s)) := by
  have hlen := linesT_len s
  refine acall_ofc (rs := [.cell 2 22, .cell 3 41]) Tryd.func32 rfl rfl rfl teOk rfl ?_
  refine acode_seq ?_
  refine acode_region ?_
  refine acode_seq ?_
  refine acode_seq ?_
  refine acode_region ?_
  refine acode_cond rfl (fun h10 => ?_) (fun h10 => ?_)
  · try simp only [decide_eq_true_eq] at h10
    try simp only [Int.toNat_natCast, dflt_sl, dflt_st, dflt_str, dflt_int, dflt_bool] at h10
    omega
  · try simp only [decide_eq_false_iff_not, Int.not_lt] at h10
    try simp only [Int.toNat_natCast, dflt_sl, dflt_st, dflt_str, dflt_int, dflt_bool] at h10
    refine acode_skip ?_
    refine acode_seq ?_
    refine acode_region ?_
    refine acode_seq ?_
    refine acode_seq ?_
    refine acode_nilcell 2 0 9 .str rfl rfl rfl ?_
    refine acode_nilcell 2 3 26 rItm rfl rfl rfl ?_
    refine acode_nilcell 2 4 9 .str rfl rfl rfl ?_
    refine acode_nilcell 2 5 69 rFld rfl rfl rfl ?_
    refine acode_region ?_
    refine Or.inl ?_
    refine And.intro (rfl) ?_
    refine Exists.intro _ (And.intro (split_c s) ?_)
    refine acode_block ?_
    refine acode_range (caps := [.one (.addr .str s)]) (xs := itLs s) [(2, .one (.own 0 0)), (3, .one (.own 1 0)), (4, .one (.own 3 0)), (15, .one (.clo 65 (.addr .str s)))] 8 (prP (linesT s)) obP (fun _ => .ret) (.inl pst0) rfl rfl (split_iter s (by omega)) (le_of ⟨rfl, rfl, rfl, rfl⟩ ⟨rfl, rfl, rfl, rfl, rfl, rfl, rfl, rfl⟩ rfl) ⟨rfl, 0, ⟨Nat.le_refl _, Nat.le_refl _, Nat.le_refl _, Nat.le_refl _, Nat.le_refl _, Nat.le_refl _, Int.le_refl _, Int.le_refl _⟩, by rw [List.drop_zero]; omega⟩ (fun k hk => by simp [itLs]) rfl rfl rfl (fun k i h => by cases i with | inl p => rfl | inr e => exact h.elim) rfl ?_ ?_ ?_
    · intro k i hk hp
      have hk2 : k < (linesT s).length := (by have := hk; unfold itLs at this; rwa [List.length_map] at this)
      rw [show (itLs s)[k] = [A.agg (toL rLne ((linesT s)[k]))] from by simp [itLs]]
      obtain ⟨l, hl⟩ : ∃ l, (linesT s)[k] = l := ⟨_, rfl⟩
      rw [hl]
      cases i with | inr e => exact hp.elim | inl p => ?_
      obtain ⟨hB, hz⟩ := prP_B hk2 hl hp
      have hz2 : l.2.2.1.size ≤ 90000 := (by have h1 := linesT_sz hk2; rw [hl] at h1; omega)
      refine acode_region ?_
      refine acode_block ?_
      refine acode_seq ?_
      rcases ht : takeS p l with ⟨at_, n⟩ | q
      · refine acode_region ?_
        refine Or.inr (Or.inl (Exists.intro [] (Exists.intro [2, 4, 5, 6, 7] (Exists.intro _ (Exists.intro _ (Exists.intro _ (Exists.intro _ (Exists.intro _ (And.intro (take_err ht hB hz2) (And.intro rfl (And.intro (And.intro (And.intro rfl rfl) (And.intro (And.intro rfl rfl) (And.intro (And.intro rfl rfl) (And.intro (And.intro rfl rfl) (And.intro (And.intro rfl rfl) True.intro))))) (And.intro rfl ?_))))))))))))
        refine acode_seq ?_
        refine acode_region ?_
        refine acode_cond rfl (fun h21 => ?_) (fun h21 => ?_)
        · skip
          refine acode_seq ?_
          refine acode_region ?_
          refine acode_ret ?_
          exact ⟨.inr (at_, n), prP_stop hk2 hl hp ht, rfl, le_of trivial ⟨rfl, rfl⟩ rfl⟩
        · try simp only [decide_eq_true_eq, decide_eq_false_iff_not, Bool.and_eq_true, Bool.not_eq_true', Bool.not_eq_false', Bool.or_eq_false_iff, Bool.or_eq_true, Bool.and_eq_false_iff, Int.not_lt, Int.not_le] at h21
          try simp only [Int.toNat_natCast, dflt_sl, dflt_st, dflt_str, dflt_int, dflt_bool] at h21
          cases h21
      · refine acode_region ?_
        refine Or.inr (Or.inl (Exists.intro [] (Exists.intro [2, 4, 5, 6, 7] (Exists.intro _ (Exists.intro _ (Exists.intro _ (Exists.intro _ (Exists.intro _ (And.intro (take_ok ht hB hz2) (And.intro rfl (And.intro (And.intro (And.intro rfl rfl) (And.intro (And.intro rfl rfl) (And.intro (And.intro rfl rfl) (And.intro (And.intro rfl rfl) (And.intro (And.intro rfl rfl) True.intro))))) (And.intro rfl ?_))))))))))))
        refine acode_seq ?_
        refine acode_region ?_
        refine acode_cond rfl (fun h21 => ?_) (fun h21 => ?_)
        · try simp only [Bool.not_eq_true'] at h21
          try simp only [Int.toNat_natCast, dflt_sl, dflt_st, dflt_str, dflt_int, dflt_bool] at h21
          cases h21
        · try simp only [Bool.not_eq_false'] at h21
          try simp only [Int.toNat_natCast, dflt_sl, dflt_st, dflt_str, dflt_int, dflt_bool] at h21
          refine acode_skip ?_
          exact ⟨.inl q, prP_next hk2 hl hp ht, le_of trivial ⟨rfl, rfl, rfl, rfl, rfl, rfl, rfl, rfl⟩ rfl⟩
    · intro i hp
      cases i with | inr e => exact hp.elim | inl p => ?_
      rw [show (itLs s).length = (linesT s).length from by simp [itLs]] at hp
      obtain ⟨hr, hB⟩ := prP_end hp
      refine acode_seq ?_
      refine acode_seq ?_
      rcases he : endS p with ⟨at_, n⟩ | q
      · refine acode_region ?_
        refine Or.inr (Or.inl (Exists.intro [] (Exists.intro [2, 4, 5, 6, 7] (Exists.intro _ (Exists.intro _ (Exists.intro _ (Exists.intro _ (Exists.intro _ (And.intro (end_err he hB) (And.intro rfl (And.intro (And.intro (And.intro rfl rfl) (And.intro (And.intro rfl rfl) (And.intro (And.intro rfl rfl) (And.intro (And.intro rfl rfl) (And.intro (And.intro rfl rfl) True.intro))))) (And.intro rfl ?_))))))))))))
        refine acode_seq ?_
        refine acode_region ?_
        refine acode_cond rfl (fun h26 => ?_) (fun h26 => ?_)
        · skip
          refine acode_seq ?_
          refine acode_region ?_
          refine acode_nilcell 0 0 26 rItm rfl rfl rfl ?_
          refine acode_ret ?_
          rw [show parseS s = .inl (at_, n) from by unfold parseS; rw [hr]; simp only [he]]
          exact rfl
        · try simp only [decide_eq_true_eq, decide_eq_false_iff_not, Bool.and_eq_true, Bool.not_eq_true', Bool.not_eq_false', Bool.or_eq_false_iff, Bool.or_eq_true, Bool.and_eq_false_iff, Int.not_lt, Int.not_le] at h26
          try simp only [Int.toNat_natCast, dflt_sl, dflt_st, dflt_str, dflt_int, dflt_bool] at h26
          cases h26
      · refine acode_region ?_
        refine Or.inr (Or.inl (Exists.intro [] (Exists.intro [2, 4, 5, 6, 7] (Exists.intro _ (Exists.intro _ (Exists.intro _ (Exists.intro _ (Exists.intro _ (And.intro (end_ok he hB) (And.intro rfl (And.intro (And.intro (And.intro rfl rfl) (And.intro (And.intro rfl rfl) (And.intro (And.intro rfl rfl) (And.intro (And.intro rfl rfl) (And.intro (And.intro rfl rfl) True.intro))))) (And.intro rfl ?_))))))))))))
        refine acode_seq ?_
        refine acode_region ?_
        refine acode_cond rfl (fun h26 => ?_) (fun h26 => ?_)
        · try simp only [Bool.not_eq_true'] at h26
          try simp only [Int.toNat_natCast, dflt_sl, dflt_st, dflt_str, dflt_int, dflt_bool] at h26
          cases h26
        · try simp only [Bool.not_eq_false'] at h26
          try simp only [Int.toNat_natCast, dflt_sl, dflt_st, dflt_str, dflt_int, dflt_bool] at h26
          refine acode_skip ?_
          refine acode_seq ?_
          refine acode_region ?_
          refine acode_ret ?_
          rw [show parseS s = .inr q.its from by unfold parseS; rw [hr]; simp only [he]]
          exact rfl
    · intro k i hp
      cases i with | inl p => exact hp.elim | inr e => ?_
      have hp : runS pst0 (linesT s) = .inl e := hp
      refine acode_nilcell 0 0 26 rItm rfl rfl rfl ?_
      refine acode_ret ?_
      rw [show parseS s = .inl e from by unfold parseS; rw [hp]]
      exact rfl
end Q
end Ab
end Go.Proofs.YtklhlkhlndhepaaDoor
namespace Go.Proofs.YtklhlkhlndhepaaDoor
open Go.RowKit
namespace Ab
set_option maxRecDepth 100000
namespace Q
theorem fields_self (l : List Fld) : ACall Tryd.prog 30 [.one (.sl rFld l), .one (.sl rFld l)] (ib true) := by
  have := fields_c l l
  rw [decide_eq_true rfl] at this
  exact this
theorem refCheck_v (f : Fld) (n : Int) (hk : f.1.size ≤ 1000000000) (h : checkF f = n) : ACall Tryd.prog 48 [.agg (toL rFld f)] (ii .i64 n) := by
  subst h; exact refCheck_c f hk
theorem badF_ne {l : List Fld} (h : ¬ badF l = 0) : badF l = 5 ∨ badF l = 6 := by
  induction l with
  | nil => exact absurd rfl h
  | cons f r ih =>
    unfold badF at h ⊢
    split
    · rename_i h0; rw [if_pos h0] at h; exact ih h
    · rename_i h0; rcases check_cases f with hc | hc | hc
      · exact .inl hc
      · exact .inr hc
      · exact absurd hc h0
end Q
end Ab
end Go.Proofs.YtklhlkhlndhepaaDoor
namespace Go.Proofs.YtklhlkhlndhepaaDoor
open Go.RowKit
namespace Ab
set_option maxRecDepth 100000
namespace Q
theorem items_c (a b : List Itm) : ACall Tryd.prog 10 [.one (.sl rItm a), .one (.sl rItm b)] (ib (decide (a = b))) := by
  refine acall_of (rs := [4]) Tryd.func10 rfl rfl rfl teOk rfl ?_
  refine acode_seq ?_
  refine acode_region ?_
  refine acode_seq ?_
  refine acode_seq ?_
  refine acode_region ?_
  intro l1_1
  try simp only [Int.toNat_natCast, dflt_sl, dflt_st, dflt_str, dflt_int, dflt_bool] at l1_1
  intro l1_3
  try simp only [Int.toNat_natCast, dflt_sl, dflt_st, dflt_str, dflt_int, dflt_bool] at l1_3
  refine acode_cond rfl (fun h10 => ?_) (fun h10 => ?_)
  · try simp only [decide_eq_false_iff_not, Bool.not_eq_true'] at h10
    try simp only [Int.toNat_natCast, dflt_sl, dflt_st, dflt_str, dflt_int, dflt_bool] at h10
    refine acode_seq ?_
    refine acode_region ?_
    refine acode_ret ?_
    exact ib_eq (decide_eq_false (fun e => by rw [e] at h10; omega)).symm
  · try simp only [decide_eq_true_eq, Bool.not_eq_false'] at h10
    try simp only [Int.toNat_natCast, dflt_sl, dflt_st, dflt_str, dflt_int, dflt_bool] at h10
    refine acode_skip ?_
    refine acode_seq ?_
    refine acode_seq ?_
    refine acode_region ?_
    intro l3_1
    try simp only [Int.toNat_natCast, dflt_sl, dflt_st, dflt_str, dflt_int, dflt_bool] at l3_1
    refine acode_block ?_
    refine acode_loopP (fun (i : Nat) => i ≤ a.length ∧ a.take i = b.take i) (fun (i : Nat) => [(0, .one (.sl rItm a)), (1, .one (.sl rItm b)), (12, ii .i64 a.length), (13, ii .i64 i)]) (fun (i : Nat) => []) 0 (fun (i : Nat) => a.length - i) 0 (⟨Nat.zero_le _, by simp⟩) (le_of ⟨rfl, rfl, rfl, rfl⟩ trivial rfl) ?_
    intro i hI0
    obtain ⟨hi, ht⟩ := hI0
    refine acode_seq ?_
    refine acode_region ?_
    refine acode_seq ?_
    refine acode_cond rfl (fun h14 => ?_) (fun h14 => ?_)
    · try simp only [decide_eq_true_eq] at h14
      try simp only [Int.toNat_natCast, dflt_sl, dflt_st, dflt_str, dflt_int, dflt_bool] at h14
      have hla : i < a.length := by omega
      have hlb : i < b.length := by omega
      refine acode_skip ?_
      refine acode_seq ?_
      refine acode_block ?_
      refine acode_seq ?_
      refine acode_region ?_
      refine acode_seq ?_
      refine acode_draw rfl (by kernel_rfl) ?_
      refine And.intro (by first | omega | assumption | decide | (simp only [Int.toNat_natCast, dflt_sl, dflt_st, dflt_str, dflt_int, dflt_bool]; omega) | (simp <;> omega)) ?_
      refine And.intro (by first | omega | assumption | decide | (simp only [Int.toNat_natCast, dflt_sl, dflt_st, dflt_str, dflt_int, dflt_bool]; omega) | (simp <;> omega)) ?_
      refine And.intro (fun h => trivial) ?_
      refine And.intro (fun h => trivial) ?_
      refine And.intro (fun h => ⟨⟨⟨h, trivial⟩, ⟨h, trivial⟩, trivial⟩, by first | omega | decide | (simp only [Int.toNat_natCast, dflt_sl, dflt_st, dflt_str, dflt_int, dflt_bool]; omega) | (have h9 := of_decide_eq_true h; omega) | (simp [gq] at h; omega)⟩) ?_
      refine And.intro (fun h => ⟨⟨h, trivial⟩, trivial⟩) ?_
      refine And.intro (fun h => ⟨⟨h, trivial⟩, trivial⟩) ?_
      refine And.intro (fun h => trivial) ?_
      refine And.intro (fun h => trivial) ?_
      refine And.intro (fun h => ⟨⟨⟨h, trivial⟩, ⟨h, trivial⟩, trivial⟩, by first | omega | decide | (simp only [Int.toNat_natCast, dflt_sl, dflt_st, dflt_str, dflt_int, dflt_bool]; omega) | (have h9 := of_decide_eq_true h; omega) | (simp [gq] at h; omega)⟩) ?_
      refine And.intro (fun h => ⟨⟨h, trivial⟩, trivial⟩) ?_
      refine And.intro (fun h => ⟨⟨h, trivial⟩, trivial⟩) ?_
      refine And.intro (fun h => ⟨⟨h, trivial⟩, ⟨h, trivial⟩, trivial⟩) ?_
      refine And.intro (by first | (intro h; rw [h]; rfl) | (intro h; cases h)) ?_
      refine And.intro (fun h => trivial) ?_
      refine And.intro (fun h => trivial) ?_
      refine And.intro (fun h => ⟨⟨⟨h, trivial⟩, ⟨h, trivial⟩, trivial⟩, by first | omega | decide | (simp only [Int.toNat_natCast, dflt_sl, dflt_st, dflt_str, dflt_int, dflt_bool]; omega) | (have h9 := of_decide_eq_true h; omega) | (simp [gq] at h; omega)⟩) ?_
      refine And.intro (fun h => ⟨⟨h, trivial⟩, trivial⟩) ?_
      refine And.intro (fun h => ⟨⟨h, trivial⟩, trivial⟩) ?_
      refine And.intro (fun h => trivial) ?_
      refine And.intro (fun h => trivial) ?_
      refine And.intro (fun h => ⟨⟨⟨h, trivial⟩, ⟨h, trivial⟩, trivial⟩, by first | omega | decide | (simp only [Int.toNat_natCast, dflt_sl, dflt_st, dflt_str, dflt_int, dflt_bool]; omega) | (have h9 := of_decide_eq_true h; omega) | (simp [gq] at h; omega)⟩) ?_
      refine And.intro (fun h => ⟨⟨h, trivial⟩, trivial⟩) ?_
      refine And.intro (fun h => ⟨⟨h, trivial⟩, trivial⟩) ?_
      refine And.intro (rfl) ?_
      refine Exists.intro _ (And.intro (fun h => ⟨⟨⟨h, trivial⟩, ⟨h, trivial⟩, trivial⟩, fields_c (a.getD i ((0 : Int), ByteArray.empty, ([] : List Fld))).2.2 (b.getD i ((0 : Int), ByteArray.empty, ([] : List Fld))).2.2⟩) ?_)
      refine And.intro (fun h => ⟨⟨h, trivial⟩, trivial⟩) ?_
      refine And.intro (by first | (intro h; rw [h]; rfl) | (intro h; cases h)) ?_
      refine acode_cond rfl (fun h53 => ?_) (fun h53 => ?_)
      · try simp only [decide_eq_false_iff_not, Bool.not_eq_true', Bool.or_eq_true] at h53
        try simp only [Int.toNat_natCast, dflt_sl, dflt_st, dflt_str, dflt_int] at h53
        refine acode_seq ?_
        refine acode_region ?_
        refine acode_ret ?_
        exact ib_eq (decide_eq_false (ne_at (i := i) ((0 : Int), ByteArray.empty, ([] : List Fld)) (fun e => h53.elim (fun h => h.elim (fun h => h (congrArg Prod.fst e)) (fun h => h (congrArg (·.2.1) e))) (fun h => h (congrArg (·.2.2) e))))).symm
      · try simp only [decide_eq_true_eq, Bool.not_eq_false', Bool.or_eq_false_iff] at h53
        try simp only [Int.toNat_natCast, dflt_sl, dflt_st, dflt_str, dflt_int] at h53
        refine acode_skip ?_
        refine acode_region ?_
        refine And.intro (by first | omega | assumption | decide | (simp only [Int.toNat_natCast, dflt_sl, dflt_st, dflt_str, dflt_int, dflt_bool]; omega) | (simp <;> omega)) ?_
        exact ⟨i + 1, ⟨by omega, list_ext_take ((0 : Int), ByteArray.empty, ([] : List Fld)) hla hlb ht (Prod.ext h53.1.1 (Prod.ext h53.1.2 h53.2))⟩, by first | omega | (simp <;> omega), le_of ⟨rfl, rfl, rfl, (ii_eq (by omega))⟩ trivial rfl⟩
    · try simp only [decide_eq_false_iff_not, Int.not_lt] at h14
      try simp only [Int.toNat_natCast, dflt_sl, dflt_st, dflt_str, dflt_int, dflt_bool] at h14
      refine acode_exit ?_
      refine acode_seq ?_
      refine acode_region ?_
      refine acode_ret ?_
      exact ib_eq (decide_eq_true (by rw [List.take_of_length_le (by omega), List.take_of_length_le (by omega)] at ht; exact ht)).symm
theorem alive_parse : parseS ⟨#[65, 58, 32, 49, 10, 35, 32, 120, 10, 10]⟩ = .inr [(3, ⟨#[65, 58, 32, 49, 10, 35, 32, 120, 10]⟩, [(⟨#[65]⟩, ⟨#[49]⟩)]), (1, ⟨#[10]⟩, [])] := by
  decide +kernel
end Q
end Ab
end Go.Proofs.YtklhlkhlndhepaaDoor
namespace Go.Proofs.YtklhlkhlndhepaaDoor
open Go.RowKit
namespace Ab
set_option maxRecDepth 100000
namespace Q
def oneL (k : Nat) : List UInt8 := (List.replicate k [65, 58, 10]).flatten
def manyL (k : Nat) : List UInt8 := (List.replicate k [65, 58, 10, 10]).flatten
theorem oneP_38 : parseS (bytes (oneL 38)) = .inr [(3, bytes (oneL 38), List.replicate 38 (⟨#[65]⟩, ⟨#[]⟩))] := by decide +kernel
theorem oneP_39 : parseS (bytes (oneL 39)) = .inr [(3, bytes (oneL 39), List.replicate 39 (⟨#[65]⟩, ⟨#[]⟩))] := by decide +kernel
theorem oneP_40 : parseS (bytes (oneL 40)) = .inr [(3, bytes (oneL 40), List.replicate 40 (⟨#[65]⟩, ⟨#[]⟩))] := by decide +kernel
theorem oneP_41 : parseS (bytes (oneL 41)) = .inl (40, 11) := by decide +kernel
theorem oneP_42 : parseS (bytes (oneL 42)) = .inl (40, 11) := by decide +kernel
def PClean (p : PSt) (r : Int) : Prop := p.lns = [] ∧ p.blk = [] ∧ p.flds = [] ∧ p.recs = r
theorem kind_A : kindL (ls ⟨#[65, 58]⟩) = 4 := by decide +kernel
theorem kind_E : kindL (ls ⟨#[]⟩) = 1 := by decide +kernel
theorem unf_A : unfoldL [ls ⟨#[65, 58]⟩] = (([65], []), 0) := by decide +kernel
theorem many_step {p : PSt} {r : Int} (no a b : Int) (h : PClean p r) (hr : r < 400) : ∃ p1 q, takeS p (no, a, ⟨#[65, 58]⟩, true) = .inr p1 ∧ takeS p1 (no + 1, b, ⟨#[]⟩, true) = .inr q ∧ PClean q (r + 1) ∧ q.its.length = p.its.length + 2 := by
  obtain ⟨lns, frm, full, its, blk, flds, recs⟩ := p
  obtain ⟨h1, h2, h3, h4⟩ := h
  simp only at h1 h2 h3 h4
  subst h1; subst h2; subst h3; subst h4
  refine ⟨⟨[⟨#[65, 58]⟩], no, false, its, [⟨#[65, 58]⟩], [], recs⟩, ⟨[], no, false, its ++ [(3, rawB [⟨#[65, 58]⟩], [(bytes [65], bytes [])])] ++ [(1, ⟨#[]⟩ ++ ⟨#[10]⟩, [])], [], [], recs + 1⟩, ?_, ?_, ⟨rfl, rfl, rfl, rfl⟩, by simp⟩
  · unfold takeS
    simp only [kind_A]
    have : ¬ recs = 400 := by omega
    simp [aheadS, flushS, lineS, beginS, this]
  · unfold takeS
    simp only [kind_E]
    simp [aheadS, endS, flushS, closeS, lineS, unf_A]
theorem many_stop {p : PSt} (no a b : Int) (h : PClean p 400) : ∃ p1, takeS p (no, a, ⟨#[65, 58]⟩, true) = .inr p1 ∧ takeS p1 (no + 1, b, ⟨#[]⟩, true) = .inl (no, 11) := by
  obtain ⟨lns, frm, full, its, blk, flds, recs⟩ := p
  obtain ⟨h1, h2, h3, h4⟩ := h
  simp only at h1 h2 h3 h4
  subst h1; subst h2; subst h3; subst h4
  refine ⟨⟨[⟨#[65, 58]⟩], no, true, its, [⟨#[65, 58]⟩], [], 400⟩, ?_, ?_⟩
  · unfold takeS
    simp only [kind_A]
    simp [aheadS, flushS, lineS, beginS]
  · unfold takeS
    simp only [kind_E]
    simp [aheadS, endS, flushS, unf_A]
theorem linesR_cons (f : Nat) (tot no : Int) (a : UInt8) (r : List UInt8) : linesR (f + 1) tot no (a :: r) = (no, tot - ((a :: r).length : Nat), bytes (Lib.cut (a :: r) [10]).1, (Lib.cut (a :: r) [10]).2.2) :: linesR f tot (no + 1) (Lib.cut (a :: r) [10]).2.1 := rfl
theorem linesR_blk (f : Nat) (tot no : Int) (r : List UInt8) : ∃ a b, linesR (f + 2) tot no ([65, 58, 10, 10] ++ r) = (no, a, ⟨#[65, 58]⟩, true) :: (no + 1, b, ⟨#[]⟩, true) :: linesR f tot (no + 1 + 1) r := by
  have h1 : Lib.cut ([65, 58, 10, 10] ++ r) [10] = ([65, 58], 10 :: r, true) := cut_at (key := [65, 58]) (r := 10 :: r) (by decide)
  have h2 : Lib.cut (10 :: r) [10] = ([], r, true) := cut_at (key := []) (r := r) (by decide)
  refine ⟨tot - ((65 :: 58 :: 10 :: 10 :: r).length : Nat), tot - ((10 :: r).length : Nat), ?_⟩
  rw [show [65, 58, 10, 10] ++ r = 65 :: 58 :: 10 :: 10 :: r from rfl] at h1 ⊢
  rw [linesR_cons, h1]
  simp only
  rw [linesR_cons, h2]
  rfl
theorem many_run : ∀ (k f : Nat) (tot no r : Int) (p : PSt), 2 * k ≤ f → PClean p r → 0 ≤ r → r ≤ 400 → (r + k ≤ 400 → ∃ q, runS p (linesR f tot no (manyL k)) = .inr q ∧ PClean q (r + k) ∧ q.its.length = p.its.length + 2 * k) ∧ (400 < r + k → runS p (linesR f tot no (manyL k)) = .inl (no + 2 * (400 - r), 11))
  | 0, f, tot, no, r, p, _, h, _, hr => by
    have e : linesR f tot no (manyL 0) = [] := by cases f <;> rfl
    rw [e]
    exact ⟨fun _ => ⟨p, rfl, by simpa using h, by simp⟩, fun h => by omega⟩
  | k + 1, f, tot, no, r, p, hf, h, h0, hr => by
    obtain ⟨f', rfl⟩ : ∃ f', f = f' + 2 := ⟨f - 2, by omega⟩
    have e : manyL (k + 1) = [65, 58, 10, 10] ++ manyL k := by simp [manyL, List.replicate_succ]
    obtain ⟨a, b, e2⟩ := linesR_blk f' tot no (manyL k)
    rw [e, e2]
    rcases Int.lt_or_le r 400 with h4 | h4
    · obtain ⟨p1, q, t1, t2, hc, hl⟩ := many_step no a b h h4
      simp only [runS, t1, t2]
      obtain ⟨i1, i2⟩ := many_run k f' tot (no + 1 + 1) (r + 1) q (by omega) hc (by omega) (by omega)
      refine ⟨fun hk => ?_, fun hk => ?_⟩
      · obtain ⟨q', j1, j2, j3⟩ := i1 (by omega)
        exact ⟨q', j1, by rw [show r + ((k + 1 : Nat) : Int) = r + 1 + k from by omega]; exact j2, by rw [j3, hl]; omega⟩
      · rw [i2 (by omega), show no + 1 + 1 + 2 * (400 - (r + 1)) = no + 2 * (400 - r) from by omega]
    · obtain rfl : r = 400 := by omega
      obtain ⟨p1, t1, t2⟩ := many_stop no a b h
      simp only [runS, t1, t2]
      refine ⟨fun hk => by omega, fun _ => by simp⟩
theorem many_parse (k : Nat) (hk : k ≤ 402) : (k ≤ 400 → ∃ l, parseS (bytes (manyL k)) = .inr l ∧ l.length = 2 * k) ∧ (400 < k → parseS (bytes (manyL k)) = .inl (800, 11)) := by
  have hs : (bytes (manyL k)).size = 4 * k := by
    rw [bytes_size]
    simp [manyL, List.length_flatten, Nat.mul_comm]
  have hb : ls (bytes (manyL k)) = manyL k := bytes_list _
  obtain ⟨h1, h2⟩ := many_run k (4 * k) (4 * k : Nat) 0 0 pst0 (by omega) ⟨rfl, rfl, rfl, rfl⟩ (by decide) (by decide)
  unfold parseS linesT
  rw [hs, hb]
  refine ⟨fun h => ?_, fun h => ?_⟩
  · obtain ⟨q, e, ⟨c1, c2, c3, c4⟩, hl⟩ := h1 (by omega)
    rw [e]
    refine ⟨q.its, ?_, by rw [hl]; simp [pst0]⟩
    simp [endS, flushS, closeS, c1, c2]
  · rw [h2 (by omega)]
    rfl
end Q
end Ab
end Go.Proofs.YtklhlkhlndhepaaDoor
namespace Go.Proofs.YtklhlkhlndhepaaDoor
open Go.RowKit
namespace Ab
set_option maxRecDepth 100000
namespace Q
/-- A text's lines, without their numbers. -/
def linesB : Nat → List UInt8 → List (ByteArray × Bool)
  | 0, _ => []
  | f + 1, s => match s with
    | [] => []
    | s => (bytes (Lib.cut s [10]).1, (Lib.cut s [10]).2.2) :: linesB f (Lib.cut s [10]).2.1
theorem linesB_cons (f : Nat) (a : UInt8) (r : List UInt8) : linesB (f + 1) (a :: r) = (bytes (Lib.cut (a :: r) [10]).1, (Lib.cut (a :: r) [10]).2.2) :: linesB f (Lib.cut (a :: r) [10]).2.1 := rfl
theorem texts_linesR : ∀ (f : Nat) (tot no : Int) (s : List UInt8), (linesR f tot no s).map (·.2.2) = linesB f s
  | 0, _, _, _ => rfl
  | f + 1, _, _, [] => rfl
  | f + 1, tot, no, a :: r => by rw [linesR_cons, linesB_cons, List.map_cons, texts_linesR]
def glue : List (ByteArray × Bool) → List UInt8
  | [] => []
  | l :: r => ls l.1 ++ ((if l.2 then [10] else []) ++ glue r)
theorem cut_cases {a : UInt8} {s : List UInt8} {c : UInt8} : (∃ x b, a :: s = x ++ c :: b ∧ c ∉ x ∧ Lib.cut (a :: s) [c] = (x, b, true)) ∨ (c ∉ a :: s ∧ Lib.cut (a :: s) [c] = (a :: s, [], false)) := by
  by_cases hm : c ∈ a :: s
  · obtain ⟨x, b, e, hn⟩ := List.eq_append_cons_of_mem hm
    exact .inl ⟨x, b, e, hn, by rw [e]; exact cut_at hn⟩
  · exact .inr ⟨hm, cut_none hm⟩
theorem glue_lines : ∀ (f : Nat) (s : List UInt8), s.length ≤ f → glue (linesB f s) = s
  | 0, s, h => by
    obtain rfl := List.eq_nil_of_length_eq_zero (Nat.le_zero.1 h)
    rfl
  | f + 1, [], _ => rfl
  | f + 1, a :: r, h => by
    have h3 := cut_less (r := a :: r) (c := 10) (by simp)
    rw [linesB_cons]
    simp only [glue]
    rw [glue_lines f _ (by omega)]
    rcases cut_cases (a := a) (s := r) (c := 10) with ⟨x, b, e, _, hc⟩ | ⟨_, hc⟩
    · rw [hc, e]; simp [bytes_list]
    · rw [hc]; simp [bytes_list]
theorem linesB_no : ∀ (f : Nat) (s : List UInt8), ∀ l ∈ linesB f s, (10 : UInt8) ∉ ls l.1
  | 0, _, l, hl => by cases hl
  | f + 1, [], l, hl => by cases hl
  | f + 1, a :: r, l, hl => by
    rw [linesB_cons] at hl
    rcases List.mem_cons.1 hl with rfl | hl
    · rcases cut_cases (a := a) (s := r) (c := 10) with ⟨x, b, e, hn, hc⟩ | ⟨hn, hc⟩
      · rw [hc]; simpa [bytes_list] using hn
      · rw [hc]; simpa [bytes_list] using hn
    · exact linesB_no f _ l hl
theorem lines_glue : ∀ (L : List (ByteArray × Bool)) (f : Nat), (∀ l ∈ L, l.2 = true ∧ (10 : UInt8) ∉ ls l.1) → (glue L).length ≤ f → linesB f (glue L) = L
  | [], f, _, _ => by cases f <;> rfl
  | (t, e) :: r, f, h, hf => by
    obtain ⟨h1, h2⟩ := h _ List.mem_cons_self
    simp only at h1 h2
    subst h1
    have hg : glue ((t, true) :: r) = ls t ++ 10 :: glue r := by simp [glue]
    rw [hg] at hf ⊢
    rw [List.length_append, List.length_cons] at hf
    obtain ⟨f', rfl⟩ : ∃ f', f = f' + 1 := ⟨f - 1, by omega⟩
    have hc : Lib.cut (ls t ++ 10 :: glue r) [10] = (ls t, glue r, true) := cut_at h2
    obtain ⟨a, w, hw⟩ : ∃ a w, ls t ++ 10 :: glue r = a :: w := by cases ls t <;> exact ⟨_, _, rfl⟩
    rw [hw] at hc ⊢
    rw [linesB_cons, hc]
    simp only
    rw [bytes_ls, lines_glue r f' (fun l hl => h l (List.mem_cons_of_mem _ hl)) (by omega)]
/-- Two parsers that do alike: the second one began behind the items I, c stanzas later. -/
structure Rel (I : List Itm) (c : Int) (p q : PSt) : Prop where
  lns : p.lns = q.lns
  full : q.full = true → p.full = true
  its : p.its = I ++ q.its
  blk : p.blk = q.blk
  flds : p.flds = q.flds
  recs : p.recs = q.recs + c
  c0 : 0 ≤ c
  r4 : p.recs ≤ 400
  rf : p.flds ≠ [] → p.recs < 400
  rl : p.lns ≠ [] → p.full = false → p.recs < 400
section
variable {I : List Itm} {c : Int} {p q p1 : PSt}
theorem flush_lns (hf : flushS p = .inr p1) : p1.lns = [] := by
  unfold flushS at hf
  split at hf
  · rename_i h; cases hf; exact h
  · split at hf
    · cases hf
    · split at hf
      · cases hf
      · cases hf; rfl
theorem flush_rel (h : Rel I c p q) (hf : flushS p = .inr p1) : ∃ q1, flushS q = .inr q1 ∧ Rel I c p1 q1 := by
  unfold flushS at hf ⊢
  by_cases h0 : p.lns = []
  · rw [if_pos h0] at hf; cases hf
    rw [if_pos (by rw [← h.lns]; exact h0)]
    exact ⟨_, rfl, h⟩
  · rw [if_neg h0] at hf
    rw [if_neg (by rw [← h.lns]; exact h0), ← h.lns]
    split at hf
    · cases hf
    · rename_i h1
      rw [if_neg h1]
      split at hf
      · cases hf
      · rename_i h2
        cases hf
        have h3 : p.full = false := by simpa using h2
        have h4 : ¬ q.full = true := fun e => h2 (h.full e)
        rw [if_neg h4]
        exact ⟨_, rfl, rfl, h.full, h.its, h.blk, by simp only [h.flds], h.recs, h.c0, h.r4, fun _ => h.rl h0 h3, fun e => absurd rfl e⟩
theorem close_rel (h : Rel I c p q) (hl : p.lns = []) : Rel I c (closeS p) (closeS q) := by
  unfold closeS
  rw [← h.blk, ← h.flds]
  split
  · exact ⟨h.lns, h.full, h.its, rfl, rfl, h.recs, h.c0, h.r4, fun e => absurd rfl e, fun e => absurd hl e⟩
  · by_cases hf : p.flds = []
    · simp only [if_pos hf]
      exact ⟨h.lns, h.full, by simp only [h.its, List.append_assoc], rfl, rfl, h.recs, h.c0, h.r4, fun e => absurd rfl e, fun e => absurd hl e⟩
    · have h1 := h.rf hf
      have h2 := h.recs
      simp only [if_neg hf]
      exact ⟨h.lns, h.full, by simp only [h.its, List.append_assoc], rfl, rfl, by simp only; omega, h.c0, by simp only; omega, fun e => absurd rfl e, fun e => absurd hl e⟩
theorem end_rel (h : Rel I c p q) (hf : endS p = .inr p1) : ∃ q1, endS q = .inr q1 ∧ Rel I c p1 q1 := by
  unfold endS at hf ⊢
  cases e : flushS p with
  | inl x => rw [e] at hf; cases hf
  | inr r =>
    rw [e] at hf
    cases hf
    obtain ⟨q1, e1, h1⟩ := flush_rel h e
    rw [e1]
    exact ⟨_, rfl, close_rel h1 (flush_lns e)⟩
theorem begin_rel {a b a' b' : Int} {t : ByteArray × Bool} (h : Rel I c p q) : Rel I c (beginS p (a, b, t)) (beginS q (a', b', t)) := by
  have h1 := h.recs
  have h2 := h.c0
  have h3 := h.r4
  refine ⟨rfl, fun e => ?_, h.its, h.blk, h.flds, h.recs, h.c0, h.r4, h.rf, fun _ e => ?_⟩
  · simp only [beginS, ← h.flds, Bool.or_eq_true, Bool.and_eq_true, decide_eq_true_eq] at e ⊢
    rcases e with e | ⟨e1, e2⟩
    · exact .inl e
    · exact .inr ⟨e1, by omega⟩
  · simp only [beginS, Bool.or_eq_false_iff, Bool.and_eq_false_iff, decide_eq_false_iff_not] at e ⊢
    by_cases hf : p.flds = []
    · rcases e.2 with e | e
      · rw [hf] at e; simp at e
      · omega
    · exact h.rf hf
theorem more_rel {t : ByteArray} (h : Rel I c p q) (h0 : p.lns ≠ []) : Rel I c { p with lns := p.lns ++ [t] } { q with lns := q.lns ++ [t] } :=
  ⟨by simp only [h.lns], h.full, h.its, h.blk, h.flds, h.recs, h.c0, h.r4, h.rf, fun _ e => h.rl h0 e⟩
theorem ahead_rel {a b a' b' : Int} {t : ByteArray × Bool} {k : Int} (h : Rel I c p q) (hf : aheadS p (a, b, t) k = .inr p1) : ∃ q1, aheadS q (a', b', t) k = .inr q1 ∧ Rel I c p1 q1 := by
  unfold aheadS at hf ⊢
  split at hf
  · rename_i hk
    rw [if_pos hk]
    by_cases h0 : p.lns = []
    · rw [if_pos h0] at hf; cases hf
    · rw [if_neg h0] at hf
      rw [if_neg (by rw [← h.lns]; exact h0)]
      split at hf
      · rename_i he
        rw [if_pos he]
        cases hf
        exact ⟨_, rfl, more_rel h h0⟩
      · rename_i he
        rw [if_neg he]
        exact flush_rel (more_rel h h0) hf
  · rename_i hk
    rw [if_neg hk]
    split at hf
    · rename_i h1; rw [if_pos h1]; exact end_rel h hf
    · rename_i h1; rw [if_neg h1]; exact flush_rel h hf
theorem take_rel {a b a' b' : Int} {t : ByteArray × Bool} (h : Rel I c p q) (hf : takeS p (a, b, t) = .inr p1) : ∃ q1, takeS q (a', b', t) = .inr q1 ∧ Rel I c p1 q1 := by
  unfold takeS at hf ⊢
  simp only at hf ⊢
  cases e : aheadS p (a, b, t) (kindL (ls t.1)) with
  | inl x => rw [e] at hf; cases hf
  | inr r =>
    rw [e] at hf
    obtain ⟨r', e1, h1⟩ := ahead_rel (a' := a') (b' := b') h e
    rw [e1]
    simp only at hf ⊢
    unfold lineS at hf ⊢
    split at hf
    · cases hf
    · rename_i g1
      rw [if_neg g1]
      split at hf
      · rename_i g2
        rw [if_pos g2]
        cases hf
        exact ⟨_, rfl, h1.lns, h1.full, by simp only [h1.its, List.append_assoc], h1.blk, h1.flds, h1.recs, h1.c0, h1.r4, h1.rf, h1.rl⟩
      · rename_i g2
        rw [if_neg g2]
        split at hf
        · rename_i g3
          rw [if_pos g3]
          cases hf
          have h2 := begin_rel (a := a) (b := b) (a' := a') (b' := b') (t := t) h1
          exact ⟨_, rfl, h2.lns, h2.full, h2.its, by simp only [h1.blk], h2.flds, h2.recs, h2.c0, h2.r4, h2.rf, h2.rl⟩
        · rename_i g3
          rw [if_neg g3]
          cases hf
          exact ⟨_, rfl, h1.lns, h1.full, h1.its, by simp only [h1.blk], h1.flds, h1.recs, h1.c0, h1.r4, h1.rf, h1.rl⟩
end
theorem run_rel {I : List Itm} {c : Int} : ∀ (L L' : List Lne) (p q p1 : PSt), L.map (·.2.2) = L'.map (·.2.2) → Rel I c p q → runS p L = .inr p1 → ∃ q1, runS q L' = .inr q1 ∧ Rel I c p1 q1
  | [], [], p, q, p1, _, h, hr => by cases hr; exact ⟨_, rfl, h⟩
  | [], _ :: _, _, _, _, e, _, _ => by cases e
  | _ :: _, [], _, _, _, e, _, _ => by cases e
  | (a, b, t) :: r, (a', b', t') :: r', p, q, p1, e, h, hr => by
    simp only [List.map_cons, List.cons.injEq] at e
    obtain ⟨rfl, e⟩ := e
    simp only [runS] at hr ⊢
    cases e1 : takeS p (a, b, t) with
    | inl x => rw [e1] at hr; cases hr
    | inr p2 =>
      rw [e1] at hr
      obtain ⟨q2, e2, h2⟩ := take_rel (a' := a') (b' := b') h e1
      rw [e2]
      exact run_rel r r' p2 q2 p1 e h2 hr
end Q
end Ab
end Go.Proofs.YtklhlkhlndhepaaDoor
namespace Go.Proofs.YtklhlkhlndhepaaDoor
open Go.RowKit
namespace Ab
set_option maxRecDepth 100000
namespace Q
def szI (l : List Itm) : Nat := (l.map (·.2.1.size)).sum
def szB (l : List ByteArray) : Nat := (l.map (fun b => b.size + 1)).sum
def rawN (p : PSt) : Nat := szI p.its + szB p.blk
def Idle (p : PSt) : Prop := p.lns = [] ∧ p.blk = [] ∧ p.flds = []
theorem szI_app (a b : List Itm) : szI (a ++ b) = szI a + szI b := by simp [szI]
theorem szB_app (a b : List ByteArray) : szB (a ++ b) = szB a + szB b := by simp [szB]
theorem join_eq (c : UInt8) : ∀ (l : List ByteArray), l ≠ [] → (Lib.join (l.map (·.data.toList)) [c]).length + 1 = szB l
  | [], h => absurd rfl h
  | [a], _ => by
    rw [List.map_cons, List.map_nil, show Lib.join [a.data.toList] [c] = a.data.toList from by simp [Lib.join]]
    rw [← size_list]
    simp [szB]
  | a :: b :: r, _ => by
    have := join_eq c (b :: r) (by simp)
    rw [List.map_cons] at this
    rw [List.map_cons, List.map_cons, join_two]
    simp only [List.length_append, List.length_cons, List.length_nil, szB, List.map_cons, List.sum_cons, ← size_list] at this ⊢
    omega
theorem rawB_size {l : List ByteArray} (h : l ≠ []) : (rawB l).size = szB l := by
  have := join_eq 10 l h
  unfold rawB
  rw [ByteArray.size_append, bytes_size]
  exact this
theorem flush_same {p q : PSt} (h : flushS p = .inr q) : q.its = p.its ∧ q.blk = p.blk := by
  unfold flushS at h
  split at h
  · cases h; exact ⟨rfl, rfl⟩
  · split at h
    · cases h
    · split at h
      · cases h
      · cases h; exact ⟨rfl, rfl⟩
theorem close_took (p : PSt) : (∃ X, (closeS p).its = p.its ++ X ∧ ∀ x ∈ X, x.1 ≠ 1) ∧ rawN (closeS p) = rawN p ∧ (closeS p).blk = [] ∧ (closeS p).flds = [] ∧ (closeS p).lns = p.lns := by
  unfold closeS
  split
  · rename_i h
    exact ⟨⟨[], by simp, by simp⟩, by simp [rawN, h], rfl, rfl, rfl⟩
  · rename_i h
    refine ⟨⟨_, rfl, fun x hx => ?_⟩, ?_, rfl, rfl, rfl⟩
    · rw [List.mem_singleton.1 hx]
      simp only
      split <;> decide
    · simp only [rawN, szI_app]
      simp only [szI, List.map_cons, List.map_nil, List.sum_cons, List.sum_nil, rawB_size h]
      simp [szB]
theorem end_took {p q : PSt} (h : endS p = .inr q) : (∃ X, q.its = p.its ++ X ∧ ∀ x ∈ X, x.1 ≠ 1) ∧ rawN q = rawN p ∧ Idle q := by
  unfold endS at h
  cases e : flushS p with
  | inl x => rw [e] at h; cases h
  | inr r =>
    rw [e] at h
    cases h
    obtain ⟨h1, h2⟩ := flush_same e
    obtain ⟨h3, h4, h5, h6, h7⟩ := close_took r
    rw [h1] at h3
    refine ⟨h3, ?_, h7.trans (flush_lns e), h5, h6⟩
    rw [h4]
    unfold rawN
    rw [h1, h2]
theorem ahead_took {p q : PSt} {l : Lne} {k : Int} (h : aheadS p l k = .inr q) : (∃ X, q.its = p.its ++ X ∧ ∀ x ∈ X, x.1 ≠ 1) ∧ rawN q = rawN p ∧ (k = 1 → Idle q) := by
  unfold aheadS at h
  split at h
  · rename_i hk
    subst hk
    split at h
    · cases h
    · split at h
      · cases h
        exact ⟨⟨[], by simp, by simp⟩, rfl, fun e => by cases e⟩
      · obtain ⟨h1, h2⟩ := flush_same h
        exact ⟨⟨[], by simp [h1], by simp⟩, by unfold rawN; rw [h1, h2], fun e => by cases e⟩
  · split at h
    · obtain ⟨h1, h2, h3⟩ := end_took h
      exact ⟨h1, h2, fun _ => h3⟩
    · rename_i hk
      obtain ⟨h1, h2⟩ := flush_same h
      exact ⟨⟨[], by simp [h1], by simp⟩, by unfold rawN; rw [h1, h2], fun e => absurd e hk⟩
theorem take_took {p q : PSt} {l : Lne} (h : takeS p l = .inr q) : l.2.2.2 = true ∧ rawN q = rawN p + (l.2.2.1.size + 1) ∧ ∃ X Y, q.its = p.its ++ X ++ Y ∧ (∀ x ∈ X, x.1 ≠ 1) ∧ (Y = [] ∨ (∃ b, Y = [b]) ∧ Idle q) := by
  unfold takeS at h
  cases e : aheadS p l (kindL (ls l.2.2.1)) with
  | inl x => rw [e] at h; cases h
  | inr r =>
    rw [e] at h
    obtain ⟨⟨X, h1, h2⟩, h3, h4⟩ := ahead_took e
    simp only at h
    unfold lineS at h
    split at h
    · cases h
    · rename_i g0
      have he : l.2.2.2 = true := by
        cases e : l.2.2.2
        · exact absurd (.inr e) g0
        · rfl
      refine ⟨he, ?_⟩
      split at h
      · rename_i g1
        cases h
        obtain ⟨i1, i2, i3⟩ := h4 g1
        refine ⟨?_, X, [(1, l.2.2.1 ++ ⟨#[10]⟩, [])], by simp only [h1], h2, .inr ⟨⟨_, rfl⟩, i1, i2, i3⟩⟩
        rw [← h3]
        simp only [rawN, szI_app]
        simp only [szI, List.map_cons, List.map_nil, List.sum_cons, List.sum_nil, ByteArray.size_append]
        rw [show ByteArray.size ⟨#[10]⟩ = 1 from rfl]
        omega
      · split at h
        · cases h
          refine ⟨?_, X, [], by simp [beginS, h1], h2, .inl rfl⟩
          rw [← h3]
          simp only [rawN, szB_app, beginS]
          simp only [szB, List.map_cons, List.map_nil, List.sum_cons, List.sum_nil]
          omega
        · cases h
          refine ⟨?_, X, [], by simp [h1], h2, .inl rfl⟩
          rw [← h3]
          simp only [rawN, szB_app]
          simp only [szB, List.map_cons, List.map_nil, List.sum_cons, List.sum_nil]
          omega
def szL (L : List Lne) : Nat := (L.map (fun l => l.2.2.1.size + 1)).sum
theorem run_took : ∀ (L : List Lne) (p q : PSt), runS p L = .inr q → (∀ l ∈ L, l.2.2.2 = true) ∧ rawN q = rawN p + szL L ∧ ∃ X, q.its = p.its ++ X
  | [], p, q, h => by cases h; exact ⟨by simp, by simp [szL], [], by simp⟩
  | l :: r, p, q, h => by
    simp only [runS] at h
    cases e : takeS p l with
    | inl x => rw [e] at h; cases h
    | inr p1 =>
      rw [e] at h
      obtain ⟨h1, h2, X, Y, h3, _⟩ := take_took e
      obtain ⟨i1, i2, Z, i3⟩ := run_took r p1 q h
      refine ⟨fun x hx => ?_, ?_, X ++ Y ++ Z, by rw [i3, h3]; simp⟩
      · rcases List.mem_cons.1 hx with rfl | hx
        · exact h1
        · exact i1 x hx
      · rw [i2, h2]
        simp only [szL, List.map_cons, List.sum_cons]
        omega
theorem run_app : ∀ (L M : List Lne) (p q : PSt), runS p L = .inr q → runS p (L ++ M) = runS q M
  | [], M, p, q, h => by cases h; rfl
  | l :: r, M, p, q, h => by
    simp only [runS, List.cons_append] at h ⊢
    cases e : takeS p l with
    | inl x => rw [e] at h; cases h
    | inr p1 =>
      rw [e] at h
      exact run_app r M p1 q h
/-- Where a blank item was put, the lines part. -/
theorem run_blank : ∀ (L : List Lne) (p q : PSt), runS p L = .inr q → ∀ (i : Nat) (hi : i < q.its.length), p.its.length ≤ i → (q.its[i]).1 = 1 → ∃ L1 L2 q1, L = L1 ++ L2 ∧ runS p L1 = .inr q1 ∧ Idle q1 ∧ q1.its = q.its.take (i + 1)
  | [], p, q, h, i, hi, hp, _ => by cases h; omega
  | l :: r, p, q, h, i, hi, hp, hb => by
    simp only [runS] at h
    cases e : takeS p l with
    | inl x => rw [e] at h; cases h
    | inr p1 =>
      rw [e] at h
      rcases Nat.lt_or_ge i p1.its.length with hlt | hge
      · obtain ⟨_, _, Z, i3⟩ := run_took r p1 q h
        obtain ⟨_, _, X, Y, h3, h4, h5⟩ := take_took e
        have hq : q.its[i] = p1.its[i] := by
          simp only [i3]
          exact List.getElem_append_left hlt
        rw [hq] at hb
        have hlen : p1.its.length = p.its.length + X.length + Y.length := by rw [h3]; simp [Nat.add_assoc]
        rcases h5 with h5 | ⟨⟨b, h5⟩, h6⟩
        · subst h5
          exfalso
          have : p1.its[i] ∈ X := by
            simp only [h3, List.append_nil]
            rw [List.getElem_append_right hp]
            exact List.getElem_mem _
          exact h4 _ this hb
        · subst h5
          rw [List.length_singleton] at hlen
          rcases Nat.lt_or_ge i (p.its.length + X.length) with hx | hx
          · exfalso
            have : p1.its[i] ∈ X := by
              simp only [h3]
              rw [List.getElem_append_left (by rw [List.length_append]; exact hx), List.getElem_append_right hp]
              exact List.getElem_mem _
            exact h4 _ this hb
          · have hi1 : i + 1 = p1.its.length := by omega
            refine ⟨[l], r, p1, rfl, by simp only [runS, e], h6, ?_⟩
            rw [i3, hi1, List.take_left' rfl]
      · obtain ⟨L1, L2, q1, e1, e2, e3, e4⟩ := run_blank r p1 q h i hi hge hb
        exact ⟨l :: L1, L2, q1, by rw [e1]; rfl, by simp only [runS, e]; exact e2, e3, e4⟩
theorem glue_app (a b : List (ByteArray × Bool)) : glue (a ++ b) = glue a ++ glue b := by
  induction a with
  | nil => rfl
  | cons x r ih => simp [glue, ih]
theorem glue_len : ∀ (L : List Lne), (∀ l ∈ L, l.2.2.2 = true) → (glue (L.map (·.2.2))).length = szL L
  | [], _ => rfl
  | l :: r, h => by
    have := glue_len r (fun x hx => h x (List.mem_cons_of_mem _ hx))
    rw [List.map_cons]
    simp only [glue, h l List.mem_cons_self, if_true, List.length_append, this, szL, List.map_cons, List.sum_cons]
    rw [size_list]
    simp [ls]
    omega
theorem run_B : ∀ (L : List Lne) (p q : PSt) (B : Nat), PB p B → runS p L = .inr q → ∃ B', PB q B'
  | [], p, q, B, hB, h => by cases h; exact ⟨B, hB⟩
  | l :: r, p, q, B, hB, h => by
    simp only [runS] at h
    cases e : takeS p l with
    | inl x => rw [e] at h; cases h
    | inr p1 =>
      rw [e] at h
      exact run_B r p1 q _ (takeS_B hB e) h
theorem pst0_B : PB pst0 0 := ⟨Nat.le_refl _, Nat.le_refl _, Nat.le_refl _, Nat.le_refl _, Nat.le_refl _, Nat.le_refl _, Int.le_refl _, Int.le_refl _⟩
theorem rel_self {p : PSt} (I : List Itm) (h : Idle p) (hI : p.its = I) (h0 : 0 ≤ p.recs) (h4 : p.recs ≤ 400) : Rel I p.recs p pst0 :=
  ⟨h.1, (fun e => by cases e), by rw [hI]; simp [pst0], h.2.1, h.2.2, by simp [pst0], h0, h4, fun e => absurd h.2.2 e, fun e => absurd h.1 e⟩
theorem rel_0 : Rel [] 0 pst0 pst0 := ⟨rfl, id, rfl, rfl, rfl, rfl, by decide, by decide, fun e => absurd rfl e, fun e => absurd rfl e⟩
theorem parse_of {s : ByteArray} {L : List Lne} {q q2 : PSt} (hL : (linesT s).map (·.2.2) = L.map (·.2.2)) (hr : runS pst0 L = .inr q) (he : endS q = .inr q2) : parseS s = .inr q2.its := by
  obtain ⟨q', h1, h2⟩ := run_rel L (linesT s) pst0 pst0 q hL.symm rel_0 hr
  obtain ⟨q3, h3, h4⟩ := end_rel h2 he
  unfold parseS
  rw [h1]
  simp only [h3]
  rw [h4.its]
  rfl
theorem lines_text (s : ByteArray) : (linesT s).map (·.2.2) = linesB s.size (ls s) := texts_linesR _ _ _ _
theorem lines_of {L : List Lne} (h : ∀ l ∈ L, l.2.2.2 = true ∧ (10 : UInt8) ∉ ls l.2.2.1) : (linesT (bytes (glue (L.map (·.2.2))))).map (·.2.2) = L.map (·.2.2) := by
  rw [lines_text, show ls (bytes (glue (L.map (·.2.2)))) = glue (L.map (·.2.2)) from bytes_list _]
  refine lines_glue _ _ (fun x hx => ?_) (by rw [bytes_size]; exact Nat.le_refl _)
  obtain ⟨l, hl, rfl⟩ := List.mem_map.1 hx
  exact h l hl
theorem parse_cuts {s : ByteArray} {l : List Itm} (hp : parseS s = .inr l) {i : Nat} (hi : i < l.length) (hb : (l[i]).1 = 1) : szI (l.take (i + 1)) ≤ s.size ∧ parseS (bytes ((ls s).take (szI (l.take (i + 1))))) = .inr (l.take (i + 1)) ∧ parseS (bytes ((ls s).drop (szI (l.take (i + 1))))) = .inr (l.drop (i + 1)) := by
  unfold parseS at hp
  cases e : runS pst0 (linesT s) with
  | inl x => rw [e] at hp; cases hp
  | inr p =>
    rw [e] at hp
    simp only at hp
    cases e2 : endS p with
    | inl x => rw [e2] at hp; cases hp
    | inr q =>
      rw [e2] at hp
      cases hp
      obtain ⟨⟨X, hX, hX1⟩, hraw, hidle⟩ := end_took e2
      have hip : i < p.its.length := by
        rcases Nat.lt_or_ge i p.its.length with h | h
        · exact h
        · exfalso
          have : q.its[i] ∈ X := by
            simp only [hX]
            rw [List.getElem_append_right h]
            exact List.getElem_mem _
          exact hX1 _ this hb
      have hbp : (p.its[i]).1 = 1 := by
        have : q.its[i] = p.its[i] := by simp only [hX]; exact List.getElem_append_left hip
        rw [← this]; exact hb
      obtain ⟨L1, L2, q1, hL, hr1, hid, hits⟩ := run_blank _ _ _ e i hip (Nat.zero_le _) hbp
      have htake : q.its.take (i + 1) = p.its.take (i + 1) := by rw [hX, List.take_append_of_le_length (by omega)]
      obtain ⟨hall, _, _⟩ := run_took _ _ _ e
      obtain ⟨_, hraw1, _⟩ := run_took _ _ _ hr1
      have hsz : szI (q.its.take (i + 1)) = szL L1 := by
        rw [htake, ← hits]
        have : rawN q1 = szI q1.its := by unfold rawN; rw [hid.2.1]; rfl
        rw [← this, hraw1]
        simp [rawN, pst0, szI, szB]
      have hno : ∀ l ∈ linesT s, l.2.2.2 = true ∧ (10 : UInt8) ∉ ls l.2.2.1 := fun l hl =>
        ⟨hall l hl, linesB_no s.size (ls s) l.2.2 (by rw [← lines_text]; exact List.mem_map_of_mem hl)⟩
      have hls : ls s = glue (L1.map (·.2.2)) ++ glue (L2.map (·.2.2)) := by
        rw [← glue_app, ← List.map_append, ← hL, lines_text, glue_lines _ _ (by rw [show (ls s).length = s.size from (size_list s).symm]; exact Nat.le_refl _)]
      have hg1 : (glue (L1.map (·.2.2))).length = szL L1 := glue_len _ (fun l hl => (hno l (by rw [hL]; exact List.mem_append_left _ hl)).1)
      have hn1 : ∀ l ∈ L1, l.2.2.2 = true ∧ (10 : UInt8) ∉ ls l.2.2.1 := fun l hl => hno l (by rw [hL]; exact List.mem_append_left _ hl)
      have hn2 : ∀ l ∈ L2, l.2.2.2 = true ∧ (10 : UInt8) ∉ ls l.2.2.1 := fun l hl => hno l (by rw [hL]; exact List.mem_append_right _ hl)
      have hsize : s.size = (ls s).length := size_list s
      rw [hsz]
      refine ⟨by rw [hsize, hls, List.length_append]; omega, ?_, ?_⟩
      · rw [hls, ← hg1, List.take_left' rfl]
        have he1 : endS q1 = .inr (closeS q1) := by unfold endS flushS; rw [if_pos hid.1]
        rw [parse_of (lines_of hn1) hr1 he1]
        unfold closeS
        rw [if_pos hid.2.1]
        simp only
        rw [hits, htake]
      · rw [hls, ← hg1, List.drop_left' rfl]
        rw [hL, run_app _ _ _ _ hr1] at e
        have hrel : Rel (q.its.take (i + 1)) q1.recs q1 pst0 := rel_self _ hid (by rw [hits, htake]) ?_ ?_
        · obtain ⟨q2, h1, h2⟩ := run_rel L2 L2 q1 pst0 p rfl hrel e
          obtain ⟨q3, h3, h4⟩ := end_rel h2 e2
          rw [parse_of (lines_of hn2) h1 h3]
          have := h4.its
          congr 1
          have h5 : q.its.drop (i + 1) = (q.its.take (i + 1) ++ q3.its).drop (i + 1) := by rw [← this]
          rw [h5, List.drop_left' (by rw [List.length_take]; omega)]
        · exact (run_B L1 pst0 q1 0 pst0_B hr1).choose_spec.rec0
        · exact (run_rel L1 L1 pst0 pst0 q1 rfl rel_0 hr1).choose_spec.2.r4
end Q
end Ab
end Go.Proofs.YtklhlkhlndhepaaDoor
namespace Go.Proofs.YtklhlkhlndhepaaDoor
open Go.RowKit
namespace Ab
set_option maxRecDepth 100000
namespace Q
def more (l : Lne) : Bool := decide (kindL (ls l.2.2.1) = 3)
/-- The lines of the field that begins with the first of these. -/
def saidL (l : Lne) (r : List Lne) : List ByteArray := l.2.2.1 :: (r.takeWhile more).map (·.2.2.1)
/-- What is wrong at a line. -/
def wrongL (bh : Bool) (l : Lne) (r : List Lne) (fields recs : Int) : Int :=
  if kindL (ls l.2.2.1) = 5 ∨ (kindL (ls l.2.2.1) = 3 ∧ bh = false) ∨ l.2.2.2 = false then 2
  else if kindL (ls l.2.2.1) ≠ 4 then 0
  else if (unfoldL ((saidL l r).map ls)).2 ≠ 0 then (unfoldL ((saidL l r).map ls)).2
  else if 40 ≤ fields ∨ (fields = 0 ∧ 400 ≤ recs) then 11
  else 0
structure RSt where
  kind : Int
  raw : ByteArray
  flds : List Fld
  out : List Itm
  recs : Int
def fldOf (L : List ByteArray) : Fld := (bytes (unfoldL (L.map ls)).1.1, bytes (unfoldL (L.map ls)).1.2)
def stepR (t : RSt) (l : Lne) (r : List Lne) : RSt :=
  if kindL (ls l.2.2.1) = 1 then ⟨2, ByteArray.empty, [], (if t.raw = ByteArray.empty then t.out else t.out ++ [(t.kind, t.raw, t.flds)]) ++ [(1, l.2.2.1 ++ ⟨#[10]⟩, [])], t.recs⟩
  else if kindL (ls l.2.2.1) = 4 then ⟨3, t.raw ++ l.2.2.1 ++ ⟨#[10]⟩, t.flds ++ [fldOf (saidL l r)], t.out, if t.kind = 2 then t.recs + 1 else t.recs⟩
  else { t with raw := t.raw ++ l.2.2.1 ++ ⟨#[10]⟩ }
/-- A text's items, where it is wrong. -/
def runR (bh : Bool) (t : RSt) : List Lne → (Int × Int) ⊕ List Itm
  | [] => .inr (if t.raw = ByteArray.empty then t.out else t.out ++ [(t.kind, t.raw, t.flds)])
  | l :: r => if wrongL bh l r t.flds.length t.recs ≠ 0 then .inl (l.1, wrongL bh l r t.flds.length t.recs)
    else runR (decide (kindL (ls l.2.2.1) = 4) || decide (kindL (ls l.2.2.1) = 3)) (stepR t l r) r
def rst0 : RSt := ⟨2, ByteArray.empty, [], [], 0⟩
/-- What the parser comes to. -/
def outP (p : PSt) (L : List Lne) : (Int × Int) ⊕ List Itm := match runS p L with
  | .inl e => .inl e
  | .inr q => match endS q with
    | .inl e => .inl e
    | .inr q => .inr q.its
theorem outP_cons (p : PSt) (l : Lne) (r : List Lne) : outP p (l :: r) = match takeS p l with
    | .inl e => .inl e
    | .inr q => outP q r := by
  unfold outP
  simp only [runS]
  cases takeS p l <;> rfl
theorem parse_out (s : ByteArray) : parseS s = outP pst0 (linesT s) := rfl
/-- Only the last line may be without an end. -/
def Ends : List Lne → Prop
  | [] => True
  | l :: r => (l.2.2.2 = false → r = []) ∧ Ends r
theorem ends_linesR : ∀ (f : Nat) (tot no : Int) (s : List UInt8), Ends (linesR f tot no s)
  | 0, _, _, _ => trivial
  | f + 1, _, _, [] => trivial
  | f + 1, tot, no, a :: r => by
    rw [linesR_cons]
    refine ⟨fun h => ?_, ends_linesR f _ _ _⟩
    rcases cut_cases (a := a) (s := r) (c := 10) with ⟨x, b, e, _, hc⟩ | ⟨_, hc⟩
    · rw [hc] at h; cases h
    · rw [hc]; cases f <;> rfl
theorem not_more {l : Lne} (h : kindL (ls l.2.2.1) ≠ 3) (r : List Lne) : (l :: r).takeWhile more = [] := by
  rw [List.takeWhile_cons_of_neg (by unfold more; simp [h])]
theorem is_more {l : Lne} (h : kindL (ls l.2.2.1) = 3) (r : List Lne) : (l :: r).takeWhile more = l :: r.takeWhile more := by
  rw [List.takeWhile_cons_of_pos (by unfold more; simp [h])]
/-- A field that is wrong is told of once it ends. -/
theorem pend_err : ∀ (r : List Lne) (p : PSt) (at_ n : Int), Ends r → p.lns ≠ [] → (∀ q : PSt, q.lns = p.lns ++ (r.takeWhile more).map (·.2.2.1) → q.full = p.full → q.frm = p.frm → flushS q = .inl (at_, n)) → outP p r = .inl (at_, n)
  | [], p, at_, n, _, h0, hf => by
    have := hf p (by simp) rfl rfl
    unfold outP
    simp only [runS, endS, this]
  | l :: r, p, at_, n, hE, h0, hf => by
    rw [outP_cons]
    by_cases hm : kindL (ls l.2.2.1) = 3
    · rw [is_more hm] at hf
      by_cases he : l.2.2.2 = true
      · have ht : takeS p l = .inr { p with lns := p.lns ++ [l.2.2.1], blk := p.blk ++ [l.2.2.1] } := by
          unfold takeS
          simp only [hm]
          simp [aheadS, lineS, h0, he]
        rw [ht]
        exact pend_err r _ at_ n hE.2 (by simp) (fun q h1 h2 h3 => hf q (by rw [h1]; simp) h2 h3)
      · obtain rfl := hE.1 (by simpa using he)
        have hfp := hf { p with lns := p.lns ++ [l.2.2.1] } (by simp) rfl rfl
        have ht : takeS p l = .inl (at_, n) := by
          unfold takeS aheadS
          rw [if_pos hm, if_neg h0, if_neg he, hfp]
        rw [ht]
    · rw [not_more hm] at hf
      have hfp := hf p (by simp) rfl rfl
      have ht : takeS p l = .inl (at_, n) := by
        unfold takeS aheadS
        rw [if_neg hm]
        unfold endS
        rw [hfp]
        simp
      rw [ht]
def rawC (b : List ByteArray) : ByteArray := bytes (endL (b.map ls))
theorem rawC_snoc (b : List ByteArray) (x : ByteArray) : rawC (b ++ [x]) = rawC b ++ x ++ ⟨#[10]⟩ := by
  unfold rawC endL
  rw [List.map_append, List.flatMap_append, bytes_app, ByteArray.append_assoc]
  congr 1
  simp only [List.map_cons, List.map_nil, List.flatMap_cons, List.flatMap_nil, List.append_nil]
  rw [bytes_app, bytes_ls]
  rfl
theorem join_endL (c : UInt8) : ∀ (l : List (List UInt8)), l ≠ [] → Lib.join l [c] ++ [c] = l.flatMap fun s => s ++ [c]
  | [], h => absurd rfl h
  | [a], _ => by rw [Lib.join_one]; simp
  | a :: b :: r, _ => by
    have := join_endL c (b :: r) (by simp)
    rw [join_two, List.flatMap_cons, ← this]
    simp
theorem rawB_C {b : List ByteArray} (h : b ≠ []) : rawB b = rawC b := by
  unfold rawB rawC endL
  rw [show b.map ls = b.map (·.data.toList) from rfl, ← join_endL 10 (b.map (·.data.toList)) (by simpa using h), bytes_app]
  rfl
theorem rawC_nil {b : List ByteArray} : rawC b = ByteArray.empty ↔ b = [] := by
  refine ⟨fun h => ?_, fun h => by rw [h]; rfl⟩
  cases b with
  | nil => rfl
  | cons x r =>
    have := congrArg ByteArray.size h
    unfold rawC endL at this
    rw [bytes_size] at this
    simp at this
/-- What the document's answer and the parser have in common ahead of these lines. -/
structure Alike (p : PSt) (t : RSt) (bh : Bool) (L : List Lne) : Prop where
  its : t.out = p.its
  raw : t.raw = rawC p.blk
  bh : bh = true ↔ p.lns ≠ []
  flds : t.flds = p.flds ++ (if p.lns = [] then [] else [fldOf (p.lns ++ (L.takeWhile more).map (·.2.2.1))])
  kind : t.kind = if t.flds = [] then 2 else 3
  recs : t.recs = p.recs + (if t.flds = [] then 0 else 1)
  pend : p.lns ≠ [] → p.full = false ∧ (unfoldL ((p.lns ++ (L.takeWhile more).map (·.2.2.1)).map ls)).2 = 0
  blk0 : p.blk = [] → t.flds = []
  r4 : p.recs ≤ 400
  rf : t.flds ≠ [] → p.recs < 400
  f40 : t.flds.length ≤ 40
section
variable {p : PSt} {t : RSt} {bh : Bool} {L : List Lne}
theorem alike_flush (h : Alike p t bh L) (hL : L.takeWhile more = []) : ∃ q, flushS p = .inr q ∧ q.lns = [] ∧ q.flds = t.flds ∧ q.its = p.its ∧ q.blk = p.blk ∧ q.recs = p.recs := by
  by_cases h0 : p.lns = []
  · refine ⟨p, by unfold flushS; rw [if_pos h0], h0, ?_, rfl, rfl, rfl⟩
    rw [h.flds, if_pos h0, List.append_nil]
  · obtain ⟨h1, h2⟩ := h.pend h0
    rw [hL, List.map_nil, List.append_nil] at h2
    refine ⟨{ p with flds := p.flds ++ [(bytes (unfoldL (p.lns.map ls)).1.1, bytes (unfoldL (p.lns.map ls)).1.2)], lns := [] }, ?_, rfl, ?_, rfl, rfl, rfl⟩
    · unfold flushS
      rw [if_neg h0, if_neg (by rw [h2]; simp), if_neg (by rw [h1]; simp)]
    · rw [h.flds, if_neg h0, hL]
      simp [fldOf]
theorem alike_end (h : Alike p t bh L) (hL : L.takeWhile more = []) : ∃ q, endS p = .inr q ∧ q.lns = [] ∧ q.flds = [] ∧ q.blk = [] ∧ q.its = (if t.raw = ByteArray.empty then t.out else t.out ++ [(t.kind, t.raw, t.flds)]) ∧ q.recs = t.recs := by
  obtain ⟨q, f1, f2, f3, f4, f5, f6⟩ := alike_flush h hL
  refine ⟨closeS q, by unfold endS; rw [f1], ?_⟩
  unfold closeS
  by_cases hb : p.blk = []
  · have hraw : t.raw = ByteArray.empty := by rw [h.raw]; exact rawC_nil.2 hb
    rw [if_pos (f5.trans hb), if_pos hraw]
    refine ⟨f2, rfl, rfl, by rw [h.its]; exact f4, ?_⟩
    rw [h.recs, if_pos (h.blk0 hb), Int.add_zero]
    exact f6
  · have hraw : ¬ t.raw = ByteArray.empty := fun e => hb (rawC_nil.1 (by rw [← h.raw]; exact e))
    rw [if_neg (by rw [f5]; exact hb), if_neg hraw]
    refine ⟨f2, rfl, rfl, ?_, ?_⟩
    · simp only [h.its, h.kind, h.raw, rawB_C hb, f3, f4, f5]
    · simp only [f3, f6]
      rw [h.recs]
      by_cases hf : t.flds = []
      · simp [hf]
      · simp [hf]
end
theorem run_eq : ∀ (L : List Lne) (p : PSt) (t : RSt) (bh : Bool), Ends L → Alike p t bh L → outP p L = runR bh t L
  | [], p, t, bh, _, h => by
    obtain ⟨q, e, _, _, _, h1, _⟩ := alike_end h rfl
    unfold outP
    simp only [runS, e, h1]
    rfl
  | l :: r, p, t, bh, hE, h => by
    rw [outP_cons]
    unfold runR
    by_cases h3 : kindL (ls l.2.2.1) = 3
    · by_cases hb : p.lns = []
      · have hbh : bh = false := by
          cases bh
          · rfl
          · exact absurd hb (h.bh.1 rfl)
        have hw : wrongL bh l r t.flds.length t.recs = 2 := by
          unfold wrongL
          rw [if_pos (.inr (.inl ⟨h3, hbh⟩))]
        have ht : takeS p l = .inl (l.1, 2) := by
          unfold takeS aheadS
          rw [if_pos h3, if_pos hb]
        rw [hw, ht]
        rfl
      · have hbh : bh = true := h.bh.2 hb
        obtain ⟨h5, h6⟩ := h.pend hb
        rw [is_more h3] at h6
        by_cases he : l.2.2.2 = true
        · have hw : wrongL bh l r t.flds.length t.recs = 0 := by
            unfold wrongL
            rw [if_neg (by simp [h3, hbh, he]), if_pos (by rw [h3]; decide)]
          have ht : takeS p l = .inr { p with lns := p.lns ++ [l.2.2.1], blk := p.blk ++ [l.2.2.1] } := by
            unfold takeS
            simp only [h3]
            simp [aheadS, lineS, hb, he]
          rw [hw, ht, if_neg (by decide)]
          refine run_eq r _ _ _ hE.2 ?_
          have hfl := h.flds
          rw [if_neg hb, is_more h3] at hfl
          have hne : t.flds ≠ [] := by rw [hfl]; simp
          unfold stepR
          rw [if_neg (by rw [h3]; decide), if_neg (by rw [h3]; decide)]
          exact ⟨h.its, by simp only [h.raw, rawC_snoc], by simp [h3], by simp only; rw [hfl, if_neg (by simp)]; simp, h.kind, h.recs, fun _ => ⟨h5, by simpa using h6⟩, fun e => by simp at e, h.r4, h.rf, h.f40⟩
        · have he' : l.2.2.2 = false := by simpa using he
          obtain rfl := hE.1 he'
          have hw : wrongL bh l [] t.flds.length t.recs = 2 := by
            unfold wrongL
            rw [if_pos (.inr (.inr he'))]
          have ht : takeS p l = .inl (l.1, 2) := by
            have : aheadS p l 3 = .inr { p with flds := p.flds ++ [(bytes (unfoldL ((p.lns ++ [l.2.2.1]).map ls)).1.1, bytes (unfoldL ((p.lns ++ [l.2.2.1]).map ls)).1.2)], lns := [] } := by
              unfold aheadS
              rw [if_pos rfl, if_neg hb, if_neg he]
              unfold flushS
              simp only [List.takeWhile_nil, List.map_cons, List.map_nil] at h6
              rw [if_neg (by simp), if_neg (by simp only [ne_eq, h6]; simp), if_neg (by simp [h5])]
            unfold takeS
            rw [h3, this]
            simp [lineS, he']
          rw [hw, ht]
          rfl
    · have hno := not_more h3 r
      by_cases h1 : kindL (ls l.2.2.1) = 1
      · obtain ⟨q, e, e1, e2, e3, e4, e5⟩ := alike_end h hno
        by_cases he : l.2.2.2 = true
        · have hw : wrongL bh l r t.flds.length t.recs = 0 := by
            unfold wrongL
            rw [if_neg (by simp [h1, he]), if_pos (by rw [h1]; decide)]
          have ht : takeS p l = .inr { q with its := q.its ++ [(1, l.2.2.1 ++ ⟨#[10]⟩, [])] } := by
            unfold takeS aheadS
            rw [if_neg h3, if_pos h1, e]
            simp [lineS, h1, he]
          rw [hw, ht, if_neg (by decide)]
          refine run_eq r _ _ _ hE.2 ?_
          unfold stepR
          rw [if_pos h1]
          refine ⟨by simp only [e4], by rw [e3]; rfl, by simp [h1, e1], by simp [e1, e2], rfl, by simp [e5], fun h => absurd e1 h, fun _ => rfl, ?_, fun e => absurd rfl e, by simp⟩
          simp only [e5, h.recs]
          split
          · have := h.r4; omega
          · rename_i hf; have := h.rf hf; omega
        · have he' : l.2.2.2 = false := by simpa using he
          have hw : wrongL bh l r t.flds.length t.recs = 2 := by
            unfold wrongL
            rw [if_pos (.inr (.inr he'))]
          have ht : takeS p l = .inl (l.1, 2) := by
            unfold takeS aheadS
            rw [if_neg h3, if_pos h1, e]
            simp [lineS, he']
          rw [hw, ht]
          rfl
      · obtain ⟨q, f1, f2, f3, f4, f5, f6⟩ := alike_flush h hno
        have hah : aheadS p l (kindL (ls l.2.2.1)) = .inr q := by
          unfold aheadS
          rw [if_neg h3, if_neg h1, f1]
        by_cases hbad : kindL (ls l.2.2.1) = 5 ∨ l.2.2.2 = false
        · have hw : wrongL bh l r t.flds.length t.recs = 2 := by
            unfold wrongL
            rw [if_pos (hbad.elim .inl (fun h => .inr (.inr h)))]
          have ht : takeS p l = .inl (l.1, 2) := by
            unfold takeS lineS
            rw [hah]
            simp only
            rw [if_pos hbad]
          rw [hw, ht]
          rfl
        · have hb5 : kindL (ls l.2.2.1) ≠ 5 := fun e => hbad (.inl e)
          have he : l.2.2.2 = true := by
            cases e : l.2.2.2
            · exact absurd (.inr e) hbad
            · rfl
          by_cases h4 : kindL (ls l.2.2.1) = 4
          · have ht : takeS p l = .inr { beginS q l with blk := q.blk ++ [l.2.2.1] } := by
              unfold takeS lineS
              rw [hah]
              simp only
              rw [if_neg hbad, if_neg h1, if_pos h4]
            have hfull : ((decide ((q.flds.length : Int) = 40) || (decide ((q.flds.length : Int) = 0) && decide (q.recs = 400))) = true) ↔ (40 ≤ (t.flds.length : Int) ∨ ((t.flds.length : Int) = 0 ∧ 400 ≤ t.recs)) := by
              have g1 := h.f40
              have g2 := h.r4
              have g3 := h.recs
              rw [f3, f6]
              simp only [Bool.or_eq_true, Bool.and_eq_true, decide_eq_true_eq]
              constructor
              · rintro (g | ⟨g, g'⟩)
                · exact .inl (by omega)
                · refine .inr ⟨g, ?_⟩
                  rw [if_pos (List.eq_nil_of_length_eq_zero (by omega))] at g3
                  omega
              · rintro (g | ⟨g, g'⟩)
                · exact .inl (by omega)
                · refine .inr ⟨g, ?_⟩
                  rw [if_pos (List.eq_nil_of_length_eq_zero (by omega))] at g3
                  omega
            rw [ht]
            by_cases hu : (unfoldL ((saidL l r).map ls)).2 = 0
            · by_cases hfu : 40 ≤ (t.flds.length : Int) ∨ ((t.flds.length : Int) = 0 ∧ 400 ≤ t.recs)
              · have hw : wrongL bh l r t.flds.length t.recs = 11 := by
                  unfold wrongL
                  rw [if_neg (by simp [h4, he]), if_neg (by simp [h4]), if_neg (by simp [hu]), if_pos hfu]
                rw [hw, if_pos (by decide)]
                refine pend_err r _ l.1 11 hE.2 (by simp [beginS]) (fun q' g1 g2 g3 => ?_)
                have g1' : q'.lns = saidL l r := g1
                have g2' : q'.full = true := g2.trans (hfull.2 hfu)
                have g3' : q'.frm = l.1 := g3
                unfold flushS
                rw [g1', if_neg (by unfold saidL; simp), if_neg (by simp [hu]), if_pos g2', g3']
              · have hw : wrongL bh l r t.flds.length t.recs = 0 := by
                  unfold wrongL
                  rw [if_neg (by simp [h4, he]), if_neg (by simp [h4]), if_neg (by simp [hu]), if_neg hfu]
                rw [hw, if_neg (by decide)]
                refine run_eq r _ _ _ hE.2 ?_
                have hff : (decide ((q.flds.length : Int) = 40) || (decide ((q.flds.length : Int) = 0) && decide (q.recs = 400))) = false := by
                  cases e : (decide ((q.flds.length : Int) = 40) || (decide ((q.flds.length : Int) = 0) && decide (q.recs = 400)))
                  · rfl
                  · exact absurd (hfull.1 e) hfu
                unfold stepR
                rw [if_neg h1, if_pos h4]
                refine ⟨by simp only [beginS, h.its, f4], by simp only [h.raw, rawC_snoc, f5], by simp [h4, beginS], ?_, by simp, ?_, fun _ => ⟨hff, hu⟩, fun e => by simp at e, ?_, fun _ => ?_, ?_⟩
                · simp only [beginS, f3]
                  rw [if_neg (by simp)]
                  rfl
                · simp only [beginS, f6]
                  have g3 := h.recs
                  have g4 := h.kind
                  by_cases hf : t.flds = []
                  · rw [if_pos hf] at g3 g4
                    rw [if_pos g4, if_neg (by simp), g3]
                    omega
                  · rw [if_neg hf] at g3 g4
                    rw [if_neg (by rw [g4]; decide), if_neg (by simp), g3]
                · simp only [beginS, f6]; exact h.r4
                · simp only [beginS, f6]
                  by_cases hf : t.flds = []
                  · have g3 := h.recs
                    rw [if_pos hf] at g3
                    have : ¬ 400 ≤ t.recs := fun e => hfu (.inr ⟨by rw [hf]; rfl, e⟩)
                    omega
                  · exact h.rf hf
                · rw [List.length_append, List.length_singleton]
                  have : ¬ 40 ≤ (t.flds.length : Int) := fun e => hfu (.inl e)
                  omega
            · have hw : wrongL bh l r t.flds.length t.recs = (unfoldL ((saidL l r).map ls)).2 := by
                unfold wrongL
                rw [if_neg (by simp [h4, he]), if_neg (by simp [h4]), if_pos hu]
              rw [hw, if_pos hu]
              refine pend_err r _ l.1 _ hE.2 (by simp [beginS]) (fun q' g1 g2 g3 => ?_)
              have g1' : q'.lns = saidL l r := g1
              have g3' : q'.frm = l.1 := g3
              unfold flushS
              rw [g1', if_neg (by unfold saidL; simp), if_pos hu, g3']
          · have hw : wrongL bh l r t.flds.length t.recs = 0 := by
              unfold wrongL
              rw [if_neg (by simp [h3, hb5, he]), if_pos h4]
            have ht : takeS p l = .inr { q with blk := q.blk ++ [l.2.2.1] } := by
              unfold takeS lineS
              rw [hah]
              simp only
              rw [if_neg hbad, if_neg h1, if_neg h4]
            rw [hw, ht, if_neg (by decide)]
            refine run_eq r _ _ _ hE.2 ?_
            unfold stepR
            rw [if_neg h1, if_neg h4]
            exact ⟨by simp only [h.its, f4], by simp only [h.raw, rawC_snoc, f5], by simp [h3, h4, f2], by simp [f2, f3], h.kind, by simp only [f6]; exact h.recs, fun e => absurd f2 e, fun e => by simp at e, by simp only [f6]; exact h.r4, by simp only [f6]; exact h.rf, h.f40⟩
theorem parse_ref (s : ByteArray) : parseS s = runR false rst0 (linesT s) := by
  rw [parse_out]
  exact run_eq _ _ _ _ (ends_linesR _ _ _ _) ⟨rfl, rfl, by simp [pst0], by simp [rst0, pst0], rfl, rfl, fun e => absurd rfl e, fun _ => rfl, by decide, fun e => absurd rfl e, by simp [rst0]⟩
end Q
end Ab
end Go.Proofs.YtklhlkhlndhepaaDoor
namespace Go.Proofs.YtklhlkhlndhepaaDoor
open Go.RowKit
namespace Ab
set_option maxRecDepth 100000
namespace Q
def mkL (t : ByteArray) : Lne := (0, 0, t, true)
theorem lineB_map2 (k v : ByteArray) : (lineB k v).map ls = linesL k.data.toList v.data.toList := by
  unfold lineB
  rw [List.map_map]
  conv => rhs; rw [← List.map_id (linesL k.data.toList v.data.toList)]
  exact List.map_congr_left fun s _ => bytes_list s
/-- A field's lines: the first one, and those behind it. -/
theorem lineB_cut {f : Fld} (h : checkF f = 0) : ∃ a r, lineB f.1 f.2 = a :: r ∧ kindL (ls a) = 4 ∧ (∀ x ∈ r, kindL (ls x) = 3) ∧ unfoldL ((a :: r).map ls) = ((f.1.data.toList, f.2.data.toList), 0) := by
  obtain ⟨h1, h2, h3⟩ := check_ok h
  rw [size_list] at h2
  have hno := parts_no f.2.data.toList
  have h0 : (10 : UInt8) ∉ (partsL f.2.data.toList).headD [] := by
    cases e : partsL f.2.data.toList with
    | nil => exact absurd e (split_ne f.2.data.toList [10])
    | cons p ps => rw [e] at hno; exact hno p (by simp)
  have hu := unfold_lines h1 h2
  rw [← lineB_map2] at hu
  refine ⟨bytes (firstL f.1.data.toList ((partsL f.2.data.toList).headD [])), ((partsL f.2.data.toList).drop 1).map (fun s => bytes (32 :: stuffL s)), ?_, ?_, ?_, ?_⟩
  · unfold lineB linesL
    rw [List.map_cons, List.map_map]
    rfl
  · rw [show ls (bytes (firstL f.1.data.toList ((partsL f.2.data.toList).headD []))) = _ from bytes_list _]
    exact (first_kind h1 h0).1
  · intro x hx
    obtain ⟨s, hs, rfl⟩ := List.mem_map.1 hx
    rw [show ls (bytes (32 :: stuffL s)) = _ from bytes_list _]
    exact more_kind (hno s (List.mem_of_mem_drop hs))
  · rw [← hu]
    refine congrArg (fun x : List ByteArray => unfoldL (x.map ls)) ?_
    unfold lineB linesL
    rw [List.map_cons, List.map_map]
    rfl
/-- What a parser comes to once its field is ended. -/
def Ready (p : PSt) (F : List Fld) : Prop := ∃ q, flushS p = .inr q ∧ q.lns = [] ∧ q.flds = F ∧ q.its = p.its ∧ q.recs = p.recs ∧ q.blk = p.blk
theorem more_run : ∀ (r : List ByteArray) (p : PSt), (∀ x ∈ r, kindL (ls x) = 3) → p.lns ≠ [] → runS p (r.map mkL) = .inr { p with lns := p.lns ++ r, blk := p.blk ++ r }
  | [], p, _, _ => by simp [runS]
  | x :: r, p, h, h0 => by
    have hk := h x List.mem_cons_self
    have ht : takeS p (mkL x) = .inr { p with lns := p.lns ++ [x], blk := p.blk ++ [x] } := by
      unfold takeS mkL
      simp only [hk]
      simp [aheadS, lineS, h0]
    rw [List.map_cons]
    simp only [runS, ht]
    rw [more_run r _ (fun y hy => h y (List.mem_cons_of_mem _ hy)) (by simp)]
    simp
theorem field_run {f : Fld} (h : checkF f = 0) {p : PSt} {F : List Fld} (hr : Ready p F) (hF : F.length < 40) (hrec : p.recs ≠ 400) : ∃ q, runS p ((lineB f.1 f.2).map mkL) = .inr q ∧ Ready q (F ++ [f]) ∧ q.its = p.its ∧ q.recs = p.recs ∧ q.blk ≠ [] := by
  obtain ⟨a, r, e, hk4, hk3, hu⟩ := lineB_cut h
  obtain ⟨q, f1, f2, f3, f4, f5, f6⟩ := hr
  have hfull : (decide ((q.flds.length : Int) = 40) || (decide ((q.flds.length : Int) = 0) && decide (q.recs = 400))) = false := by
    rw [f3, f5]
    have h1 : ¬ (F.length : Int) = 40 := by omega
    simp [h1, hrec]
  have ht : takeS p (mkL a) = .inr ⟨[a], 0, false, q.its, q.blk ++ [a], q.flds, q.recs⟩ := by
    unfold takeS mkL
    simp only [hk4]
    have : aheadS p (0, 0, a, true) 4 = .inr q := by unfold aheadS; rw [if_neg (by decide), if_neg (by decide)]; exact f1
    rw [this]
    simp only [lineS, beginS, hfull]
    simp
  rw [e, List.map_cons]
  simp only [runS, ht]
  rw [more_run r _ hk3 (by simp)]
  refine ⟨_, rfl, ?_, f4, f5, by simp⟩
  refine ⟨⟨[], 0, false, q.its, q.blk ++ [a] ++ r, q.flds ++ [f], q.recs⟩, ?_, rfl, by simp only [f3], rfl, rfl, rfl⟩
  unfold flushS
  have e2 : ([a] ++ r).map ls = (a :: r).map ls := rfl
  rw [if_neg (by simp)]
  simp only [e2, hu]
  rw [bytes_ls f.1, bytes_ls f.2]
  rfl
theorem fields_run : ∀ (fs : List Fld) (p : PSt) (F : List Fld), (∀ f ∈ fs, checkF f = 0) → Ready p F → F.length + fs.length ≤ 40 → p.recs ≠ 400 → fs ≠ [] → ∃ q, runS p ((fs.flatMap fun f => lineB f.1 f.2).map mkL) = .inr q ∧ Ready q (F ++ fs) ∧ q.its = p.its ∧ q.recs = p.recs ∧ q.blk ≠ []
  | [], _, _, _, _, _, _, h => absurd rfl h
  | f :: r, p, F, h, hr, hF, hrec, _ => by
    rw [List.length_cons] at hF
    obtain ⟨q, e1, e2, e3, e4, e5⟩ := field_run (h f List.mem_cons_self) hr (by omega) hrec
    rw [List.flatMap_cons, List.map_append, run_app _ _ _ _ e1]
    by_cases h0 : r = []
    · subst h0
      exact ⟨q, rfl, e2, e3, e4, e5⟩
    · obtain ⟨q2, i1, i2, i3, i4, i5⟩ := fields_run r q (F ++ [f]) (fun g hg => h g (List.mem_cons_of_mem _ hg)) e2 (by rw [List.length_append, List.length_singleton]; omega) (by rw [e4]; exact hrec) h0
      exact ⟨q2, i1, by rw [List.append_assoc] at i2; exact i2, i3.trans e3, i4.trans e4, i5⟩
theorem kind_note {n : List UInt8} (h : (10 : UInt8) ∉ n) : kindL (35 :: n) = 2 := by
  unfold kindL
  rw [if_neg (by simp [h])]
  rw [if_neg (by simp [blankC])]
  rw [if_pos (by simp [Lib.hasPrefix])]
theorem note_run {p : PSt} {F : List Fld} {n : List UInt8} (h : (10 : UInt8) ∉ n) (hr : Ready p F) : ∃ q, takeS p (mkL (bytes (35 :: n))) = .inr q ∧ q.lns = [] ∧ q.flds = F ∧ q.its = p.its ∧ q.recs = p.recs ∧ q.blk ≠ [] := by
  obtain ⟨q, f1, f2, f3, f4, f5, f6⟩ := hr
  refine ⟨{ q with blk := q.blk ++ [bytes (35 :: n)] }, ?_, f2, f3, f4, f5, by simp⟩
  unfold takeS mkL
  simp only [show ls (bytes (35 :: n)) = 35 :: n from bytes_list _, kind_note h]
  have : aheadS p (0, 0, bytes (35 :: n), true) 2 = .inr q := by unfold aheadS; rw [if_neg (by decide), if_neg (by decide)]; exact f1
  rw [this]
  simp [lineS]
theorem ready_idle {p : PSt} {F : List Fld} (h : p.lns = []) (hF : p.flds = F) : Ready p F := ⟨p, by unfold flushS; rw [if_pos h], h, hF, rfl, rfl, rfl⟩
theorem end_run {p : PSt} {F : List Fld} (hr : Ready p F) (h0 : F ≠ []) (hb : p.blk ≠ []) : ∃ r q, endS p = .inr q ∧ Idle q ∧ q.its = p.its ++ [(3, r, F)] ∧ q.recs = p.recs + 1 := by
  obtain ⟨q, f1, f2, f3, f4, f5, f6⟩ := hr
  refine ⟨rawB q.blk, closeS q, ?_, ?_⟩
  · unfold endS
    rw [f1]
  · unfold closeS
    rw [if_neg (by rw [f6]; exact hb), f3]
    simp only [if_neg h0]
    exact ⟨⟨f2, rfl, rfl⟩, by rw [f4], by rw [f5]⟩
theorem blank_run {p : PSt} {F : List Fld} (hr : Ready p F) (h0 : F ≠ []) (hb : p.blk ≠ []) : ∃ r q, takeS p (mkL ⟨#[]⟩) = .inr q ∧ Idle q ∧ q.its = p.its ++ [(3, r, F), (1, ⟨#[10]⟩, [])] ∧ q.recs = p.recs + 1 := by
  obtain ⟨r, q, e1, e2, e3, e4⟩ := end_run hr h0 hb
  refine ⟨r, { q with its := q.its ++ [(1, (⟨#[]⟩ : ByteArray) ++ ⟨#[10]⟩, [])] }, ?_, e2, by simp only [e3, List.append_assoc]; rfl, e4⟩
  unfold takeS mkL
  simp only [kind_E]
  have : aheadS p (0, 0, ⟨#[]⟩, true) 1 = .inr q := by unfold aheadS; rw [if_neg (by decide), if_pos rfl]; exact e1
  rw [this]
  simp [lineS]
def foldsL (a b : List Fld) (n : List UInt8) : List ByteArray := bytes (35 :: n) :: ((a.flatMap fun f => lineB f.1 f.2) ++ (⟨#[]⟩ :: ((b.flatMap fun f => lineB f.1 f.2) ++ [bytes (35 :: n)])))
theorem folds_run {a b : List Fld} {n : List UInt8} (ha : ∀ f ∈ a, checkF f = 0) (hb : ∀ f ∈ b, checkF f = 0) (ha0 : a ≠ []) (hb0 : b ≠ []) (ha4 : a.length ≤ 40) (hb4 : b.length ≤ 40) (hn : (10 : UInt8) ∉ n) :
    ∃ q q2 r1 r2, runS pst0 ((foldsL a b n).map mkL) = .inr q ∧ endS q = .inr q2 ∧ q2.its = [(3, r1, a), (1, ⟨#[10]⟩, []), (3, r2, b)] := by
  obtain ⟨p1, t1, a1, a2, a3, a4, a5⟩ := note_run (F := []) hn (ready_idle (p := pst0) rfl rfl)
  obtain ⟨p2, t2, b1, b2, b3, b4⟩ := fields_run a p1 [] ha (ready_idle a1 a2) (by simpa using ha4) (by rw [a4]; decide) ha0
  obtain ⟨r1, p3, t3, c1, c2, c3⟩ := blank_run b1 (by simpa using ha0) b4
  obtain ⟨p4, t4, d1, d2, d3, d4⟩ := fields_run b p3 [] hb (ready_idle c1.1 c1.2.2) (by simpa using hb4) (by rw [c3, b3, a4]; decide) hb0
  obtain ⟨p5, t5, g1, g2, g3, g4, g5⟩ := note_run hn d1
  obtain ⟨r2, p6, t6, h1, h2, h3⟩ := end_run (ready_idle g1 g2) (by simpa using hb0) g5
  refine ⟨p5, p6, r1, r2, ?_, t6, ?_⟩
  · unfold foldsL
    rw [List.map_cons]
    simp only [runS, t1]
    rw [List.map_append, run_app _ _ _ _ t2, List.map_cons]
    simp only [runS, t3]
    rw [List.map_append, run_app _ _ _ _ t4]
    simp only [List.map_cons, List.map_nil, runS, t5]
  · rw [h2, g3, d2, c2, b2, a3]
    rfl
theorem foldsL_no {a b : List Fld} {n : List UInt8} (ha : ∀ f ∈ a, checkF f = 0) (hb : ∀ f ∈ b, checkF f = 0) (hn : (10 : UInt8) ∉ n) : ∀ t ∈ foldsL a b n, (10 : UInt8) ∉ ls t := by
  have hl : ∀ (c : List Fld), (∀ f ∈ c, checkF f = 0) → ∀ t ∈ (c.flatMap fun f => lineB f.1 f.2), (10 : UInt8) ∉ ls t := by
    intro c hc t ht
    obtain ⟨f, hf, ht⟩ := List.mem_flatMap.1 ht
    have := lines_no (v := f.2.data.toList) (check_ok (hc f hf)).1 (ls t) (by rw [← lineB_map2]; exact List.mem_map_of_mem ht)
    exact this
  intro t ht
  unfold foldsL at ht
  simp only [List.mem_cons, List.mem_append, List.not_mem_nil, or_false] at ht
  have h1 : (10 : UInt8) ∉ ls (bytes (35 :: n)) := by rw [show ls (bytes (35 :: n)) = 35 :: n from bytes_list _]; simp [hn]
  rcases ht with rfl | ht | rfl | ht | rfl
  · exact h1
  · exact hl a ha t ht
  · decide
  · exact hl b hb t ht
  · exact h1
theorem glue_mk : ∀ (T : List ByteArray), glue ((T.map mkL).map (·.2.2)) = endL (T.map ls)
  | [] => rfl
  | t :: r => by
    rw [List.map_cons, List.map_cons]
    simp only [glue, glue_mk r, mkL, if_true]
    simp [endL]
theorem endL_flat (c : List Fld) : endL ((c.flatMap fun f => lineB f.1 f.2).map ls) = foldL c := by
  induction c with
  | nil => rfl
  | cons f r ih =>
    rw [List.flatMap_cons, List.map_append]
    unfold endL foldL at *
    rw [List.flatMap_append, ih, List.flatMap_cons, lineB_map2]
    rfl
/-- What is parsed of the text. -/
theorem folds_parse {a b : List Fld} {n : List UInt8} (ha : ∀ f ∈ a, checkF f = 0) (hb : ∀ f ∈ b, checkF f = 0) (ha0 : a ≠ []) (hb0 : b ≠ []) (ha4 : a.length ≤ 40) (hb4 : b.length ≤ 40) (hn : (10 : UInt8) ∉ n) :
    ∃ r1 r2, parseS (bytes ((35 :: n) ++ [10] ++ foldL a ++ [10] ++ foldL b ++ [35] ++ n ++ [10])) = .inr [(3, r1, a), (1, ⟨#[10]⟩, []), (3, r2, b)] := by
  obtain ⟨q, q2, r1, r2, h1, h2, h3⟩ := folds_run ha hb ha0 hb0 ha4 hb4 hn
  have hno := foldsL_no ha hb hn
  have hl := lines_of (L := (foldsL a b n).map mkL) (fun l hl => by
    obtain ⟨t, ht, rfl⟩ := List.mem_map.1 hl
    exact ⟨rfl, hno t ht⟩)
  have ht : glue (((foldsL a b n).map mkL).map (·.2.2)) = (35 :: n) ++ [10] ++ foldL a ++ [10] ++ foldL b ++ [35] ++ n ++ [10] := by
    rw [glue_mk]
    unfold foldsL
    rw [List.map_cons, List.map_append, List.map_cons, List.map_append, List.map_cons, List.map_nil]
    have e : ls (bytes (35 :: n)) = 35 :: n := bytes_list _
    have hA := endL_flat a
    have hB := endL_flat b
    unfold endL at hA hB ⊢
    simp only [List.flatMap_cons, List.flatMap_append, List.flatMap_nil, hA, hB, e]
    simp [ls]
  rw [ht] at hl
  refine ⟨r1, r2, ?_⟩
  rw [parse_of hl h1 h2, h3]
end Q
end Ab
end Go.Proofs.YtklhlkhlndhepaaDoor
namespace Go.Proofs.YtklhlkhlndhepaaDoor
open Go.RowKit
namespace Ab
set_option maxRecDepth 100000
namespace Q
theorem at_fault (at_ n : Int) : ACall Tryd.prog 29 [.one (errF at_ n)] (ii .i64 at_) := by
  refine acall_of (rs := [2]) Tryd.func29 rfl rfl rfl teOk rfl ?_
  refine acode_seq ?_
  refine acode_region ?_
  refine acode_seq ?_
  refine acode_seq ?_
  refine acode_region ?_
  refine acode_seq ?_
  refine acode_region ?_
  refine And.intro (fun h => trivial) ?_
  refine And.intro (fun h => ⟨⟨h, trivial⟩, trivial⟩) ?_
  refine And.intro (by exact fun h => h) ?_
  refine acode_cond rfl (fun h14 => ?_) (fun h14 => ?_)
  · try simp only [Bool.and_eq_true] at h14
    try simp only [Int.toNat_natCast, dflt_sl, dflt_st, dflt_str, dflt_int, dflt_bool] at h14
    refine acode_seq ?_
    refine acode_region ?_
    refine acode_ret ?_
    rfl
  · try simp only [Bool.and_eq_false_iff] at h14
    try simp only [Int.toNat_natCast, dflt_sl, dflt_st, dflt_str, dflt_int, dflt_bool] at h14
    simp at h14
theorem at_nil : ACall Tryd.prog 29 [.one (.lit .nilIface)] (ii .i64 (-9)) := by
  refine acall_of (rs := [2]) Tryd.func29 rfl rfl rfl teOk rfl ?_
  refine acode_seq ?_
  refine acode_region ?_
  refine acode_seq ?_
  refine acode_seq ?_
  refine acode_region ?_
  refine acode_seq ?_
  refine acode_region ?_
  refine And.intro (fun h => trivial) ?_
  refine And.intro (fun h => ⟨⟨h, trivial⟩, trivial⟩) ?_
  refine And.intro (by exact fun h => h) ?_
  refine acode_cond rfl (fun h14 => ?_) (fun h14 => ?_)
  · try simp only [Bool.and_eq_true, Bool.not_eq_true'] at h14
    try simp only [Int.toNat_natCast, dflt_sl, dflt_st, dflt_str, dflt_int, dflt_bool] at h14
    simp at h14
  · try simp only [Bool.not_eq_false', Bool.and_eq_false_iff] at h14
    try simp only [Int.toNat_natCast, dflt_sl, dflt_st, dflt_str, dflt_int, dflt_bool] at h14
    refine acode_skip ?_
    refine acode_seq ?_
    refine acode_region ?_
    refine acode_ret ?_
    rfl
theorem is_fault (at_ n : Int) (hn : n ≠ 0) : ACall Tryd.prog 38 [.one (errF at_ n), ii .i64 n] (ib true) := by
  refine acall_of (rs := [4]) Tryd.func38 rfl rfl rfl teOk rfl ?_
  refine acode_seq ?_
  refine acode_region ?_
  refine acode_seq ?_
  refine acode_region ?_
  refine Or.inl ?_
  refine And.intro (rfl) ?_
  refine Exists.intro _ (And.intro (num_fault at_ n hn) ?_)
  refine acode_ret ?_
  exact ib_eq (decide_eq_true rfl)
theorem wr5 (a : Int) : 0 ≤ IntKind.i64.wrap ((IntKind.u64.wrap a).tmod 5) ∧ IntKind.i64.wrap ((IntKind.u64.wrap a).tmod 5) ≤ 4 := by
  have h1 : 0 ≤ IntKind.u64.wrap a := by
    show 0 ≤ a % _
    exact Int.emod_nonneg _ (by decide)
  generalize IntKind.u64.wrap a = b at h1
  have h2 : b.tmod 5 = b % 5 := Int.tmod_eq_emod_of_nonneg h1
  rw [h2]
  have h3 := Int.emod_nonneg b (show (5 : Int) ≠ 0 by decide)
  have h4 := Int.emod_lt_of_pos b (show (0 : Int) < 5 by decide)
  generalize b % 5 = c at h3 h4
  have h5 : IntKind.i64.wrap c = c := by
    rcases (by omega : c = 0 ∨ c = 1 ∨ c = 2 ∨ c = 3 ∨ c = 4) with rfl | rfl | rfl | rfl | rfl <;> decide
  rw [h5]
  omega
theorem one_succ (i : Nat) : bytes (oneL i) ++ ⟨#[65, 58, 10]⟩ = bytes (oneL (i + 1)) := by
  rw [show oneL (i + 1) = oneL i ++ [65, 58, 10] from by simp [oneL, List.replicate_succ'], bytes_app]
  rfl
theorem many_succ (i : Nat) : bytes (manyL i) ++ ⟨#[65, 58, 10, 10]⟩ = bytes (manyL (i + 1)) := by
  rw [show manyL (i + 1) = manyL i ++ [65, 58, 10, 10] from by simp [manyL, List.replicate_succ'], bytes_app]
  rfl
theorem one_size (i : Nat) : (bytes (oneL i)).size = 3 * i := by
  rw [bytes_size]
  simp [oneL, List.length_flatten, Nat.mul_comm]
theorem many_size (i : Nat) : (bytes (manyL i)).size = 4 * i := by
  rw [bytes_size]
  simp [manyL, List.length_flatten, Nat.mul_comm]
theorem one_parse {m : Nat} (h1 : 38 ≤ m) (h2 : m ≤ 42) : (m ≤ 40 ∧ ∃ s, ACall Tryd.prog 32 [is (bytes (oneL m))] (resP (.inr [(3, s, List.replicate m (⟨#[65]⟩, ⟨#[]⟩))]))) ∨ (40 < m ∧ ACall Tryd.prog 32 [is (bytes (oneL m))] (resP (.inl (40, 11)))) := by
  have hp := parse_a (bytes (oneL m)) (by rw [one_size]; omega)
  rcases (by omega : m = 38 ∨ m = 39 ∨ m = 40 ∨ m = 41 ∨ m = 42) with rfl | rfl | rfl | rfl | rfl
  · rw [oneP_38] at hp; exact .inl ⟨by decide, _, hp⟩
  · rw [oneP_39] at hp; exact .inl ⟨by decide, _, hp⟩
  · rw [oneP_40] at hp; exact .inl ⟨by decide, _, hp⟩
  · rw [oneP_41] at hp; exact .inr ⟨by decide, hp⟩
  · rw [oneP_42] at hp; exact .inr ⟨by decide, hp⟩
theorem many_c {k : Nat} (h2 : k ≤ 402) : (k ≤ 400 ∧ ∃ l, l.length = 2 * k ∧ ACall Tryd.prog 32 [is (bytes (manyL k))] (resP (.inr l))) ∨ (400 < k ∧ ACall Tryd.prog 32 [is (bytes (manyL k))] (resP (.inl (800, 11)))) := by
  have hp := parse_a (bytes (manyL k)) (by rw [many_size]; omega)
  obtain ⟨h3, h4⟩ := many_parse k h2
  rcases Nat.lt_or_ge 400 k with h | h
  · rw [h4 h] at hp; exact .inr ⟨h, hp⟩
  · obtain ⟨l, e, hl⟩ := h3 h
    rw [e] at hp
    exact .inl ⟨h, l, hl, hp⟩
end Q
end Ab
end Go.Proofs.YtklhlkhlndhepaaDoor
namespace Go.Proofs.YtklhlkhlndhepaaDoor
open Go.RowKit
namespace Ab
set_option maxRecDepth 100000
namespace Q
/-- How long the text of fields is, at most. -/
theorem endL_len : ∀ (L : List (List UInt8)), (endL L).length = (L.map (·.length)).sum + L.length
  | [] => rfl
  | x :: r => by
    have := endL_len r
    unfold endL at this ⊢
    simp only [List.flatMap_cons, List.length_append, List.length_cons, List.length_nil, List.map_cons, List.sum_cons, this]
    omega
theorem stuff_len2 (s : List UInt8) : (stuffL s).length ≤ s.length + 1 := by
  unfold stuffL
  split <;> simp
theorem join_sum (c : UInt8) : ∀ l : List (List UInt8), l ≠ [] → (Lib.join l [c]).length + 1 = (l.map (·.length)).sum + l.length
  | [], h => absurd rfl h
  | [a], _ => by rw [Lib.join_one]; simp
  | a :: b :: r, _ => by
    have := join_sum c (b :: r) (by simp)
    rw [join_two]
    simp only [List.length_append, List.length_cons, List.length_nil, List.map_cons, List.sum_cons] at this ⊢
    omega
theorem textL_len (f : Fld) : (textL f).length ≤ f.1.size + 4 * f.2.size + 3 := by
  unfold textL
  rw [endL_len]
  unfold linesL
  have h1 := join_sum 10 (partsL f.2.data.toList) (split_ne _ _)
  rw [parts_join] at h1
  cases e : partsL f.2.data.toList with
  | nil => exact absurd e (split_ne _ _)
  | cons p r =>
    rw [e] at h1
    have h2 := map_sum_le (fun s : List UInt8 => (32 :: stuffL s).length) (fun s => s.length + 2) r (fun s _ => by have := stuff_len2 s; simp only [List.length_cons]; omega)
    have h3 : (r.map fun s => s.length + 2).sum = (r.map (·.length)).sum + 2 * r.length := by
      clear h1 h2 e
      induction r with
      | nil => rfl
      | cons a r ih => simp only [List.map_cons, List.sum_cons, List.length_cons, ih]; omega
    have h4 : (firstL f.1.data.toList p).length ≤ f.1.size + 2 + p.length := by
      unfold firstL
      rw [size_list]
      split
      · simp only [List.length_append, List.length_cons, List.length_nil]; omega
      · simp only [List.length_append, List.length_cons, List.length_nil]; omega
    simp only [List.headD_cons, List.map_cons, List.sum_cons, List.length_cons, List.length_map, List.map_map, List.drop_succ_cons, List.drop_zero] at h1 h2 ⊢
    rw [size_list f.2]
    have h5 : (r.map ((fun x : List UInt8 => x.length) ∘ fun s => 32 :: stuffL s)).sum = (r.map fun s => (32 :: stuffL s).length).sum := rfl
    simp only [List.length_cons] at h5
    omega
theorem foldL_le : ∀ (l : List Fld), (∀ f ∈ l, checkF f = 0) → (foldL l).length ≤ 4 * sumF l + 3 * l.length
  | [], _ => by simp [foldL]
  | f :: r, h => by
    have h1 := foldL_le r (fun g hg => h g (List.mem_cons_of_mem _ hg))
    have h2 := textL_len f
    obtain ⟨_, h3, h4⟩ := check_ok (h f List.mem_cons_self)
    unfold foldL sumF at *
    simp only [List.flatMap_cons, List.length_append, List.map_cons, List.sum_cons, List.length_cons]
    omega
theorem folds_text (n : ByteArray) (A B : List UInt8) : bytes ((35 :: ls n) ++ [10] ++ A ++ [10] ++ B ++ [35] ++ ls n ++ [10]) = ⟨#[35]⟩ ++ n ++ ⟨#[10]⟩ ++ bytes A ++ ⟨#[10]⟩ ++ bytes B ++ ⟨#[35]⟩ ++ n ++ ⟨#[10]⟩ := by
  rw [show (35 :: ls n) = [35] ++ ls n from rfl]
  simp only [bytes_app, bytes_ls]
  rfl
theorem much_sum {l : List Fld} (h : muchB l = false) : sumF l ≤ 6000 := by
  unfold muchB at h
  simp only [Bool.or_eq_false_iff, decide_eq_false_iff_not] at h
  omega
theorem foldB_size {l : List Fld} (h : muchB l = false) (hb : badF l = 0) (h4 : l.length ≤ 40) : (bytes (foldL l)).size ≤ 24120 := by
  rw [bytes_size]
  have h1 := foldL_le l (badF_zero hb)
  have h2 := much_sum h
  omega
theorem no_step {l : List UInt8} {i : Nat} (h : (10 : UInt8) ∉ l.take i) (hi : i < l.length) (h2 : ¬ ((l.getD i 0).toNat : Int) = 10) : (10 : UInt8) ∉ l.take (i + 1) := by
  rw [List.take_succ_eq_append_getElem hi]
  simp only [List.mem_append, List.mem_singleton, not_or]
  refine ⟨h, fun e => h2 ?_⟩
  have : l.getD i 0 = 10 := by simp [List.getD, hi, ← e]
  rw [this]
  rfl
end Q
end Ab
end Go.Proofs.YtklhlkhlndhepaaDoor
namespace Go.Proofs.YtklhlkhlndhepaaDoor
open Go.RowKit
namespace Ab
set_option maxRecDepth 100000
namespace Q
theorem parse_big (s : ByteArray) (hs : 60000 < s.size) : ACall Tryd.prog 32 [is s] (.tup [(false, [.sl rItm []]), (false, [errN 1])]) := by
  refine acall_ofc (rs := [.cell 2 22, .cell 3 41]) Tryd.func32 rfl rfl rfl teOk rfl ?_
  refine acode_seq ?_
  refine acode_region ?_
  refine acode_seq ?_
  refine acode_seq ?_
  refine acode_region ?_
  refine acode_cond rfl (fun h10 => ?_) (fun h10 => ?_)
  · try simp only [decide_eq_true_eq] at h10
    try simp only [Int.toNat_natCast, dflt_sl, dflt_st, dflt_str, dflt_int, dflt_bool] at h10
    refine acode_seq ?_
    refine acode_region ?_
    refine acode_nilcell 0 0 26 rItm rfl rfl rfl ?_
    refine acode_ret ?_
    rfl
  · try simp only [decide_eq_false_iff_not, Int.not_lt] at h10
    try simp only [Int.toNat_natCast, dflt_sl, dflt_st, dflt_str, dflt_int, dflt_bool] at h10
    omega
theorem parse_total {s : ByteArray} {l : List Itm} (hp : parseS s = .inr l) : szI l = s.size := by
  unfold parseS at hp
  cases e : runS pst0 (linesT s) with
  | inl x => rw [e] at hp; cases hp
  | inr p =>
    rw [e] at hp
    simp only at hp
    cases e2 : endS p with
    | inl x => rw [e2] at hp; cases hp
    | inr q =>
      rw [e2] at hp
      cases hp
      obtain ⟨_, hraw, hidle⟩ := end_took e2
      obtain ⟨hall, h1, _⟩ := run_took _ _ _ e
      have h2 : rawN q = szI q.its := by unfold rawN; rw [hidle.2.1]; rfl
      rw [← h2, hraw, h1]
      have h3 := glue_len _ hall
      rw [lines_text, glue_lines _ _ (by rw [show (ls s).length = s.size from (size_list s).symm]; exact Nat.le_refl _)] at h3
      rw [size_list, ← h3]
      simp [rawN, pst0, szI, szB, ls]
theorem szI_succ {l : List Itm} {i : Nat} (h : i < l.length) : szI (l.take (i + 1)) = szI (l.take i) + (l.getD i ((0 : Int), ByteArray.empty, ([] : List Fld))).2.1.size := by
  rw [List.take_succ_eq_append_getElem h, szI_app]
  simp [szI, List.getD, h]
theorem szI_le (l : List Itm) (i : Nat) : szI (l.take i) ≤ szI l := by
  conv => rhs; rw [← List.take_append_drop i l]
  rw [szI_app]
  omega
theorem ext_take (s : ByteArray) (n : Nat) : s.extract 0 n = bytes ((ls s).take n) := by
  rw [← bytes_ls (s.extract 0 n)]
  congr 1
  rw [show ls (s.extract 0 n) = _ from extract_ls s 0 n]
  rfl
theorem ext_drop (s : ByteArray) (n : Nat) : s.extract n s.size = bytes ((ls s).drop n) := by
  rw [← bytes_ls (s.extract n s.size)]
  congr 1
  exact drop_size s n
end Q
end Ab
end Go.Proofs.YtklhlkhlndhepaaDoor
namespace Go.Proofs.YtklhlkhlndhepaaDoor
open Go.RowKit
namespace Ab
set_option maxRecDepth 100000
namespace Q
structure SpI (s : ByteArray) (i at_ : Nat) (out : List Lne) : Prop where
  ai : at_ ≤ i
  is : i ≤ s.size
  no : (10 : UInt8) ∉ ((ls s).drop at_).take (i - at_)
  ol : out.length ≤ at_
  eq : ∃ f, ((ls s).drop at_).length ≤ f ∧ out ++ linesR f s.size out.length ((ls s).drop at_) = linesT s
theorem sp_0 (s : ByteArray) : SpI s 0 0 [] := ⟨Nat.le_refl _, Nat.zero_le _, by simp, Nat.le_refl _, s.size, by rw [List.drop_zero, show (ls s).length = s.size from (size_list s).symm]; exact Nat.le_refl _, rfl⟩
theorem sp_no {s : ByteArray} {i a : Nat} {out : List Lne} (h : SpI s i a out) (hi : i < s.size) (hc : ¬ (((ls s).getD i 0).toNat : Int) = 10) : SpI s (i + 1) a out := by
  have hl : i < (ls s).length := by rw [show (ls s).length = s.size from (size_list s).symm]; exact hi
  have ha := h.ai
  refine ⟨by omega, hi, ?_, h.ol, h.eq⟩
  rw [show i + 1 - a = (i - a) + 1 from by omega]
  refine no_step h.no (by rw [List.length_drop]; omega) ?_
  have : ((ls s).drop a).getD (i - a) 0 = (ls s).getD i 0 := by
    simp only [List.getD, List.getElem?_drop]
    rw [show a + (i - a) = i from by omega]
  rw [this]
  exact hc
theorem sp_yes {s : ByteArray} {i a : Nat} {out : List Lne} (h : SpI s i a out) (hi : i < s.size) (hc : (((ls s).getD i 0).toNat : Int) = 10) : SpI s (i + 1) (i + 1) (out ++ [((out.length : Int), (a : Int), s.extract a i, true)]) := by
  have hl : i < (ls s).length := by rw [show (ls s).length = s.size from (size_list s).symm]; exact hi
  have ha := h.ai
  have ho := h.ol
  obtain ⟨f, hf, e⟩ := h.eq
  have hb : (ls s).getD i 0 = 10 := by
    apply UInt8.toNat_inj.1
    have : ((ls s).getD i 0).toNat = 10 := by omega
    rw [this]; rfl
  have hr : (ls s).drop a = ((ls s).drop a).take (i - a) ++ 10 :: (ls s).drop (i + 1) := by
    conv => lhs; rw [← List.take_append_drop (i - a) ((ls s).drop a)]
    congr 1
    rw [List.drop_drop, show a + (i - a) = i from by omega, List.drop_eq_getElem_cons hl]
    congr 1
    rw [← hb, List.getD_eq_getElem?_getD, List.getElem?_eq_getElem hl]
    rfl
  have hc2 := cut_at (r := (ls s).drop (i + 1)) h.no
  rw [← hr] at hc2
  obtain ⟨y, w, hy⟩ : ∃ y w, (ls s).drop a = y :: w := by
    rw [hr]; cases ((ls s).drop a).take (i - a) <;> exact ⟨_, _, rfl⟩
  obtain ⟨f', rfl⟩ : ∃ f', f = f' + 1 := ⟨f - 1, by rw [hy, List.length_cons] at hf; omega⟩
  have hlen : ((ls s).drop a).length = s.size - a := by rw [List.length_drop, show (ls s).length = s.size from (size_list s).symm]
  refine ⟨Nat.le_refl _, hi, by simp, by rw [List.length_append, List.length_singleton]; omega, f', ?_, ?_⟩
  · rw [List.length_drop, show (ls s).length = s.size from (size_list s).symm]
    omega
  · rw [← e, List.append_assoc]
    congr 1
    rw [hy] at hc2 hlen ⊢
    rw [linesR_cons, hc2, hlen]
    simp only [List.singleton_append, List.length_append, List.length_singleton]
    congr 1
    refine Prod.ext rfl (Prod.ext (by simp only; omega) (Prod.ext ?_ rfl))
    show s.extract a i = bytes ((y :: w).take (i - a))
    rw [← hy]
    rw [← bytes_ls (s.extract a i)]
    congr 1
    exact extract_ls s a i
theorem sp_end {s : ByteArray} {a : Nat} {out : List Lne} (h : SpI s s.size a out) : (a < s.size → out ++ [((out.length : Int), (a : Int), s.extract a s.size, false)] = linesT s) ∧ (¬ a < s.size → out = linesT s) := by
  obtain ⟨f, hf, e⟩ := h.eq
  have hlen : ((ls s).drop a).length = s.size - a := by rw [List.length_drop, show (ls s).length = s.size from (size_list s).symm]
  have hno := h.no
  rw [List.take_of_length_le (by omega)] at hno
  refine ⟨fun hlt => ?_, fun hge => ?_⟩
  · rw [← e]
    congr 1
    obtain ⟨y, w, hy⟩ : ∃ y w, (ls s).drop a = y :: w := by
      cases e2 : (ls s).drop a with
      | nil => rw [e2] at hlen; simp at hlen; omega
      | cons y w => exact ⟨_, _, rfl⟩
    obtain ⟨f', rfl⟩ : ∃ f', f = f' + 1 := ⟨f - 1, by rw [hy, List.length_cons] at hf; omega⟩
    have hx : s.extract a s.size = bytes ((ls s).drop a) := ext_drop s a
    rw [hx]
    rw [hy] at hno hlen ⊢
    rw [linesR_cons, cut_none hno, hlen]
    rw [show linesR f' s.size ((out.length : Int) + 1) (y :: w, ([] : List UInt8), false).2.1 = [] from by cases f' <;> rfl]
    congr 1
    exact Prod.ext rfl (Prod.ext (by simp only; omega) rfl)
  · have : (ls s).drop a = [] := List.eq_nil_of_length_eq_zero (by omega)
    rw [← e, this]
    cases f <;> simp [linesR]
def rawsL (l : List Itm) : List UInt8 := l.flatMap fun x => ls x.2.1
theorem raws_len (l : List Itm) : (rawsL l).length = szI l := by
  induction l with
  | nil => rfl
  | cons a r ih =>
    unfold rawsL szI at *
    simp only [List.flatMap_cons, List.length_append, List.map_cons, List.sum_cons, ih]
    rw [size_list]
theorem raws_snoc (l : List Itm) (i : Nat) (h : i < l.length) : rawsL (l.take (i + 1)) = rawsL (l.take i) ++ ls (l.getD i ((0 : Int), ByteArray.empty, ([] : List Fld))).2.1 := by
  unfold rawsL
  rw [List.take_succ_eq_append_getElem h, List.flatMap_append]
  simp [List.getD, h]
theorem szI_mem (l : List Itm) (i : Nat) (h : i < l.length) : szI (l.take i) + (l.getD i ((0 : Int), ByteArray.empty, ([] : List Fld))).2.1.size ≤ szI l := by
  rw [← szI_succ h]
  exact szI_le l (i + 1)
theorem joinI_c (l : List Itm) (hl : l.length ≤ 1000000) (hs : szI l ≤ 1000000) : ACall Tryd.prog 21 [.one (.sl rItm l)] (is (bytes (rawsL l))) := by
  refine acall_of (rs := [2]) Tryd.func21 rfl rfl rfl teOk rfl ?_
  refine acode_seq ?_
  refine acode_region ?_
  refine acode_seq ?_
  refine acode_region ?_
  refine acode_seq ?_
  refine acode_seq ?_
  refine acode_bld 0 5 (.int .u8) rfl ?_
  refine acode_region ?_
  intro l2_1
  try simp only [Int.toNat_natCast, dflt_sl, dflt_st, dflt_str, dflt_int, dflt_bool] at l2_1
  refine acode_block ?_
  refine acode_loopP (fun (x : Nat × Bool) => x.1 ≤ l.length) (fun (x : Nat × Bool) => [(3, .one (.own 0 0)), (6, .one (.sl rItm l)), (7, ii .i64 l.length), (8, ii .i64 x.1)]) (fun (x : Nat × Bool) => [(0, .box 75 [.nself x.2 0, .vec 1]), (1, .vec 5 (.int .u8) (intsOf (bytes (rawsL (l.take x.1)))))]) 2 (fun (x : Nat × Bool) => l.length - x.1) (0, false) (Nat.zero_le _) (le_of ⟨rfl, rfl, rfl, rfl⟩ ⟨rfl, rfl⟩ rfl) ?_
  intro ⟨i, u⟩ hI0
  simp only at hI0 ⊢
  refine acode_seq ?_
  refine acode_region ?_
  refine acode_seq ?_
  refine acode_cond rfl (fun h9 => ?_) (fun h9 => ?_)
  · try simp only [decide_eq_true_eq] at h9
    try simp only [Int.toNat_natCast, dflt_sl, dflt_st, dflt_str, dflt_int, dflt_bool] at h9
    have hlt : i < l.length := (by omega)
    have hm := szI_mem l i hlt
    have hr := raws_len (l.take i)
    refine acode_skip ?_
    refine acode_seq ?_
    refine acode_block ?_
    refine acode_seq ?_
    refine acode_region ?_
    refine And.intro (by first | omega | assumption | decide | (simp only [Int.toNat_natCast, dflt_sl, dflt_st, dflt_str, dflt_int, dflt_bool]; omega) | (simp <;> omega)) ?_
    refine acode_region ?_
    refine Or.inr (Or.inl (Exists.intro [] (Exists.intro [0, 1] (Exists.intro _ (Exists.intro _ (Exists.intro _ (Exists.intro _ (Exists.intro _ (And.intro (writeString_o _ _ _ (by rw [ints_len, hr]; show _ + (l.getD i ((0 : Int), ByteArray.empty, ([] : List Fld))).2.1.size ≤ _; omega)) (And.intro rfl (And.intro (And.intro (And.intro rfl rfl) (And.intro (And.intro rfl rfl) True.intro)) (And.intro rfl ?_))))))))))))
    refine acode_region ?_
    refine And.intro (by first | omega | assumption | decide | (simp only [Int.toNat_natCast, dflt_sl, dflt_st, dflt_str, dflt_int, dflt_bool]; omega) | (simp <;> omega)) ?_
    exact ⟨(i + 1, true), (by simp only; omega), by first | omega | (simp <;> omega), le_of ⟨rfl, rfl, rfl, (ii_eq (by simp only; omega))⟩ ⟨rfl, (vec_eq (by simp only; rw [raws_snoc l i hlt]; exact ints_add _ _ _ (bytes_ls _).symm))⟩ rfl⟩
  · try simp only [decide_eq_false_iff_not, Int.not_lt] at h9
    try simp only [Int.toNat_natCast, dflt_sl, dflt_st, dflt_str, dflt_int, dflt_bool] at h9
    refine acode_exit ?_
    refine acode_seq ?_
    refine acode_region ?_
    refine Or.inr (Or.inl (Exists.intro [] (Exists.intro [0, 1] (Exists.intro _ (Exists.intro _ (Exists.intro _ (Exists.intro _ (Exists.intro _ (And.intro (string_o _ _) (And.intro rfl (And.intro (And.intro (And.intro rfl rfl) (And.intro (And.intro rfl rfl) True.intro)) (And.intro rfl ?_))))))))))))
    refine acode_ret ?_
    rw [List.take_of_length_le (by omega)]
    rfl
theorem refKindL_c (s : ByteArray) (hs : s.size ≤ 1000000000) : ACall Tryd.prog 77 [is s] (ii .i64 (kindL (ls s))) := refKind_c s hs
theorem beh_eq (k : List Int) (i : Nat) : (decide (0 < (i : Int)) && (decide (k.getD ((i : Int) - 1).toNat (Rd.int IntKind.i64).dflt = 4) || decide (k.getD ((i : Int) - 1).toNat (Rd.int IntKind.i64).dflt = 3))) = (decide (0 < i) && (decide (k.getD (i - 1) 0 = 4) || decide (k.getD (i - 1) 0 = 3))) := by
  have h : ((i : Int) - 1).toNat = i - 1 := by omega
  have h0 : decide (0 < (i : Int)) = decide (0 < i) := decide_eq_decide.2 (by omega)
  rw [h, h0]
  rfl
theorem getD_get {α : Type} {l : List α} {i : Nat} (h : i < l.length) (d : α) : l[i] = l.getD i d := by
  rw [List.getD_eq_getElem?_getD, List.getElem?_eq_getElem h]
  rfl
theorem kind_at {L : List Lne} {k : List Int} (hk : k = L.map (fun l => kindL (ls l.2.2.1))) {n : Nat} (h : n < L.length) : k.getD n 0 = kindL (ls (L.getD n ((0 : Int), (0 : Int), ByteArray.empty, false)).2.2.1) := by
  subst hk
  simp [List.getD, h]
theorem tw_stop {L : List Lne} {j : Nat} (h : (L.take j).all more = true) (hs : L.length ≤ j ∨ (j < L.length ∧ more (L.getD j ((0 : Int), (0 : Int), ByteArray.empty, false)) = false)) : L.takeWhile more = L.take j := by
  conv => lhs; rw [← List.take_append_drop j L]
  rw [List.takeWhile_append_of_pos (by simpa [List.all_eq_true] using h)]
  have : (L.drop j).takeWhile more = [] := by
    rcases hs with hs | ⟨hs, hm⟩
    · rw [List.drop_eq_nil_of_le hs]; rfl
    · rw [List.drop_eq_getElem_cons hs, List.takeWhile_cons_of_neg]
      rw [show L[j] = L.getD j ((0 : Int), (0 : Int), ByteArray.empty, false) from by simp [List.getD, hs], hm]
      decide
  rw [this, List.append_nil]
theorem drop_getL {L : List Lne} {i j : Nat} : (L.drop (i + 1)).getD j ((0 : Int), (0 : Int), ByteArray.empty, false) = L.getD (i + 1 + j) ((0 : Int), (0 : Int), ByteArray.empty, false) := by
  simp only [List.getD, List.getElem?_drop]
theorem tw_more {L : List Lne} {i j : Nat} (h : ((L.drop (i + 1)).take j).all more = true) (hj : j < L.length - (i + 1)) (hm : kindL (ls (L.getD (i + 1 + j) ((0 : Int), (0 : Int), ByteArray.empty, false)).2.2.1) = 3) : ((L.drop (i + 1)).take (j + 1)).all more = true := by
  have hlt : j < (L.drop (i + 1)).length := by rw [List.length_drop]; exact hj
  rw [List.take_succ_eq_append_getElem hlt, List.all_append, h]
  rw [getD_get hlt ((0 : Int), (0 : Int), ByteArray.empty, false), drop_getL]
  simp only [List.all_cons, List.all_nil, Bool.and_true, Bool.true_and]
  exact decide_eq_true hm
theorem said_next {L : List Lne} {i j : Nat} (hj : j < L.length - (i + 1)) : ((L.drop (i + 1)).take (j + 1)).map (·.2.2.1) = ((L.drop (i + 1)).take j).map (·.2.2.1) ++ [(L.getD (i + 1 + j) ((0 : Int), (0 : Int), ByteArray.empty, false)).2.2.1] := by
  have hlt : j < (L.drop (i + 1)).length := by rw [List.length_drop]; exact hj
  rw [List.take_succ_eq_append_getElem hlt, List.map_append]
  rw [getD_get hlt ((0 : Int), (0 : Int), ByteArray.empty, false), drop_getL]
  rfl
end Q
end Ab
end Go.Proofs.YtklhlkhlndhepaaDoor
