/-
  The texts of this proof, joined: abstract values, the library, the functions of the program and what they compute (part 4). No condition.
-/
import Derived.Shelf.Vars
import Derived.KernelRfl
import Derived.Test.YtehmiepjeffloaaDoorK1
import Derived.Test.YtehmiepjeffloaaDoorK2
import Derived.Test.YtehmiepjeffloaaDoorK3
namespace Go.Proofs.YtehmiepjeffloaaDoor
open Go.RowKit
namespace Ab
set_option maxRecDepth 100000
namespace Q
theorem list_ext_take {α : Type} {a b : List α} {i : Nat} (d : α) (ha : i < a.length) (hb : i < b.length) (h : a.take i = b.take i) (he : a.getD i d = b.getD i d) : a.take (i + 1) = b.take (i + 1) := by
  rw [← take_snoc d ha, ← take_snoc d hb, h, he]
theorem ne_at {α : Type} {a b : List α} {i : Nat} (d : α) (he : a.getD i d ≠ b.getD i d) : ¬ a = b := fun e => he (by rw [e])
abbrev rFault : Rd (Int × Value) := .st (.int .i64) .raw
def errF (at_ n : Int) : C := .ifc 60 (.addr rFault (at_, .iface 32 (.int .i64 n)))
theorem num_nil : ACall Tryd.prog 16 [.one (.lit .nilIface)] (ii .i64 0) := by
  refine acall_of (rs := [2]) Tryd.func16 rfl rfl rfl teOk rfl ?_
  refine acode_seq ?_
  refine acode_region ?_
  refine acode_seq ?_
  refine acode_seq ?_
  refine acode_region ?_
  refine acode_block ?_
  refine acode_loopP (fun (u : Unit) => True) (fun (u : Unit) => [(0, .one (.lit .nilIface)), (7, ii .i64 0)]) (fun (u : Unit) => []) 0 (fun (u : Unit) => 0) () (trivial) (le_of ⟨rfl, rfl⟩ trivial rfl) ?_
  intro u hI0
  refine acode_seq ?_
  refine acode_region ?_
  refine acode_seq ?_
  refine acode_cond rfl (fun h8 => ?_) (fun h8 => ?_)
  ·try simp only [decide_eq_true_eq] at h8
   try simp only [Int.toNat_natCast, dflt_sl, dflt_st, dflt_str, dflt_int, dflt_bool] at h8
   refine acode_skip ?_
   refine acode_seq ?_
   refine acode_block ?_
   refine acode_seq ?_
   refine acode_seq ?_
   refine acode_region ?_
   refine acode_cond rfl (fun h10 => ?_) (fun h10 => ?_)
   ·try simp only [Bool.not_eq_true'] at h10
    try simp only [Int.toNat_natCast, dflt_sl, dflt_st, dflt_str, dflt_int, dflt_bool] at h10
    refine acode_seq ?_
    refine acode_region ?_
    refine acode_ret ?_
    rfl
   ·try simp only [Bool.not_eq_false'] at h10
    try simp only [Int.toNat_natCast, dflt_sl, dflt_st, dflt_str, dflt_int, dflt_bool] at h10
    cases h10
  ·try simp only [decide_eq_false_iff_not, Int.not_lt] at h8
   try simp only [Int.toNat_natCast, dflt_sl, dflt_st, dflt_str, dflt_int, dflt_bool] at h8
   cases h8
theorem num_errno (n : Int) (hn : n ≠ 0) : ACall Tryd.prog 16 [.one (errN n)] (ii .i64 n) := by
  refine acall_of (rs := [2]) Tryd.func16 rfl rfl rfl teOk rfl ?_
  refine acode_seq ?_
  refine acode_region ?_
  refine acode_seq ?_
  refine acode_seq ?_
  refine acode_region ?_
  refine acode_block ?_
  refine acode_loopP (fun (u : Unit) => True) (fun (u : Unit) => [(0, .one (errN n)), (7, ii .i64 0)]) (fun (u : Unit) => []) 0 (fun (u : Unit) => 0) () (trivial) (le_of ⟨rfl, rfl⟩ trivial rfl) ?_
  intro u hI0
  refine acode_seq ?_
  refine acode_region ?_
  refine acode_seq ?_
  refine acode_cond rfl (fun h8 => ?_) (fun h8 => ?_)
  ·try simp only [decide_eq_true_eq] at h8
   try simp only [Int.toNat_natCast, dflt_sl, dflt_st, dflt_str, dflt_int, dflt_bool] at h8
   refine acode_skip ?_
   refine acode_seq ?_
   refine acode_block ?_
   refine acode_seq ?_
   refine acode_seq ?_
   refine acode_region ?_
   refine acode_cond rfl (fun h10 => ?_) (fun h10 => ?_)
   ·try simp only [decide_eq_true_eq, decide_eq_false_iff_not, Bool.and_eq_true, Bool.not_eq_true', Bool.not_eq_false', Bool.or_eq_false_iff, Bool.or_eq_true, Bool.and_eq_false_iff, Int.not_lt, Int.not_le] at h10
    try simp only [Int.toNat_natCast, dflt_sl, dflt_st, dflt_str, dflt_int, dflt_bool] at h10
    cases h10
   ·skip
    refine acode_skip ?_
    refine acode_seq ?_
    refine acode_seq ?_
    refine acode_region ?_
    refine acode_seq ?_
    refine acode_region ?_
    refine And.intro (fun h => trivial) ?_
    refine And.intro (fun h => ⟨⟨h, trivial⟩, trivial⟩) ?_
    refine And.intro (by exact fun h => h) ?_
    refine acode_cond rfl (fun h20 => ?_) (fun h20 => ?_)
    ·try simp only [decide_eq_false_iff_not, Bool.and_eq_true, Bool.not_eq_true'] at h20
     try simp only [Int.toNat_natCast, dflt_sl, dflt_st, dflt_str, dflt_int, dflt_bool] at h20
     refine acode_seq ?_
     refine acode_region ?_
     refine acode_ret ?_
     rfl
    ·try simp only [decide_eq_true_eq, Bool.not_eq_false', Bool.and_eq_false_iff] at h20
     try simp only [Int.toNat_natCast, dflt_sl, dflt_st, dflt_str, dflt_int, dflt_bool] at h20
     exact absurd (h20.resolve_left (fun e => by cases e)) hn
  ·try simp only [decide_eq_false_iff_not, Int.not_lt] at h8
   try simp only [Int.toNat_natCast, dflt_sl, dflt_st, dflt_str, dflt_int, dflt_bool] at h8
   cases h8
theorem num_fault (at_ n : Int) (hn : n ≠ 0) : ACall Tryd.prog 16 [.one (errF at_ n)] (ii .i64 n) := by
  refine acall_of (rs := [2]) Tryd.func16 rfl rfl rfl teOk rfl ?_
  refine acode_seq ?_
  refine acode_region ?_
  refine acode_seq ?_
  refine acode_seq ?_
  refine acode_region ?_
  refine acode_block ?_
  refine acode_loopP (fun (b : Bool) => True) (fun (b : Bool) => [(0, cond b (.one (errN n)) (.one (errF at_ n))), (7, ii .i64 (cond b 1 0))]) (fun (b : Bool) => []) 0 (fun (b : Bool) => cond b 0 1) false (trivial) (le_of ⟨rfl, rfl⟩ trivial rfl) ?_
  intro b hI0
  refine acode_seq ?_
  cases b
  ·refine acode_region ?_
   refine acode_seq ?_
   refine acode_cond rfl (fun h8 => ?_) (fun h8 => ?_)
   ·try simp only [decide_eq_true_eq] at h8
    try simp only [Int.toNat_natCast, dflt_sl, dflt_st, dflt_str, dflt_int, dflt_bool] at h8
    refine acode_skip ?_
    refine acode_seq ?_
    refine acode_block ?_
    refine acode_seq ?_
    refine acode_seq ?_
    refine acode_region ?_
    refine acode_cond rfl (fun h10 => ?_) (fun h10 => ?_)
    ·try simp only [decide_eq_true_eq, decide_eq_false_iff_not, Bool.and_eq_true, Bool.not_eq_true', Bool.not_eq_false', Bool.or_eq_false_iff, Bool.or_eq_true, Bool.and_eq_false_iff, Int.not_lt, Int.not_le] at h10
     try simp only [Int.toNat_natCast, dflt_sl, dflt_st, dflt_str, dflt_int, dflt_bool] at h10
     cases h10
    ·skip
     refine acode_skip ?_
     refine acode_seq ?_
     refine acode_seq ?_
     refine acode_region ?_
     refine acode_seq ?_
     refine acode_region ?_
     refine And.intro (fun h => trivial) ?_
     refine And.intro (fun h => ⟨⟨h, trivial⟩, trivial⟩) ?_
     refine And.intro (by exact fun h => h) ?_
     refine acode_cond rfl (fun h20 => ?_) (fun h20 => ?_)
     ·try simp only [decide_eq_false_iff_not, Bool.and_eq_true, Bool.not_eq_true'] at h20
      try simp only [Int.toNat_natCast, dflt_sl, dflt_st, dflt_str, dflt_int, dflt_bool] at h20
      exact absurd h20.1 (by decide)
     ·try simp only [decide_eq_true_eq, Bool.not_eq_false', Bool.and_eq_false_iff] at h20
      try simp only [Int.toNat_natCast, dflt_sl, dflt_st, dflt_str, dflt_int, dflt_bool] at h20
      refine acode_skip ?_
      refine acode_seq ?_
      refine acode_region ?_
      refine acode_seq ?_
      refine acode_seq ?_
      refine acode_region ?_
      refine And.intro (fun h => trivial) ?_
      refine And.intro (fun h => ⟨⟨h, trivial⟩, trivial⟩) ?_
      refine And.intro (by first | (intro h; rw [h]; rfl) | (intro h; cases h)) ?_
      refine And.intro (fun h => trivial) ?_
      refine And.intro (fun h => ⟨⟨h, trivial⟩, trivial⟩) ?_
      refine And.intro (fun h => ⟨⟨h, trivial⟩, trivial⟩) ?_
      refine And.intro (fun h => ⟨⟨h, trivial⟩, trivial⟩) ?_
      refine And.intro (fun h => ⟨⟨h, trivial⟩, trivial⟩) ?_
      refine And.intro (by first | (intro h; rw [h]; rfl) | (intro h; cases h)) ?_
      refine acode_cond rfl (fun h39 => ?_) (fun h39 => ?_)
      ·try simp only [Bool.not_eq_true', Bool.or_eq_true] at h39
       try simp only [Int.toNat_natCast, dflt_sl, dflt_st, dflt_str, dflt_int, dflt_bool] at h39
       exact absurd h39 (by decide)
      ·try simp only [Bool.not_eq_false', Bool.or_eq_false_iff] at h39
       try simp only [Int.toNat_natCast, dflt_sl, dflt_st, dflt_str, dflt_int, dflt_bool] at h39
       refine acode_skip ?_
       refine acode_region ?_
       refine acode_region ?_
       refine And.intro (by first | omega | assumption | decide | (simp only [Int.toNat_natCast, dflt_sl, dflt_st, dflt_str, dflt_int, dflt_bool]; omega) | (simp <;> omega)) ?_
       exact ⟨true, trivial, by decide, le_of ⟨rfl, rfl⟩ trivial rfl⟩
   ·try simp only [decide_eq_false_iff_not, Int.not_lt] at h8
    try simp only [Int.toNat_natCast, dflt_sl, dflt_st, dflt_str, dflt_int, dflt_bool] at h8
    exact absurd h8 (by decide)
  ·refine acode_region ?_
   refine acode_seq ?_
   refine acode_cond rfl (fun h8 => ?_) (fun h8 => ?_)
   ·try simp only [decide_eq_true_eq] at h8
    try simp only [Int.toNat_natCast, dflt_sl, dflt_st, dflt_str, dflt_int, dflt_bool] at h8
    refine acode_skip ?_
    refine acode_seq ?_
    refine acode_block ?_
    refine acode_seq ?_
    refine acode_seq ?_
    refine acode_region ?_
    refine acode_cond rfl (fun h10 => ?_) (fun h10 => ?_)
    ·try simp only [decide_eq_true_eq, decide_eq_false_iff_not, Bool.and_eq_true, Bool.not_eq_true', Bool.not_eq_false', Bool.or_eq_false_iff, Bool.or_eq_true, Bool.and_eq_false_iff, Int.not_lt, Int.not_le] at h10
     try simp only [Int.toNat_natCast, dflt_sl, dflt_st, dflt_str, dflt_int, dflt_bool] at h10
     cases h10
    ·skip
     refine acode_skip ?_
     refine acode_seq ?_
     refine acode_seq ?_
     refine acode_region ?_
     refine acode_seq ?_
     refine acode_region ?_
     refine And.intro (fun h => trivial) ?_
     refine And.intro (fun h => ⟨⟨h, trivial⟩, trivial⟩) ?_
     refine And.intro (by exact fun h => h) ?_
     refine acode_cond rfl (fun h20 => ?_) (fun h20 => ?_)
     ·try simp only [decide_eq_false_iff_not, Bool.and_eq_true, Bool.not_eq_true'] at h20
      try simp only [Int.toNat_natCast, dflt_sl, dflt_st, dflt_str, dflt_int, dflt_bool] at h20
      refine acode_seq ?_
      refine acode_region ?_
      refine acode_ret ?_
      rfl
     ·try simp only [decide_eq_true_eq, Bool.not_eq_false', Bool.and_eq_false_iff] at h20
      try simp only [Int.toNat_natCast, dflt_sl, dflt_st, dflt_str, dflt_int, dflt_bool] at h20
      exact absurd (h20.resolve_left (fun e => by cases e)) hn
   ·try simp only [decide_eq_false_iff_not, Int.not_lt] at h8
    try simp only [Int.toNat_natCast, dflt_sl, dflt_st, dflt_str, dflt_int, dflt_bool] at h8
    exact absurd h8 (by decide)
end Q
end Ab
end Go.Proofs.YtehmiepjeffloaaDoor
namespace Go.Proofs.YtehmiepjeffloaaDoor
open Go.RowKit
namespace Ab
set_option maxRecDepth 100000
namespace Q
def LinesOk (l : List ByteArray) : Prop := l.length ≤ 1000000 ∧ (l.map (·.size)).sum ≤ 100000000
def unfA (l : List ByteArray) : A := if (unfoldL (l.map ls)).2 = 0 then .tup [(true, [.lit (.string (bytes (unfoldL (l.map ls)).1.1)), .lit (.string (bytes (unfoldL (l.map ls)).1.2))]), (false, [.lit .nilIface])]
  else .tup [(true, [.lit (.string ⟨#[]⟩), .lit (.string ⟨#[]⟩)]), (false, [errN (unfoldL (l.map ls)).2])]
def moreB (s : ByteArray) : ByteArray := bytes (Lib.trimPrefix (s.data.toList.drop 1) [46])
def firstB (s : ByteArray) : ByteArray := bytes (Lib.trimPrefix (Lib.cut s.data.toList [58]).2.1 [32])
end Q
end Ab
end Go.Proofs.YtehmiepjeffloaaDoor
namespace Go.Proofs.YtehmiepjeffloaaDoor
open Go.RowKit
namespace Ab
set_option maxRecDepth 100000
namespace Q
theorem texts_c (a b : List ByteArray) : ACall Tryd.prog 24 [.one (.sl .str a), .one (.sl .str b)] (ib (decide (a = b))) := by
  refine acall_of (rs := [4]) Tryd.func24 rfl rfl rfl teOk rfl ?_
  refine acode_seq ?_
  refine acode_region ?_
  refine acode_seq ?_
  refine acode_seq ?_
  refine acode_region ?_
  intro l1_1
  try simp only [Int.toNat_natCast, dflt_sl, dflt_st, dflt_str, dflt_int, dflt_bool] at l1_1
  intro l1_3
  try simp only [Int.toNat_natCast, dflt_sl, dflt_st, dflt_str, dflt_int, dflt_bool] at l1_3
  refine acode_cond rfl (fun h10 => ?_) (fun h10 => ?_)
  ·try simp only [decide_eq_false_iff_not, Bool.not_eq_true'] at h10
   try simp only [Int.toNat_natCast, dflt_sl, dflt_st, dflt_str, dflt_int, dflt_bool] at h10
   refine acode_seq ?_
   refine acode_region ?_
   refine acode_ret ?_
   exact ib_eq (decide_eq_false (fun e => by rw [e] at h10; omega)).symm
  ·try simp only [decide_eq_true_eq, Bool.not_eq_false'] at h10
   try simp only [Int.toNat_natCast, dflt_sl, dflt_st, dflt_str, dflt_int, dflt_bool] at h10
   refine acode_skip ?_
   refine acode_seq ?_
   refine acode_seq ?_
   refine acode_region ?_
   intro l3_1
   try simp only [Int.toNat_natCast, dflt_sl, dflt_st, dflt_str, dflt_int, dflt_bool] at l3_1
   refine acode_block ?_
   refine acode_loopP (fun (i : Nat) => i ≤ a.length ∧ a.take i = b.take i) (fun (i : Nat) => [(0, .one (.sl .str a)), (1, .one (.sl .str b)), (12, ii .i64 a.length), (13, ii .i64 i)]) (fun (i : Nat) => []) 0 (fun (i : Nat) => a.length - i) 0 (⟨Nat.zero_le _, by simp⟩) (le_of ⟨rfl, rfl, rfl, rfl⟩ trivial rfl) ?_
   intro i hI0
   obtain ⟨hi, ht⟩ := hI0
   refine acode_seq ?_
   refine acode_region ?_
   refine acode_seq ?_
   refine acode_cond rfl (fun h14 => ?_) (fun h14 => ?_)
   ·try simp only [decide_eq_true_eq] at h14
    try simp only [Int.toNat_natCast, dflt_sl, dflt_st, dflt_str, dflt_int, dflt_bool] at h14
    have hla : i < a.length := by omega
    have hlb : i < b.length := by omega
    refine acode_skip ?_
    refine acode_seq ?_
    refine acode_block ?_
    refine acode_seq ?_
    refine acode_region ?_
    refine acode_seq ?_
    refine acode_draw rfl (by kernel_rfl) ?_
    refine And.intro (by first | omega | assumption | decide | (simp only [Int.toNat_natCast, dflt_sl, dflt_st, dflt_str, dflt_int, dflt_bool]; omega) | (simp <;> omega)) ?_
    refine And.intro (by first | omega | assumption | decide | (simp only [Int.toNat_natCast, dflt_sl, dflt_st, dflt_str, dflt_int, dflt_bool]; omega) | (simp <;> omega)) ?_
    refine acode_cond rfl (fun h24 => ?_) (fun h24 => ?_)
    ·try simp only [decide_eq_false_iff_not, Bool.not_eq_true'] at h24
     try simp only [Int.toNat_natCast, dflt_str] at h24
     refine acode_seq ?_
     refine acode_region ?_
     refine acode_ret ?_
     exact ib_eq (decide_eq_false (ne_at (i := i) ByteArray.empty h24)).symm
    ·try simp only [decide_eq_true_eq, Bool.not_eq_false'] at h24
     try simp only [Int.toNat_natCast, dflt_str] at h24
     refine acode_skip ?_
     refine acode_region ?_
     refine And.intro (by first | omega | assumption | decide | (simp only [Int.toNat_natCast, dflt_sl, dflt_st, dflt_str, dflt_int, dflt_bool]; omega) | (simp <;> omega)) ?_
     exact ⟨i + 1, ⟨by omega, list_ext_take ByteArray.empty hla hlb ht h24⟩, by first | omega | (simp <;> omega), le_of ⟨rfl, rfl, rfl, (ii_eq (by omega))⟩ trivial rfl⟩
   ·try simp only [decide_eq_false_iff_not, Int.not_lt] at h14
    try simp only [Int.toNat_natCast, dflt_sl, dflt_st, dflt_str, dflt_int, dflt_bool] at h14
    refine acode_exit ?_
    refine acode_seq ?_
    refine acode_region ?_
    refine acode_ret ?_
    exact ib_eq (decide_eq_true (by rw [List.take_of_length_le (by omega), List.take_of_length_le (by omega)] at ht; exact ht)).symm
def plainL (l : List ByteArray) : Bool := decide ((unfoldL (l.map ls)).2 = 0) && decide (lineB (bytes (unfoldL (l.map ls)).1.1) (bytes (unfoldL (l.map ls)).1.2) = l)
def refUnfA (l : List ByteArray) : A := .tup [(true, [.lit (.string (bytes (unfoldL (l.map ls)).1.1)), .lit (.string (bytes (unfoldL (l.map ls)).1.2))]), (false, [.lit (.int .i64 (unfoldL (l.map ls)).2)])]
end Q
end Ab
end Go.Proofs.YtehmiepjeffloaaDoor
namespace Go.Proofs.YtehmiepjeffloaaDoor
open Go.RowKit
namespace Ab
set_option maxRecDepth 100000
namespace Q
theorem index_CS (f : FuncId) (l : List ByteArray) (p : ByteArray → Bool) (hp : ∀ x ∈ l, ACall Tryd.prog f [is x] (ib (p x))) : ACall Tryd.prog 48 [.one (.sl .str l), .one (.lit (.func (.func f) #[] #[]))] (ii .i64 (ixOf p l)) := by
  refine acall_of (rs := [4]) Tryd.func48 rfl rfl rfl teOk rfl ?_
  refine acode_seq ?_
  refine acode_region ?_
  refine acode_seq ?_
  refine acode_seq ?_
  refine acode_region ?_
  intro l1_1
  try simp only [Int.toNat_natCast, dflt_sl, dflt_st, dflt_str, dflt_int, dflt_bool] at l1_1
  refine acode_block ?_
  refine acode_loopP (fun (i : Nat) => i ≤ l.length ∧ (l.take i).any p = false) (fun (i : Nat) => [(0, .one (.sl .str l)), (1, .one (.lit (.func (.func f) #[] #[]))), (7, ii .i64 l.length), (8, ii .i64 i)]) (fun (i : Nat) => []) 0 (fun (i : Nat) => l.length - i) 0 (⟨Nat.zero_le _, rfl⟩) (le_of ⟨rfl, rfl, rfl, rfl⟩ trivial rfl) ?_
  intro i hI0
  obtain ⟨hi, hn⟩ := hI0
  refine acode_seq ?_
  refine acode_region ?_
  refine acode_seq ?_
  refine acode_cond rfl (fun h9 => ?_) (fun h9 => ?_)
  ·try simp only [decide_eq_true_eq] at h9
   try simp only [Int.toNat_natCast, dflt_sl, dflt_st, dflt_str, dflt_int, dflt_bool] at h9
   refine acode_skip ?_
   refine acode_seq ?_
   refine acode_block ?_
   refine acode_seq ?_
   refine acode_region ?_
   refine acode_seq ?_
   refine acode_region ?_
   refine And.intro (by first | omega | assumption | decide | (simp only [Int.toNat_natCast, dflt_sl, dflt_st, dflt_str, dflt_int, dflt_bool]; omega) | (simp <;> omega)) ?_
   refine Or.inl ?_
   refine And.intro (rfl) ?_
   refine Exists.intro _ (And.intro (hp _ (getD_mem (show i < l.length by omega) _)) ?_)
   refine acode_cond rfl (fun h16 => ?_) (fun h16 => ?_)
   ·try simp only [decide_eq_true_eq, decide_eq_false_iff_not, Bool.and_eq_true, Bool.not_eq_true', Bool.not_eq_false', Bool.or_eq_false_iff, Bool.or_eq_true, Bool.and_eq_false_iff, Int.not_lt, Int.not_le] at h16
    try simp only [Int.toNat_natCast, dflt_str] at h16
    refine acode_seq ?_
    refine acode_region ?_
    refine acode_ret ?_
    exact ii_eq (ixOf_at Rd.str.dflt (by omega) hn h16).symm
   ·try simp only [decide_eq_true_eq, decide_eq_false_iff_not, Bool.and_eq_true, Bool.not_eq_true', Bool.not_eq_false', Bool.or_eq_false_iff, Bool.or_eq_true, Bool.and_eq_false_iff, Int.not_lt, Int.not_le] at h16
    try simp only [Int.toNat_natCast, dflt_str] at h16
    refine acode_skip ?_
    refine acode_region ?_
    refine And.intro (by first | omega | assumption | decide | (simp only [Int.toNat_natCast, dflt_sl, dflt_st, dflt_str, dflt_int, dflt_bool]; omega) | (simp <;> omega)) ?_
    exact ⟨i + 1, ⟨by omega, by rw [take_any l p Rd.str.dflt i (by omega), hn]; exact h16⟩, by first | omega | (simp <;> omega), le_of ⟨rfl, rfl, rfl, rfl⟩ trivial rfl⟩
  ·try simp only [decide_eq_false_iff_not, Int.not_lt] at h9
   try simp only [Int.toNat_natCast, dflt_sl, dflt_st, dflt_str, dflt_int, dflt_bool] at h9
   refine acode_exit ?_
   refine acode_seq ?_
   refine acode_region ?_
   refine acode_ret ?_
   have e : i = l.length := by omega
   subst e
   rw [List.take_length] at hn
   exact ii_eq (ixOf_none hn).symm
theorem contains_CS (f : FuncId) (l : List ByteArray) (p : ByteArray → Bool) (hp : ∀ x ∈ l, ACall Tryd.prog f [is x] (ib (p x))) : ACall Tryd.prog 37 [.one (.sl .str l), .one (.lit (.func (.func f) #[] #[]))] (ib (l.any p)) := by
  refine acall_of (rs := [4]) Tryd.func37 rfl rfl rfl teOk rfl ?_
  refine acode_seq ?_
  refine acode_region ?_
  refine acode_seq ?_
  refine acode_region ?_
  refine Or.inl ?_
  refine And.intro (rfl) ?_
  refine Exists.intro _ (And.intro (index_CS f l p hp) ?_)
  refine acode_ret ?_
  exact ib_eq (ixOf_ge p l)
def keysOk (keys : List ByteArray) : Bool := keys.all fun k => keyOk (ls k)
theorem shgood1_c (k : ByteArray) (hk : k.size ≤ 1000000000) : ACall Tryd.prog 38 [is k] (ib (!keyOk (ls k))) := by
  refine acall_of (rs := [2]) Tryd.func38 rfl rfl rfl teOk rfl ?_
  refine acode_seq ?_
  refine acode_region ?_
  refine acode_seq ?_
  refine acode_region ?_
  refine Or.inl ?_
  refine And.intro (rfl) ?_
  refine Exists.intro _ (And.intro (key_c k hk) ?_)
  refine acode_ret ?_
  rfl
theorem keys_any (keys : List ByteArray) : (keys.any fun k => !keyOk (ls k)) = !keysOk keys := by
  unfold keysOk
  rw [List.all_eq_not_any_not, Bool.not_not]
theorem shgood_yes (keys : List ByteArray) (hz : ∀ k ∈ keys, k.size ≤ 1000000000) (h : keysOk keys = true) : ACall Tryd.prog 26 [.one (.sl .str keys)] (.one (.lit .nilIface)) := by
  refine acall_of (rs := [2]) Tryd.func26 rfl rfl rfl teOk rfl ?_
  refine acode_seq ?_
  refine acode_region ?_
  refine acode_seq ?_
  refine acode_seq ?_
  refine acode_region ?_
  refine Or.inl ?_
  refine And.intro (rfl) ?_
  refine Exists.intro _ (And.intro (contains_CS _ _ (fun k => !keyOk (ls k)) (fun x hx => shgood1_c x (hz x hx))) ?_)
  refine acode_cond rfl (fun h4 => ?_) (fun h4 => ?_)
  ·try simp only [decide_eq_true_eq, decide_eq_false_iff_not, Bool.and_eq_true, Bool.not_eq_true', Bool.not_eq_false', Bool.or_eq_false_iff, Bool.or_eq_true, Bool.and_eq_false_iff, Int.not_lt, Int.not_le] at h4
   try simp only [Int.toNat_natCast, dflt_sl, dflt_st, dflt_str, dflt_int, dflt_bool] at h4
   rw [keys_any, h] at h4
   cases h4
  ·try simp only [decide_eq_true_eq, decide_eq_false_iff_not, Bool.and_eq_true, Bool.not_eq_true', Bool.not_eq_false', Bool.or_eq_false_iff, Bool.or_eq_true, Bool.and_eq_false_iff, Int.not_lt, Int.not_le] at h4
   try simp only [Int.toNat_natCast, dflt_sl, dflt_st, dflt_str, dflt_int, dflt_bool] at h4
   refine acode_skip ?_
   refine acode_seq ?_
   refine acode_region ?_
   refine acode_ret ?_
   rfl
theorem shgood_not (keys : List ByteArray) (hz : ∀ k ∈ keys, k.size ≤ 1000000000) (h : keysOk keys = false) : ACall Tryd.prog 26 [.one (.sl .str keys)] (.one (errN 5)) := by
  refine acall_of (rs := [2]) Tryd.func26 rfl rfl rfl teOk rfl ?_
  refine acode_seq ?_
  refine acode_region ?_
  refine acode_seq ?_
  refine acode_seq ?_
  refine acode_region ?_
  refine Or.inl ?_
  refine And.intro (rfl) ?_
  refine Exists.intro _ (And.intro (contains_CS _ _ (fun k => !keyOk (ls k)) (fun x hx => shgood1_c x (hz x hx))) ?_)
  refine acode_cond rfl (fun h4 => ?_) (fun h4 => ?_)
  ·try simp only [decide_eq_true_eq, decide_eq_false_iff_not, Bool.and_eq_true, Bool.not_eq_true', Bool.not_eq_false', Bool.or_eq_false_iff, Bool.or_eq_true, Bool.and_eq_false_iff, Int.not_lt, Int.not_le] at h4
   try simp only [Int.toNat_natCast, dflt_sl, dflt_st, dflt_str, dflt_int, dflt_bool] at h4
   refine acode_seq ?_
   refine acode_region ?_
   refine acode_ret ?_
   rfl
  ·try simp only [decide_eq_true_eq, decide_eq_false_iff_not, Bool.and_eq_true, Bool.not_eq_true', Bool.not_eq_false', Bool.or_eq_false_iff, Bool.or_eq_true, Bool.and_eq_false_iff, Int.not_lt, Int.not_le] at h4
   try simp only [Int.toNat_natCast, dflt_sl, dflt_st, dflt_str, dflt_int, dflt_bool] at h4
   rw [keys_any, h] at h4
   cases h4
theorem refGoods_c (keys : List ByteArray) (hz : ∀ k ∈ keys, k.size ≤ 1000000000) : ACall Tryd.prog 28 [.one (.sl .str keys)] (ib (keysOk keys)) := by
  refine acall_of (rs := [2]) Tryd.func28 rfl rfl rfl teOk rfl ?_
  refine acode_seq ?_
  refine acode_region ?_
  refine acode_seq ?_
  refine acode_seq ?_
  refine acode_region ?_
  refine acode_block ?_
  refine acode_loopP (fun (i : Nat) => i ≤ keys.length ∧ (keys.take i).any (fun k => !keyOk (ls k)) = false) (fun (i : Nat) => [(0, .one (.sl .str keys)), (3, ii .i64 i)]) (fun (i : Nat) => []) 0 (fun (i : Nat) => keys.length - i) 0 (⟨Nat.zero_le _, rfl⟩) (le_of ⟨rfl, rfl⟩ trivial rfl) ?_
  intro i hI0
  obtain ⟨hi, hn⟩ := hI0
  refine acode_seq ?_
  refine acode_seq ?_
  refine acode_region ?_
  intro l2_2
  try simp only [Int.toNat_natCast, dflt_sl, dflt_st, dflt_str, dflt_int, dflt_bool] at l2_2
  refine acode_cond rfl (fun h7 => ?_) (fun h7 => ?_)
  ·try simp only [decide_eq_true_eq] at h7
   try simp only [Int.toNat_natCast, dflt_sl, dflt_st, dflt_str, dflt_int, dflt_bool] at h7
   have hil : i < keys.length := by omega
   refine acode_skip ?_
   refine acode_seq ?_
   refine acode_block ?_
   refine acode_seq ?_
   refine acode_region ?_
   refine And.intro (by first | omega | assumption | decide | (simp only [Int.toNat_natCast, dflt_sl, dflt_st, dflt_str, dflt_int, dflt_bool]; omega) | (simp <;> omega)) ?_
   refine Or.inl ?_
   refine And.intro (rfl) ?_
   refine Exists.intro _ (And.intro (refKey_c _ (hz _ (getD_mem hil _))) ?_)
   refine acode_cond rfl (fun h15 => ?_) (fun h15 => ?_)
   ·try simp only [Bool.not_eq_true'] at h15
    try simp only [Int.toNat_natCast, dflt_str] at h15
    refine acode_seq ?_
    refine acode_region ?_
    refine acode_ret ?_
    refine ib_eq ?_
    have h2 := any_at (p := fun k => !keyOk (ls k)) ByteArray.empty (show i < keys.length by omega) (by show (!keyOk (ls (keys.getD i ByteArray.empty))) = true; rw [show keyOk (ls (keys.getD i ByteArray.empty)) = false from h15]; rfl)
    rw [keys_any] at h2
    simpa using h2.symm
   ·try simp only [Bool.not_eq_false'] at h15
    try simp only [Int.toNat_natCast, dflt_str] at h15
    refine acode_skip ?_
    refine acode_region ?_
    refine And.intro (by first | omega | assumption | decide | (simp only [Int.toNat_natCast, dflt_sl, dflt_st, dflt_str, dflt_int, dflt_bool]; omega) | (simp <;> omega)) ?_
    exact ⟨i + 1, ⟨by omega, by rw [take_any keys _ ByteArray.empty i (by omega), hn]; show (!keyOk (ls (keys.getD i ByteArray.empty))) = false; rw [show keyOk (ls (keys.getD i ByteArray.empty)) = true from h15]; rfl⟩, by first | omega | (simp <;> omega), le_of ⟨rfl, (ii_eq (by omega))⟩ trivial rfl⟩
  ·try simp only [decide_eq_false_iff_not, Int.not_lt] at h7
   try simp only [Int.toNat_natCast, dflt_sl, dflt_st, dflt_str, dflt_int, dflt_bool] at h7
   refine acode_exit ?_
   refine acode_seq ?_
   refine acode_region ?_
   refine acode_ret ?_
   refine ib_eq ?_
   have e : i = keys.length := by omega
   subst e
   rw [List.take_length, keys_any] at hn
   simpa using hn.symm
def fldsU (keys row : List ByteArray) (j : Nat) : List Fld := ((List.range j).map fun i => (keys.getD i ByteArray.empty, row.getD i ByteArray.empty)).filter fun f => !decide (f.2 = ⟨#[]⟩)
def fldsS (keys row : List ByteArray) : List Fld := fldsU keys row row.length
theorem flds_yes (keys row : List ByteArray) (j : Nat) (h : ¬ row.getD j ByteArray.empty = ⟨#[]⟩) : fldsU keys row j ++ [(keys.getD j ByteArray.empty, row.getD j ByteArray.empty)] = fldsU keys row (j + 1) := by
  unfold fldsU
  rw [List.range_succ, List.map_append, List.filter_append]
  congr 1
  rw [List.map_cons, List.map_nil, List.filter_cons, if_pos (by rw [decide_eq_false h]; rfl)]; rfl
theorem flds_not (keys row : List ByteArray) (j : Nat) (h : row.getD j ByteArray.empty = ⟨#[]⟩) : fldsU keys row j = fldsU keys row (j + 1) := by
  unfold fldsU
  rw [List.range_succ, List.map_append, List.filter_append, List.map_cons, List.map_nil, List.filter_cons, if_neg (by rw [decide_eq_true h]; decide), List.filter_nil, List.append_nil]
theorem flds_len (keys row : List ByteArray) (j : Nat) : (fldsU keys row j).length ≤ j := by
  unfold fldsU
  exact Nat.le_trans (List.length_filter_le _ _) (by simp)
theorem fieldsS_c (keys row : List ByteArray) (hl : row.length ≤ keys.length) (hr : row.length ≤ 1000000) : ACall Tryd.prog 27 [.one (.sl .str keys), .one (.sl .str row)] (.one (.sl rFld (fldsS keys row))) := by
  refine acall_of (rs := [4]) Tryd.func27 rfl rfl rfl teOk rfl ?_
  refine acode_seq ?_
  refine acode_region ?_
  refine acode_seq ?_
  refine acode_region ?_
  refine acode_seq ?_
  refine acode_seq ?_
  refine acode_nilvec 5 66 rFld rfl ?_
  refine acode_region ?_
  intro l2_1
  try simp only [Int.toNat_natCast, dflt_sl, dflt_st, dflt_str, dflt_int, dflt_bool] at l2_1
  refine acode_block ?_
  refine acode_loopP (fun (i : Nat) => i ≤ row.length) (fun (i : Nat) => [(0, .one (.sl .str keys)), (5, .one (.vec 0)), (8, .one (.sl .str row)), (9, ii .i64 row.length), (10, ii .i64 i)]) (fun (i : Nat) => [(0, .vec 66 rFld (fldsU keys row i))]) 1 (fun (i : Nat) => row.length - i) 0 (Nat.zero_le _) (le_of ⟨rfl, rfl, rfl, rfl, rfl⟩ rfl rfl) ?_
  intro i hI0
  have hi := hI0
  have hfl := flds_len keys row i
  refine acode_seq ?_
  refine acode_region ?_
  refine acode_seq ?_
  refine acode_cond rfl (fun h11 => ?_) (fun h11 => ?_)
  ·try simp only [decide_eq_true_eq] at h11
   try simp only [Int.toNat_natCast, dflt_sl, dflt_st, dflt_str, dflt_int, dflt_bool] at h11
   have hil : i < row.length := by omega
   refine acode_skip ?_
   refine acode_seq ?_
   refine acode_block ?_
   refine acode_seq ?_
   refine acode_region ?_
   refine And.intro (by first | omega | assumption | decide | (simp only [Int.toNat_natCast, dflt_sl, dflt_st, dflt_str, dflt_int, dflt_bool]; omega) | (simp <;> omega)) ?_
   refine acode_seq ?_
   refine acode_region ?_
   refine acode_cond rfl (fun h16 => ?_) (fun h16 => ?_)
   ·try simp only [decide_eq_false_iff_not, Bool.not_eq_true'] at h16
    try simp only [Int.toNat_natCast, dflt_str] at h16
    refine acode_region ?_
    refine And.intro (by first | omega | assumption | decide | (simp only [Int.toNat_natCast, dflt_sl, dflt_st, dflt_str, dflt_int, dflt_bool]; omega) | (simp <;> omega)) ?_
    refine And.intro (by first | exact app_le (by first | omega | (simp only [List.length_cons, List.length_nil]; omega) | (simp; omega)) (by decide) | omega | assumption | decide | (simp only [Int.toNat_natCast, dflt_sl, dflt_st, dflt_str, dflt_int, dflt_bool]; omega) | (simp <;> omega)) ?_
    refine acode_region ?_
    refine And.intro (by first | omega | assumption | decide | (simp only [Int.toNat_natCast, dflt_sl, dflt_st, dflt_str, dflt_int, dflt_bool]; omega) | (simp <;> omega)) ?_
    exact ⟨i + 1, by omega, by first | omega | (simp <;> omega), le_of ⟨rfl, rfl, rfl, rfl, (ii_eq (by omega))⟩ (vec_eq (flds_yes keys row i h16)) rfl⟩
   ·try simp only [decide_eq_true_eq, Bool.not_eq_false'] at h16
    try simp only [Int.toNat_natCast, dflt_str] at h16
    refine acode_skip ?_
    refine acode_region ?_
    refine And.intro (by first | omega | assumption | decide | (simp only [Int.toNat_natCast, dflt_sl, dflt_st, dflt_str, dflt_int, dflt_bool]; omega) | (simp <;> omega)) ?_
    exact ⟨i + 1, by omega, by first | omega | (simp <;> omega), le_of ⟨rfl, rfl, rfl, rfl, (ii_eq (by omega))⟩ (vec_eq (flds_not keys row i h16)) rfl⟩
  ·try simp only [decide_eq_false_iff_not, Int.not_lt] at h11
   try simp only [Int.toNat_natCast, dflt_sl, dflt_st, dflt_str, dflt_int, dflt_bool] at h11
   refine acode_exit ?_
   refine acode_seq ?_
   refine acode_region ?_
   refine acode_ret ?_
   refine sl_eq ?_
   rw [show i = row.length by omega]
   rfl
end Q
end Ab
end Go.Proofs.YtehmiepjeffloaaDoor
namespace Go.Proofs.YtehmiepjeffloaaDoor
open Go.RowKit
namespace Ab
set_option maxRecDepth 100000
namespace Q
def impT (rows : List (List ByteArray)) : List (List Fld) × Int × Int :=
  if rows = [] then ([], -9, 2)
  else if keysOk (rows.getD 0 []) = false then ([], -9, 5)
  else if ((rows.drop 1).any fun r => decide ((rows.getD 0 []).length < r.length)) = true then ([], ixOf (fun r => decide ((rows.getD 0 []).length < r.length)) (rows.drop 1) + 1, 2)
  else ((rows.drop 1).map (fldsS (rows.getD 0 [])), -9, 0)
def impO (o : Option (List (List (List UInt8)))) : List (List Fld) × Int × Int := match o with
  | none => ([], -9, 2)
  | some rows => impT (unt rows)
def impA (r : List (List Fld) × Int × Int) : A :=
  if r.2.2 = 0 then .tup [(false, [.sl (.sl rFld) r.1]), (false, [.lit .nilIface])]
  else if r.2.1 = -9 then .tup [(false, [.sl (.sl rFld) []]), (false, [errN r.2.2])]
  else .tup [(false, [.sl (.sl rFld) []]), (false, [errF r.2.1 r.2.2])]
theorem read_none {s : ByteArray} (hs : s.size ≤ 60000) (h : shReadP (ls s) = none) : ACall Tryd.prog 11 [is s] (.tup [(false, [.sl (.sl .str) []]), (false, [errN 2])]) := by
  have := Read_c s hs
  rwa [h] at this
theorem read_some {s : ByteArray} {rows : List (List (List UInt8))} (hs : s.size ≤ 60000) (h : shReadP (ls s) = some rows) : ACall Tryd.prog 11 [is s] (.tup [(false, [.sl (.sl .str) (unt rows)]), (false, [.lit .nilIface])]) := by
  have := Read_c s hs
  rwa [h] at this
theorem refread_none {s : ByteArray} (hs : s.size ≤ 60000) (h : shReadP (ls s) = none) : ACall Tryd.prog 18 [is s] (.tup [(false, [.sl (.sl .str) []]), (false, [.lit (.bool false)])]) := by
  have := refReadS_c s hs
  rwa [← shread_same, h] at this
theorem refread_some {s : ByteArray} {rows : List (List (List UInt8))} (hs : s.size ≤ 60000) (h : shReadP (ls s) = some rows) : ACall Tryd.prog 18 [is s] (.tup [(false, [.sl (.sl .str) (unt rows)]), (false, [.lit (.bool true)])]) := by
  have := refReadS_c s hs
  rwa [← shread_same, h] at this
theorem dbl_ge : ∀ s : List UInt8, s.length ≤ (dblL s).length
  | [] => Nat.le_refl _
  | c :: r => by
    have := dbl_ge r
    unfold dblL
    split <;> simp <;> omega
theorem cell_ge (s : List UInt8) (al : Bool) : s.length ≤ (shCell s al).length := by
  have := dbl_ge s
  unfold shCell
  split
  · simp [quoL]; omega
  · exact Nat.le_refl _
theorem join_ge (al : Bool) : ∀ row : List (List UInt8), row ≠ [] → mL row ≤ (Lib.join (row.map fun s => shCell s al) [44]).length + 1
  | [], h => absurd rfl h
  | [s], _ => by
    have := cell_ge s al
    simp [Lib.join, List.intercalate, mL]; omega
  | s :: t :: l, _ => by
    have := cell_ge s al
    have ih := join_ge al (t :: l) (by simp)
    have e : mL (s :: t :: l) = s.length + 1 + mL (t :: l) := by simp [mL]
    simp only [List.map_cons] at ih ⊢
    rw [join_cons2, e, List.length_append, List.length_cons]
    omega
theorem mT_ge : ∀ rows : List (List (List UInt8)), shGood rows = true → mT (unt rows) ≤ (shWrite rows).length ∧ rows.length ≤ (shWrite rows).length
  | [], _ => ⟨Nat.le_refl _, Nat.le_refl _⟩
  | r :: rows, h => by
    simp only [shGood, List.all_cons, Bool.and_eq_true, Bool.not_eq_true', List.isEmpty_eq_false_iff] at h
    have ih := mT_ge rows (by simpa [shGood] using h.2)
    have hj := join_ge (decide (r.length = 1)) r h.1
    have e : mT (unt (r :: rows)) = mL r + mT (unt rows) := by rw [← mR_uns]; simp [mT]
    have e2 : shWrite (r :: rows) = shLine r ++ shWrite rows := rfl
    rw [e, e2, List.length_append, List.length_cons]
    unfold shLine
    rw [List.length_append, List.length_singleton]
    omega
theorem readP_good {t : List UInt8} {rows : List (List (List UInt8))} (h : shReadP t = some rows) : shGood rows = true ∧ shWrite rows = t := by
  unfold shReadP at h
  split at h
  · cases h
  · split at h
    · rename_i hc
      cases h; exact hc
    · cases h
theorem readP_size {s : ByteArray} {rows : List (List (List UInt8))} (h : shReadP (ls s) = some rows) : mT (unt rows) ≤ s.size ∧ rows.length ≤ s.size := by
  obtain ⟨h1, h2⟩ := readP_good h
  have := mT_ge rows h1
  rw [h2] at this
  rwa [show s.size = (ls s).length from size_list s]
end Q
end Ab
end Go.Proofs.YtehmiepjeffloaaDoor
namespace Go.Proofs.YtehmiepjeffloaaDoor
open Go.RowKit
namespace Ab
set_option maxRecDepth 100000
namespace Q
theorem imp_none (s : ByteArray) (hs : s.size ≤ 60000) (hrd : shReadP (ls s) = none) : ACall Tryd.prog 13 [is s] (.tup [(false, [.sl (.sl rFld) []]), (false, [errN 2])]) := by
  refine acall_of (rs := [2, 3]) Tryd.func13 rfl rfl rfl teOk rfl ?_
  refine acode_seq ?_
  refine acode_region ?_
  refine acode_seq ?_
  refine acode_region ?_
  refine Or.inl ?_
  refine And.intro (rfl) ?_
  refine Exists.intro _ (And.intro (read_none hs hrd) ?_)
  refine acode_seq ?_
  refine acode_block ?_
  refine acode_seq ?_
  refine acode_region ?_
  refine acode_cond rfl (fun h16 => ?_) (fun h16 => ?_)
  ·skip
   refine acode_seq ?_
   refine acode_region ?_
   refine acode_nilvec 2 63 (.sl rFld) rfl ?_
   refine acode_ret ?_
   rfl
  ·try simp only [decide_eq_true_eq, decide_eq_false_iff_not, Bool.and_eq_true, Bool.not_eq_true', Bool.not_eq_false', Bool.or_eq_false_iff, Bool.or_eq_true, Bool.and_eq_false_iff, Int.not_lt, Int.not_le] at h16
   try simp only [Int.toNat_natCast, dflt_sl, dflt_st, dflt_str, dflt_int, dflt_bool] at h16
   cases h16
theorem imp_some (s : ByteArray) (hs : s.size ≤ 60000) (rows : List (List (List UInt8))) (hrd : shReadP (ls s) = some rows) : ACall Tryd.prog 13 [is s] (impA (impT (unt rows))) := by
  obtain ⟨hsz1, hsz2⟩ := readP_size hrd
  have hread := read_some hs hrd
  have hlen : (unt rows).length = rows.length := List.length_map _
  generalize unt rows = R at hsz1 hread hlen
  have hks : ∀ k ∈ R.getD 0 [], k.size ≤ 1000000000 := fun k hk => by
    have h1 := mR_mem hk
    by_cases h0 : 0 < R.length
    · have h2 := mT_mem (getD_mem h0 ([] : List ByteArray)); omega
    · rw [show R = [] from List.length_eq_zero_iff.1 (by omega)] at hk; simp at hk
  refine acall_of (rs := [2, 3]) Tryd.func13 rfl rfl rfl teOk rfl ?_
  refine acode_seq ?_
  refine acode_region ?_
  refine acode_seq ?_
  refine acode_region ?_
  refine Or.inl ?_
  refine And.intro (rfl) ?_
  refine Exists.intro _ (And.intro (hread) ?_)
  refine acode_seq ?_
  refine acode_block ?_
  refine acode_seq ?_
  refine acode_region ?_
  refine acode_cond rfl (fun h16 => ?_) (fun h16 => ?_)
  ·try simp only [Bool.not_eq_true'] at h16
   try simp only [Int.toNat_natCast, dflt_sl, dflt_st, dflt_str, dflt_int, dflt_bool] at h16
   cases h16
  ·try simp only [Bool.not_eq_false'] at h16
   try simp only [Int.toNat_natCast, dflt_sl, dflt_st, dflt_str, dflt_int, dflt_bool] at h16
   refine acode_seq ?_
   refine acode_region ?_
   intro l4_1
   try simp only [Int.toNat_natCast, dflt_sl, dflt_st, dflt_str, dflt_int, dflt_bool] at l4_1
   refine acode_cond rfl (fun h20 => ?_) (fun h20 => ?_)
   ·try simp only [decide_eq_true_eq] at h20
    try simp only [Int.toNat_natCast, dflt_sl, dflt_st, dflt_str, dflt_int, dflt_bool] at h20
    refine acode_seq ?_
    refine acode_region ?_
    refine acode_nilvec 2 63 (.sl rFld) rfl ?_
    refine acode_ret ?_
    have e : impT R = ([], -9, 2) := by (unfold impT; rw [if_pos (List.length_eq_zero_iff.1 (by omega))])
    rw [e]
    rfl
   ·try simp only [decide_eq_false_iff_not] at h20
    try simp only [Int.toNat_natCast, dflt_sl, dflt_st, dflt_str, dflt_int, dflt_bool] at h20
    have h0 : 0 < R.length := by omega
    have hne : ¬ R = [] := fun e => by rw [e] at h0; cases h0
    have hkl : (R.getD 0 []).length ≤ 60000 := by have h1 := mR_len (R.getD 0 []); have h2 := mT_mem (getD_mem h0 ([] : List ByteArray)); omega
    refine acode_skip ?_
    refine acode_seq ?_
    refine acode_region ?_
    refine And.intro (by first | omega | assumption | decide | (simp only [Int.toNat_natCast, dflt_sl, dflt_st, dflt_str, dflt_int, dflt_bool]; omega) | (simp <;> omega)) ?_
    refine acode_seq ?_
    refine acode_seq ?_
    cases hko : keysOk (R.getD 0 [])
    ·refine acode_region ?_
     refine Or.inl ?_
     refine And.intro (rfl) ?_
     refine Exists.intro _ (And.intro (shgood_not _ hks hko) ?_)
     refine acode_seq ?_
     refine acode_region ?_
     refine acode_cond rfl (fun h31 => ?_) (fun h31 => ?_)
     ·skip
      refine acode_seq ?_
      refine acode_region ?_
      refine acode_nilvec 2 63 (.sl rFld) rfl ?_
      refine acode_ret ?_
      have e : impT R = ([], -9, 5) := by (unfold impT; rw [if_neg hne, if_pos hko])
      rw [e]
      rfl
     ·try simp only [decide_eq_true_eq, decide_eq_false_iff_not, Bool.and_eq_true, Bool.not_eq_true', Bool.not_eq_false', Bool.or_eq_false_iff, Bool.or_eq_true, Bool.and_eq_false_iff, Int.not_lt, Int.not_le] at h31
      try simp only [Int.toNat_natCast, dflt_sl, dflt_st, dflt_str, dflt_int, dflt_bool] at h31
      cases h31
    ·refine acode_region ?_
     refine Or.inl ?_
     refine And.intro (rfl) ?_
     refine Exists.intro _ (And.intro (shgood_yes _ hks hko) ?_)
     refine acode_seq ?_
     refine acode_region ?_
     refine acode_cond rfl (fun h31 => ?_) (fun h31 => ?_)
     ·try simp only [Bool.not_eq_true'] at h31
      try simp only [Int.toNat_natCast, dflt_sl, dflt_st, dflt_str, dflt_int, dflt_bool] at h31
      cases h31
     ·try simp only [Bool.not_eq_false'] at h31
      try simp only [Int.toNat_natCast, dflt_sl, dflt_st, dflt_str, dflt_int, dflt_bool] at h31
      refine acode_skip ?_
      refine acode_seq ?_
      refine acode_region ?_
      refine acode_nilvec 8 63 (.sl rFld) rfl ?_
      refine acode_seq ?_
      refine acode_seq ?_
      refine acode_region ?_
      refine And.intro (by first | omega | assumption | decide | (simp only [Int.toNat_natCast, dflt_sl, dflt_st, dflt_str, dflt_int, dflt_bool]; omega) | (simp <;> omega)) ?_
      intro l11_2
      try simp only [Int.toNat_natCast, dflt_sl, dflt_st, dflt_str, dflt_int, dflt_bool] at l11_2
      refine acode_block ?_
      refine acode_loopP (fun (i : Nat) => i ≤ (R.drop 1).length ∧ ((R.drop 1).take i).any (fun r => decide ((R.getD 0 []).length < r.length)) = false) (fun (i : Nat) => [(6, .one (.sl .str (R.getD 0 []))), (8, .one (.vec 0)), (34, .one (.sl (.sl .str) (R.drop 1))), (35, ii .i64 (R.drop 1).length), (36, ii .i64 i)]) (fun (i : Nat) => [(0, .vec 63 (.sl rFld) (((R.drop 1).take i).map (fldsS (R.getD 0 []))))]) 1 (fun (i : Nat) => (R.drop 1).length - i) 0 (⟨Nat.zero_le _, rfl⟩) (le_of ⟨rfl, rfl, rfl, rfl, rfl⟩ rfl rfl) ?_
      intro i hI1
      obtain ⟨hi, hn⟩ := hI1
      have hdl : (R.drop 1).length ≤ 60000 := by rw [List.length_drop]; omega
      refine acode_seq ?_
      refine acode_region ?_
      refine acode_seq ?_
      refine acode_cond rfl (fun h37 => ?_) (fun h37 => ?_)
      ·try simp only [decide_eq_true_eq] at h37
       try simp only [Int.toNat_natCast, dflt_sl, dflt_st, dflt_str, dflt_int, dflt_bool] at h37
       have hil : i < (R.drop 1).length := by omega
       refine acode_skip ?_
       refine acode_seq ?_
       refine acode_block ?_
       refine acode_seq ?_
       refine acode_region ?_
       refine And.intro (by first | omega | assumption | decide | (simp only [Int.toNat_natCast, dflt_sl, dflt_st, dflt_str, dflt_int, dflt_bool]; omega) | (simp <;> omega)) ?_
       refine acode_seq ?_
       refine acode_seq ?_
       refine acode_region ?_
       intro l14_1
       try simp only [Int.toNat_natCast, dflt_sl] at l14_1
       intro l14_3
       try simp only [Int.toNat_natCast, dflt_sl, dflt_st, dflt_str, dflt_int, dflt_bool] at l14_3
       refine acode_cond rfl (fun h45 => ?_) (fun h45 => ?_)
       ·try simp only [decide_eq_true_eq] at h45
        try simp only [Int.toNat_natCast, dflt_sl] at h45
        refine acode_seq ?_
        refine acode_region ?_
        refine And.intro (by first | omega | assumption | decide | (simp only [Int.toNat_natCast, dflt_sl, dflt_st, dflt_str, dflt_int, dflt_bool]; omega) | (simp <;> omega)) ?_
        refine acode_nilvec 2 63 (.sl rFld) rfl ?_
        refine acode_ret ?_
        have e : impT R = ([], (i : Int) + 1, 2) := by (unfold impT; rw [if_neg hne, if_neg (by rw [hko]; decide), if_pos (any_at (p := fun r => decide ((R.getD 0 []).length < r.length)) [] hil (decide_eq_true (by omega))), ixOf_at [] hil hn (decide_eq_true (by omega))])
        rw [e]
        unfold impA
        rw [if_neg (by show ¬ ((2 : Int) = 0); decide), if_neg (by show ¬ ((i : Int) + 1 = -9); omega)]
        rfl
       ·try simp only [decide_eq_false_iff_not, Int.not_lt] at h45
        try simp only [Int.toNat_natCast, dflt_sl] at h45
        refine acode_skip ?_
        refine acode_region ?_
        refine Or.inl ?_
        refine And.intro (rfl) ?_
        refine Exists.intro _ (And.intro (fieldsS_c _ _ (by show ((R.drop 1).getD i []).length ≤ _; omega) (by show ((R.drop 1).getD i []).length ≤ _; omega)) ?_)
        refine And.intro (by first | exact app_le (by first | omega | (simp only [List.length_cons, List.length_nil, List.length_map, List.length_take, List.length_drop]; omega) | (simp; omega)) (by decide) | omega | assumption | decide | (simp only [Int.toNat_natCast, dflt_sl, dflt_st, dflt_str, dflt_int, dflt_bool]; omega) | (simp <;> omega)) ?_
        refine acode_region ?_
        refine And.intro (by first | omega | assumption | decide | (simp only [Int.toNat_natCast, dflt_sl, dflt_st, dflt_str, dflt_int, dflt_bool]; omega) | (simp <;> omega)) ?_
        exact ⟨i + 1, ⟨by omega, by rw [take_any _ _ [] i hil, hn, decide_eq_false (by omega)]; rfl⟩, by first | omega | (simp <;> omega), le_of ⟨rfl, rfl, rfl, rfl, (ii_eq (by omega))⟩ (vec_eq (map_take_succ (fldsS (R.getD 0 [])) (R.drop 1) [] i hil).symm) rfl⟩
      ·try simp only [decide_eq_false_iff_not, Int.not_lt] at h37
       try simp only [Int.toNat_natCast, dflt_sl, dflt_st, dflt_str, dflt_int, dflt_bool] at h37
       refine acode_exit ?_
       refine acode_seq ?_
       refine acode_region ?_
       refine acode_ret ?_
       rw [List.take_of_length_le (by omega)] at hn
       have e : impT R = ((R.drop 1).map (fldsS (R.getD 0 [])), -9, 0) := by (unfold impT; rw [if_neg hne, if_neg (by rw [hko]; decide), if_neg (by rw [hn]; decide)])
       rw [e, List.take_of_length_le (by omega)]
       rfl
end Q
end Ab
end Go.Proofs.YtehmiepjeffloaaDoor
namespace Go.Proofs.YtehmiepjeffloaaDoor
open Go.RowKit
namespace Ab
set_option maxRecDepth 100000
namespace Q
def refImpA (r : List (List Fld) × Int × Int) : A := .tup [(false, [.sl (.sl rFld) r.1]), (false, [.lit (.int .i64 r.2.1)]), (false, [.lit (.int .i64 r.2.2)])]
theorem refimp_none (s : ByteArray) (hs : s.size ≤ 60000) (hrd : shReadP (ls s) = none) : ACall Tryd.prog 14 [is s] (refImpA ([], -9, 2)) := by
  refine acall_of (rs := [2, 3, 4]) Tryd.func14 rfl rfl rfl teOk rfl ?_
  refine acode_seq ?_
  refine acode_region ?_
  refine acode_seq ?_
  refine acode_seq ?_
  refine acode_region ?_
  refine acode_cond rfl (fun h13 => ?_) (fun h13 => ?_)
  ·try simp only [decide_eq_true_eq] at h13
   try simp only [Int.toNat_natCast, dflt_sl, dflt_st, dflt_str, dflt_int, dflt_bool] at h13
   omega
  ·try simp only [decide_eq_false_iff_not, Int.not_lt] at h13
   try simp only [Int.toNat_natCast, dflt_sl, dflt_st, dflt_str, dflt_int, dflt_bool] at h13
   refine acode_skip ?_
   refine acode_seq ?_
   refine acode_region ?_
   refine Or.inl ?_
   refine And.intro (rfl) ?_
   refine Exists.intro _ (And.intro (refread_none hs hrd) ?_)
   refine acode_seq ?_
   refine acode_seq ?_
   refine acode_region ?_
   refine And.intro (fun h => trivial) ?_
   refine And.intro (fun h => ⟨⟨h, trivial⟩, trivial⟩) ?_
   refine And.intro (fun h => ⟨⟨h, trivial⟩, trivial⟩) ?_
   refine And.intro (by first | (intro h; rw [h]; rfl) | (intro h; cases h)) ?_
   refine acode_cond rfl (fun h25 => ?_) (fun h25 => ?_)
   ·try simp only [decide_eq_true_eq, Bool.not_eq_true', Bool.or_eq_true] at h25
    try simp only [Int.toNat_natCast, dflt_sl, dflt_st, dflt_str, dflt_int, dflt_bool] at h25
    refine acode_seq ?_
    refine acode_region ?_
    refine acode_nilvec 2 63 (.sl rFld) rfl ?_
    refine acode_ret ?_
    rfl
   ·try simp only [decide_eq_false_iff_not, Bool.not_eq_false', Bool.or_eq_false_iff] at h25
    try simp only [Int.toNat_natCast, dflt_sl, dflt_st, dflt_str, dflt_int, dflt_bool] at h25
    simp at h25
theorem refimp_some (s : ByteArray) (hs : s.size ≤ 60000) (rows : List (List (List UInt8))) (hrd : shReadP (ls s) = some rows) : ACall Tryd.prog 14 [is s] (refImpA (impT (unt rows))) := by
  obtain ⟨hsz1, hsz2⟩ := readP_size hrd
  have hread := refread_some hs hrd
  have hlen : (unt rows).length = rows.length := List.length_map _
  generalize unt rows = R at hsz1 hread hlen
  have hks : ∀ k ∈ R.getD 0 [], k.size ≤ 1000000000 := fun k hk => by
    have h1 := mR_mem hk
    by_cases h0 : 0 < R.length
    · have h2 := mT_mem (getD_mem h0 ([] : List ByteArray)); omega
    · rw [show R = [] from List.length_eq_zero_iff.1 (by omega)] at hk; simp at hk
  refine acall_of (rs := [2, 3, 4]) Tryd.func14 rfl rfl rfl teOk rfl ?_
  refine acode_seq ?_
  refine acode_region ?_
  refine acode_seq ?_
  refine acode_seq ?_
  refine acode_region ?_
  refine acode_cond rfl (fun h13 => ?_) (fun h13 => ?_)
  ·try simp only [decide_eq_true_eq] at h13
   try simp only [Int.toNat_natCast, dflt_sl, dflt_st, dflt_str, dflt_int, dflt_bool] at h13
   omega
  ·try simp only [decide_eq_false_iff_not, Int.not_lt] at h13
   try simp only [Int.toNat_natCast, dflt_sl, dflt_st, dflt_str, dflt_int, dflt_bool] at h13
   refine acode_skip ?_
   refine acode_seq ?_
   refine acode_region ?_
   refine Or.inl ?_
   refine And.intro (rfl) ?_
   refine Exists.intro _ (And.intro (hread) ?_)
   refine acode_seq ?_
   refine acode_seq ?_
   refine acode_region ?_
   refine And.intro (fun h => trivial) ?_
   refine And.intro (fun h => ⟨⟨h, trivial⟩, trivial⟩) ?_
   refine And.intro (fun h => ⟨⟨h, trivial⟩, trivial⟩) ?_
   refine And.intro (by first | (intro h; rw [h]; rfl) | (intro h; cases h)) ?_
   refine acode_cond rfl (fun h25 => ?_) (fun h25 => ?_)
   ·try simp only [decide_eq_true_eq, Bool.not_eq_true', Bool.or_eq_true] at h25
    try simp only [Int.toNat_natCast, dflt_sl, dflt_st, dflt_str, dflt_int, dflt_bool] at h25
    refine acode_seq ?_
    refine acode_region ?_
    refine acode_nilvec 2 63 (.sl rFld) rfl ?_
    refine acode_ret ?_
    have e : impT R = ([], -9, 2) := by (unfold impT; rw [if_pos (List.length_eq_zero_iff.1 (by rcases h25 with h|h; cases h; omega))])
    rw [e]
    rfl
   ·try simp only [decide_eq_false_iff_not, Bool.not_eq_false', Bool.or_eq_false_iff] at h25
    try simp only [Int.toNat_natCast, dflt_sl, dflt_st, dflt_str, dflt_int, dflt_bool] at h25
    have h0 : 0 < R.length := by have := h25; simp at this; exact List.length_pos_iff.2 this
    have hne : ¬ R = [] := fun e => by rw [e] at h0; cases h0
    have hkl : (R.getD 0 []).length ≤ 60000 := by have h1 := mR_len (R.getD 0 []); have h2 := mT_mem (getD_mem h0 ([] : List ByteArray)); omega
    refine acode_skip ?_
    refine acode_seq ?_
    refine acode_seq ?_
    refine acode_region ?_
    refine And.intro (by first | omega | assumption | decide | (simp only [Int.toNat_natCast, dflt_sl, dflt_st, dflt_str, dflt_int, dflt_bool]; omega) | (simp <;> omega)) ?_
    refine Or.inl ?_
    refine And.intro (rfl) ?_
    refine Exists.intro _ (And.intro (refGoods_c _ hks) ?_)
    refine acode_cond rfl (fun h30 => ?_) (fun h30 => ?_)
    ·try simp only [Bool.not_eq_true'] at h30
     try simp only [dflt_sl] at h30
     refine acode_seq ?_
     refine acode_region ?_
     refine acode_nilvec 2 63 (.sl rFld) rfl ?_
     refine acode_ret ?_
     have e : impT R = ([], -9, 5) := by (unfold impT; rw [if_neg hne, if_pos (show keysOk (R.getD 0 []) = false from h30)])
     rw [e]
     rfl
    ·try simp only [Bool.not_eq_false'] at h30
     try simp only [dflt_sl] at h30
     refine acode_skip ?_
     refine acode_seq ?_
     refine acode_region ?_
     refine acode_nilvec 7 63 (.sl rFld) rfl ?_
     refine acode_seq ?_
     refine acode_seq ?_
     refine acode_region ?_
     refine acode_block ?_
     refine acode_loopP (fun (k : Nat) => 1 ≤ k ∧ k ≤ R.length ∧ ((R.drop 1).take (k - 1)).any (fun r => decide ((R.getD 0 []).length < r.length)) = false) (fun (k : Nat) => [(5, .one (.sl (.sl .str) R)), (7, .one (.vec 0)), (8, ii .i64 k)]) (fun (k : Nat) => [(0, .vec 63 (.sl rFld) (((R.drop 1).take (k - 1)).map (fldsS (R.getD 0 []))))]) 1 (fun (k : Nat) => R.length - k) 1 (⟨Nat.le_refl _, h0, rfl⟩) (le_of ⟨rfl, rfl, rfl⟩ rfl rfl) ?_
     intro k hI0
     obtain ⟨hk1, hk, hn⟩ := hI0
     refine acode_seq ?_
     refine acode_seq ?_
     refine acode_region ?_
     intro l10_2
     try simp only [Int.toNat_natCast, dflt_sl, dflt_st, dflt_str, dflt_int, dflt_bool] at l10_2
     refine acode_cond rfl (fun h34 => ?_) (fun h34 => ?_)
     ·try simp only [decide_eq_true_eq] at h34
      try simp only [Int.toNat_natCast, dflt_sl, dflt_st, dflt_str, dflt_int, dflt_bool] at h34
      have hkl2 : k < R.length := by omega
      have hdg : (R.drop 1).getD (k - 1) [] = R.getD k [] := by rw [drop_getD, Nat.sub_add_cancel hk1]
      have hkd : k - 1 < (R.drop 1).length := by rw [List.length_drop]; omega
      refine acode_skip ?_
      refine acode_seq ?_
      refine acode_block ?_
      refine acode_seq ?_
      refine acode_seq ?_
      refine acode_draw rfl (by kernel_rfl) ?_
      refine And.intro (by first | omega | assumption | decide | (simp only [Int.toNat_natCast, dflt_sl, dflt_st, dflt_str, dflt_int, dflt_bool]; omega) | (simp <;> omega)) ?_
      refine And.intro (by first | omega | assumption | decide | (simp only [Int.toNat_natCast, dflt_sl, dflt_st, dflt_str, dflt_int, dflt_bool]; omega) | (simp <;> omega)) ?_
      refine acode_cond rfl (fun h46 => ?_) (fun h46 => ?_)
      ·try simp only [decide_eq_true_eq] at h46
       try simp only [Int.toNat_natCast, dflt_sl] at h46
       refine acode_seq ?_
       refine acode_region ?_
       refine acode_nilvec 2 63 (.sl rFld) rfl ?_
       refine acode_ret ?_
       have h46p : decide ((R.getD 0 []).length < ((R.drop 1).getD (k - 1) []).length) = true := by (rw [hdg]; exact decide_eq_true (by have h : ((R.getD 0 []).length : Int) < ((R.getD k []).length : Int) := h46; omega))
       have e : impT R = ([], (k : Int), 2) := by (unfold impT; rw [if_neg hne, if_neg (by rw [show keysOk (R.getD 0 []) = true from h30]; decide), if_pos (any_at (p := fun r => decide ((R.getD 0 []).length < r.length)) [] hkd h46p), ixOf_at [] hkd hn h46p, show ((k - 1 : Nat) : Int) + 1 = k by omega])
       rw [e]
       rfl
      ·try simp only [decide_eq_false_iff_not, Int.not_lt] at h46
       try simp only [Int.toNat_natCast, dflt_sl] at h46
       have h46n : (R.getD k []).length ≤ (R.getD 0 []).length := by have h : ((R.getD k []).length : Int) ≤ ((R.getD 0 []).length : Int) := h46; omega
       refine acode_skip ?_
       refine acode_seq ?_
       refine acode_region ?_
       refine acode_nilvec 9 66 rFld rfl ?_
       refine acode_seq ?_
       refine acode_seq ?_
       refine acode_region ?_
       refine acode_block ?_
       refine acode_loopP (fun (j : Nat) => j ≤ (R.getD k []).length) (fun (j : Nat) => [(5, .one (.sl (.sl .str) R)), (7, .one (.vec 0)), (8, ii .i64 k), (9, .one (.vec 1)), (10, ii .i64 j)]) (fun (j : Nat) => [(0, .vec 63 (.sl rFld) (((R.drop 1).take (k - 1)).map (fldsS (R.getD 0 [])))), (1, .vec 66 rFld (fldsU (R.getD 0 []) (R.getD k []) j))]) 2 (fun (j : Nat) => (R.getD k []).length - j) 0 (Nat.zero_le _) (le_of ⟨rfl, rfl, rfl, rfl, rfl⟩ ⟨rfl, rfl⟩ rfl) ?_
       intro j hI2
       have hj := hI2
       have hfl := flds_len (R.getD 0 []) (R.getD k []) j
       refine acode_seq ?_
       refine acode_seq ?_
       refine acode_region ?_
       refine And.intro (by first | omega | assumption | decide | (simp only [Int.toNat_natCast, dflt_sl, dflt_st, dflt_str, dflt_int, dflt_bool]; omega) | (simp <;> omega)) ?_
       intro l16_5
       try simp only [Int.toNat_natCast, dflt_sl] at l16_5
       refine acode_cond rfl (fun h54 => ?_) (fun h54 => ?_)
       ·try simp only [decide_eq_true_eq] at h54
        try simp only [Int.toNat_natCast, dflt_sl] at h54
        refine acode_skip ?_
        refine acode_seq ?_
        refine acode_block ?_
        refine acode_seq ?_
        refine acode_region ?_
        refine And.intro (by first | omega | assumption | decide | (simp only [Int.toNat_natCast, dflt_sl, dflt_st, dflt_str, dflt_int, dflt_bool]; omega) | (simp <;> omega)) ?_
        refine And.intro (by first | omega | assumption | decide | (simp only [Int.toNat_natCast, dflt_sl]; omega) | (simp <;> omega)) ?_
        refine acode_cond rfl (fun h64 => ?_) (fun h64 => ?_)
        ·try simp only [decide_eq_false_iff_not, Bool.not_eq_true'] at h64
         try simp only [Int.toNat_natCast, dflt_sl, dflt_str] at h64
         refine acode_ord rfl ?_
         refine aord_light 0 rfl rfl rfl (by kernel_rfl) ?_
         refine aord_light 1 rfl rfl rfl (by kernel_rfl) ?_
         refine aord_light 2 rfl rfl rfl (by kernel_rfl) ?_
         refine And.intro (by first | omega | assumption | decide | (simp only [Int.toNat_natCast, dflt_sl, dflt_st, dflt_str, dflt_int, dflt_bool]; omega) | (simp <;> omega)) ?_
         refine aord_light 4 rfl rfl rfl (by kernel_rfl) ?_
         refine aord_light 7 rfl rfl rfl (by kernel_rfl) ?_
         refine aord_light 8 rfl rfl rfl (by kernel_rfl) ?_
         refine aord_light 9 rfl rfl rfl (by kernel_rfl) ?_
         refine And.intro (by first | omega | assumption | decide | (simp only [Int.toNat_natCast, dflt_sl, dflt_st, dflt_str, dflt_int, dflt_bool]; omega) | (simp <;> omega)) ?_
         refine aord_light 11 rfl rfl rfl (by kernel_rfl) ?_
         refine aord_all [3, 10] (by kernel_rfl) rfl ?_
         refine And.intro ?_ ?_
         ·refine aord_light 5 rfl rfl rfl (by kernel_rfl) ?_
          refine And.intro (by first | omega | assumption | decide | (simp only [dflt_sl]; omega) | (simp <;> omega)) ?_
          refine aord_all [6, 10] (by kernel_rfl) rfl ?_
          refine And.intro ?_ ?_
          ·refine aord_all [10] (by kernel_rfl) rfl ?_
           refine aord_light 12 rfl rfl rfl (by kernel_rfl) ?_
           refine And.intro (by first | omega | assumption | decide | (simp only [Int.toNat_natCast, dflt_sl]; omega) | (simp <;> omega)) ?_
           refine aord_all [13] (by kernel_rfl) rfl ?_
           refine aord_all [14] (by kernel_rfl) rfl ?_
           refine aord_all [15] (by kernel_rfl) rfl ?_
           refine aord_all [16] (by kernel_rfl) rfl ?_
           refine And.intro (by show (_ + 1) * 32 ≤ 140737488355328; omega) ?_
           refine aord_light 17 rfl rfl rfl (by kernel_rfl) ?_
           refine aord_done (by kernel_rfl) ?_
           refine acode_region ?_
           refine And.intro (by first | omega | assumption | decide | (simp only [Int.toNat_natCast, dflt_sl, dflt_st, dflt_str, dflt_int, dflt_bool]; omega) | (simp <;> omega)) ?_
           exact ⟨j + 1, by omega, by first | omega | (simp <;> omega), le_of ⟨rfl, rfl, rfl, rfl, (ii_eq (by omega))⟩ ⟨rfl, (vec_eq (by first |exact flds_yes _ _ _ h64 |exact flds_not _ _ _ h64))⟩ rfl⟩
          ·refine aord_light 12 rfl rfl rfl (by kernel_rfl) ?_
           refine And.intro (by first | omega | assumption | decide | (simp only [Int.toNat_natCast, dflt_sl]; omega) | (simp <;> omega)) ?_
           refine aord_all [6, 13] (by kernel_rfl) rfl ?_
           refine And.intro ?_ ?_
           ·refine aord_all [13] (by kernel_rfl) rfl ?_
            refine aord_all [14] (by kernel_rfl) rfl ?_
            refine aord_all [15] (by kernel_rfl) rfl ?_
            refine aord_all [16] (by kernel_rfl) rfl ?_
            refine And.intro (by show (_ + 1) * 32 ≤ 140737488355328; omega) ?_
            refine aord_light 17 rfl rfl rfl (by kernel_rfl) ?_
            refine aord_done (by kernel_rfl) ?_
            refine acode_region ?_
            refine And.intro (by first | omega | assumption | decide | (simp only [Int.toNat_natCast, dflt_sl, dflt_st, dflt_str, dflt_int, dflt_bool]; omega) | (simp <;> omega)) ?_
            exact ⟨j + 1, by omega, by first | omega | (simp <;> omega), le_of ⟨rfl, rfl, rfl, rfl, (ii_eq (by omega))⟩ ⟨rfl, (vec_eq (by first |exact flds_yes _ _ _ h64 |exact flds_not _ _ _ h64))⟩ rfl⟩
           ·refine aord_all [6] (by kernel_rfl) rfl ?_
            refine aord_all [14] (by kernel_rfl) rfl ?_
            refine aord_all [15] (by kernel_rfl) rfl ?_
            refine aord_all [16] (by kernel_rfl) rfl ?_
            refine And.intro (by show (_ + 1) * 32 ≤ 140737488355328; omega) ?_
            refine aord_light 17 rfl rfl rfl (by kernel_rfl) ?_
            refine aord_done (by kernel_rfl) ?_
            refine acode_region ?_
            refine And.intro (by first | omega | assumption | decide | (simp only [Int.toNat_natCast, dflt_sl, dflt_st, dflt_str, dflt_int, dflt_bool]; omega) | (simp <;> omega)) ?_
            exact ⟨j + 1, by omega, by first | omega | (simp <;> omega), le_of ⟨rfl, rfl, rfl, rfl, (ii_eq (by omega))⟩ ⟨rfl, (vec_eq (by first |exact flds_yes _ _ _ h64 |exact flds_not _ _ _ h64))⟩ rfl⟩
         ·refine aord_light 12 rfl rfl rfl (by kernel_rfl) ?_
          refine And.intro (by first | omega | assumption | decide | (simp only [Int.toNat_natCast, dflt_sl]; omega) | (simp <;> omega)) ?_
          refine aord_all [3, 13] (by kernel_rfl) rfl ?_
          refine And.intro ?_ ?_
          ·refine aord_light 5 rfl rfl rfl (by kernel_rfl) ?_
           refine And.intro (by first | omega | assumption | decide | (simp only [dflt_sl]; omega) | (simp <;> omega)) ?_
           refine aord_all [6, 13] (by kernel_rfl) rfl ?_
           refine And.intro ?_ ?_
           ·refine aord_all [13] (by kernel_rfl) rfl ?_
            refine aord_all [14] (by kernel_rfl) rfl ?_
            refine aord_all [15] (by kernel_rfl) rfl ?_
            refine aord_all [16] (by kernel_rfl) rfl ?_
            refine And.intro (by show (_ + 1) * 32 ≤ 140737488355328; omega) ?_
            refine aord_light 17 rfl rfl rfl (by kernel_rfl) ?_
            refine aord_done (by kernel_rfl) ?_
            refine acode_region ?_
            refine And.intro (by first | omega | assumption | decide | (simp only [Int.toNat_natCast, dflt_sl, dflt_st, dflt_str, dflt_int, dflt_bool]; omega) | (simp <;> omega)) ?_
            exact ⟨j + 1, by omega, by first | omega | (simp <;> omega), le_of ⟨rfl, rfl, rfl, rfl, (ii_eq (by omega))⟩ ⟨rfl, (vec_eq (by first |exact flds_yes _ _ _ h64 |exact flds_not _ _ _ h64))⟩ rfl⟩
           ·refine aord_all [6] (by kernel_rfl) rfl ?_
            refine aord_all [14] (by kernel_rfl) rfl ?_
            refine aord_all [15] (by kernel_rfl) rfl ?_
            refine aord_all [16] (by kernel_rfl) rfl ?_
            refine And.intro (by show (_ + 1) * 32 ≤ 140737488355328; omega) ?_
            refine aord_light 17 rfl rfl rfl (by kernel_rfl) ?_
            refine aord_done (by kernel_rfl) ?_
            refine acode_region ?_
            refine And.intro (by first | omega | assumption | decide | (simp only [Int.toNat_natCast, dflt_sl, dflt_st, dflt_str, dflt_int, dflt_bool]; omega) | (simp <;> omega)) ?_
            exact ⟨j + 1, by omega, by first | omega | (simp <;> omega), le_of ⟨rfl, rfl, rfl, rfl, (ii_eq (by omega))⟩ ⟨rfl, (vec_eq (by first |exact flds_yes _ _ _ h64 |exact flds_not _ _ _ h64))⟩ rfl⟩
          ·refine aord_all [3] (by kernel_rfl) rfl ?_
           refine aord_light 5 rfl rfl rfl (by kernel_rfl) ?_
           refine And.intro (by first | omega | assumption | decide | (simp only [dflt_sl]; omega) | (simp <;> omega)) ?_
           refine aord_all [6] (by kernel_rfl) rfl ?_
           refine aord_all [14] (by kernel_rfl) rfl ?_
           refine aord_all [15] (by kernel_rfl) rfl ?_
           refine aord_all [16] (by kernel_rfl) rfl ?_
           refine And.intro (by show (_ + 1) * 32 ≤ 140737488355328; omega) ?_
           refine aord_light 17 rfl rfl rfl (by kernel_rfl) ?_
           refine aord_done (by kernel_rfl) ?_
           refine acode_region ?_
           refine And.intro (by first | omega | assumption | decide | (simp only [Int.toNat_natCast, dflt_sl, dflt_st, dflt_str, dflt_int, dflt_bool]; omega) | (simp <;> omega)) ?_
           exact ⟨j + 1, by omega, by first | omega | (simp <;> omega), le_of ⟨rfl, rfl, rfl, rfl, (ii_eq (by omega))⟩ ⟨rfl, (vec_eq (by first |exact flds_yes _ _ _ h64 |exact flds_not _ _ _ h64))⟩ rfl⟩
        ·try simp only [decide_eq_true_eq, Bool.not_eq_false'] at h64
         try simp only [Int.toNat_natCast, dflt_sl, dflt_str] at h64
         refine acode_skip ?_
         refine acode_region ?_
         refine And.intro (by first | omega | assumption | decide | (simp only [Int.toNat_natCast, dflt_sl, dflt_st, dflt_str, dflt_int, dflt_bool]; omega) | (simp <;> omega)) ?_
         exact ⟨j + 1, by omega, by first | omega | (simp <;> omega), le_of ⟨rfl, rfl, rfl, rfl, (ii_eq (by omega))⟩ ⟨rfl, (vec_eq (by first |exact flds_yes _ _ _ h64 |exact flds_not _ _ _ h64))⟩ rfl⟩
       ·try simp only [decide_eq_false_iff_not, Int.not_lt] at h54
        try simp only [Int.toNat_natCast, dflt_sl] at h54
        have hje : j = (R.getD k []).length := by omega
        refine acode_exit ?_
        refine acode_region ?_
        refine And.intro (by show (_ + 1) * 24 ≤ 140737488355328; rw [List.length_map, List.length_take]; omega) ?_
        refine acode_region ?_
        refine And.intro (by first | omega | assumption | decide | (simp only [Int.toNat_natCast, dflt_sl, dflt_st, dflt_str, dflt_int, dflt_bool]; omega) | (simp <;> omega)) ?_
        exact ⟨k + 1, ⟨by omega, by omega, by rw [show k + 1 - 1 = (k - 1) + 1 by omega, take_any _ _ [] (k - 1) hkd, hn, hdg, decide_eq_false (by omega)]; rfl⟩, by first | omega | (simp <;> omega), le_of ⟨rfl, rfl, (ii_eq (by omega))⟩ (vec_eq (by rw [show k + 1 - 1 = (k - 1) + 1 by omega, map_take_succ (fldsS (R.getD 0 [])) (R.drop 1) [] (k - 1) hkd, hdg, hje]; rfl)) rfl⟩
     ·try simp only [decide_eq_false_iff_not, Int.not_lt] at h34
      try simp only [Int.toNat_natCast, dflt_sl, dflt_st, dflt_str, dflt_int, dflt_bool] at h34
      refine acode_exit ?_
      refine acode_seq ?_
      refine acode_region ?_
      refine acode_ret ?_
      rw [List.take_of_length_le (by rw [List.length_drop]; omega)] at hn
      have e : impT R = ((R.drop 1).map (fldsS (R.getD 0 [])), -9, 0) := by (unfold impT; rw [if_neg hne, if_neg (by rw [show keysOk (R.getD 0 []) = true from h30]; decide), if_neg (by rw [hn]; decide)])
      rw [e, List.take_of_length_le (by rw [List.length_drop]; omega)]
      rfl
end Q
end Ab
end Go.Proofs.YtehmiepjeffloaaDoor
namespace Go.Proofs.YtehmiepjeffloaaDoor
open Go.RowKit
namespace Ab
set_option maxRecDepth 100000
namespace Q
theorem read_big (s : ByteArray) (hs : 60000 < s.size) : ACall Tryd.prog 11 [is s] (.tup [(false, [.sl (.sl .str) []]), (false, [errN 1])]) := by
  refine acall_of (rs := [2, 3]) Tryd.func11 rfl rfl rfl teOk rfl ?_
  refine acode_seq ?_
  refine acode_region ?_
  refine acode_seq ?_
  refine acode_seq ?_
  refine acode_region ?_
  refine acode_cond rfl (fun h13 => ?_) (fun h13 => ?_)
  ·try simp only [decide_eq_true_eq] at h13
   try simp only [Int.toNat_natCast, dflt_sl, dflt_st, dflt_str, dflt_int, dflt_bool] at h13
   refine acode_seq ?_
   refine acode_region ?_
   refine acode_nilvec 2 24 (.sl .str) rfl ?_
   refine acode_ret ?_
   rfl
  ·try simp only [decide_eq_false_iff_not, Int.not_lt] at h13
   try simp only [Int.toNat_natCast, dflt_sl, dflt_st, dflt_str, dflt_int, dflt_bool] at h13
   omega
theorem imp_big (s : ByteArray) (hs : 60000 < s.size) : ACall Tryd.prog 13 [is s] (.tup [(false, [.sl (.sl rFld) []]), (false, [errN 1])]) := by
  refine acall_of (rs := [2, 3]) Tryd.func13 rfl rfl rfl teOk rfl ?_
  refine acode_seq ?_
  refine acode_region ?_
  refine acode_seq ?_
  refine acode_region ?_
  refine Or.inl ?_
  refine And.intro (rfl) ?_
  refine Exists.intro _ (And.intro (read_big s hs) ?_)
  refine acode_seq ?_
  refine acode_block ?_
  refine acode_seq ?_
  refine acode_region ?_
  refine acode_cond rfl (fun h16 => ?_) (fun h16 => ?_)
  ·skip
   refine acode_seq ?_
   refine acode_region ?_
   refine acode_nilvec 2 63 (.sl rFld) rfl ?_
   refine acode_ret ?_
   rfl
  ·try simp only [decide_eq_true_eq, decide_eq_false_iff_not, Bool.and_eq_true, Bool.not_eq_true', Bool.not_eq_false', Bool.or_eq_false_iff, Bool.or_eq_true, Bool.and_eq_false_iff, Int.not_lt, Int.not_le] at h16
   try simp only [Int.toNat_natCast, dflt_sl, dflt_st, dflt_str, dflt_int, dflt_bool] at h16
   cases h16
theorem refimp_big (s : ByteArray) (hs : 60000 < s.size) : ACall Tryd.prog 14 [is s] (refImpA ([], -9, 1)) := by
  refine acall_of (rs := [2, 3, 4]) Tryd.func14 rfl rfl rfl teOk rfl ?_
  refine acode_seq ?_
  refine acode_region ?_
  refine acode_seq ?_
  refine acode_seq ?_
  refine acode_region ?_
  refine acode_cond rfl (fun h13 => ?_) (fun h13 => ?_)
  ·try simp only [decide_eq_true_eq] at h13
   try simp only [Int.toNat_natCast, dflt_sl, dflt_st, dflt_str, dflt_int, dflt_bool] at h13
   refine acode_seq ?_
   refine acode_region ?_
   refine acode_nilvec 2 63 (.sl rFld) rfl ?_
   refine acode_ret ?_
   rfl
  ·try simp only [decide_eq_false_iff_not, Int.not_lt] at h13
   try simp only [Int.toNat_natCast, dflt_sl, dflt_st, dflt_str, dflt_int, dflt_bool] at h13
   omega
theorem fieldsEq_c (a b : List Fld) : ACall Tryd.prog 29 [.one (.sl rFld a), .one (.sl rFld b)] (ib (decide (a = b))) := by
  refine acall_of (rs := [4]) Tryd.func29 rfl rfl rfl teOk rfl ?_
  refine acode_seq ?_
  refine acode_region ?_
  refine acode_seq ?_
  refine acode_seq ?_
  refine acode_region ?_
  intro l1_1
  try simp only [Int.toNat_natCast, dflt_sl, dflt_st, dflt_str, dflt_int, dflt_bool] at l1_1
  intro l1_3
  try simp only [Int.toNat_natCast, dflt_sl, dflt_st, dflt_str, dflt_int, dflt_bool] at l1_3
  refine acode_cond rfl (fun h10 => ?_) (fun h10 => ?_)
  ·try simp only [decide_eq_false_iff_not, Bool.not_eq_true'] at h10
   try simp only [Int.toNat_natCast, dflt_sl, dflt_st, dflt_str, dflt_int, dflt_bool] at h10
   refine acode_seq ?_
   refine acode_region ?_
   refine acode_ret ?_
   exact ib_eq (decide_eq_false (fun e => by rw [e] at h10; omega)).symm
  ·try simp only [decide_eq_true_eq, Bool.not_eq_false'] at h10
   try simp only [Int.toNat_natCast, dflt_sl, dflt_st, dflt_str, dflt_int, dflt_bool] at h10
   refine acode_skip ?_
   refine acode_seq ?_
   refine acode_seq ?_
   refine acode_region ?_
   intro l3_1
   try simp only [Int.toNat_natCast, dflt_sl, dflt_st, dflt_str, dflt_int, dflt_bool] at l3_1
   refine acode_block ?_
   refine acode_loopP (fun (i : Nat) => i ≤ a.length ∧ a.take i = b.take i) (fun (i : Nat) => [(0, .one (.sl rFld a)), (1, .one (.sl rFld b)), (12, ii .i64 a.length), (13, ii .i64 i)]) (fun (i : Nat) => []) 0 (fun (i : Nat) => a.length - i) 0 (⟨Nat.zero_le _, by simp⟩) (le_of ⟨rfl, rfl, rfl, rfl⟩ trivial rfl) ?_
   intro i hI0
   obtain ⟨hi, ht⟩ := hI0
   refine acode_seq ?_
   refine acode_region ?_
   refine acode_seq ?_
   refine acode_cond rfl (fun h14 => ?_) (fun h14 => ?_)
   ·try simp only [decide_eq_true_eq] at h14
    try simp only [Int.toNat_natCast, dflt_sl, dflt_st, dflt_str, dflt_int, dflt_bool] at h14
    have hla : i < a.length := by omega
    have hlb : i < b.length := by omega
    refine acode_skip ?_
    refine acode_seq ?_
    refine acode_block ?_
    refine acode_seq ?_
    refine acode_region ?_
    refine acode_seq ?_
    refine acode_draw rfl (by kernel_rfl) ?_
    refine And.intro (by first | omega | assumption | decide | (simp only [Int.toNat_natCast, dflt_sl, dflt_st, dflt_str, dflt_int, dflt_bool]; omega) | (simp <;> omega)) ?_
    refine And.intro (by first | omega | assumption | decide | (simp only [Int.toNat_natCast, dflt_sl, dflt_st, dflt_str, dflt_int, dflt_bool]; omega) | (simp <;> omega)) ?_
    refine And.intro (by rfl) ?_
    refine acode_cond rfl (fun h24 => ?_) (fun h24 => ?_)
    ·try simp only [decide_eq_false_iff_not, Bool.not_eq_true', Bool.and_eq_false_iff] at h24
     try simp only [Int.toNat_natCast, dflt_st, dflt_str] at h24
     refine acode_seq ?_
     refine acode_region ?_
     refine acode_ret ?_
     exact ib_eq (decide_eq_false (ne_at (i := i) (ByteArray.empty, ByteArray.empty) (fun e => h24.elim (fun h => h (congrArg Prod.fst e)) (fun h => h (congrArg Prod.snd e))))).symm
    ·try simp only [decide_eq_true_eq, Bool.and_eq_true, Bool.not_eq_false'] at h24
     try simp only [Int.toNat_natCast, dflt_st, dflt_str] at h24
     refine acode_skip ?_
     refine acode_region ?_
     refine And.intro (by first | omega | assumption | decide | (simp only [Int.toNat_natCast, dflt_sl, dflt_st, dflt_str, dflt_int, dflt_bool]; omega) | (simp <;> omega)) ?_
     exact ⟨i + 1, ⟨by omega, list_ext_take (ByteArray.empty, ByteArray.empty) hla hlb ht (Prod.ext h24.1 h24.2)⟩, by first | omega | (simp <;> omega), le_of ⟨rfl, rfl, rfl, (ii_eq (by omega))⟩ trivial rfl⟩
   ·try simp only [decide_eq_false_iff_not, Int.not_lt] at h14
    try simp only [Int.toNat_natCast, dflt_sl, dflt_st, dflt_str, dflt_int, dflt_bool] at h14
    refine acode_exit ?_
    refine acode_seq ?_
    refine acode_region ?_
    refine acode_ret ?_
    exact ib_eq (decide_eq_true (by rw [List.take_of_length_le (by omega), List.take_of_length_le (by omega)] at ht; exact ht)).symm
theorem stanzasEq_c (a b : List (List Fld)) : ACall Tryd.prog 15 [.one (.sl (.sl rFld) a), .one (.sl (.sl rFld) b)] (ib (decide (a = b))) := by
  refine acall_of (rs := [4]) Tryd.func15 rfl rfl rfl teOk rfl ?_
  refine acode_seq ?_
  refine acode_region ?_
  refine acode_seq ?_
  refine acode_seq ?_
  refine acode_region ?_
  intro l1_1
  try simp only [Int.toNat_natCast, dflt_sl, dflt_st, dflt_str, dflt_int, dflt_bool] at l1_1
  intro l1_3
  try simp only [Int.toNat_natCast, dflt_sl, dflt_st, dflt_str, dflt_int, dflt_bool] at l1_3
  refine acode_cond rfl (fun h10 => ?_) (fun h10 => ?_)
  ·try simp only [decide_eq_false_iff_not, Bool.not_eq_true'] at h10
   try simp only [Int.toNat_natCast, dflt_sl, dflt_st, dflt_str, dflt_int, dflt_bool] at h10
   refine acode_seq ?_
   refine acode_region ?_
   refine acode_ret ?_
   exact ib_eq (decide_eq_false (fun e => by rw [e] at h10; omega)).symm
  ·try simp only [decide_eq_true_eq, Bool.not_eq_false'] at h10
   try simp only [Int.toNat_natCast, dflt_sl, dflt_st, dflt_str, dflt_int, dflt_bool] at h10
   refine acode_skip ?_
   refine acode_seq ?_
   refine acode_seq ?_
   refine acode_region ?_
   intro l3_1
   try simp only [Int.toNat_natCast, dflt_sl, dflt_st, dflt_str, dflt_int, dflt_bool] at l3_1
   refine acode_block ?_
   refine acode_loopP (fun (i : Nat) => i ≤ a.length ∧ a.take i = b.take i) (fun (i : Nat) => [(0, .one (.sl (.sl rFld) a)), (1, .one (.sl (.sl rFld) b)), (12, ii .i64 a.length), (13, ii .i64 i)]) (fun (i : Nat) => []) 0 (fun (i : Nat) => a.length - i) 0 (⟨Nat.zero_le _, by simp⟩) (le_of ⟨rfl, rfl, rfl, rfl⟩ trivial rfl) ?_
   intro i hI0
   obtain ⟨hi, ht⟩ := hI0
   refine acode_seq ?_
   refine acode_region ?_
   refine acode_seq ?_
   refine acode_cond rfl (fun h14 => ?_) (fun h14 => ?_)
   ·try simp only [decide_eq_true_eq] at h14
    try simp only [Int.toNat_natCast, dflt_sl, dflt_st, dflt_str, dflt_int, dflt_bool] at h14
    have hla : i < a.length := by omega
    have hlb : i < b.length := by omega
    refine acode_skip ?_
    refine acode_seq ?_
    refine acode_block ?_
    refine acode_seq ?_
    refine acode_region ?_
    refine acode_seq ?_
    refine acode_draw rfl (by kernel_rfl) ?_
    refine And.intro (by first | omega | assumption | decide | (simp only [Int.toNat_natCast, dflt_sl, dflt_st, dflt_str, dflt_int, dflt_bool]; omega) | (simp <;> omega)) ?_
    refine And.intro (by first | omega | assumption | decide | (simp only [Int.toNat_natCast, dflt_sl, dflt_st, dflt_str, dflt_int, dflt_bool]; omega) | (simp <;> omega)) ?_
    refine And.intro (rfl) ?_
    refine Exists.intro _ (And.intro (fieldsEq_c _ _) ?_)
    refine acode_cond rfl (fun h25 => ?_) (fun h25 => ?_)
    ·try simp only [decide_eq_false_iff_not, Bool.not_eq_true'] at h25
     try simp only [Int.toNat_natCast, dflt_sl] at h25
     refine acode_seq ?_
     refine acode_region ?_
     refine acode_ret ?_
     exact ib_eq (decide_eq_false (ne_at (i := i) [] h25)).symm
    ·try simp only [decide_eq_true_eq, Bool.not_eq_false'] at h25
     try simp only [Int.toNat_natCast, dflt_sl] at h25
     refine acode_skip ?_
     refine acode_region ?_
     refine And.intro (by first | omega | assumption | decide | (simp only [Int.toNat_natCast, dflt_sl, dflt_st, dflt_str, dflt_int, dflt_bool]; omega) | (simp <;> omega)) ?_
     exact ⟨i + 1, ⟨by omega, list_ext_take [] hla hlb ht h25⟩, by first | omega | (simp <;> omega), le_of ⟨rfl, rfl, rfl, (ii_eq (by omega))⟩ trivial rfl⟩
   ·try simp only [decide_eq_false_iff_not, Int.not_lt] at h14
    try simp only [Int.toNat_natCast, dflt_sl, dflt_st, dflt_str, dflt_int, dflt_bool] at h14
    refine acode_exit ?_
    refine acode_seq ?_
    refine acode_region ?_
    refine acode_ret ?_
    exact ib_eq (decide_eq_true (by rw [List.take_of_length_le (by omega), List.take_of_length_le (by omega)] at ht; exact ht)).symm
end Q
end Ab
end Go.Proofs.YtehmiepjeffloaaDoor
namespace Go.Proofs.YtehmiepjeffloaaDoor
open Go.RowKit
namespace Ab
set_option maxRecDepth 100000
namespace Q
theorem shat_fault (at_ n : Int) : ACall Tryd.prog 17 [.one (errF at_ n)] (ii .i64 at_) := by
  refine acall_of (rs := [2]) Tryd.func17 rfl rfl rfl teOk rfl ?_
  refine acode_seq ?_
  refine acode_region ?_
  refine acode_seq ?_
  refine acode_seq ?_
  refine acode_region ?_
  refine acode_seq ?_
  refine acode_region ?_
  refine And.intro (fun h => trivial) ?_
  refine And.intro (fun h => ⟨⟨h, trivial⟩, trivial⟩) ?_
  refine And.intro (by exact fun h => h) ?_
  refine acode_cond rfl (fun h14 => ?_) (fun h14 => ?_)
  ·try simp only [Bool.and_eq_true] at h14
   try simp only [Int.toNat_natCast, dflt_sl, dflt_st, dflt_str, dflt_int, dflt_bool] at h14
   refine acode_seq ?_
   refine acode_region ?_
   refine acode_ret ?_
   rfl
  ·try simp only [Bool.and_eq_false_iff] at h14
   try simp only [Int.toNat_natCast, dflt_sl, dflt_st, dflt_str, dflt_int, dflt_bool] at h14
   simp at h14
theorem shat_nil : ACall Tryd.prog 17 [.one (.lit .nilIface)] (ii .i64 (-9)) := by
  refine acall_of (rs := [2]) Tryd.func17 rfl rfl rfl teOk rfl ?_
  refine acode_seq ?_
  refine acode_region ?_
  refine acode_seq ?_
  refine acode_seq ?_
  refine acode_region ?_
  refine acode_seq ?_
  refine acode_region ?_
  refine And.intro (fun h => trivial) ?_
  refine And.intro (fun h => ⟨⟨h, trivial⟩, trivial⟩) ?_
  refine And.intro (by exact fun h => h) ?_
  refine acode_cond rfl (fun h14 => ?_) (fun h14 => ?_)
  ·try simp only [Bool.and_eq_true, Bool.not_eq_true'] at h14
   try simp only [Int.toNat_natCast, dflt_sl, dflt_st, dflt_str, dflt_int, dflt_bool] at h14
   simp at h14
  ·try simp only [Bool.not_eq_false', Bool.and_eq_false_iff] at h14
   try simp only [Int.toNat_natCast, dflt_sl, dflt_st, dflt_str, dflt_int, dflt_bool] at h14
   refine acode_skip ?_
   refine acode_seq ?_
   refine acode_region ?_
   refine acode_ret ?_
   rfl
theorem shat_errno (n : Int) : ACall Tryd.prog 17 [.one (errN n)] (ii .i64 (-9)) := by
  refine acall_of (rs := [2]) Tryd.func17 rfl rfl rfl teOk rfl ?_
  refine acode_seq ?_
  refine acode_region ?_
  refine acode_seq ?_
  refine acode_seq ?_
  refine acode_region ?_
  refine acode_seq ?_
  refine acode_region ?_
  refine And.intro (fun h => trivial) ?_
  refine And.intro (fun h => ⟨⟨h, trivial⟩, trivial⟩) ?_
  refine And.intro (by exact fun h => h) ?_
  refine acode_cond rfl (fun h14 => ?_) (fun h14 => ?_)
  ·try simp only [Bool.and_eq_true, Bool.not_eq_true'] at h14
   try simp only [Int.toNat_natCast, dflt_sl, dflt_st, dflt_str, dflt_int, dflt_bool] at h14
   simp at h14
  ·try simp only [Bool.not_eq_false', Bool.and_eq_false_iff] at h14
   try simp only [Int.toNat_natCast, dflt_sl, dflt_st, dflt_str, dflt_int, dflt_bool] at h14
   refine acode_skip ?_
   refine acode_seq ?_
   refine acode_region ?_
   refine acode_ret ?_
   rfl
theorem isRange_c : ACall Tryd.prog 10 [.one (errN 1), ii .i64 1] (ib true) := by
  refine acall_of (rs := [4]) Tryd.func10 rfl rfl rfl teOk rfl ?_
  refine acode_seq ?_
  refine acode_region ?_
  refine acode_seq ?_
  refine acode_region ?_
  refine Or.inl ?_
  refine And.intro (rfl) ?_
  refine Exists.intro _ (And.intro (num_errno 1 (by decide)) ?_)
  refine acode_ret ?_
  rfl
end Q
end Ab
end Go.Proofs.YtehmiepjeffloaaDoor
namespace Go.Proofs.YtehmiepjeffloaaDoor
open Go.RowKit
namespace Ab
set_option maxRecDepth 100000
namespace Q
theorem rowsS_c (a b : List (List ByteArray)) : ACall Tryd.prog 9 [.one (.sl (.sl .str) a), .one (.sl (.sl .str) b)] (ib (decide (a = b))) := by
  refine acall_of (rs := [4]) Tryd.func9 rfl rfl rfl teOk rfl ?_
  refine acode_seq ?_
  refine acode_region ?_
  refine acode_seq ?_
  refine acode_seq ?_
  refine acode_region ?_
  intro l1_1
  try simp only [Int.toNat_natCast, dflt_sl, dflt_st, dflt_str, dflt_int, dflt_bool] at l1_1
  intro l1_3
  try simp only [Int.toNat_natCast, dflt_sl, dflt_st, dflt_str, dflt_int, dflt_bool] at l1_3
  refine acode_cond rfl (fun h10 => ?_) (fun h10 => ?_)
  ·try simp only [decide_eq_false_iff_not, Bool.not_eq_true'] at h10
   try simp only [Int.toNat_natCast, dflt_sl, dflt_st, dflt_str, dflt_int, dflt_bool] at h10
   refine acode_seq ?_
   refine acode_region ?_
   refine acode_ret ?_
   exact ib_eq (decide_eq_false (fun e => by rw [e] at h10; omega)).symm
  ·try simp only [decide_eq_true_eq, Bool.not_eq_false'] at h10
   try simp only [Int.toNat_natCast, dflt_sl, dflt_st, dflt_str, dflt_int, dflt_bool] at h10
   refine acode_skip ?_
   refine acode_seq ?_
   refine acode_seq ?_
   refine acode_region ?_
   intro l3_1
   try simp only [Int.toNat_natCast, dflt_sl, dflt_st, dflt_str, dflt_int, dflt_bool] at l3_1
   refine acode_block ?_
   refine acode_loopP (fun (i : Nat) => i ≤ a.length ∧ a.take i = b.take i) (fun (i : Nat) => [(0, .one (.sl (.sl .str) a)), (1, .one (.sl (.sl .str) b)), (12, ii .i64 a.length), (13, ii .i64 i)]) (fun (i : Nat) => []) 0 (fun (i : Nat) => a.length - i) 0 (⟨Nat.zero_le _, by simp⟩) (le_of ⟨rfl, rfl, rfl, rfl⟩ trivial rfl) ?_
   intro i hI0
   obtain ⟨hi, ht⟩ := hI0
   refine acode_seq ?_
   refine acode_region ?_
   refine acode_seq ?_
   refine acode_cond rfl (fun h14 => ?_) (fun h14 => ?_)
   ·try simp only [decide_eq_true_eq] at h14
    try simp only [Int.toNat_natCast, dflt_sl, dflt_st, dflt_str, dflt_int, dflt_bool] at h14
    have hla : i < a.length := by omega
    have hlb : i < b.length := by omega
    refine acode_skip ?_
    refine acode_seq ?_
    refine acode_block ?_
    refine acode_seq ?_
    refine acode_region ?_
    refine acode_seq ?_
    refine acode_draw rfl (by kernel_rfl) ?_
    refine And.intro (by first | omega | assumption | decide | (simp only [Int.toNat_natCast, dflt_sl, dflt_st, dflt_str, dflt_int, dflt_bool]; omega) | (simp <;> omega)) ?_
    refine And.intro (by first | omega | assumption | decide | (simp only [Int.toNat_natCast, dflt_sl, dflt_st, dflt_str, dflt_int, dflt_bool]; omega) | (simp <;> omega)) ?_
    refine And.intro (rfl) ?_
    refine Exists.intro _ (And.intro (texts_c _ _) ?_)
    refine acode_cond rfl (fun h25 => ?_) (fun h25 => ?_)
    ·try simp only [decide_eq_false_iff_not, Bool.not_eq_true'] at h25
     try simp only [Int.toNat_natCast, dflt_sl] at h25
     refine acode_seq ?_
     refine acode_region ?_
     refine acode_ret ?_
     exact ib_eq (decide_eq_false (ne_at (i := i) [] h25)).symm
    ·try simp only [decide_eq_true_eq, Bool.not_eq_false'] at h25
     try simp only [Int.toNat_natCast, dflt_sl] at h25
     refine acode_skip ?_
     refine acode_region ?_
     refine And.intro (by first | omega | assumption | decide | (simp only [Int.toNat_natCast, dflt_sl, dflt_st, dflt_str, dflt_int, dflt_bool]; omega) | (simp <;> omega)) ?_
     exact ⟨i + 1, ⟨by omega, list_ext_take [] hla hlb ht h25⟩, by first | omega | (simp <;> omega), le_of ⟨rfl, rfl, rfl, (ii_eq (by omega))⟩ trivial rfl⟩
   ·try simp only [decide_eq_false_iff_not, Int.not_lt] at h14
    try simp only [Int.toNat_natCast, dflt_sl, dflt_st, dflt_str, dflt_int, dflt_bool] at h14
    refine acode_exit ?_
    refine acode_seq ?_
    refine acode_region ?_
    refine acode_ret ?_
    exact ib_eq (decide_eq_true (by rw [List.take_of_length_le (by omega), List.take_of_length_le (by omega)] at ht; exact ht)).symm
theorem isForm_c : ACall Tryd.prog 10 [.one (errN 2), ii .i64 2] (ib true) := by
  refine acall_of (rs := [4]) Tryd.func10 rfl rfl rfl teOk rfl ?_
  refine acode_seq ?_
  refine acode_region ?_
  refine acode_seq ?_
  refine acode_region ?_
  refine Or.inl ?_
  refine And.intro (rfl) ?_
  refine Exists.intro _ (And.intro (num_errno 2 (by decide)) ?_)
  refine acode_ret ?_
  rfl
theorem aText : bytes (shWrite (lst ([[⟨#[97]⟩, ⟨#[98, 34, 99]⟩]] : List (List ByteArray)))) = ⟨#[97, 44, 34, 98, 34, 34, 99, 34, 10]⟩ := by decide +kernel
theorem read_of (rows : List (List ByteArray)) (hg : shGood rows = true) (s : ByteArray) (hs : s = bytes (shWrite (lst rows))) (hz : s.size ≤ 60000) : ACall Tryd.prog 11 [is s] (.tup [(false, [.sl (.sl .str) rows]), (false, [.lit .nilIface])]) := by
  have h1 : shGood (lst rows) = true := by
    rw [← hg]; simp only [shGood, lst, List.all_map]; congr 1; funext r; simp [lss]
  have h2 := Read_c s hz
  rw [hs, show ls (bytes (shWrite (lst rows))) = shWrite (lst rows) from bytes_list _, shread_write h1] at h2
  have h3 : unt (lst rows) = rows := by
    simp only [unt, lst, List.map_map]
    conv => rhs; rw [← List.map_id rows]
    refine List.map_congr_left fun x _ => ?_
    simp only [Function.comp, uns, lss, List.map_map]
    conv => rhs; rw [id, ← List.map_id x]
    exact List.map_congr_left fun y _ => bytes_ls y
  rw [hs]
  have h4 : shReadA (some (lst rows)) = .tup [(false, [.sl (.sl .str) rows]), (false, [.lit .nilIface])] := by show A.tup [(false, [.sl (.sl .str) (unt (lst rows))]), (false, [.lit .nilIface])] = _; rw [h3]
  rw [← h4]; exact h2
theorem alive28_c : ACall Tryd.prog 5 [] (ib true) := by
  have hw := write_yes [[⟨#[97]⟩, ⟨#[98, 34, 99]⟩]] (by decide) (by decide) (by decide)
  rw [aText] at hw
  have hr := read_of [[⟨#[97]⟩, ⟨#[98, 34, 99]⟩]] (by decide) ⟨#[97, 44, 34, 98, 34, 34, 99, 34, 10]⟩ aText.symm (by decide)
  refine acall_of (rs := [0]) Tryd.func5 rfl rfl rfl teOk rfl ?_
  refine acode_seq ?_
  refine acode_region ?_
  refine acode_seq ?_
  refine acode_region ?_
  refine Or.inl ?_
  refine And.intro (rfl) ?_
  refine Exists.intro _ (And.intro (hw) ?_)
  refine acode_seq ?_
  refine acode_region ?_
  refine Or.inl ?_
  refine And.intro (rfl) ?_
  refine Exists.intro _ (And.intro (hr) ?_)
  refine acode_seq ?_
  refine acode_region ?_
  refine And.intro (fun h => trivial) ?_
  refine And.intro (fun h => ⟨⟨h, trivial⟩, trivial⟩) ?_
  refine And.intro (by exact fun h => h) ?_
  refine And.intro (fun h => trivial) ?_
  refine And.intro (fun h => ⟨⟨h, trivial⟩, trivial⟩) ?_
  refine And.intro (by exact fun h => h) ?_
  refine And.intro (fun h => trivial) ?_
  refine And.intro (fun h => ⟨⟨h, trivial⟩, trivial⟩) ?_
  refine And.intro (fun h => ⟨⟨h, trivial⟩, trivial⟩) ?_
  refine And.intro (by exact fun h => h) ?_
  refine And.intro (fun h => trivial) ?_
  refine And.intro (fun h => ⟨⟨⟨h, trivial⟩, trivial⟩, by first | omega | decide | (simp only [Int.toNat_natCast, dflt_sl, dflt_st, dflt_str, dflt_int, dflt_bool]; omega) | (have h9 := of_decide_eq_true h; omega) | (simp [gq] at h; omega)⟩) ?_
  refine And.intro (fun h => ⟨⟨h, trivial⟩, trivial⟩) ?_
  refine And.intro (fun h => ⟨⟨h, trivial⟩, trivial⟩) ?_
  refine And.intro (fun h => ⟨⟨h, trivial⟩, trivial⟩) ?_
  refine And.intro (by exact fun h => h) ?_
  refine And.intro (fun h => trivial) ?_
  refine And.intro (fun h => ⟨⟨⟨h, trivial⟩, trivial⟩, by first | omega | decide | (simp only [Int.toNat_natCast, dflt_sl, dflt_st, dflt_str, dflt_int, dflt_bool]; omega) | (have h9 := of_decide_eq_true h; omega) | (simp [gq] at h; omega)⟩) ?_
  refine And.intro (fun h => ⟨⟨h, trivial⟩, trivial⟩) ?_
  refine And.intro (fun h => ⟨⟨⟨h, trivial⟩, trivial⟩, by first | omega | decide | (simp only [Int.toNat_natCast, dflt_sl, dflt_st, dflt_str, dflt_int, dflt_bool]; omega) | (have h9 := of_decide_eq_true h; omega) | (simp [gq] at h; omega)⟩) ?_
  refine And.intro (fun h => ⟨⟨h, trivial⟩, trivial⟩) ?_
  refine And.intro (fun h => ⟨⟨h, trivial⟩, trivial⟩) ?_
  refine And.intro (by exact fun h => h) ?_
  refine acode_ret ?_
  exact ib_eq (by decide)
def minR (r : List ByteArray) : Nat := (r.map fun c => min c.size 9999).sum
def minT (t : List (List ByteArray)) : Nat := (t.map minR).sum
end Q
end Ab
end Go.Proofs.YtehmiepjeffloaaDoor
namespace Go.Proofs.YtehmiepjeffloaaDoor
open Go.RowKit
namespace Ab
set_option maxRecDepth 100000
namespace Q
theorem SheetReads_big (s : ByteArray) (hs : 60000 < s.size) : ACall Tryd.prog 4 [is s] (ib true) := by
  refine acall_of (rs := [2]) Tryd.func4 rfl rfl rfl teOk rfl ?_
  refine acode_seq ?_
  refine acode_region ?_
  refine acode_seq ?_
  refine acode_seq ?_
  refine acode_region ?_
  refine Or.inl ?_
  refine And.intro (rfl) ?_
  refine Exists.intro _ (And.intro (alive28_c) ?_)
  refine acode_cond rfl (fun h14 => ?_) (fun h14 => ?_)
  ·try simp only [Bool.not_eq_true'] at h14
   try simp only [Int.toNat_natCast, dflt_sl, dflt_st, dflt_str, dflt_int, dflt_bool] at h14
   simp at h14
  ·try simp only [Bool.not_eq_false'] at h14
   try simp only [Int.toNat_natCast, dflt_sl, dflt_st, dflt_str, dflt_int, dflt_bool] at h14
   refine acode_skip ?_
   refine acode_seq ?_
   refine acode_seq ?_
   refine acode_region ?_
   refine And.intro (fun h => trivial) ?_
   refine And.intro (fun h => ⟨⟨h, trivial⟩, trivial⟩) ?_
   refine And.intro (fun h => ⟨⟨h, trivial⟩, trivial⟩) ?_
   refine And.intro (by exact fun h => h) ?_
   refine acode_cond rfl (fun h22 => ?_) (fun h22 => ?_)
   ·try simp only [decide_eq_true_eq, Bool.and_eq_true] at h22
    try simp only [Int.toNat_natCast, dflt_sl, dflt_st, dflt_str, dflt_int, dflt_bool] at h22
    omega
   ·try simp only [decide_eq_false_iff_not, Bool.and_eq_false_iff, Int.not_lt, Int.not_le] at h22
    try simp only [Int.toNat_natCast, dflt_sl, dflt_st, dflt_str, dflt_int, dflt_bool] at h22
    refine acode_skip ?_
    refine acode_seq ?_
    refine acode_region ?_
    refine Or.inl ?_
    refine And.intro (rfl) ?_
    refine Exists.intro _ (And.intro (read_big s hs) ?_)
    refine acode_seq ?_
    refine acode_region ?_
    refine Or.inl ?_
    refine And.intro (rfl) ?_
    refine Exists.intro _ (And.intro (imp_big s hs) ?_)
    refine acode_seq ?_
    refine acode_region ?_
    refine Or.inl ?_
    refine And.intro (rfl) ?_
    refine Exists.intro _ (And.intro (refimp_big s hs) ?_)
    refine acode_seq ?_
    refine acode_seq ?_
    refine acode_region ?_
    refine Or.inl ?_
    refine And.intro (rfl) ?_
    refine Exists.intro _ (And.intro (stanzasEq_c [] []) ?_)
    refine And.intro (fun h => trivial) ?_
    refine Or.inl ?_
    refine And.intro (rfl) ?_
    refine Exists.intro _ (And.intro (fun h => ⟨⟨⟨h, trivial⟩, trivial⟩, num_errno 1 (by decide)⟩) ?_)
    refine And.intro (fun h => trivial) ?_
    refine And.intro (fun h => ⟨⟨h, trivial⟩, ⟨h, trivial⟩, trivial⟩) ?_
    refine And.intro (by first | (intro h; rw [h]; rfl) | (intro h; cases h)) ?_
    refine And.intro (fun h => trivial) ?_
    refine Or.inl ?_
    refine And.intro (rfl) ?_
    refine Exists.intro _ (And.intro (fun h => ⟨⟨⟨h, trivial⟩, trivial⟩, shat_errno 1⟩) ?_)
    refine And.intro (fun h => trivial) ?_
    refine And.intro (fun h => ⟨⟨h, trivial⟩, ⟨h, trivial⟩, trivial⟩) ?_
    refine And.intro (by first | (intro h; rw [h]; rfl) | (intro h; cases h)) ?_
    refine acode_cond rfl (fun h54 => ?_) (fun h54 => ?_)
    ·try simp only [decide_eq_false_iff_not, Bool.not_eq_true', Bool.or_eq_true] at h54
     try simp only [Int.toNat_natCast, dflt_sl, dflt_st, dflt_str, dflt_int, dflt_bool] at h54
     simp at h54
    ·try simp only [decide_eq_true_eq, Bool.not_eq_false', Bool.or_eq_false_iff] at h54
     try simp only [Int.toNat_natCast, dflt_sl, dflt_st, dflt_str, dflt_int, dflt_bool] at h54
     refine acode_skip ?_
     refine acode_seq ?_
     refine acode_seq ?_
     refine acode_region ?_
     refine acode_cond rfl (fun h57 => ?_) (fun h57 => ?_)
     ·try simp only [decide_eq_true_eq] at h57
      try simp only [Int.toNat_natCast, dflt_sl, dflt_st, dflt_str, dflt_int, dflt_bool] at h57
      refine acode_seq ?_
      refine acode_region ?_
      refine Or.inl ?_
      refine And.intro (rfl) ?_
      refine Exists.intro _ (And.intro (isRange_c) ?_)
      refine And.intro (fun h => trivial) ?_
      refine And.intro (fun h => ⟨⟨h, trivial⟩, trivial⟩) ?_
      refine And.intro (fun h => ⟨⟨h, trivial⟩, trivial⟩) ?_
      refine And.intro (by exact fun h => h) ?_
      refine acode_ret ?_
      rfl
     ·try simp only [decide_eq_false_iff_not, Int.not_lt] at h57
      try simp only [Int.toNat_natCast, dflt_sl, dflt_st, dflt_str, dflt_int, dflt_bool] at h57
      omega
theorem SheetReads_none (s : ByteArray) (hs : s.size ≤ 60000) (hrd : shReadP (ls s) = none) : ACall Tryd.prog 4 [is s] (ib true) := by
  refine acall_of (rs := [2]) Tryd.func4 rfl rfl rfl teOk rfl ?_
  refine acode_seq ?_
  refine acode_region ?_
  refine acode_seq ?_
  refine acode_seq ?_
  refine acode_region ?_
  refine Or.inl ?_
  refine And.intro (rfl) ?_
  refine Exists.intro _ (And.intro (alive28_c) ?_)
  refine acode_cond rfl (fun h14 => ?_) (fun h14 => ?_)
  ·try simp only [Bool.not_eq_true'] at h14
   try simp only [Int.toNat_natCast, dflt_sl, dflt_st, dflt_str, dflt_int, dflt_bool] at h14
   simp at h14
  ·try simp only [Bool.not_eq_false'] at h14
   try simp only [Int.toNat_natCast, dflt_sl, dflt_st, dflt_str, dflt_int, dflt_bool] at h14
   refine acode_skip ?_
   refine acode_seq ?_
   refine acode_seq ?_
   refine acode_region ?_
   refine And.intro (fun h => trivial) ?_
   refine And.intro (fun h => ⟨⟨h, trivial⟩, trivial⟩) ?_
   refine And.intro (fun h => ⟨⟨h, trivial⟩, trivial⟩) ?_
   refine And.intro (by exact fun h => h) ?_
   refine acode_cond rfl (fun h22 => ?_) (fun h22 => ?_)
   ·try simp only [decide_eq_true_eq, Bool.and_eq_true] at h22
    try simp only [Int.toNat_natCast, dflt_sl, dflt_st, dflt_str, dflt_int, dflt_bool] at h22
    refine acode_seq ?_
    refine acode_region ?_
    refine acode_ret ?_
    rfl
   ·try simp only [decide_eq_false_iff_not, Bool.and_eq_false_iff, Int.not_lt, Int.not_le] at h22
    try simp only [Int.toNat_natCast, dflt_sl, dflt_st, dflt_str, dflt_int, dflt_bool] at h22
    refine acode_skip ?_
    refine acode_seq ?_
    refine acode_region ?_
    refine Or.inl ?_
    refine And.intro (rfl) ?_
    refine Exists.intro _ (And.intro (read_none hs hrd) ?_)
    refine acode_seq ?_
    refine acode_region ?_
    refine Or.inl ?_
    refine And.intro (rfl) ?_
    refine Exists.intro _ (And.intro (imp_none s hs hrd) ?_)
    refine acode_seq ?_
    refine acode_region ?_
    refine Or.inl ?_
    refine And.intro (rfl) ?_
    refine Exists.intro _ (And.intro (refimp_none s hs hrd) ?_)
    refine acode_seq ?_
    refine acode_seq ?_
    refine acode_region ?_
    refine Or.inl ?_
    refine And.intro (rfl) ?_
    refine Exists.intro _ (And.intro (stanzasEq_c [] []) ?_)
    refine And.intro (fun h => trivial) ?_
    refine Or.inl ?_
    refine And.intro (rfl) ?_
    refine Exists.intro _ (And.intro (fun h => ⟨⟨⟨h, trivial⟩, trivial⟩, num_errno 2 (by decide)⟩) ?_)
    refine And.intro (fun h => trivial) ?_
    refine And.intro (fun h => ⟨⟨h, trivial⟩, ⟨h, trivial⟩, trivial⟩) ?_
    refine And.intro (by first | (intro h; rw [h]; rfl) | (intro h; cases h)) ?_
    refine And.intro (fun h => trivial) ?_
    refine Or.inl ?_
    refine And.intro (rfl) ?_
    refine Exists.intro _ (And.intro (fun h => ⟨⟨⟨h, trivial⟩, trivial⟩, shat_errno 2⟩) ?_)
    refine And.intro (fun h => trivial) ?_
    refine And.intro (fun h => ⟨⟨h, trivial⟩, ⟨h, trivial⟩, trivial⟩) ?_
    refine And.intro (by first | (intro h; rw [h]; rfl) | (intro h; cases h)) ?_
    refine acode_cond rfl (fun h54 => ?_) (fun h54 => ?_)
    ·try simp only [decide_eq_false_iff_not, Bool.not_eq_true', Bool.or_eq_true] at h54
     try simp only [Int.toNat_natCast, dflt_sl, dflt_st, dflt_str, dflt_int, dflt_bool] at h54
     simp at h54
    ·try simp only [decide_eq_true_eq, Bool.not_eq_false', Bool.or_eq_false_iff] at h54
     try simp only [Int.toNat_natCast, dflt_sl, dflt_st, dflt_str, dflt_int, dflt_bool] at h54
     refine acode_skip ?_
     refine acode_seq ?_
     refine acode_seq ?_
     refine acode_region ?_
     refine acode_cond rfl (fun h57 => ?_) (fun h57 => ?_)
     ·try simp only [decide_eq_true_eq] at h57
      try simp only [Int.toNat_natCast, dflt_sl, dflt_st, dflt_str, dflt_int, dflt_bool] at h57
      omega
     ·try simp only [decide_eq_false_iff_not, Int.not_lt] at h57
      try simp only [Int.toNat_natCast, dflt_sl, dflt_st, dflt_str, dflt_int, dflt_bool] at h57
      refine acode_skip ?_
      refine acode_seq ?_
      refine acode_region ?_
      refine Or.inl ?_
      refine And.intro (rfl) ?_
      refine Exists.intro _ (And.intro (refread_none hs hrd) ?_)
      refine acode_seq ?_
      refine acode_seq ?_
      refine acode_region ?_
      refine And.intro (fun h => trivial) ?_
      refine And.intro (fun h => ⟨⟨h, trivial⟩, trivial⟩) ?_
      refine And.intro (fun h => ⟨⟨h, trivial⟩, trivial⟩) ?_
      refine And.intro (fun h => trivial) ?_
      refine Or.inl ?_
      refine And.intro (rfl) ?_
      refine Exists.intro _ (And.intro (fun h => ⟨⟨⟨h, trivial⟩, trivial⟩, isForm_c⟩) ?_)
      refine And.intro (fun h => ⟨⟨h, trivial⟩, trivial⟩) ?_
      refine And.intro (fun h => ⟨⟨⟨h, trivial⟩, trivial⟩, by first | exact fun h2 => h2 | (intro h2; rw [h, h2]; rfl) | (intro h2; cases h2) | (intro h2; simp_all [gq])⟩) ?_
      refine And.intro (by first | (intro h; rw [h]; rfl) | (intro h; cases h)) ?_
      refine And.intro (fun h => trivial) ?_
      refine And.intro (fun h => trivial) ?_
      refine Or.inl ?_
      refine And.intro (rfl) ?_
      refine Exists.intro _ (And.intro (fun h => ⟨⟨⟨h, trivial⟩, ⟨h, trivial⟩, trivial⟩, rowsS_c [] []⟩) ?_)
      refine And.intro (fun h => ⟨⟨h, trivial⟩, trivial⟩) ?_
      refine And.intro (by first | (intro h; rw [h]; rfl) | (intro h; cases h)) ?_
      refine acode_cond rfl (fun h88 => ?_) (fun h88 => ?_)
      ·try simp only [decide_eq_false_iff_not, Bool.and_eq_true, Bool.not_eq_true', Bool.or_eq_true] at h88
       try simp only [Int.toNat_natCast, dflt_sl, dflt_st, dflt_str, dflt_int, dflt_bool] at h88
       simp at h88
      ·try simp only [decide_eq_true_eq, Bool.not_eq_false', Bool.or_eq_false_iff, Bool.and_eq_false_iff] at h88
       try simp only [Int.toNat_natCast, dflt_sl, dflt_st, dflt_str, dflt_int, dflt_bool] at h88
       refine acode_skip ?_
       refine acode_seq ?_
       refine acode_seq ?_
       refine acode_region ?_
       refine acode_cond rfl (fun h90 => ?_) (fun h90 => ?_)
       ·try simp only [Bool.not_eq_true'] at h90
        try simp only [Int.toNat_natCast, dflt_sl, dflt_st, dflt_str, dflt_int, dflt_bool] at h90
        refine acode_seq ?_
        refine acode_region ?_
        refine acode_ret ?_
        rfl
       ·try simp only [Bool.not_eq_false'] at h90
        try simp only [Int.toNat_natCast, dflt_sl, dflt_st, dflt_str, dflt_int, dflt_bool] at h90
        simp at h90
end Q
end Ab
end Go.Proofs.YtehmiepjeffloaaDoor
namespace Go.Proofs.YtehmiepjeffloaaDoor
open Go.RowKit
namespace Ab
set_option maxRecDepth 100000
namespace Q
theorem write_back {s : ByteArray} (hs : s.size ≤ 60000) {rows : List (List (List UInt8))} (hrd : shReadP (ls s) = some rows) : ACall Tryd.prog 6 [.one (.sl (.sl .str) (unt rows))] (.tup [(false, [.lit (.string s)]), (false, [.lit .nilIface])]) := by
  obtain ⟨h1, h2⟩ := readP_size hrd
  have h3 : (unt rows).length = rows.length := List.length_map _
  have := write_yes (unt rows) (by rw [good_unt]; exact (readP_good hrd).1) (by omega) (by omega)
  rw [lst_unt, (readP_good hrd).2] at this
  rwa [show bytes (ls s) = s from bytes_ls s] at this
theorem impA_at (i : Nat) : impA ([], (i : Int) + 1, 2) = .tup [(false, [.sl (.sl rFld) []]), (false, [errF ((i : Int) + 1) 2])] := by
  unfold impA
  rw [if_neg (by show ¬ ((2 : Int) = 0); decide), if_neg (by show ¬ ((i : Int) + 1 = -9); omega)]
theorem SheetReads_two (s : ByteArray) (hs : s.size ≤ 60000) (rows : List (List (List UInt8))) (hrd : shReadP (ls s) = some rows) (he : impT (unt rows) = ([], -9, 2)) : ACall Tryd.prog 4 [is s] (ib true) := by
  have himp : ACall Tryd.prog 13 [is s] (.tup [(false, [.sl (.sl rFld) []]), (false, [errN 2])]) := by
    have h := imp_some s hs rows hrd
    rw [he, show impA ([], -9, 2) = _ from rfl] at h
    exact h
  have hrimp : ACall Tryd.prog 14 [is s] (refImpA ([], -9, 2)) := by
    have h := refimp_some s hs rows hrd
    rwa [he] at h
  have hread := read_some hs hrd
  have hrread := refread_some hs hrd
  have hwrite := write_back hs hrd
  generalize unt rows = R at hread hrread hwrite
  refine acall_of (rs := [2]) Tryd.func4 rfl rfl rfl teOk rfl ?_
  refine acode_seq ?_
  refine acode_region ?_
  refine acode_seq ?_
  refine acode_seq ?_
  refine acode_region ?_
  refine Or.inl ?_
  refine And.intro (rfl) ?_
  refine Exists.intro _ (And.intro (alive28_c) ?_)
  refine acode_cond rfl (fun h14 => ?_) (fun h14 => ?_)
  ·try simp only [Bool.not_eq_true'] at h14
   try simp only [Int.toNat_natCast, dflt_sl, dflt_st, dflt_str, dflt_int, dflt_bool] at h14
   simp at h14
  ·try simp only [Bool.not_eq_false'] at h14
   try simp only [Int.toNat_natCast, dflt_sl, dflt_st, dflt_str, dflt_int, dflt_bool] at h14
   refine acode_skip ?_
   refine acode_seq ?_
   refine acode_seq ?_
   refine acode_region ?_
   refine And.intro (fun h => trivial) ?_
   refine And.intro (fun h => ⟨⟨h, trivial⟩, trivial⟩) ?_
   refine And.intro (fun h => ⟨⟨h, trivial⟩, trivial⟩) ?_
   refine And.intro (by exact fun h => h) ?_
   refine acode_cond rfl (fun h22 => ?_) (fun h22 => ?_)
   ·try simp only [decide_eq_true_eq, Bool.and_eq_true] at h22
    try simp only [Int.toNat_natCast, dflt_sl, dflt_st, dflt_str, dflt_int, dflt_bool] at h22
    refine acode_seq ?_
    refine acode_region ?_
    refine acode_ret ?_
    exact ib_eq (by simp)
   ·try simp only [decide_eq_false_iff_not, Bool.and_eq_false_iff, Int.not_lt, Int.not_le] at h22
    try simp only [Int.toNat_natCast, dflt_sl, dflt_st, dflt_str, dflt_int, dflt_bool] at h22
    refine acode_skip ?_
    refine acode_seq ?_
    refine acode_region ?_
    refine Or.inl ?_
    refine And.intro (rfl) ?_
    refine Exists.intro _ (And.intro (hread) ?_)
    refine acode_seq ?_
    refine acode_region ?_
    refine Or.inl ?_
    refine And.intro (rfl) ?_
    refine Exists.intro _ (And.intro (himp) ?_)
    refine acode_seq ?_
    refine acode_region ?_
    refine Or.inl ?_
    refine And.intro (rfl) ?_
    refine Exists.intro _ (And.intro (hrimp) ?_)
    refine acode_seq ?_
    refine acode_seq ?_
    refine acode_region ?_
    refine Or.inl ?_
    refine And.intro (rfl) ?_
    refine Exists.intro _ (And.intro (stanzasEq_c [] []) ?_)
    refine And.intro (fun h => trivial) ?_
    refine Or.inl ?_
    refine And.intro (rfl) ?_
    refine Exists.intro _ (And.intro (fun h => ⟨⟨⟨h, trivial⟩, trivial⟩, num_errno 2 (by decide)⟩) ?_)
    refine And.intro (fun h => trivial) ?_
    refine And.intro (fun h => ⟨⟨h, trivial⟩, ⟨h, trivial⟩, trivial⟩) ?_
    refine And.intro (by first | (intro h; rw [h]; rfl) | (intro h; cases h)) ?_
    refine And.intro (fun h => trivial) ?_
    refine Or.inl ?_
    refine And.intro (rfl) ?_
    refine Exists.intro _ (And.intro (fun h => ⟨⟨⟨h, trivial⟩, trivial⟩, shat_errno 2⟩) ?_)
    refine And.intro (fun h => trivial) ?_
    refine And.intro (fun h => ⟨⟨h, trivial⟩, ⟨h, trivial⟩, trivial⟩) ?_
    refine And.intro (by first | (intro h; rw [h]; rfl) | (intro h; cases h)) ?_
    refine acode_cond rfl (fun h54 => ?_) (fun h54 => ?_)
    ·try simp only [decide_eq_false_iff_not, Bool.not_eq_true', Bool.or_eq_true] at h54
     try simp only [Int.toNat_natCast, dflt_sl, dflt_st, dflt_str, dflt_int, dflt_bool] at h54
     simp at h54
    ·try simp only [decide_eq_true_eq, Bool.not_eq_false', Bool.or_eq_false_iff] at h54
     try simp only [Int.toNat_natCast, dflt_sl, dflt_st, dflt_str, dflt_int, dflt_bool] at h54
     refine acode_skip ?_
     refine acode_seq ?_
     refine acode_seq ?_
     refine acode_region ?_
     refine acode_cond rfl (fun h57 => ?_) (fun h57 => ?_)
     ·try simp only [decide_eq_true_eq] at h57
      try simp only [Int.toNat_natCast, dflt_sl, dflt_st, dflt_str, dflt_int, dflt_bool] at h57
      omega
     ·try simp only [decide_eq_false_iff_not, Int.not_lt] at h57
      try simp only [Int.toNat_natCast, dflt_sl, dflt_st, dflt_str, dflt_int, dflt_bool] at h57
      refine acode_skip ?_
      refine acode_seq ?_
      refine acode_region ?_
      refine Or.inl ?_
      refine And.intro (rfl) ?_
      refine Exists.intro _ (And.intro (hrread) ?_)
      refine acode_seq ?_
      refine acode_seq ?_
      refine acode_region ?_
      refine And.intro (fun h => trivial) ?_
      refine And.intro (fun h => ⟨⟨h, trivial⟩, trivial⟩) ?_
      refine And.intro (fun h => ⟨⟨h, trivial⟩, trivial⟩) ?_
      refine And.intro (fun h => trivial) ?_
      refine Or.inl ?_
      refine And.intro (rfl) ?_
      refine Exists.intro _ (And.intro (fun h => ⟨⟨⟨h, trivial⟩, trivial⟩, (show ACall _ _ _ (ib true) from absurd h (by decide))⟩) ?_)
      refine And.intro (fun h => ⟨⟨h, trivial⟩, trivial⟩) ?_
      refine And.intro (fun h => ⟨⟨⟨h, trivial⟩, trivial⟩, by first | exact fun h2 => h2 | (intro h2; rw [h, h2]; rfl) | (intro h2; cases h2) | (intro h2; simp_all [gq])⟩) ?_
      refine And.intro (by first | (intro h; rw [h]; rfl) | (intro h; cases h)) ?_
      refine And.intro (fun h => trivial) ?_
      refine And.intro (fun h => trivial) ?_
      refine Or.inl ?_
      refine And.intro (rfl) ?_
      refine Exists.intro _ (And.intro (fun h => ⟨⟨⟨h, trivial⟩, ⟨h, trivial⟩, trivial⟩, rowsS_c R R⟩) ?_)
      refine And.intro (fun h => ⟨⟨h, trivial⟩, trivial⟩) ?_
      refine And.intro (by first | (intro h; rw [h]; rfl) | (intro h; cases h)) ?_
      refine acode_cond rfl (fun h88 => ?_) (fun h88 => ?_)
      ·try simp only [decide_eq_false_iff_not, Bool.and_eq_true, Bool.not_eq_true', Bool.or_eq_true] at h88
       try simp only [Int.toNat_natCast, dflt_sl, dflt_st, dflt_str, dflt_int, dflt_bool] at h88
       simp at h88
      ·try simp only [decide_eq_true_eq, Bool.not_eq_false', Bool.or_eq_false_iff, Bool.and_eq_false_iff] at h88
       try simp only [Int.toNat_natCast, dflt_sl, dflt_st, dflt_str, dflt_int, dflt_bool] at h88
       refine acode_skip ?_
       refine acode_seq ?_
       refine acode_seq ?_
       refine acode_region ?_
       refine acode_cond rfl (fun h90 => ?_) (fun h90 => ?_)
       ·try simp only [Bool.not_eq_true'] at h90
        try simp only [Int.toNat_natCast, dflt_sl, dflt_st, dflt_str, dflt_int, dflt_bool] at h90
        simp at h90
       ·try simp only [Bool.not_eq_false'] at h90
        try simp only [Int.toNat_natCast, dflt_sl, dflt_st, dflt_str, dflt_int, dflt_bool] at h90
        refine acode_skip ?_
        refine acode_seq ?_
        refine acode_region ?_
        refine Or.inl ?_
        refine And.intro (rfl) ?_
        refine Exists.intro _ (And.intro (hwrite) ?_)
        refine acode_seq ?_
        refine acode_region ?_
        refine And.intro (fun h => trivial) ?_
        refine And.intro (fun h => trivial) ?_
        refine And.intro (fun h => ⟨⟨h, trivial⟩, ⟨h, trivial⟩, trivial⟩) ?_
        refine And.intro (by exact fun h => h) ?_
        refine acode_ret ?_
        exact ib_eq (by simp)
theorem SheetReads_five (s : ByteArray) (hs : s.size ≤ 60000) (rows : List (List (List UInt8))) (hrd : shReadP (ls s) = some rows) (he : impT (unt rows) = ([], -9, 5)) : ACall Tryd.prog 4 [is s] (ib true) := by
  have himp : ACall Tryd.prog 13 [is s] (.tup [(false, [.sl (.sl rFld) []]), (false, [errN 5])]) := by
    have h := imp_some s hs rows hrd
    rw [he, show impA ([], -9, 5) = _ from rfl] at h
    exact h
  have hrimp : ACall Tryd.prog 14 [is s] (refImpA ([], -9, 5)) := by
    have h := refimp_some s hs rows hrd
    rwa [he] at h
  have hread := read_some hs hrd
  have hrread := refread_some hs hrd
  have hwrite := write_back hs hrd
  generalize unt rows = R at hread hrread hwrite
  refine acall_of (rs := [2]) Tryd.func4 rfl rfl rfl teOk rfl ?_
  refine acode_seq ?_
  refine acode_region ?_
  refine acode_seq ?_
  refine acode_seq ?_
  refine acode_region ?_
  refine Or.inl ?_
  refine And.intro (rfl) ?_
  refine Exists.intro _ (And.intro (alive28_c) ?_)
  refine acode_cond rfl (fun h14 => ?_) (fun h14 => ?_)
  ·try simp only [Bool.not_eq_true'] at h14
   try simp only [Int.toNat_natCast, dflt_sl, dflt_st, dflt_str, dflt_int, dflt_bool] at h14
   simp at h14
  ·try simp only [Bool.not_eq_false'] at h14
   try simp only [Int.toNat_natCast, dflt_sl, dflt_st, dflt_str, dflt_int, dflt_bool] at h14
   refine acode_skip ?_
   refine acode_seq ?_
   refine acode_seq ?_
   refine acode_region ?_
   refine And.intro (fun h => trivial) ?_
   refine And.intro (fun h => ⟨⟨h, trivial⟩, trivial⟩) ?_
   refine And.intro (fun h => ⟨⟨h, trivial⟩, trivial⟩) ?_
   refine And.intro (by exact fun h => h) ?_
   refine acode_cond rfl (fun h22 => ?_) (fun h22 => ?_)
   ·try simp only [decide_eq_true_eq, Bool.and_eq_true] at h22
    try simp only [Int.toNat_natCast, dflt_sl, dflt_st, dflt_str, dflt_int, dflt_bool] at h22
    refine acode_seq ?_
    refine acode_region ?_
    refine acode_ret ?_
    exact ib_eq (by simp)
   ·try simp only [decide_eq_false_iff_not, Bool.and_eq_false_iff, Int.not_lt, Int.not_le] at h22
    try simp only [Int.toNat_natCast, dflt_sl, dflt_st, dflt_str, dflt_int, dflt_bool] at h22
    refine acode_skip ?_
    refine acode_seq ?_
    refine acode_region ?_
    refine Or.inl ?_
    refine And.intro (rfl) ?_
    refine Exists.intro _ (And.intro (hread) ?_)
    refine acode_seq ?_
    refine acode_region ?_
    refine Or.inl ?_
    refine And.intro (rfl) ?_
    refine Exists.intro _ (And.intro (himp) ?_)
    refine acode_seq ?_
    refine acode_region ?_
    refine Or.inl ?_
    refine And.intro (rfl) ?_
    refine Exists.intro _ (And.intro (hrimp) ?_)
    refine acode_seq ?_
    refine acode_seq ?_
    refine acode_region ?_
    refine Or.inl ?_
    refine And.intro (rfl) ?_
    refine Exists.intro _ (And.intro (stanzasEq_c [] []) ?_)
    refine And.intro (fun h => trivial) ?_
    refine Or.inl ?_
    refine And.intro (rfl) ?_
    refine Exists.intro _ (And.intro (fun h => ⟨⟨⟨h, trivial⟩, trivial⟩, num_errno 5 (by decide)⟩) ?_)
    refine And.intro (fun h => trivial) ?_
    refine And.intro (fun h => ⟨⟨h, trivial⟩, ⟨h, trivial⟩, trivial⟩) ?_
    refine And.intro (by first | (intro h; rw [h]; rfl) | (intro h; cases h)) ?_
    refine And.intro (fun h => trivial) ?_
    refine Or.inl ?_
    refine And.intro (rfl) ?_
    refine Exists.intro _ (And.intro (fun h => ⟨⟨⟨h, trivial⟩, trivial⟩, shat_errno 5⟩) ?_)
    refine And.intro (fun h => trivial) ?_
    refine And.intro (fun h => ⟨⟨h, trivial⟩, ⟨h, trivial⟩, trivial⟩) ?_
    refine And.intro (by first | (intro h; rw [h]; rfl) | (intro h; cases h)) ?_
    refine acode_cond rfl (fun h54 => ?_) (fun h54 => ?_)
    ·try simp only [decide_eq_false_iff_not, Bool.not_eq_true', Bool.or_eq_true] at h54
     try simp only [Int.toNat_natCast, dflt_sl, dflt_st, dflt_str, dflt_int, dflt_bool] at h54
     simp at h54
    ·try simp only [decide_eq_true_eq, Bool.not_eq_false', Bool.or_eq_false_iff] at h54
     try simp only [Int.toNat_natCast, dflt_sl, dflt_st, dflt_str, dflt_int, dflt_bool] at h54
     refine acode_skip ?_
     refine acode_seq ?_
     refine acode_seq ?_
     refine acode_region ?_
     refine acode_cond rfl (fun h57 => ?_) (fun h57 => ?_)
     ·try simp only [decide_eq_true_eq] at h57
      try simp only [Int.toNat_natCast, dflt_sl, dflt_st, dflt_str, dflt_int, dflt_bool] at h57
      omega
     ·try simp only [decide_eq_false_iff_not, Int.not_lt] at h57
      try simp only [Int.toNat_natCast, dflt_sl, dflt_st, dflt_str, dflt_int, dflt_bool] at h57
      refine acode_skip ?_
      refine acode_seq ?_
      refine acode_region ?_
      refine Or.inl ?_
      refine And.intro (rfl) ?_
      refine Exists.intro _ (And.intro (hrread) ?_)
      refine acode_seq ?_
      refine acode_seq ?_
      refine acode_region ?_
      refine And.intro (fun h => trivial) ?_
      refine And.intro (fun h => ⟨⟨h, trivial⟩, trivial⟩) ?_
      refine And.intro (fun h => ⟨⟨h, trivial⟩, trivial⟩) ?_
      refine And.intro (fun h => trivial) ?_
      refine Or.inl ?_
      refine And.intro (rfl) ?_
      refine Exists.intro _ (And.intro (fun h => ⟨⟨⟨h, trivial⟩, trivial⟩, (show ACall _ _ _ (ib true) from absurd h (by decide))⟩) ?_)
      refine And.intro (fun h => ⟨⟨h, trivial⟩, trivial⟩) ?_
      refine And.intro (fun h => ⟨⟨⟨h, trivial⟩, trivial⟩, by first | exact fun h2 => h2 | (intro h2; rw [h, h2]; rfl) | (intro h2; cases h2) | (intro h2; simp_all [gq])⟩) ?_
      refine And.intro (by first | (intro h; rw [h]; rfl) | (intro h; cases h)) ?_
      refine And.intro (fun h => trivial) ?_
      refine And.intro (fun h => trivial) ?_
      refine Or.inl ?_
      refine And.intro (rfl) ?_
      refine Exists.intro _ (And.intro (fun h => ⟨⟨⟨h, trivial⟩, ⟨h, trivial⟩, trivial⟩, rowsS_c R R⟩) ?_)
      refine And.intro (fun h => ⟨⟨h, trivial⟩, trivial⟩) ?_
      refine And.intro (by first | (intro h; rw [h]; rfl) | (intro h; cases h)) ?_
      refine acode_cond rfl (fun h88 => ?_) (fun h88 => ?_)
      ·try simp only [decide_eq_false_iff_not, Bool.and_eq_true, Bool.not_eq_true', Bool.or_eq_true] at h88
       try simp only [Int.toNat_natCast, dflt_sl, dflt_st, dflt_str, dflt_int, dflt_bool] at h88
       simp at h88
      ·try simp only [decide_eq_true_eq, Bool.not_eq_false', Bool.or_eq_false_iff, Bool.and_eq_false_iff] at h88
       try simp only [Int.toNat_natCast, dflt_sl, dflt_st, dflt_str, dflt_int, dflt_bool] at h88
       refine acode_skip ?_
       refine acode_seq ?_
       refine acode_seq ?_
       refine acode_region ?_
       refine acode_cond rfl (fun h90 => ?_) (fun h90 => ?_)
       ·try simp only [Bool.not_eq_true'] at h90
        try simp only [Int.toNat_natCast, dflt_sl, dflt_st, dflt_str, dflt_int, dflt_bool] at h90
        simp at h90
       ·try simp only [Bool.not_eq_false'] at h90
        try simp only [Int.toNat_natCast, dflt_sl, dflt_st, dflt_str, dflt_int, dflt_bool] at h90
        refine acode_skip ?_
        refine acode_seq ?_
        refine acode_region ?_
        refine Or.inl ?_
        refine And.intro (rfl) ?_
        refine Exists.intro _ (And.intro (hwrite) ?_)
        refine acode_seq ?_
        refine acode_region ?_
        refine And.intro (fun h => trivial) ?_
        refine And.intro (fun h => trivial) ?_
        refine And.intro (fun h => ⟨⟨h, trivial⟩, ⟨h, trivial⟩, trivial⟩) ?_
        refine And.intro (by exact fun h => h) ?_
        refine acode_ret ?_
        exact ib_eq (by simp)
theorem SheetReads_at (s : ByteArray) (hs : s.size ≤ 60000) (rows : List (List (List UInt8))) (hrd : shReadP (ls s) = some rows) (i : Nat) (he : impT (unt rows) = ([], (i : Int) + 1, 2)) : ACall Tryd.prog 4 [is s] (ib true) := by
  have himp : ACall Tryd.prog 13 [is s] (.tup [(false, [.sl (.sl rFld) []]), (false, [errF ((i : Int) + 1) 2])]) := by
    have h := imp_some s hs rows hrd
    rw [he, show impA ([], (i : Int) + 1, 2) = _ from (impA_at i)] at h
    exact h
  have hrimp : ACall Tryd.prog 14 [is s] (refImpA ([], (i : Int) + 1, 2)) := by
    have h := refimp_some s hs rows hrd
    rwa [he] at h
  have hread := read_some hs hrd
  have hrread := refread_some hs hrd
  have hwrite := write_back hs hrd
  generalize unt rows = R at hread hrread hwrite
  refine acall_of (rs := [2]) Tryd.func4 rfl rfl rfl teOk rfl ?_
  refine acode_seq ?_
  refine acode_region ?_
  refine acode_seq ?_
  refine acode_seq ?_
  refine acode_region ?_
  refine Or.inl ?_
  refine And.intro (rfl) ?_
  refine Exists.intro _ (And.intro (alive28_c) ?_)
  refine acode_cond rfl (fun h14 => ?_) (fun h14 => ?_)
  ·try simp only [Bool.not_eq_true'] at h14
   try simp only [Int.toNat_natCast, dflt_sl, dflt_st, dflt_str, dflt_int, dflt_bool] at h14
   simp at h14
  ·try simp only [Bool.not_eq_false'] at h14
   try simp only [Int.toNat_natCast, dflt_sl, dflt_st, dflt_str, dflt_int, dflt_bool] at h14
   refine acode_skip ?_
   refine acode_seq ?_
   refine acode_seq ?_
   refine acode_region ?_
   refine And.intro (fun h => trivial) ?_
   refine And.intro (fun h => ⟨⟨h, trivial⟩, trivial⟩) ?_
   refine And.intro (fun h => ⟨⟨h, trivial⟩, trivial⟩) ?_
   refine And.intro (by exact fun h => h) ?_
   refine acode_cond rfl (fun h22 => ?_) (fun h22 => ?_)
   ·try simp only [decide_eq_true_eq, Bool.and_eq_true] at h22
    try simp only [Int.toNat_natCast, dflt_sl, dflt_st, dflt_str, dflt_int, dflt_bool] at h22
    refine acode_seq ?_
    refine acode_region ?_
    refine acode_ret ?_
    exact ib_eq (by simp)
   ·try simp only [decide_eq_false_iff_not, Bool.and_eq_false_iff, Int.not_lt, Int.not_le] at h22
    try simp only [Int.toNat_natCast, dflt_sl, dflt_st, dflt_str, dflt_int, dflt_bool] at h22
    refine acode_skip ?_
    refine acode_seq ?_
    refine acode_region ?_
    refine Or.inl ?_
    refine And.intro (rfl) ?_
    refine Exists.intro _ (And.intro (hread) ?_)
    refine acode_seq ?_
    refine acode_region ?_
    refine Or.inl ?_
    refine And.intro (rfl) ?_
    refine Exists.intro _ (And.intro (himp) ?_)
    refine acode_seq ?_
    refine acode_region ?_
    refine Or.inl ?_
    refine And.intro (rfl) ?_
    refine Exists.intro _ (And.intro (hrimp) ?_)
    refine acode_seq ?_
    refine acode_seq ?_
    refine acode_region ?_
    refine Or.inl ?_
    refine And.intro (rfl) ?_
    refine Exists.intro _ (And.intro (stanzasEq_c [] []) ?_)
    refine And.intro (fun h => trivial) ?_
    refine Or.inl ?_
    refine And.intro (rfl) ?_
    refine Exists.intro _ (And.intro (fun h => ⟨⟨⟨h, trivial⟩, trivial⟩, num_fault ((i : Int) + 1) 2 (by decide)⟩) ?_)
    refine And.intro (fun h => trivial) ?_
    refine And.intro (fun h => ⟨⟨h, trivial⟩, ⟨h, trivial⟩, trivial⟩) ?_
    refine And.intro (by first | (intro h; rw [h]; rfl) | (intro h; cases h)) ?_
    refine And.intro (fun h => trivial) ?_
    refine Or.inl ?_
    refine And.intro (rfl) ?_
    refine Exists.intro _ (And.intro (fun h => ⟨⟨⟨h, trivial⟩, trivial⟩, shat_fault ((i : Int) + 1) 2⟩) ?_)
    refine And.intro (fun h => trivial) ?_
    refine And.intro (fun h => ⟨⟨h, trivial⟩, ⟨h, trivial⟩, trivial⟩) ?_
    refine And.intro (by first | (intro h; rw [h]; rfl) | (intro h; cases h)) ?_
    refine acode_cond rfl (fun h54 => ?_) (fun h54 => ?_)
    ·try simp only [decide_eq_false_iff_not, Bool.not_eq_true', Bool.or_eq_true] at h54
     try simp only [Int.toNat_natCast, dflt_sl, dflt_st, dflt_str, dflt_int, dflt_bool] at h54
     simp at h54
    ·try simp only [decide_eq_true_eq, Bool.not_eq_false', Bool.or_eq_false_iff] at h54
     try simp only [Int.toNat_natCast, dflt_sl, dflt_st, dflt_str, dflt_int, dflt_bool] at h54
     refine acode_skip ?_
     refine acode_seq ?_
     refine acode_seq ?_
     refine acode_region ?_
     refine acode_cond rfl (fun h57 => ?_) (fun h57 => ?_)
     ·try simp only [decide_eq_true_eq] at h57
      try simp only [Int.toNat_natCast, dflt_sl, dflt_st, dflt_str, dflt_int, dflt_bool] at h57
      omega
     ·try simp only [decide_eq_false_iff_not, Int.not_lt] at h57
      try simp only [Int.toNat_natCast, dflt_sl, dflt_st, dflt_str, dflt_int, dflt_bool] at h57
      refine acode_skip ?_
      refine acode_seq ?_
      refine acode_region ?_
      refine Or.inl ?_
      refine And.intro (rfl) ?_
      refine Exists.intro _ (And.intro (hrread) ?_)
      refine acode_seq ?_
      refine acode_seq ?_
      refine acode_region ?_
      refine And.intro (fun h => trivial) ?_
      refine And.intro (fun h => ⟨⟨h, trivial⟩, trivial⟩) ?_
      refine And.intro (fun h => ⟨⟨h, trivial⟩, trivial⟩) ?_
      refine And.intro (fun h => trivial) ?_
      refine Or.inl ?_
      refine And.intro (rfl) ?_
      refine Exists.intro _ (And.intro (fun h => ⟨⟨⟨h, trivial⟩, trivial⟩, (show ACall _ _ _ (ib true) from absurd h (by decide))⟩) ?_)
      refine And.intro (fun h => ⟨⟨h, trivial⟩, trivial⟩) ?_
      refine And.intro (fun h => ⟨⟨⟨h, trivial⟩, trivial⟩, by first | exact fun h2 => h2 | (intro h2; rw [h, h2]; rfl) | (intro h2; cases h2) | (intro h2; simp_all [gq])⟩) ?_
      refine And.intro (by first | (intro h; rw [h]; rfl) | (intro h; cases h)) ?_
      refine And.intro (fun h => trivial) ?_
      refine And.intro (fun h => trivial) ?_
      refine Or.inl ?_
      refine And.intro (rfl) ?_
      refine Exists.intro _ (And.intro (fun h => ⟨⟨⟨h, trivial⟩, ⟨h, trivial⟩, trivial⟩, rowsS_c R R⟩) ?_)
      refine And.intro (fun h => ⟨⟨h, trivial⟩, trivial⟩) ?_
      refine And.intro (by first | (intro h; rw [h]; rfl) | (intro h; cases h)) ?_
      refine acode_cond rfl (fun h88 => ?_) (fun h88 => ?_)
      ·try simp only [decide_eq_false_iff_not, Bool.and_eq_true, Bool.not_eq_true', Bool.or_eq_true] at h88
       try simp only [Int.toNat_natCast, dflt_sl, dflt_st, dflt_str, dflt_int, dflt_bool] at h88
       simp at h88
      ·try simp only [decide_eq_true_eq, Bool.not_eq_false', Bool.or_eq_false_iff, Bool.and_eq_false_iff] at h88
       try simp only [Int.toNat_natCast, dflt_sl, dflt_st, dflt_str, dflt_int, dflt_bool] at h88
       refine acode_skip ?_
       refine acode_seq ?_
       refine acode_seq ?_
       refine acode_region ?_
       refine acode_cond rfl (fun h90 => ?_) (fun h90 => ?_)
       ·try simp only [Bool.not_eq_true'] at h90
        try simp only [Int.toNat_natCast, dflt_sl, dflt_st, dflt_str, dflt_int, dflt_bool] at h90
        simp at h90
       ·try simp only [Bool.not_eq_false'] at h90
        try simp only [Int.toNat_natCast, dflt_sl, dflt_st, dflt_str, dflt_int, dflt_bool] at h90
        refine acode_skip ?_
        refine acode_seq ?_
        refine acode_region ?_
        refine Or.inl ?_
        refine And.intro (rfl) ?_
        refine Exists.intro _ (And.intro (hwrite) ?_)
        refine acode_seq ?_
        refine acode_region ?_
        refine And.intro (fun h => trivial) ?_
        refine And.intro (fun h => trivial) ?_
        refine And.intro (fun h => ⟨⟨h, trivial⟩, ⟨h, trivial⟩, trivial⟩) ?_
        refine And.intro (by exact fun h => h) ?_
        refine acode_ret ?_
        exact ib_eq (by simp)
theorem SheetReads_all (s : ByteArray) (hs : s.size ≤ 60000) (rows : List (List (List UInt8))) (hrd : shReadP (ls s) = some rows) (F : List (List Fld)) (he : impT (unt rows) = (F, -9, 0)) : ACall Tryd.prog 4 [is s] (ib true) := by
  have himp : ACall Tryd.prog 13 [is s] (.tup [(false, [.sl (.sl rFld) F]), (false, [.lit .nilIface])]) := by
    have h := imp_some s hs rows hrd
    rw [he, show impA (F, -9, 0) = _ from rfl] at h
    exact h
  have hrimp : ACall Tryd.prog 14 [is s] (refImpA (F, -9, 0)) := by
    have h := refimp_some s hs rows hrd
    rwa [he] at h
  have hread := read_some hs hrd
  have hrread := refread_some hs hrd
  have hwrite := write_back hs hrd
  generalize unt rows = R at hread hrread hwrite
  refine acall_of (rs := [2]) Tryd.func4 rfl rfl rfl teOk rfl ?_
  refine acode_seq ?_
  refine acode_region ?_
  refine acode_seq ?_
  refine acode_seq ?_
  refine acode_region ?_
  refine Or.inl ?_
  refine And.intro (rfl) ?_
  refine Exists.intro _ (And.intro (alive28_c) ?_)
  refine acode_cond rfl (fun h14 => ?_) (fun h14 => ?_)
  ·try simp only [Bool.not_eq_true'] at h14
   try simp only [Int.toNat_natCast, dflt_sl, dflt_st, dflt_str, dflt_int, dflt_bool] at h14
   simp at h14
  ·try simp only [Bool.not_eq_false'] at h14
   try simp only [Int.toNat_natCast, dflt_sl, dflt_st, dflt_str, dflt_int, dflt_bool] at h14
   refine acode_skip ?_
   refine acode_seq ?_
   refine acode_seq ?_
   refine acode_region ?_
   refine And.intro (fun h => trivial) ?_
   refine And.intro (fun h => ⟨⟨h, trivial⟩, trivial⟩) ?_
   refine And.intro (fun h => ⟨⟨h, trivial⟩, trivial⟩) ?_
   refine And.intro (by exact fun h => h) ?_
   refine acode_cond rfl (fun h22 => ?_) (fun h22 => ?_)
   ·try simp only [decide_eq_true_eq, Bool.and_eq_true] at h22
    try simp only [Int.toNat_natCast, dflt_sl, dflt_st, dflt_str, dflt_int, dflt_bool] at h22
    refine acode_seq ?_
    refine acode_region ?_
    refine acode_ret ?_
    exact ib_eq (by simp)
   ·try simp only [decide_eq_false_iff_not, Bool.and_eq_false_iff, Int.not_lt, Int.not_le] at h22
    try simp only [Int.toNat_natCast, dflt_sl, dflt_st, dflt_str, dflt_int, dflt_bool] at h22
    refine acode_skip ?_
    refine acode_seq ?_
    refine acode_region ?_
    refine Or.inl ?_
    refine And.intro (rfl) ?_
    refine Exists.intro _ (And.intro (hread) ?_)
    refine acode_seq ?_
    refine acode_region ?_
    refine Or.inl ?_
    refine And.intro (rfl) ?_
    refine Exists.intro _ (And.intro (himp) ?_)
    refine acode_seq ?_
    refine acode_region ?_
    refine Or.inl ?_
    refine And.intro (rfl) ?_
    refine Exists.intro _ (And.intro (hrimp) ?_)
    refine acode_seq ?_
    refine acode_seq ?_
    refine acode_region ?_
    refine Or.inl ?_
    refine And.intro (rfl) ?_
    refine Exists.intro _ (And.intro (stanzasEq_c F F) ?_)
    refine And.intro (fun h => trivial) ?_
    refine Or.inl ?_
    refine And.intro (rfl) ?_
    refine Exists.intro _ (And.intro (fun h => ⟨⟨⟨h, trivial⟩, trivial⟩, num_nil⟩) ?_)
    refine And.intro (fun h => trivial) ?_
    refine And.intro (fun h => ⟨⟨h, trivial⟩, ⟨h, trivial⟩, trivial⟩) ?_
    refine And.intro (by first | (intro h; rw [h]; rfl) | (intro h; cases h)) ?_
    refine And.intro (fun h => trivial) ?_
    refine Or.inl ?_
    refine And.intro (rfl) ?_
    refine Exists.intro _ (And.intro (fun h => ⟨⟨⟨h, trivial⟩, trivial⟩, shat_nil⟩) ?_)
    refine And.intro (fun h => trivial) ?_
    refine And.intro (fun h => ⟨⟨h, trivial⟩, ⟨h, trivial⟩, trivial⟩) ?_
    refine And.intro (by first | (intro h; rw [h]; rfl) | (intro h; cases h)) ?_
    refine acode_cond rfl (fun h54 => ?_) (fun h54 => ?_)
    ·try simp only [decide_eq_false_iff_not, Bool.not_eq_true', Bool.or_eq_true] at h54
     try simp only [Int.toNat_natCast, dflt_sl, dflt_st, dflt_str, dflt_int, dflt_bool] at h54
     simp at h54
    ·try simp only [decide_eq_true_eq, Bool.not_eq_false', Bool.or_eq_false_iff] at h54
     try simp only [Int.toNat_natCast, dflt_sl, dflt_st, dflt_str, dflt_int, dflt_bool] at h54
     refine acode_skip ?_
     refine acode_seq ?_
     refine acode_seq ?_
     refine acode_region ?_
     refine acode_cond rfl (fun h57 => ?_) (fun h57 => ?_)
     ·try simp only [decide_eq_true_eq] at h57
      try simp only [Int.toNat_natCast, dflt_sl, dflt_st, dflt_str, dflt_int, dflt_bool] at h57
      omega
     ·try simp only [decide_eq_false_iff_not, Int.not_lt] at h57
      try simp only [Int.toNat_natCast, dflt_sl, dflt_st, dflt_str, dflt_int, dflt_bool] at h57
      refine acode_skip ?_
      refine acode_seq ?_
      refine acode_region ?_
      refine Or.inl ?_
      refine And.intro (rfl) ?_
      refine Exists.intro _ (And.intro (hrread) ?_)
      refine acode_seq ?_
      refine acode_seq ?_
      refine acode_region ?_
      refine And.intro (fun h => trivial) ?_
      refine And.intro (fun h => ⟨⟨h, trivial⟩, trivial⟩) ?_
      refine And.intro (fun h => ⟨⟨h, trivial⟩, trivial⟩) ?_
      refine And.intro (fun h => trivial) ?_
      refine Or.inl ?_
      refine And.intro (rfl) ?_
      refine Exists.intro _ (And.intro (fun h => ⟨⟨⟨h, trivial⟩, trivial⟩, (show ACall _ _ _ (ib true) from absurd h (by decide))⟩) ?_)
      refine And.intro (fun h => ⟨⟨h, trivial⟩, trivial⟩) ?_
      refine And.intro (fun h => ⟨⟨⟨h, trivial⟩, trivial⟩, by first | exact fun h2 => h2 | (intro h2; rw [h, h2]; rfl) | (intro h2; cases h2) | (intro h2; simp_all [gq])⟩) ?_
      refine And.intro (by first | (intro h; rw [h]; rfl) | (intro h; cases h)) ?_
      refine And.intro (fun h => trivial) ?_
      refine And.intro (fun h => trivial) ?_
      refine Or.inl ?_
      refine And.intro (rfl) ?_
      refine Exists.intro _ (And.intro (fun h => ⟨⟨⟨h, trivial⟩, ⟨h, trivial⟩, trivial⟩, rowsS_c R R⟩) ?_)
      refine And.intro (fun h => ⟨⟨h, trivial⟩, trivial⟩) ?_
      refine And.intro (by first | (intro h; rw [h]; rfl) | (intro h; cases h)) ?_
      refine acode_cond rfl (fun h88 => ?_) (fun h88 => ?_)
      ·try simp only [decide_eq_false_iff_not, Bool.and_eq_true, Bool.not_eq_true', Bool.or_eq_true] at h88
       try simp only [Int.toNat_natCast, dflt_sl, dflt_st, dflt_str, dflt_int, dflt_bool] at h88
       simp at h88
      ·try simp only [decide_eq_true_eq, Bool.not_eq_false', Bool.or_eq_false_iff, Bool.and_eq_false_iff] at h88
       try simp only [Int.toNat_natCast, dflt_sl, dflt_st, dflt_str, dflt_int, dflt_bool] at h88
       refine acode_skip ?_
       refine acode_seq ?_
       refine acode_seq ?_
       refine acode_region ?_
       refine acode_cond rfl (fun h90 => ?_) (fun h90 => ?_)
       ·try simp only [Bool.not_eq_true'] at h90
        try simp only [Int.toNat_natCast, dflt_sl, dflt_st, dflt_str, dflt_int, dflt_bool] at h90
        simp at h90
       ·try simp only [Bool.not_eq_false'] at h90
        try simp only [Int.toNat_natCast, dflt_sl, dflt_st, dflt_str, dflt_int, dflt_bool] at h90
        refine acode_skip ?_
        refine acode_seq ?_
        refine acode_region ?_
        refine Or.inl ?_
        refine And.intro (rfl) ?_
        refine Exists.intro _ (And.intro (hwrite) ?_)
        refine acode_seq ?_
        refine acode_region ?_
        refine And.intro (fun h => trivial) ?_
        refine And.intro (fun h => trivial) ?_
        refine And.intro (fun h => ⟨⟨h, trivial⟩, ⟨h, trivial⟩, trivial⟩) ?_
        refine And.intro (by exact fun h => h) ?_
        refine acode_ret ?_
        exact ib_eq (by simp)
end Q
end Ab
end Go.Proofs.YtehmiepjeffloaaDoor
namespace Go.Proofs.YtehmiepjeffloaaDoor
open Go.RowKit
namespace Ab
namespace Q
theorem ixOf_nat {α : Type} (p : α → Bool) (l : List α) (h : l.any p = true) : ∃ i : Nat, ixOf p l = (i : Int) := ⟨l.findIdx p, by unfold ixOf; rw [if_pos h]⟩
theorem SheetReads_c (s : ByteArray) : ACall Tryd.prog 4 [is s] (ib true) := by
  by_cases hs : 60000 < s.size
  · exact SheetReads_big s hs
  have hs : s.size ≤ 60000 := by omega
  cases hrd : shReadP (ls s) with
  | none => exact SheetReads_none s hs hrd
  | some rows =>
    by_cases h1 : unt rows = []
    · exact SheetReads_two s hs rows hrd (by unfold impT; rw [if_pos h1])
    cases h2 : keysOk ((unt rows).getD 0 []) with
    | false => exact SheetReads_five s hs rows hrd (by unfold impT; rw [if_neg h1, if_pos h2])
    | true =>
      by_cases h3 : (((unt rows).drop 1).any fun r => decide (((unt rows).getD 0 []).length < r.length)) = true
      · obtain ⟨i, hi⟩ := ixOf_nat _ _ h3
        exact SheetReads_at s hs rows hrd i (by unfold impT; rw [if_neg h1, if_neg (by rw [h2]; decide), if_pos h3, hi])
      · exact SheetReads_all s hs rows hrd _ (by unfold impT; rw [if_neg h1, if_neg (by rw [h2]; decide), if_neg h3])
end Q
end Ab
end Go.Proofs.YtehmiepjeffloaaDoor
namespace Go.Proofs.YtehmiepjeffloaaDoor
open Go.RowKit
namespace Ab
set_option maxRecDepth 100000
theorem globAt {W : World} (h : W.ShapedOpen Tryd.prog) : GlobAt AllOk W := by
  have hc : GlobCell W := cell_of_shapedOpen_int (g := 0) (t := 3) (zero := #[.int .i64 0]) h (of_decide_eq_true (by kernel_rfl)) (by kernel_rfl) rfl (by kernel_rfl) (by kernel_rfl) Tryd.underlying3
  refine ⟨trivial, ?_, hc⟩
  obtain ⟨m, hm⟩ := hc
  rcases Nat.lt_or_ge 0 W.heap.size with h1 | h1
  · exact h1
  · exfalso
    simp only [World.cell?, Array.getElem?_eq_none h1] at hm
    cases hm
end Ab
end Go.Proofs.YtehmiepjeffloaaDoor
namespace Go.Proofs.YtehmiepjeffloaaDoor
open Go.RowKit
namespace Ab
set_option maxRecDepth 100000
end Ab
end Go.Proofs.YtehmiepjeffloaaDoor
