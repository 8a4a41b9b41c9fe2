/-
  The laws of selectors: what they compute.
-/
import Derived.Test.YthlfbpmbkcoclaaDoorQRefParse
namespace Go.Proofs.YthlfbpmbkcoclaaDoor
open Go.RowKit
namespace Ab
set_option maxRecDepth 100000
namespace Q
theorem num_form : ACall Tryd.prog 37 [.one errForm] (ii .i64 2) := by
  refine acall_of (rs := [2]) Tryd.func37 rfl rfl rfl teOk rfl ?_
  refine acode_seq ?_
  refine acode_region ?_
  refine acode_seq ?_
  refine acode_seq ?_
  refine acode_region ?_
  refine acode_block ?_
  refine acode_loopP (fun (i : Nat) => i = 0) (fun (i : Nat) => [(0, .one errForm), (7, ii .i64 i)]) (fun (i : Nat) => []) 0 (fun (i : Nat) => 0) 0 (rfl) (le_of ⟨rfl, rfl⟩ trivial rfl) ?_
  intro i hI0
  subst hI0
  refine acode_seq ?_
  refine acode_region ?_
  refine acode_seq ?_
  refine acode_cond rfl (fun h8 => ?_) (fun h8 => ?_)
  · try simp only [decide_eq_true_eq] at h8
    try simp only [Int.toNat_natCast, dflt_sl, dflt_st, dflt_str, dflt_int, dflt_bool] at h8
    refine acode_skip ?_
    refine acode_seq ?_
    refine acode_block ?_
    refine acode_seq ?_
    refine acode_seq ?_
    refine acode_region ?_
    refine acode_cond rfl (fun h10 => ?_) (fun h10 => ?_)
    · try simp only [decide_eq_true_eq, decide_eq_false_iff_not, Bool.and_eq_true, Bool.not_eq_true', Bool.not_eq_false', Bool.or_eq_false_iff, Bool.or_eq_true, Bool.and_eq_false_iff, Int.not_lt, Int.not_le] at h10
      try simp only [Int.toNat_natCast, dflt_sl, dflt_st, dflt_str, dflt_int, dflt_bool] at h10
      cases h10
    · skip
      refine acode_skip ?_
      refine acode_seq ?_
      refine acode_seq ?_
      refine acode_region ?_
      refine acode_seq ?_
      refine acode_region ?_
      refine And.intro (fun h => trivial) ?_
      refine And.intro (fun h => ⟨⟨h, trivial⟩, trivial⟩) ?_
      refine And.intro (by exact fun h => h) ?_
      refine acode_cond rfl (fun h20 => ?_) (fun h20 => ?_)
      · try simp only [decide_eq_false_iff_not, Bool.and_eq_true, Bool.not_eq_true'] at h20
        try simp only [Int.toNat_natCast, dflt_sl, dflt_st, dflt_str, dflt_int, dflt_bool] at h20
        refine acode_seq ?_
        refine acode_region ?_
        refine acode_ret ?_
        rfl
      · try simp only [decide_eq_true_eq, Bool.not_eq_false', Bool.and_eq_false_iff] at h20
        try simp only [Int.toNat_natCast, dflt_sl, dflt_st, dflt_str, dflt_int, dflt_bool] at h20
        exact absurd h20 (by decide)
  · try simp only [decide_eq_false_iff_not, Int.not_lt] at h8
    try simp only [Int.toNat_natCast, dflt_sl, dflt_st, dflt_str, dflt_int, dflt_bool] at h8
    exact absurd h8 (by decide)
theorem is_form : ACall Tryd.prog 22 [.one errForm, ii .i64 2] (ib true) := by
  refine acall_of (rs := [4]) Tryd.func22 rfl rfl rfl teOk rfl ?_
  refine acode_seq ?_
  refine acode_region ?_
  refine acode_seq ?_
  refine acode_region ?_
  refine Or.inl ?_
  refine And.intro (rfl) ?_
  refine Exists.intro _ (And.intro (num_form) ?_)
  refine acode_ret ?_
  rfl

def bsOf (l : List UInt8) : ByteArray := bytes l
def aliveS : List (List Term) := [[(false, ⟨#[65]⟩, 2, ⟨#[120]⟩), (true, ⟨#[66]⟩, 1, ⟨#[]⟩)], [(false, ⟨#[67]⟩, 4, ⟨#[121]⟩)]]
theorem alive_parse : parseL [65, 61, 120, 32, 33, 66, 63, 32, 124, 32, 67, 126, 121] = some aliveS := by decide +kernel
theorem alive_p : ACall Tryd.prog 23 [is ⟨#[65, 61, 120, 32, 33, 66, 63, 32, 124, 32, 67, 126, 121]⟩] (parseA (some aliveS)) := by
  rw [← alive_parse]; exact parse_c _ (by decide)
theorem alive_1 : selMatches aliveS [(⟨#[65]⟩, ⟨#[120]⟩)] = true := by decide +kernel
theorem alive_2 : selMatches aliveS [(⟨#[66]⟩, ⟨#[]⟩), (⟨#[65]⟩, ⟨#[120]⟩)] = false := by decide +kernel
theorem alive_3 : selMatches aliveS [(⟨#[66]⟩, ⟨#[]⟩), (⟨#[67]⟩, ⟨#[120, 121, 122]⟩)] = true := by decide +kernel
theorem acall_arg {P : Program} {f : FuncId} {xs ys : List A} {r : A} (h : ∀ ok ρ w vs, RepAs ok ρ w xs vs → RepAs ok ρ w ys vs) (hc : ACall P f ys r) : ACall P f xs r :=
  ⟨hc.1, fun ok w vs hg hv => hc.2 ok w vs hg (h _ _ _ _ hv)⟩
theorem selM_v (s : List (List Term)) (l : List Fld) (b : Bool) (hb : selMatches s l = b) (hl : FldsOk l) : ACall Tryd.prog 29 [.one (.sl (.sl rTerm) s), .one (.full rFld l)] (ib b) := by
  subst hb
  refine acall_arg (fun ok ρ w vs h => ?_) (selMatches_c s l hl)
  obtain ⟨v, r, rfl, h1, v2, r2, rfl, h2, h3⟩ := h
  exact ⟨v, _, rfl, h1, v2, r2, rfl, h2.1, h3⟩
theorem alive_c : ACall Tryd.prog 15 [] (ib true) := by
  refine acall_of (rs := [0]) Tryd.func15 rfl rfl rfl teOk rfl ?_
  refine acode_seq ?_
  refine acode_region ?_
  refine acode_seq ?_
  refine acode_region ?_
  refine Or.inl ?_
  refine And.intro (rfl) ?_
  refine Exists.intro _ (And.intro (alive_p) ?_)
  refine acode_seq ?_
  refine acode_region ?_
  refine And.intro (fun h => trivial) ?_
  refine And.intro (fun h => ⟨⟨h, trivial⟩, trivial⟩) ?_
  refine And.intro (fun h => ⟨⟨h, trivial⟩, trivial⟩) ?_
  refine And.intro (by exact fun h => h) ?_
  refine And.intro (fun h => trivial) ?_
  refine And.intro (fun h => trivial) ?_
  refine And.intro (fun h => ⟨⟨h, trivial⟩, trivial⟩) ?_
  refine And.intro (rfl) ?_
  refine Exists.intro _ (And.intro (fun h => ⟨⟨⟨h, trivial⟩, ⟨h, trivial⟩, trivial⟩, selM_v _ _ true alive_1 ⟨by decide, by decide⟩⟩) ?_)
  refine And.intro (by exact fun h => h) ?_
  refine And.intro (fun h => trivial) ?_
  refine And.intro (fun h => trivial) ?_
  refine And.intro (fun h => trivial) ?_
  refine And.intro (fun h => ⟨⟨h, trivial⟩, ⟨h, trivial⟩, trivial⟩) ?_
  refine And.intro (rfl) ?_
  refine Exists.intro _ (And.intro (fun h => ⟨⟨⟨h, trivial⟩, ⟨h, trivial⟩, trivial⟩, selM_v _ _ false alive_2 ⟨by decide, by decide⟩⟩) ?_)
  refine And.intro (fun h => ⟨⟨h, trivial⟩, trivial⟩) ?_
  refine And.intro (by exact fun h => h) ?_
  refine And.intro (fun h => trivial) ?_
  refine And.intro (fun h => trivial) ?_
  refine And.intro (fun h => trivial) ?_
  refine And.intro (fun h => ⟨⟨h, trivial⟩, ⟨h, trivial⟩, trivial⟩) ?_
  refine And.intro (rfl) ?_
  refine Exists.intro _ (And.intro (fun h => ⟨⟨⟨h, trivial⟩, ⟨h, trivial⟩, trivial⟩, selM_v _ _ true alive_3 ⟨by decide, by decide⟩⟩) ?_)
  refine And.intro (by exact fun h => h) ?_
  refine acode_ret ?_
  exact ib_eq rfl

theorem begins_occ (s w : ByteArray) (n : Nat) (h : n ≤ s.size) : begins s w n = Lib.occAt (ls s) (ls w) n := by
  unfold begins
  have h1 := size_list s
  have h2 := size_list w
  by_cases hr : n + w.size ≤ s.size
  · rw [decide_eq_true hr, Bool.true_and, Lib.occAt_iff_take _ _ _ (by unfold ls; omega)]
    rw [Bool.eq_iff_iff, decide_eq_true_iff, beq_iff_eq]
    have e : (s.extract n (n + w.size)).data.toList = ((ls s).drop n).take (ls w).length := by
      rw [extract_ls, Nat.add_sub_cancel_left, h2]
    rw [← e]
    refine ⟨fun h => by rw [h], fun h => ?_⟩
    have h5 := congrArg bytes h
    rw [show bytes (s.extract n (n + w.size)).data.toList = _ from bytes_ls _, bytes_ls] at h5
    exact h5
  · rw [decide_eq_false hr, Bool.false_and]
    refine (Bool.eq_false_iff.2 fun e => ?_).symm
    rcases Lib.occAt_room e with h3 | h3
    · unfold ls at h3; omega
    · unfold ls at h3; rw [h3] at h2; simp only [List.length_nil] at h2; omega
theorem contains_begins (s w : ByteArray) : Lib.contains (ls s) (ls w) = (List.range (s.size + 1)).any (begins s w) := by
  have h1 := size_list s
  unfold Lib.contains
  rw [Bool.eq_iff_iff, decide_eq_true_iff, List.any_eq_true]
  refine ⟨fun h => ?_, fun ⟨n, hn, h⟩ => ?_⟩
  · rcases Lib.index_spec (ls s) (ls w) with ⟨e, _⟩ | ⟨i, _, h2, h3, _⟩
    · omega
    · exact ⟨i, List.mem_range.2 (by unfold ls at h2; omega), by rw [begins_occ s w i (by unfold ls at h2; omega)]; exact h3⟩
  · have hn := List.mem_range.1 hn
    rw [begins_occ s w n (by omega)] at h
    rcases Lib.index_spec (ls s) (ls w) with ⟨_, h2⟩ | ⟨i, h2, _⟩
    · have := h2 n (by unfold ls; omega)
      rw [h] at this; cases this
    · omega
theorem ofB_okV (t : Term) (v : ByteArray) (h : bad t = false) : ofB t v = okV t v := by
  unfold bad at h
  simp only [Bool.or_eq_false_iff, decide_eq_false_iff_not] at h
  have hr : t.2.2.1 = 1 ∨ t.2.2.1 = 2 ∨ t.2.2.1 = 3 ∨ t.2.2.1 = 4 ∨ t.2.2.1 = 5 := by omega
  unfold ofB okV ok0
  rcases hr with h | h | h | h | h
  · simp [h]
  · simp [h]
  · have := begins_occ v t.2.2.2 0 (Nat.zero_le _)
    simp [h, this, Lib.occAt, Lib.hasPrefix]
  · have := contains_begins v t.2.2.2
    unfold ls at this
    simp [h, this]
  · simp [h]
theorem termM_eq (t : Term) (l : List Fld) : termMatches t l = refMatches t l := by
  unfold termMatches refMatches
  cases h : bad t
  · have : (fun f : Fld => decide (f.1 = t.2.1) && ofB t f.2) = okF t := by
      funext f; unfold okF; rw [ofB_okV t f.2 h]
    rw [this]
  · rfl
theorem selM_eq (s : List (List Term)) (l : List Fld) : selMatches s l = refAll s l := by
  unfold selMatches refAll
  congr 1
  funext r
  rw [List.all_eq_not_any_not]
  congr 2
  funext t
  rw [termM_eq]
theorem large_ok {s : List (List Term)} (h : largeB s = false) : SelOk s ∧ TxtsOk s := by
  unfold largeB at h
  simp only [Bool.or_eq_false_iff, decide_eq_false_iff_not] at h
  have hr : ∀ r ∈ s, bigR r = false := fun r hr => by simpa using List.any_eq_false.1 h.2 r hr
  have ht : ∀ r ∈ s, r.length ≤ 24 ∧ ∀ t ∈ r, t.2.1.size ≤ 100 ∧ t.2.2.2.size ≤ 500 := fun r hm => by
    have := hr r hm
    unfold bigR at this
    simp only [Bool.or_eq_false_iff, decide_eq_false_iff_not] at this
    refine ⟨by omega, fun t ht => ?_⟩
    have h2 : bigT t = false := by simpa using List.any_eq_false.1 this.2 t ht
    unfold bigT at h2
    simp only [Bool.or_eq_false_iff, decide_eq_false_iff_not] at h2
    omega
  refine ⟨⟨by omega, fun r hm => ⟨by have := (ht r hm).1; omega, fun t h => (ht r hm).2 t h⟩⟩, fun r hm t h => ?_⟩
  have := (ht r hm).2 t h
  exact ⟨by omega, by omega⟩
theorem sumF_mem {l : List Fld} {f : Fld} (h : f ∈ l) : min f.1.size 10000 + min f.2.size 10000 ≤ sumF l := by
  induction l with
  | nil => cases h
  | cons g l ih =>
    unfold sumF at *
    rw [List.map_cons, List.sum_cons]
    rcases List.mem_cons.1 h with rfl | h
    · omega
    · have := ih h; omega
theorem much_ok {l : List Fld} (h : muchB l = false) : FldsOk l := by
  unfold muchB at h
  simp only [Bool.or_eq_false_iff, decide_eq_false_iff_not] at h
  refine ⟨by omega, fun f hf => ?_⟩
  have := sumF_mem hf
  omega

theorem all_false {α : Type} {l : List α} {p : α → Bool} (h : ∀ x ∈ l, p x = true) : l.all p = true := List.all_eq_true.2 h
theorem QueryMatches_c (s : List (List Term)) (l : List Fld) : ACall Tryd.prog 5 [.one (.sl (.sl rTerm) s), .one (.sl rFld l)] (ib true) := by
  refine acall_of (rs := [4]) Tryd.func5 rfl rfl rfl teOk rfl ?_
  refine acode_seq ?_
  refine acode_region ?_
  refine acode_seq ?_
  refine acode_seq ?_
  refine acode_region ?_
  refine Or.inl ?_
  refine And.intro (rfl) ?_
  refine Exists.intro _ (And.intro (alive_c) ?_)
  refine acode_cond rfl (fun h11 => ?_) (fun h11 => ?_)
  · try simp only [Bool.not_eq_true'] at h11
    try simp only [Int.toNat_natCast, dflt_sl, dflt_st, dflt_str, dflt_int, dflt_bool] at h11
    cases h11
  · try simp only [Bool.not_eq_false'] at h11
    try simp only [Int.toNat_natCast, dflt_sl, dflt_st, dflt_str, dflt_int, dflt_bool] at h11
    refine acode_skip ?_
    refine acode_seq ?_
    refine acode_seq ?_
    refine acode_region ?_
    refine Or.inl ?_
    refine And.intro (rfl) ?_
    refine Exists.intro _ (And.intro (large_c s) ?_)
    refine And.intro (fun h => trivial) ?_
    refine And.intro (rfl) ?_
    refine Exists.intro _ (And.intro (fun h => ⟨⟨⟨h, trivial⟩, trivial⟩, much_c l⟩) ?_)
    refine And.intro (by first | (intro h; rw [h]; rfl) | (intro h; cases h)) ?_
    refine acode_cond rfl (fun h17 => ?_) (fun h17 => ?_)
    · try simp only [Bool.or_eq_true] at h17
      try simp only [Int.toNat_natCast, dflt_sl, dflt_st, dflt_str, dflt_int, dflt_bool] at h17
      refine acode_seq ?_
      refine acode_region ?_
      refine acode_ret ?_
      rfl
    · try simp only [Bool.or_eq_false_iff] at h17
      try simp only [Int.toNat_natCast, dflt_sl, dflt_st, dflt_str, dflt_int, dflt_bool] at h17
      obtain ⟨hs, hT⟩ := large_ok h17.1
      have hl := much_ok h17.2
      have hl2 : ∀ f ∈ l, f.2.size ≤ 1000000000 := fun f hf => Nat.le_trans (hl.2 f hf).2 (by decide)
      refine acode_skip ?_
      refine acode_seq ?_
      refine acode_region ?_
      refine Or.inl ?_
      refine And.intro (rfl) ?_
      refine Exists.intro _ (And.intro (program_c s hs) ?_)
      refine acode_seq ?_
      refine acode_seq ?_
      refine acode_region ?_
      intro l6_1
      try simp only [Int.toNat_natCast, dflt_sl, dflt_st, dflt_str, dflt_int, dflt_bool] at l6_1
      refine acode_block ?_
      refine acode_loopP (fun (i : Nat) => i ≤ s.length) (fun (i : Nat) => [(0, .one (.sl (.sl rTerm) s)), (1, .one (.sl rFld l)), (5, .one (.sl (.sl rTerm) s)), (20, .one (.sl (.sl rTerm) s)), (21, ii .i64 s.length), (22, ii .i64 i)]) (fun (i : Nat) => []) 0 (fun (i : Nat) => s.length - i) 0 (Nat.zero_le _) (le_of ⟨rfl, rfl, rfl, rfl, rfl, rfl⟩ trivial rfl) ?_
      intro i hI0
      have hi := hI0
      refine acode_seq ?_
      refine acode_region ?_
      refine acode_seq ?_
      refine acode_cond rfl (fun h23 => ?_) (fun h23 => ?_)
      · try simp only [decide_eq_true_eq] at h23
        try simp only [Int.toNat_natCast, dflt_sl, dflt_st, dflt_str, dflt_int, dflt_bool] at h23
        have hlt : i < s.length := by omega
        have hm := getD_mem hlt []
        refine acode_skip ?_
        refine acode_seq ?_
        refine acode_block ?_
        refine acode_seq ?_
        refine acode_region ?_
        refine And.intro (by first | omega | assumption | decide | (simp only [Int.toNat_natCast, dflt_sl, dflt_st, dflt_str, dflt_int, dflt_bool]; omega) | (simp; omega)) ?_
        refine acode_seq ?_
        refine acode_region ?_
        intro l9_1
        try simp only [Int.toNat_natCast, dflt_sl] at l9_1
        refine acode_block ?_
        refine acode_loopP (fun (k : Nat) => k ≤ (s.getD i []).length) (fun (k : Nat) => [(0, .one (.sl (.sl rTerm) s)), (1, .one (.sl rFld l)), (5, .one (.sl (.sl rTerm) s)), (20, .one (.sl (.sl rTerm) s)), (21, ii .i64 s.length), (22, ii .i64 i), (26, .one (.sl rTerm (s.getD i []))), (27, ii .i64 (s.getD i []).length), (28, ii .i64 k)]) (fun (k : Nat) => []) 0 (fun (k : Nat) => (s.getD i []).length - k) 0 (Nat.zero_le _) (le_of ⟨rfl, rfl, rfl, rfl, rfl, rfl, rfl, rfl, rfl⟩ trivial rfl) ?_
        intro k hI2
        have hk := hI2
        refine acode_seq ?_
        refine acode_region ?_
        refine acode_seq ?_
        refine acode_cond rfl (fun h29 => ?_) (fun h29 => ?_)
        · try simp only [decide_eq_true_eq] at h29
          try simp only [Int.toNat_natCast, dflt_sl, dflt_st, dflt_str, dflt_int, dflt_bool] at h29
          have hm2 := getD_mem (show k < (s.getD i []).length by omega) (false, ByteArray.empty, 0, ByteArray.empty)
          have ht := hT _ hm _ hm2
          refine acode_skip ?_
          refine acode_seq ?_
          refine acode_block ?_
          refine acode_seq ?_
          refine acode_region ?_
          refine And.intro (by first | omega | assumption | decide | (simp only [Int.toNat_natCast, dflt_sl, dflt_st, dflt_str, dflt_int, dflt_bool]; omega) | (simp; omega)) ?_
          refine acode_seq ?_
          refine acode_draw rfl (by kernel_rfl) ?_
          refine And.intro (rfl) ?_
          refine Exists.intro _ (And.intro (termMatches_c _ l hl) ?_)
          refine And.intro (rfl) ?_
          refine Exists.intro _ (And.intro (matches_c _ l hl2 (Nat.le_trans ht.2 (by decide))) ?_)
          refine acode_cond rfl (fun h38 => ?_) (fun h38 => ?_)
          · try simp only [Bool.not_eq_true'] at h38
            try simp only [Int.toNat_natCast, dflt_st, dflt_str, dflt_int, dflt_bool] at h38
            rw [termM_eq, beq_self_eq_true] at h38
            cases h38
          · try simp only [Bool.not_eq_false'] at h38
            try simp only [Int.toNat_natCast, dflt_st, dflt_str, dflt_int, dflt_bool] at h38
            refine acode_skip ?_
            refine acode_region ?_
            refine And.intro (by first | omega | assumption | decide | (simp only [Int.toNat_natCast, dflt_sl, dflt_st, dflt_str, dflt_int, dflt_bool]; omega) | (simp; omega)) ?_
            exact ⟨k + 1, by omega, by first | omega | (simp; omega), le_of ⟨rfl, rfl, rfl, rfl, rfl, rfl, rfl, rfl, rfl⟩ trivial rfl⟩
        · try simp only [decide_eq_false_iff_not, Int.not_lt] at h29
          try simp only [Int.toNat_natCast, dflt_sl, dflt_st, dflt_str, dflt_int, dflt_bool] at h29
          refine acode_exit ?_
          refine acode_region ?_
          refine And.intro (by first | omega | assumption | decide | (simp only [Int.toNat_natCast, dflt_sl, dflt_st, dflt_str, dflt_int, dflt_bool]; omega) | (simp; omega)) ?_
          exact ⟨i + 1, by omega, by first | omega | (simp; omega), le_of ⟨rfl, rfl, rfl, rfl, rfl, rfl⟩ trivial rfl⟩
      · try simp only [decide_eq_false_iff_not, Int.not_lt] at h23
        try simp only [Int.toNat_natCast, dflt_sl, dflt_st, dflt_str, dflt_int, dflt_bool] at h23
        refine acode_exit ?_
        refine acode_seq ?_
        refine acode_region ?_
        refine Or.inl ?_
        refine And.intro (rfl) ?_
        refine Exists.intro _ (And.intro (selMatches_c s l hl) ?_)
        refine Or.inl ?_
        refine And.intro (rfl) ?_
        refine Exists.intro _ (And.intro (all_c s l hs hl) ?_)
        refine acode_ret ?_
        exact ib_eq (by rw [selM_eq]; exact decide_eq_true rfl)
end Q
end Ab
end Go.Proofs.YthlfbpmbkcoclaaDoor
