/-
  The texts of this proof, joined: abstract values, the library, the functions of the program and what they compute (part 6). No condition.
-/
import Derived.Shelf.Vars
import Derived.KernelRfl
import Derived.Test.YtnimhpgacmojiaaGreatDoorK1
import Derived.Test.YtnimhpgacmojiaaGreatDoorK2
import Derived.Test.YtnimhpgacmojiaaGreatDoorK3
import Derived.Test.YtnimhpgacmojiaaGreatDoorK4
import Derived.Test.YtnimhpgacmojiaaGreatDoorK5
namespace Go.Proofs.YtnimhpgacmojiaaGreatDoor
open Go.RowKit
namespace Ab
set_option maxRecDepth 100000
namespace Q
open QQ in
theorem program9_c (s : List (List Term)) (hs : QQ.SelOk s) : ACall Tryz.prog 24 [.one (.sl (.sl rTerm) s)] (.one (.sl (.sl rTerm) s)) := by
  refine acall_of (rs := [2]) Tryz.func24 rfl rfl rfl teOk rfl ?_
  refine acode_seq ?_
  refine acode_region ?_
  refine acode_seq ?_
  refine acode_region ?_
  refine acode_seq ?_
  refine acode_seq ?_
  refine acode_region ?_
  intro l2_1
  try simp only [Int.toNat_natCast, dflt_sl, dflt_st, dflt_str, dflt_int, dflt_bool] at l2_1
  refine acode_block ?_
  refine acode_loopP (fun (i : Nat) => i ≤ s.length) (fun (i : Nat) => [(3, .one (.vec 0)), (10, .one (.sl (.sl rTerm) s)), (11, ii .i64 s.length), (12, ii .i64 i)]) (fun (i : Nat) => [(0, .vec 100 (.sl rTerm) (s.take i))]) 1 (fun (i : Nat) => s.length - i) 0 (Nat.zero_le _) (le_of ⟨rfl, rfl, rfl, rfl⟩ rfl rfl) ?_
  intro i hI0
  refine acode_seq ?_
  refine acode_region ?_
  refine acode_seq ?_
  refine acode_cond rfl (fun h13 => ?_) (fun h13 => ?_)
  ·try simp only [decide_eq_true_eq] at h13
   try simp only [Int.toNat_natCast, dflt_sl, dflt_st, dflt_str, dflt_int, dflt_bool] at h13
   have hr := hs.2 _ (getD_mem (show i < s.length by omega) [])
   have hs1 := hs.1
   refine acode_skip ?_
   refine acode_seq ?_
   refine acode_block ?_
   refine acode_seq ?_
   refine acode_region ?_
   refine And.intro (by first | omega | assumption | decide | (simp only [Int.toNat_natCast, dflt_sl, dflt_st, dflt_str, dflt_int, dflt_bool]; omega) | (simp <;> omega)) ?_
   refine acode_seq ?_
   refine acode_region ?_
   refine acode_seq ?_
   refine acode_seq ?_
   refine acode_region ?_
   intro l6_1
   try simp only [Int.toNat_natCast, dflt_sl] at l6_1
   refine acode_block ?_
   refine acode_loopP (fun (j : Nat) => j ≤ (s.getD i []).length) (fun (j : Nat) => [(3, .one (.vec 0)), (10, .one (.sl (.sl rTerm) s)), (11, ii .i64 s.length), (12, ii .i64 i), (6, .one (.vec 1)), (17, .one (.sl rTerm (s.getD i []))), (18, ii .i64 (s.getD i []).length), (19, ii .i64 j)]) (fun (j : Nat) => [(0, .vec 100 (.sl rTerm) (s.take i)), (1, .vec 102 rTerm ((s.getD i []).take j))]) 2 (fun (j : Nat) => (s.getD i []).length - j) 0 (Nat.zero_le _) (le_of ⟨rfl, rfl, rfl, rfl, rfl, rfl, rfl, rfl⟩ ⟨rfl, rfl⟩ rfl) ?_
   intro j hI2
   refine acode_seq ?_
   refine acode_region ?_
   refine acode_seq ?_
   refine acode_cond rfl (fun h20 => ?_) (fun h20 => ?_)
   ·try simp only [decide_eq_true_eq] at h20
    try simp only [Int.toNat_natCast, dflt_sl, dflt_st, dflt_str, dflt_int, dflt_bool] at h20
    refine acode_skip ?_
    refine acode_seq ?_
    refine acode_block ?_
    refine acode_seq ?_
    refine acode_region ?_
    refine And.intro (by first | omega | assumption | decide | (simp only [Int.toNat_natCast, dflt_sl, dflt_st, dflt_str, dflt_int, dflt_bool]; omega) | (simp <;> omega)) ?_
    refine acode_region ?_
    refine And.intro (by show (((s.getD i []).take j).length + 1) * 48 ≤ 140737488355328; rw [List.length_take]; omega) ?_
    refine acode_region ?_
    refine And.intro (by first | omega | assumption | decide | (simp only [Int.toNat_natCast, dflt_sl, dflt_st, dflt_str, dflt_int, dflt_bool]; omega) | (simp <;> omega)) ?_
    exact ⟨j + 1, by omega, by first | omega | (simp <;> omega), le_of ⟨rfl, rfl, rfl, rfl, rfl, rfl, rfl, rfl⟩ ⟨rfl, (vec_eq (take_snoc (false, ByteArray.empty, (0 : Int), ByteArray.empty) (by omega)))⟩ rfl⟩
   ·try simp only [decide_eq_false_iff_not, Int.not_lt] at h20
    try simp only [Int.toNat_natCast, dflt_sl, dflt_st, dflt_str, dflt_int, dflt_bool] at h20
    refine acode_exit ?_
    have e2 : j = (s.getD i []).length := by omega
    subst e2
    refine acode_region ?_
    refine And.intro (by show ((s.take i).length + 1) * 24 ≤ 140737488355328; rw [List.length_take]; omega) ?_
    refine acode_region ?_
    refine And.intro (by first | omega | assumption | decide | (simp only [Int.toNat_natCast, dflt_sl, dflt_st, dflt_str, dflt_int, dflt_bool]; omega) | (simp <;> omega)) ?_
    exact ⟨i + 1, by omega, by first | omega | (simp <;> omega), le_of ⟨rfl, rfl, rfl, rfl⟩ (vec_eq ((congrArg (s.take i ++ [·]) (List.take_length)).trans (take_snoc [] (by omega)))) rfl⟩
  ·try simp only [decide_eq_false_iff_not, Int.not_lt] at h13
   try simp only [Int.toNat_natCast, dflt_sl, dflt_st, dflt_str, dflt_int, dflt_bool] at h13
   refine acode_exit ?_
   refine acode_seq ?_
   refine acode_region ?_
   refine acode_ret ?_
   refine sl_eq ?_
   have e : i = s.length := by omega
   subst e
   exact List.take_length
def bigR9 (r : List Term) : Bool := decide (8 < r.length) || r.any QQ.bigT
def big9 (t : ByteArray) (s : List (List Term)) : Bool := decide (2000 < t.size) || (decide (8 < s.length) || s.any bigR9)
theorem large9_c (t : ByteArray) (s : List (List Term)) : ACall Tryz.prog 22 [is t, .one (.sl (.sl rTerm) s), .one (.lit (.slice none 0 0))] (ib (big9 t s)) := by
  refine acall_of (rs := [6]) Tryz.func22 rfl rfl rfl teOk rfl ?_
  refine acode_seq ?_
  refine acode_region ?_
  refine acode_seq ?_
  refine acode_seq ?_
  refine acode_region ?_
  refine And.intro (fun h => trivial) ?_
  refine And.intro (fun h => ⟨⟨h, trivial⟩, trivial⟩) ?_
  refine And.intro (fun h => ⟨⟨h, trivial⟩, trivial⟩) ?_
  refine And.intro (by first | (intro h; rw [h]; rfl) | (intro h; cases h)) ?_
  refine And.intro (fun h => trivial) ?_
  refine And.intro (fun h => ⟨⟨h, trivial⟩, trivial⟩) ?_
  refine And.intro (fun h => ⟨⟨h, trivial⟩, trivial⟩) ?_
  refine And.intro (by first | (intro h; rw [h]; rfl) | (intro h; cases h)) ?_
  refine acode_cond rfl (fun h25 => ?_) (fun h25 => ?_)
  ·try simp only [decide_eq_true_eq, Bool.or_eq_true] at h25
   try simp only [Int.toNat_natCast, dflt_sl, dflt_st, dflt_str, dflt_int, dflt_bool] at h25
   refine acode_seq ?_
   refine acode_region ?_
   refine acode_ret ?_
   refine ib_eq ?_
   unfold big9
   rcases h25 with (h | h) | h
   ·rw [decide_eq_true (show 2000 < t.size by omega)]; rfl
   ·rw [decide_eq_true (show 8 < s.length by omega)]; simp
   ·simp at h
  ·try simp only [decide_eq_false_iff_not, Bool.or_eq_false_iff, Int.not_lt] at h25
   try simp only [Int.toNat_natCast, dflt_sl, dflt_st, dflt_str, dflt_int, dflt_bool] at h25
   have ht2 : ¬ 2000 < t.size := (by omega)
   have hs8 : ¬ 8 < s.length := (by omega)
   refine acode_skip ?_
   refine acode_seq ?_
   refine acode_seq ?_
   refine acode_region ?_
   intro l3_1
   try simp only [Int.toNat_natCast, dflt_sl, dflt_st, dflt_str, dflt_int, dflt_bool] at l3_1
   refine acode_block ?_
   refine acode_loopP (fun (i : Nat) => i ≤ s.length ∧ (s.take i).any bigR9 = false) (fun (i : Nat) => [(2, .one (.lit (.slice none 0 0))), (26, .one (.sl (.sl rTerm) s)), (27, ii .i64 s.length), (28, ii .i64 i)]) (fun (i : Nat) => []) 0 (fun (i : Nat) => s.length - i) 0 (⟨Nat.zero_le _, rfl⟩) (le_of ⟨rfl, rfl, rfl, rfl⟩ trivial rfl) ?_
   intro i hI0
   obtain ⟨hi, hn⟩ := hI0
   refine acode_seq ?_
   refine acode_region ?_
   refine acode_seq ?_
   refine acode_cond rfl (fun h29 => ?_) (fun h29 => ?_)
   ·try simp only [decide_eq_true_eq] at h29
    try simp only [Int.toNat_natCast, dflt_sl, dflt_st, dflt_str, dflt_int, dflt_bool] at h29
    refine acode_skip ?_
    refine acode_seq ?_
    refine acode_block ?_
    refine acode_seq ?_
    refine acode_region ?_
    refine And.intro (by first | omega | assumption | decide | (simp only [Int.toNat_natCast, dflt_sl, dflt_st, dflt_str, dflt_int, dflt_bool]; omega) | (simp <;> omega)) ?_
    refine acode_seq ?_
    refine acode_seq ?_
    refine acode_region ?_
    intro l6_1
    try simp only [Int.toNat_natCast, dflt_sl] at l6_1
    refine acode_cond rfl (fun h34 => ?_) (fun h34 => ?_)
    ·try simp only [decide_eq_true_eq] at h34
     try simp only [Int.toNat_natCast, dflt_sl] at h34
     refine acode_seq ?_
     refine acode_region ?_
     refine acode_ret ?_
     refine ib_eq ?_
     unfold big9
     rw [any_at (p := bigR9) [] (show i < s.length by omega) (by unfold bigR9; rw [decide_eq_true (by omega)]; rfl), Bool.or_true, Bool.or_true]
    ·try simp only [decide_eq_false_iff_not, Int.not_lt] at h34
     try simp only [Int.toNat_natCast, dflt_sl] at h34
     refine acode_skip ?_
     refine acode_seq ?_
     refine acode_region ?_
     intro l8_1
     try simp only [Int.toNat_natCast, dflt_sl] at l8_1
     refine acode_block ?_
     refine acode_loopP (fun (j : Nat) => j ≤ (s.getD i []).length ∧ ((s.getD i []).take j).any QQ.bigT = false) (fun (j : Nat) => [(2, .one (.lit (.slice none 0 0))), (26, .one (.sl (.sl rTerm) s)), (27, ii .i64 s.length), (28, ii .i64 i), (35, .one (.sl rTerm (s.getD i []))), (36, ii .i64 (s.getD i []).length), (37, ii .i64 j)]) (fun (j : Nat) => []) 0 (fun (j : Nat) => (s.getD i []).length - j) 0 (⟨Nat.zero_le _, rfl⟩) (le_of ⟨rfl, rfl, rfl, rfl, rfl, rfl, rfl⟩ trivial rfl) ?_
     intro j hI2
     obtain ⟨hj, hm⟩ := hI2
     refine acode_seq ?_
     refine acode_region ?_
     refine acode_seq ?_
     refine acode_cond rfl (fun h38 => ?_) (fun h38 => ?_)
     ·try simp only [decide_eq_true_eq] at h38
      try simp only [Int.toNat_natCast, dflt_sl, dflt_st, dflt_str, dflt_int, dflt_bool] at h38
      refine acode_skip ?_
      refine acode_seq ?_
      refine acode_block ?_
      refine acode_seq ?_
      refine acode_region ?_
      refine And.intro (by first | omega | assumption | decide | (simp only [Int.toNat_natCast, dflt_sl, dflt_st, dflt_str, dflt_int, dflt_bool]; omega) | (simp <;> omega)) ?_
      refine acode_seq ?_
      refine acode_region ?_
      refine And.intro (fun h => trivial) ?_
      refine And.intro (fun h => ⟨⟨h, trivial⟩, trivial⟩) ?_
      refine And.intro (fun h => ⟨⟨h, trivial⟩, trivial⟩) ?_
      refine And.intro (fun h => ⟨⟨h, trivial⟩, trivial⟩) ?_
      refine And.intro (by first | (intro h; rw [h]; rfl) | (intro h; cases h)) ?_
      refine acode_cond rfl (fun h50 => ?_) (fun h50 => ?_)
      ·try simp only [decide_eq_true_eq, Bool.or_eq_true] at h50
       try simp only [Int.toNat_natCast, dflt_st, dflt_str, dflt_int, dflt_bool] at h50
       refine acode_seq ?_
       refine acode_region ?_
       refine acode_ret ?_
       refine ib_eq ?_
       unfold big9
       rw [any_at (p := bigR9) [] (show i < s.length by omega) (by unfold bigR9; rw [any_at (p := QQ.bigT) (false, ByteArray.empty, (0 : Int), ByteArray.empty) (show j < (s.getD i []).length by omega) (by unfold QQ.bigT; rcases h50 with h | h; (rw [decide_eq_true (by omega)]; rfl); (rw [decide_eq_true (show 500 < _ by omega), Bool.or_true])), Bool.or_true]), Bool.or_true, Bool.or_true]
      ·try simp only [decide_eq_false_iff_not, Bool.or_eq_false_iff, Int.not_lt] at h50
       try simp only [Int.toNat_natCast, dflt_st, dflt_str, dflt_int, dflt_bool] at h50
       have h50' : QQ.bigT ((s.getD i []).getD j (false, ByteArray.empty, (0 : Int), ByteArray.empty)) = false := by (unfold QQ.bigT; rw [decide_eq_false (by omega), decide_eq_false (by omega)]; rfl)
       refine acode_skip ?_
       refine acode_region ?_
       refine And.intro (by first | omega | assumption | decide | (simp only [Int.toNat_natCast, dflt_sl, dflt_st, dflt_str, dflt_int, dflt_bool]; omega) | (simp <;> omega)) ?_
       exact ⟨j + 1, ⟨by omega, by rw [take_any _ _ (false, ByteArray.empty, (0 : Int), ByteArray.empty) j (by omega), hm, h50']; rfl⟩, by first | omega | (simp <;> omega), le_of ⟨rfl, rfl, rfl, rfl, rfl, rfl, (ii_eq (by omega))⟩ trivial rfl⟩
     ·try simp only [decide_eq_false_iff_not, Int.not_lt] at h38
      try simp only [Int.toNat_natCast, dflt_sl, dflt_st, dflt_str, dflt_int, dflt_bool] at h38
      refine acode_exit ?_
      have e2 : j = (s.getD i []).length := by omega
      subst e2
      rw [List.take_length] at hm
      refine acode_region ?_
      refine And.intro (by first | omega | assumption | decide | (simp only [Int.toNat_natCast, dflt_sl, dflt_st, dflt_str, dflt_int, dflt_bool]; omega) | (simp <;> omega)) ?_
      exact ⟨i + 1, ⟨by omega, by rw [take_any _ _ [] i (by omega), hn, show bigR9 (s.getD i []) = false by (unfold bigR9; rw [hm, decide_eq_false (by omega)]; rfl)]; rfl⟩, by first | omega | (simp <;> omega), le_of ⟨rfl, rfl, rfl, (ii_eq (by omega))⟩ trivial rfl⟩
   ·try simp only [decide_eq_false_iff_not, Int.not_lt] at h29
    try simp only [Int.toNat_natCast, dflt_sl, dflt_st, dflt_str, dflt_int, dflt_bool] at h29
    refine acode_exit ?_
    refine acode_seq ?_
    refine acode_seq ?_
    refine acode_region ?_
    refine acode_block ?_
    refine acode_loopP (fun (q : Nat) => q = 0) (fun (q : Nat) => [(53, .one (.lit (.slice none 0 0))), (54, ii .i64 0), (55, ii .i64 0)]) (fun (q : Nat) => []) 0 (fun (q : Nat) => 0) 0 (rfl) (le_of ⟨rfl, rfl, rfl⟩ trivial rfl) ?_
    intro q hI4
    refine acode_seq ?_
    refine acode_region ?_
    refine acode_seq ?_
    refine acode_cond rfl (fun h56 => ?_) (fun h56 => ?_)
    ·try simp only [decide_eq_true_eq] at h56
     try simp only [Int.toNat_natCast, dflt_sl, dflt_st, dflt_str, dflt_int, dflt_bool] at h56
     simp at h56
    ·try simp only [decide_eq_false_iff_not, Int.not_lt] at h56
     try simp only [Int.toNat_natCast, dflt_sl, dflt_st, dflt_str, dflt_int, dflt_bool] at h56
     refine acode_exit ?_
     refine acode_seq ?_
     refine acode_region ?_
     refine acode_ret ?_
     refine ib_eq ?_
     have e : i = s.length := by omega
     subst e
     rw [List.take_length] at hn
     unfold big9
     rw [hn, decide_eq_false ht2, decide_eq_false hs8]
     rfl
theorem big9_ok {t : ByteArray} {s : List (List Term)} (h : big9 t s = false) : t.size ≤ 2000 ∧ QQ.SelOk s := by
  unfold big9 at h
  simp only [Bool.or_eq_false_iff, decide_eq_false_iff_not] at h
  refine ⟨by omega, by omega, fun r hr => ?_⟩
  have h1 := List.any_eq_false.1 h.2.2 r hr
  unfold bigR9 at h1
  simp only [Bool.or_eq_true, decide_eq_true_eq, not_or, Bool.not_eq_true] at h1
  refine ⟨by omega, fun x hx => ?_⟩
  have h2 := List.any_eq_false.1 h1.2 x hx
  unfold QQ.bigT at h2
  simp only [Bool.or_eq_true, decide_eq_true_eq] at h2
  show QQ.TermOk x
  unfold QQ.TermOk
  omega
def al9T : List Itm := [(3, ⟨#[65, 58, 32, 49, 10]⟩, [(⟨#[65]⟩, ⟨#[49]⟩)]), (1, ⟨#[10]⟩, []), (3, ⟨#[65, 58, 32, 50, 10]⟩, [(⟨#[65]⟩, ⟨#[50]⟩)]), (1, ⟨#[10]⟩, []), (3, ⟨#[65, 58, 32, 51, 10]⟩, [(⟨#[65]⟩, ⟨#[51]⟩)])]
theorem al9_parse : parseS ⟨#[65, 58, 32, 49, 10, 10, 65, 58, 32, 50, 10, 10, 65, 58, 32, 51, 10]⟩ = .inr al9T := by decide +kernel
def al9E : List Ent := numI 1 al9T
def al9S : List Stz := [(1, [(⟨#[65]⟩, ⟨#[49]⟩)]), (2, [(⟨#[65]⟩, ⟨#[50]⟩)]), (3, [(⟨#[65]⟩, ⟨#[51]⟩)])]
def al9D : List Ent := delE al9E 2
def al9R : List Stz := [(1, [(⟨#[65]⟩, ⟨#[49]⟩)]), (3, [(⟨#[65]⟩, ⟨#[51]⟩)])]
theorem al9_flds : ∀ e ∈ al9E, FldsOk e.1.2.2 := fun e he => fldsOk_of (num_small al9_parse e he).1 (num_small al9_parse e he).2
theorem al9_sf : ∀ x ∈ al9S, FldsOk x.2 := by
  intro x hx
  have := stz_flds al9_flds x
  rw [show stzL al9E = al9S from by decide +kernel] at this
  exact this hx
theorem al9_rf : ∀ x ∈ al9R, FldsOk x.2 := fun x hx => al9_sf x (by
  unfold al9R at hx
  unfold al9S
  simp only [List.mem_cons, List.not_mem_nil, or_false] at hx ⊢
  rcases hx with rfl | rfl <;> simp)
theorem alive9_c : ACall Tryz.prog 12 [] (ib true) := by
  have hof := of_ok _ (by decide) al9_parse
  rw [show ofT al9T = (al9E, 4, 3) from rfl] at hof
  have hnw := (new_o (k := 1) (κ := 1) [[]] al9E 4 3 (by decide) al9_flds (by decide) (by simp)).x
  rw [show fndS [[]] al9E = al9S from by decide +kernel] at hnw
  have hn1 := next_yes [[]] al9S 0 (by decide) (by decide) al9_sf
  have hdl := lDel_ok al9E 4 3 2 2 (by decide) (by decide +kernel) ⟨by decide, by decide⟩ (by decide)
  have hmv := (move_o (k := 1) [[]] al9S 1 (by decide) al9D 4 2 (by decide) (fun e he => al9_flds e (mem_del he)) (by decide)).x
  rw [show fndS [[]] al9D = al9R from by decide +kernel, show movP al9R (al9S.drop 1) = ((1 : Nat) : Int) from by decide +kernel] at hmv
  have hn2 := next_yes [[]] al9R 1 (by decide) (by decide) al9_rf
  refine acall_of (rs := [0]) Tryz.func12 rfl rfl rfl teOk rfl ?_
  refine acode_seq ?_
  refine acode_region ?_
  refine acode_seq ?_
  refine acode_region ?_
  refine Or.inr (Or.inl (Exists.intro [] (Exists.intro [] (Exists.intro _ (Exists.intro _ (Exists.intro _ (Exists.intro _ (Exists.intro _ (And.intro (hof) (And.intro rfl (And.intro True.intro (And.intro rfl ?_))))))))))))
  refine acode_seq ?_
  refine acode_seq ?_
  refine acode_region ?_
  refine And.intro (fun h => trivial) ?_
  refine And.intro (fun h => ⟨⟨h, trivial⟩, trivial⟩) ?_
  refine And.intro (by first | (intro h; rw [h]; rfl) | (intro h; cases h)) ?_
  refine acode_cond rfl (fun h15 => ?_) (fun h15 => ?_)
  ·try simp only [Bool.not_eq_true', Bool.or_eq_true] at h15
   try simp only [Int.toNat_natCast, dflt_sl, dflt_st, dflt_str, dflt_int, dflt_bool] at h15
   simp at h15
  ·try simp only [Bool.not_eq_false', Bool.or_eq_false_iff] at h15
   try simp only [Int.toNat_natCast, dflt_sl, dflt_st, dflt_str, dflt_int, dflt_bool] at h15
   refine acode_skip ?_
   refine acode_seq ?_
   refine acode_region ?_
   refine Or.inr (Or.inr (Or.inr (Exists.intro [] (Exists.intro [] (Exists.intro _ (Exists.intro _ (Exists.intro _ (Exists.intro _ (Exists.intro _ (And.intro (hnw) (And.intro rfl (And.intro True.intro (And.intro rfl ?_)))))))))))))
   refine acode_seq ?_
   refine acode_region ?_
   refine Or.inr (Or.inl (Exists.intro [] (Exists.intro [3] (Exists.intro _ (Exists.intro _ (Exists.intro _ (Exists.intro _ (Exists.intro _ (And.intro (hn1) (And.intro rfl (And.intro (And.intro (And.intro rfl rfl) True.intro) (And.intro rfl ?_))))))))))))
   refine acode_seq ?_
   refine acode_seq ?_
   refine acode_region ?_
   refine And.intro (fun h => trivial) ?_
   refine And.intro (fun h => ⟨⟨h, trivial⟩, trivial⟩) ?_
   refine And.intro (fun h => ⟨⟨h, trivial⟩, trivial⟩) ?_
   refine And.intro (by first | (intro h; rw [h]; rfl) | (intro h; cases h)) ?_
   refine And.intro (fun h => trivial) ?_
   refine Or.inr (And.intro (by first | rfl | decide | simp) (And.intro (by repeat' (first | exact True.intro | apply And.intro | rfl | decide | simp)) ?_))
   refine Or.inr (Or.inl (Exists.intro [] (Exists.intro [0, 1] (Exists.intro _ (Exists.intro _ (Exists.intro _ (Exists.intro _ (Exists.intro _ (And.intro (hdl) (And.intro rfl (And.intro (And.intro (And.intro rfl rfl) (And.intro (And.intro rfl rfl) True.intro)) (And.intro rfl ?_))))))))))))
   refine And.intro (fun h => trivial) ?_
   refine And.intro (by first | (intro h; rw [h]; rfl) | (intro h; cases h)) ?_
   refine acode_cond rfl (fun h35 => ?_) (fun h35 => ?_)
   ·try simp only [decide_eq_false_iff_not, Bool.not_eq_true', Bool.or_eq_true] at h35
    try simp only [Int.toNat_natCast, dflt_sl, dflt_st, dflt_str, dflt_int, dflt_bool] at h35
    first | (simp at h35; done) | (exact absurd h35 (by decide))
   ·try simp only [decide_eq_true_eq, Bool.not_eq_false', Bool.or_eq_false_iff] at h35
    try simp only [Int.toNat_natCast, dflt_sl, dflt_st, dflt_str, dflt_int, dflt_bool] at h35
    refine acode_skip ?_
    refine acode_seq ?_
    refine acode_region ?_
    refine Or.inr (Or.inr (Or.inr (Exists.intro [3] (Exists.intro [] (Exists.intro _ (Exists.intro _ (Exists.intro _ (Exists.intro _ (Exists.intro _ (And.intro (hmv) (And.intro rfl (And.intro (And.intro (And.intro rfl rfl) True.intro) (And.intro rfl ?_)))))))))))))
    refine acode_seq ?_
    refine acode_region ?_
    refine Or.inr (Or.inl (Exists.intro [] (Exists.intro [3] (Exists.intro _ (Exists.intro _ (Exists.intro _ (Exists.intro _ (Exists.intro _ (And.intro (hn2) (And.intro rfl (And.intro (And.intro (And.intro rfl rfl) True.intro) (And.intro rfl ?_))))))))))))
    refine acode_seq ?_
    refine acode_region ?_
    refine And.intro (fun h => trivial) ?_
    refine And.intro (fun h => ⟨⟨h, trivial⟩, trivial⟩) ?_
    refine And.intro (fun h => ⟨⟨h, trivial⟩, trivial⟩) ?_
    refine And.intro (by exact fun h => h) ?_
    refine And.intro (fun h => trivial) ?_
    refine Or.inl ?_
    refine And.intro (rfl) ?_
    refine Exists.intro _ (And.intro (fun h => ⟨⟨⟨h, trivial⟩, trivial⟩, curPlace_c [[]] al9R _⟩) ?_)
    refine And.intro (fun h => ⟨⟨h, trivial⟩, trivial⟩) ?_
    refine And.intro (by exact fun h => h) ?_
    refine And.intro (fun h => trivial) ?_
    refine Or.inl ?_
    refine And.intro (rfl) ?_
    refine Exists.intro _ (And.intro (fun h => ⟨⟨⟨h, trivial⟩, trivial⟩, curLen_c [[]] al9R _⟩) ?_)
    refine And.intro (fun h => ⟨⟨h, trivial⟩, trivial⟩) ?_
    refine And.intro (by exact fun h => h) ?_
    refine acode_ret ?_
    first | rfl | exact ib_eq (by decide)
theorem fnd_ids (s : List (List Term)) (es : List Ent) : idsL (QQ.selMatches s) (stzL es) = (fndS s es).map (·.1) := by
  unfold idsL fndS keepF missS
  congr 1
  refine List.filter_congr fun x _ => ?_
  rw [Bool.not_not]
theorem fnd_mem {s : List (List Term)} {es : List Ent} {x : Stz} (h : x ∈ fndS s es) : x ∈ stzL es := (List.mem_filter.1 h).1
theorem stz_get {c : Nat} {L : Lst} (h : LOk c L) {x : Stz} (hx : x ∈ stzL L.1) : ¬ atE L.1 x.1 < 0 ∧ getL L.1 x.1 = x.2 := by
  obtain ⟨e, he, rfl⟩ := List.mem_map.1 hx
  obtain ⟨hm, hlv⟩ := List.mem_filter.1 he
  have hp : 0 < e.2 := of_decide_eq_true hlv
  rcases at_cases L.1 e.2 with ⟨_, g⟩ | ⟨i, hi, hie, _, hid, _⟩
  · exact absurd rfl (g e hm hp)
  · have ee : L.1.getD i (((0 : Int), ByteArray.empty, ([] : List Fld)), (0 : Int)) = e := uniq_id h.nd (getD_mem hi (((0 : Int), ByteArray.empty, ([] : List Fld)), (0 : Int))) hm (by omega) hid
    refine ⟨by show ¬ atE L.1 e.2 < 0; omega, ?_⟩
    show getL L.1 e.2 = _
    unfold getL
    rw [hie, Int.toNat_natCast, ee]
    rfl
theorem crs_eq {s : List (List Term)} {ks : List Stz} {a b : Int} (h : a = b) : some (Ob.box 114 [.sl (.sl rTerm) s, .sl rStz ks, .lit (.int .i64 a)]) = some (Ob.box 114 [.sl (.sl rTerm) s, .sl rStz ks, .lit (.int .i64 b)]) := by rw [h]
theorem map_at {ks : List Stz} {i : Nat} (h : i < ks.length) : (ks.map (·.1)).getD i 0 = (ks.getD i ((0 : Int), ([] : List Fld))).1 := by
  have h1 : i < (ks.map (·.1)).length := by rw [List.length_map]; exact h
  rw [← getD_get h1, ← getD_get h ((0 : Int), ([] : List Fld))]
  exact List.getElem_map _
theorem CursorTells_c (t : ByteArray) (s : List (List Term)) : ACall Tryz.prog 4 [is t, .one (.sl (.sl rTerm) s)] (ib true) := by
  refine acall_of (rs := [4]) Tryz.func4 rfl rfl rfl teOk rfl ?_
  refine acode_seq ?_
  refine acode_region ?_
  refine acode_seq ?_
  refine acode_seq ?_
  refine acode_region ?_
  refine Or.inl ?_
  refine And.intro (rfl) ?_
  refine Exists.intro _ (And.intro (alive9_c) ?_)
  refine acode_cond rfl (fun h24 => ?_) (fun h24 => ?_)
  ·try simp only [Bool.not_eq_true'] at h24
   try simp only [Int.toNat_natCast, dflt_sl, dflt_st, dflt_str, dflt_int, dflt_bool] at h24
   simp at h24
  ·try simp only [Bool.not_eq_false'] at h24
   try simp only [Int.toNat_natCast, dflt_sl, dflt_st, dflt_str, dflt_int, dflt_bool] at h24
   refine acode_skip ?_
   refine acode_seq ?_
   refine acode_seq ?_
   refine acode_region ?_
   refine Or.inl ?_
   refine And.intro (rfl) ?_
   refine Exists.intro _ (And.intro (large9_c t s) ?_)
   refine acode_cond rfl (fun h27 => ?_) (fun h27 => ?_)
   ·try simp only [decide_eq_true_eq, decide_eq_false_iff_not, Bool.and_eq_true, Bool.not_eq_true', Bool.not_eq_false', Bool.or_eq_false_iff, Bool.or_eq_true, Bool.and_eq_false_iff, Int.not_lt, Int.not_le] at h27
    try simp only [Int.toNat_natCast, dflt_sl, dflt_st, dflt_str, dflt_int, dflt_bool] at h27
    refine acode_seq ?_
    refine acode_region ?_
    refine acode_ret ?_
    first | rfl | exact ib_eq (by simp [hml])
   ·try simp only [decide_eq_true_eq, decide_eq_false_iff_not, Bool.and_eq_true, Bool.not_eq_true', Bool.not_eq_false', Bool.or_eq_false_iff, Bool.or_eq_true, Bool.and_eq_false_iff, Int.not_lt, Int.not_le] at h27
    try simp only [Int.toNat_natCast, dflt_sl, dflt_st, dflt_str, dflt_int, dflt_bool] at h27
    obtain ⟨ht2, hso⟩ := big9_ok (by simpa using h27)
    have hs1 := hso.1
    refine acode_skip ?_
    refine acode_seq ?_
    rcases hra : parseS t with e | l
    ·refine acode_region ?_
     refine Or.inl ?_
     refine And.intro (rfl) ?_
     refine Exists.intro _ (And.intro (of_err t (by omega) (at_ := e.1) (n := e.2) hra) ?_)
     refine acode_seq ?_
     refine acode_seq ?_
     refine acode_region ?_
     refine acode_cond rfl (fun h34 => ?_) (fun h34 => ?_)
     ·skip
      refine acode_seq ?_
      refine acode_region ?_
      refine acode_ret ?_
      first | rfl | exact ib_eq (by simp [hml])
     ·try simp only [decide_eq_true_eq, decide_eq_false_iff_not, Bool.and_eq_true, Bool.not_eq_true', Bool.not_eq_false', Bool.or_eq_false_iff, Bool.or_eq_true, Bool.and_eq_false_iff, Int.not_lt, Int.not_le] at h34
      try simp only [Int.toNat_natCast, dflt_sl, dflt_st, dflt_str, dflt_int, dflt_bool] at h34
      simp at h34
    ·refine acode_region ?_
     refine Or.inr (Or.inl (Exists.intro [] (Exists.intro [] (Exists.intro _ (Exists.intro _ (Exists.intro _ (Exists.intro _ (Exists.intro _ (And.intro (of_ok t (by omega) hra) (And.intro rfl (And.intro True.intro (And.intro rfl ?_))))))))))))
     refine acode_seq ?_
     refine acode_seq ?_
     refine acode_region ?_
     refine acode_cond rfl (fun h34 => ?_) (fun h34 => ?_)
     ·try simp only [Bool.not_eq_true'] at h34
      try simp only [Int.toNat_natCast, dflt_sl, dflt_st, dflt_str, dflt_int, dflt_bool] at h34
      simp at h34
     ·try simp only [Bool.not_eq_false'] at h34
      try simp only [Int.toNat_natCast, dflt_sl, dflt_st, dflt_str, dflt_int, dflt_bool] at h34
      have hlk := of_lok (by omega) hra
      have hsm := num_small hra
      have hlf := hlk.flds
      have hll := hlk.len
      have hnw := (new_o (k := 1) (κ := 0) s (ofT l).1 (ofT l).2.1 (ofT l).2.2 (by omega) hlf (by omega) (fun r hr => Nat.le_trans (hso.2 r hr).1 (by decide))).x
      have hfd := find_c (k := 1) s (ofT l).1 (ofT l).2.1 (ofT l).2.2 (by omega) hsm
      have hfm : ∀ x ∈ fndS s (ofT l).1, x ∈ stzL (ofT l).1 := (fun x hx => fnd_mem hx)
      rw [fnd_ids] at hfd
      have hkl : (fndS s (ofT l).1).length ≤ 1000000 := (Nat.le_trans (List.length_filter_le _ _) (Nat.le_trans (stzL_le _) (by omega)))
      obtain ⟨ks, hks⟩ : ∃ ks, fndS s (ofT l).1 = ks := ⟨_, rfl⟩
      rw [hks] at hnw hfd hfm hkl
      have hkf : ∀ x ∈ ks, FldsOk x.2 := (fun x hx => stz_flds hlf x (hfm x hx))
      have hml : (ks.map (·.1)).length = ks.length := List.length_map _
      refine acode_skip ?_
      refine acode_seq ?_
      refine acode_region ?_
      refine Or.inl ?_
      refine And.intro (rfl) ?_
      refine Exists.intro _ (And.intro (program9_c s hso) ?_)
      refine acode_seq ?_
      refine acode_region ?_
      refine Or.inr (Or.inr (Or.inr (Exists.intro [] (Exists.intro [] (Exists.intro _ (Exists.intro _ (Exists.intro _ (Exists.intro _ (Exists.intro _ (And.intro (hnw) (And.intro rfl (And.intro True.intro (And.intro rfl ?_)))))))))))))
      refine acode_seq ?_
      refine acode_region ?_
      refine Or.inr (Or.inr (Or.inl ?_))
      refine And.intro rfl ?_
      refine Exists.intro _ (And.intro (hfd) ?_)
      refine acode_seq ?_
      refine acode_seq ?_
      refine acode_region ?_
      refine Or.inr (Or.inr (Or.inl ?_))
      refine And.intro rfl ?_
      refine Exists.intro _ (And.intro (curLen_c s ks _) ?_)
      intro l11_3
      try simp only [Int.toNat_natCast, dflt_sl, dflt_st, dflt_str, dflt_int, dflt_bool] at l11_3
      refine And.intro (fun h => trivial) ?_
      refine Or.inl ?_
      refine And.intro (rfl) ?_
      refine Exists.intro _ (And.intro (fun h => ⟨⟨⟨h, trivial⟩, trivial⟩, curPlace_c s ks _⟩) ?_)
      refine And.intro (fun h => ⟨⟨h, trivial⟩, trivial⟩) ?_
      refine And.intro (by first | (intro h; rw [h]; rfl) | (intro h; cases h)) ?_
      refine acode_cond rfl (fun h52 => ?_) (fun h52 => ?_)
      ·try simp only [decide_eq_false_iff_not, Bool.not_eq_true', Bool.or_eq_true] at h52
       try simp only [Int.toNat_natCast, dflt_sl, dflt_st, dflt_str, dflt_int, dflt_bool] at h52
       simp [hml] at h52
      ·try simp only [decide_eq_true_eq, Bool.not_eq_false', Bool.or_eq_false_iff] at h52
       try simp only [Int.toNat_natCast, dflt_sl, dflt_st, dflt_str, dflt_int, dflt_bool] at h52
       refine acode_skip ?_
       refine acode_seq ?_
       refine acode_seq ?_
       refine acode_region ?_
       intro l13_1
       try simp only [Int.toNat_natCast, dflt_sl, dflt_st, dflt_str, dflt_int, dflt_bool] at l13_1
       refine acode_block ?_
       refine acode_loopP (fun (i : Nat) => i ≤ ks.length) (fun (i : Nat) => [(5, .one (.own 0 0)), (8, .one (.own 2 0)), (9, .one (.sl (.int .i64) (ks.map (·.1)))), (53, .one (.sl (.int .i64) (ks.map (·.1)))), (54, ii .i64 (ks.map (·.1)).length), (55, ii .i64 i)]) (fun (i : Nat) => [(0, .box 125 [.vec 1, .lit (.int .i64 (ofT l).2.1), .lit (.int .i64 (ofT l).2.2)]), (1, .vec 127 rEnt (ofT l).1), (2, .box 114 [.sl (.sl rTerm) s, .sl rStz ks, .lit (.int .i64 i)])]) 3 (fun (i : Nat) => ks.length - i) 0 (Nat.zero_le _) (le_of ⟨rfl, rfl, rfl, rfl, rfl, rfl⟩ ⟨rfl, rfl, rfl⟩ rfl) ?_
       intro i hI0
       refine acode_seq ?_
       refine acode_region ?_
       refine acode_seq ?_
       refine acode_cond rfl (fun h56 => ?_) (fun h56 => ?_)
       ·try simp only [decide_eq_true_eq] at h56
        try simp only [Int.toNat_natCast, dflt_sl, dflt_st, dflt_str, dflt_int, dflt_bool] at h56
        have hil : i < ks.length := (by omega)
        have hid := map_at hil
        obtain ⟨hg1, hg2⟩ := stz_get hlk (hfm _ (getD_mem hil ((0 : Int), ([] : List Fld))))
        have hgt := get_c (k := 1) (ofT l).1 (ofT l).2.1 (ofT l).2.2 (ks.getD i ((0 : Int), ([] : List Fld))).1 hlk.f1
        rw [if_neg hg1, decide_eq_true (show 0 ≤ atE (ofT l).1 (ks.getD i ((0 : Int), ([] : List Fld))).1 by omega), hg2, ← hid] at hgt
        refine acode_skip ?_
        refine acode_seq ?_
        refine acode_block ?_
        refine acode_seq ?_
        refine acode_region ?_
        refine And.intro (by first | omega | assumption | decide | (simp only [Int.toNat_natCast, dflt_sl, dflt_st, dflt_str, dflt_int, dflt_bool]; omega) | (simp <;> omega)) ?_
        refine acode_seq ?_
        refine acode_region ?_
        refine Or.inr (Or.inl (Exists.intro [] (Exists.intro [2] (Exists.intro _ (Exists.intro _ (Exists.intro _ (Exists.intro _ (Exists.intro _ (And.intro (next_yes s ks i hil hkl hkf) (And.intro rfl (And.intro (And.intro (And.intro rfl rfl) True.intro) (And.intro rfl ?_))))))))))))
        refine acode_seq ?_
        refine acode_region ?_
        refine Or.inr (Or.inr (Or.inl ?_))
        refine And.intro rfl ?_
        refine Exists.intro _ (And.intro (hgt) ?_)
        refine acode_seq ?_
        refine acode_region ?_
        refine And.intro (fun h => trivial) ?_
        refine And.intro (fun h => ⟨⟨h, trivial⟩, trivial⟩) ?_
        refine And.intro (by first | (intro h; rw [h]; rfl) | (intro h; cases h)) ?_
        refine And.intro (fun h => trivial) ?_
        refine And.intro (fun h => ⟨⟨h, trivial⟩, trivial⟩) ?_
        refine And.intro (fun h => trivial) ?_
        refine And.intro (fun h => ⟨⟨h, trivial⟩, ⟨h, trivial⟩, trivial⟩) ?_
        refine And.intro (by first | (intro h; rw [h]; rfl) | (intro h; cases h)) ?_
        refine And.intro (fun h => trivial) ?_
        refine And.intro (fun h => ⟨⟨h, trivial⟩, trivial⟩) ?_
        refine And.intro (fun h => trivial) ?_
        refine Or.inl ?_
        refine And.intro (rfl) ?_
        refine Exists.intro _ (And.intro (fun h => ⟨⟨⟨h, trivial⟩, ⟨h, trivial⟩, trivial⟩, fields_c (ks.getD i ((0 : Int), ([] : List Fld))).2 (ks.getD i ((0 : Int), ([] : List Fld))).2⟩) ?_)
        refine And.intro (fun h => ⟨⟨h, trivial⟩, trivial⟩) ?_
        refine And.intro (by first | (intro h; rw [h]; rfl) | (intro h; cases h)) ?_
        refine And.intro (fun h => trivial) ?_
        refine Or.inl ?_
        refine And.intro (rfl) ?_
        refine Exists.intro _ (And.intro (fun h => ⟨⟨⟨h, trivial⟩, trivial⟩, curPlace_c s ks _⟩) ?_)
        refine And.intro (fun h => trivial) ?_
        refine And.intro (fun h => ⟨⟨⟨h, trivial⟩, trivial⟩, by first | omega | decide | (simp only [Int.toNat_natCast, dflt_sl, dflt_st, dflt_str, dflt_int, dflt_bool]; omega) | (have h9 := of_decide_eq_true h; omega) | (simp [gq] at h; omega)⟩) ?_
        refine And.intro (fun h => ⟨⟨h, trivial⟩, ⟨h, trivial⟩, trivial⟩) ?_
        refine And.intro (by first | (intro h; rw [h]; rfl) | (intro h; cases h)) ?_
        refine acode_cond rfl (fun h96 => ?_) (fun h96 => ?_)
        ·try simp only [decide_eq_false_iff_not, Bool.not_eq_true', Bool.or_eq_true] at h96
         try simp only [Int.toNat_natCast, dflt_int] at h96
         rw [hid] at h96
         simp at h96
        ·try simp only [decide_eq_true_eq, Bool.not_eq_false', Bool.or_eq_false_iff] at h96
         try simp only [Int.toNat_natCast, dflt_int] at h96
         refine acode_skip ?_
         refine acode_region ?_
         refine And.intro (by first | omega | assumption | decide | (simp only [Int.toNat_natCast, dflt_sl, dflt_st, dflt_str, dflt_int, dflt_bool]; omega) | (simp <;> omega)) ?_
         exact ⟨i + 1, by omega, by first | omega | (simp <;> omega), le_of ⟨rfl, rfl, rfl, rfl, rfl, (ii_eq (by omega))⟩ ⟨rfl, rfl, (crs_eq (by omega))⟩ rfl⟩
       ·try simp only [decide_eq_false_iff_not, Int.not_lt] at h56
        try simp only [Int.toNat_natCast, dflt_sl, dflt_st, dflt_str, dflt_int, dflt_bool] at h56
        refine acode_exit ?_
        have hie : i = ks.length := (by omega)
        subst hie
        refine acode_seq ?_
        refine acode_seq ?_
        refine acode_region ?_
        refine Or.inr (Or.inl (Exists.intro [] (Exists.intro [2] (Exists.intro _ (Exists.intro _ (Exists.intro _ (Exists.intro _ (Exists.intro _ (And.intro (next_no s ks hkl) (And.intro rfl (And.intro (And.intro (And.intro rfl rfl) True.intro) (And.intro rfl ?_))))))))))))
        refine acode_seq ?_
        refine acode_region ?_
        refine acode_cond rfl (fun h103 => ?_) (fun h103 => ?_)
        ·try simp only [decide_eq_true_eq, decide_eq_false_iff_not, Bool.and_eq_true, Bool.not_eq_true', Bool.not_eq_false', Bool.or_eq_false_iff, Bool.or_eq_true, Bool.and_eq_false_iff, Int.not_lt, Int.not_le] at h103
         try simp only [Int.toNat_natCast, dflt_sl, dflt_st, dflt_str, dflt_int, dflt_bool] at h103
         simp at h103
        ·skip
         refine acode_skip ?_
         refine acode_seq ?_
         refine acode_seq ?_
         refine acode_region ?_
         intro l24_1
         try simp only [Int.toNat_natCast, dflt_sl, dflt_st, dflt_str, dflt_int, dflt_bool] at l24_1
         refine And.intro (by first | omega | assumption | decide | (simp only [Int.toNat_natCast, dflt_sl, dflt_st, dflt_str, dflt_int, dflt_bool]; omega) | (simp <;> omega)) ?_
         refine acode_block ?_
         refine acode_loopP (fun (j : Nat) => j ≤ ks.length) (fun (j : Nat) => [(8, .one (.own 2 0)), (9, .one (.sl (.int .i64) (ks.map (·.1)))), (18, ii .i64 ((j : Int) - 1))]) (fun (j : Nat) => [(2, .box 114 [.sl (.sl rTerm) s, .sl rStz ks, .lit (.int .i64 j)])]) 3 (fun (j : Nat) => j) ks.length (Nat.le_refl _) (le_of ⟨rfl, rfl, (ii_eq (by rw [hml]))⟩ (crs_eq (by omega)) rfl) ?_
         intro j hI2
         refine acode_seq ?_
         refine acode_seq ?_
         refine acode_region ?_
         refine acode_cond rfl (fun h108 => ?_) (fun h108 => ?_)
         ·try simp only [decide_eq_true_eq] at h108
          try simp only [Int.toNat_natCast, dflt_sl, dflt_st, dflt_str, dflt_int, dflt_bool] at h108
          obtain ⟨q, rfl⟩ : ∃ q, j = q + 1 := ⟨j - 1, by omega⟩
          have hql : q < ks.length := (by omega)
          have hqe : (((q + 1 : Nat) : Int) - 1) = (q : Int) := (by omega)
          have hid := map_at hql
          refine acode_skip ?_
          refine acode_seq ?_
          refine acode_block ?_
          refine acode_seq ?_
          refine acode_region ?_
          refine Or.inr (Or.inl (Exists.intro [] (Exists.intro [2] (Exists.intro _ (Exists.intro _ (Exists.intro _ (Exists.intro _ (Exists.intro _ (And.intro (prev_yes s ks q hql hkl hkf) (And.intro rfl (And.intro (And.intro (And.intro rfl rfl) True.intro) (And.intro rfl ?_))))))))))))
          refine acode_seq ?_
          refine acode_draw rfl (by kernel_rfl) ?_
          refine And.intro (fun h => trivial) ?_
          refine And.intro (fun h => ⟨⟨h, trivial⟩, trivial⟩) ?_
          refine And.intro (fun h => trivial) ?_
          refine And.intro (fun h => trivial) ?_
          refine And.intro (fun h => ⟨⟨⟨h, trivial⟩, ⟨h, trivial⟩, trivial⟩, by (rw [hml]; omega)⟩) ?_
          refine And.intro (fun h => ⟨⟨h, trivial⟩, trivial⟩) ?_
          refine And.intro (fun h => ⟨⟨h, trivial⟩, ⟨h, trivial⟩, trivial⟩) ?_
          refine And.intro (by first | (intro h; rw [h]; rfl) | (intro h; cases h)) ?_
          refine And.intro (fun h => trivial) ?_
          refine And.intro (rfl) ?_
          refine Exists.intro _ (And.intro (fun h => ⟨⟨⟨h, trivial⟩, trivial⟩, curPlace_c s ks _⟩) ?_)
          refine And.intro (fun h => trivial) ?_
          refine And.intro (fun h => ⟨⟨h, trivial⟩, ⟨h, trivial⟩, trivial⟩) ?_
          refine And.intro (by first | (intro h; rw [h]; rfl) | (intro h; cases h)) ?_
          refine acode_cond rfl (fun h132 => ?_) (fun h132 => ?_)
          ·try simp only [decide_eq_false_iff_not, Bool.not_eq_true', Bool.or_eq_true] at h132
           try simp only [dflt_int] at h132
           rw [hqe] at h132
           simp only [Int.toNat_natCast] at h132
           rw [hid] at h132
           simp at h132
          ·try simp only [decide_eq_true_eq, Bool.not_eq_false', Bool.or_eq_false_iff] at h132
           try simp only [dflt_int] at h132
           refine acode_skip ?_
           refine acode_region ?_
           refine And.intro (by first | omega | assumption | decide | (simp only [Int.toNat_natCast, dflt_sl, dflt_st, dflt_str, dflt_int, dflt_bool]; omega) | (simp <;> omega)) ?_
           exact ⟨q, by omega, by first | omega | (simp <;> omega), le_of ⟨rfl, rfl, (ii_eq (by omega))⟩ rfl rfl⟩
         ·try simp only [decide_eq_false_iff_not, Int.not_le] at h108
          try simp only [Int.toNat_natCast, dflt_sl, dflt_st, dflt_str, dflt_int, dflt_bool] at h108
          refine acode_exit ?_
          have hj0 : j = 0 := (by omega)
          subst hj0
          refine acode_seq ?_
          refine acode_region ?_
          refine Or.inr (Or.inl (Exists.intro [] (Exists.intro [2] (Exists.intro _ (Exists.intro _ (Exists.intro _ (Exists.intro _ (Exists.intro _ (And.intro (prev_no s ks hkl) (And.intro rfl (And.intro (And.intro (And.intro rfl rfl) True.intro) (And.intro rfl ?_))))))))))))
          refine acode_seq ?_
          refine acode_region ?_
          refine And.intro (fun h => trivial) ?_
          refine Or.inr (And.intro (by first | rfl | decide | simp) (And.intro (by repeat' (first | exact True.intro | apply And.intro | rfl | decide | simp)) ?_))
          refine Or.inr (Or.inl (Exists.intro [] (Exists.intro [2] (Exists.intro _ (Exists.intro _ (Exists.intro _ (Exists.intro _ (Exists.intro _ (And.intro (skip_o s ks (0 + 0) 1099511627776 ks.length (by unfold skipR; split <;> split <;> omega) (by omega) hkl (by omega)) (And.intro rfl (And.intro (And.intro (And.intro rfl rfl) True.intro) (And.intro rfl ?_))))))))))))
          refine And.intro (fun h => trivial) ?_
          refine And.intro (fun h => ⟨⟨h, trivial⟩, trivial⟩) ?_
          refine And.intro (fun h => ⟨⟨h, trivial⟩, trivial⟩) ?_
          refine And.intro (by exact fun h => h) ?_
          refine And.intro (fun h => trivial) ?_
          refine Or.inr (And.intro (by simp [gq]) (And.intro (by repeat' (first | exact True.intro | apply And.intro | rfl | decide | simp)) ?_))
          refine Or.inr (Or.inl (Exists.intro [] (Exists.intro [2] (Exists.intro _ (Exists.intro _ (Exists.intro _ (Exists.intro _ (Exists.intro _ (And.intro (skip_o s ks (0 + 0 + ks.length) (-1099511627776) (0 - ks.length) (by unfold skipR; split <;> split <;> omega) (by omega) hkl (by omega)) (And.intro rfl (And.intro (And.intro (And.intro rfl rfl) True.intro) (And.intro rfl ?_))))))))))))
          refine And.intro (fun h => trivial) ?_
          refine And.intro (fun h => ⟨⟨h, trivial⟩, trivial⟩) ?_
          refine And.intro (fun h => ⟨⟨⟨h, trivial⟩, trivial⟩, by first | omega | decide | (simp only [Int.toNat_natCast, dflt_sl, dflt_st, dflt_str, dflt_int, dflt_bool]; omega) | (have h9 := of_decide_eq_true h; omega) | (simp [gq] at h; omega)⟩) ?_
          refine And.intro (fun h => ⟨⟨h, trivial⟩, trivial⟩) ?_
          refine And.intro (by exact fun h => h) ?_
          refine acode_ret ?_
          first | rfl | exact ib_eq (by simp [hml])
end Q
end Ab
end Go.Proofs.YtnimhpgacmojiaaGreatDoor
namespace Go.Proofs.YtnimhpgacmojiaaGreatDoor
open Go.RowKit
namespace Ab
set_option maxRecDepth 100000
theorem o_str : Opens Tryz.prog 9 .str := opens_str Tryz.underlying9 (by kernel_rfl)
theorem o_int : Opens Tryz.prog 3 (.int .i64) := opens_int Tryz.underlying3 (by kernel_rfl)
theorem o_bool : Opens Tryz.prog 4 .bool := opens_bool Tryz.underlying4 (by kernel_rfl)
theorem o_term : Opens Tryz.prog 122 (.st .bool (.st .str (.st (.int .i64) .str))) :=
  opens_st Tryz.underlying122 (by kernel_rfl) (.cons rfl o_bool (.cons rfl o_str (.cons rfl o_int (.one rfl o_str))))
theorem o_terms1 : Opens Tryz.prog 121 (.sl (.st .bool (.st .str (.st (.int .i64) .str)))) := opens_sl (by decide) Tryz.underlying121 (by kernel_rfl) o_term
theorem o_terms : Opens Tryz.prog 38 (.sl (.sl (.st .bool (.st .str (.st (.int .i64) .str))))) := opens_sl (by decide) Tryz.underlying38 (by kernel_rfl) o_terms1
theorem open_terms {H : Type} {enc : TypeId × Value → H} {W : World} {base : Nat} {v : Value} {d : DataW H} {p : List MemPlace} (hv : Value.okWide Tryz.prog W .any base 38 v) (h : DataW.Trod enc Tryz.prog W 0 (fun _ => true) true 38 v d p) :
    ∃ xs, (C.sl (.sl (.st .bool (.st .str (.st (.int .i64) .str)))) xs).rep AllOk noNames W v := open_sl Tryz.underlying38 o_terms hv h
theorem globAt {W : World} (h : W.ShapedOpen Tryz.prog) : GlobAt AllOk W := by
  have hc : GlobCell W := cell_of_shapedOpen_int (g := 0) (t := 3) (zero := #[.int .i64 0]) h (of_decide_eq_true (by kernel_rfl)) (by kernel_rfl) rfl (by kernel_rfl) (by kernel_rfl) Tryz.underlying3
  refine ⟨trivial, ?_, hc⟩
  obtain ⟨m, hm⟩ := hc
  rcases Nat.lt_or_ge 0 W.heap.size with h1 | h1
  · exact h1
  · exfalso
    simp only [World.cell?, Array.getElem?_eq_none h1] at hm
    cases hm
end Ab
end Go.Proofs.YtnimhpgacmojiaaGreatDoor
namespace Go.Proofs.YtnimhpgacmojiaaGreatDoor
open Go.RowKit
namespace Ab
set_option maxRecDepth 100000
end Ab
end Go.Proofs.YtnimhpgacmojiaaGreatDoor
