/-
  The texts of this proof, joined: abstract values, the library, the functions of the program and what they compute (part 5). No condition.
-/
import Derived.Shelf.Vars
import Derived.KernelRfl
import Derived.Test.YtlhjcdihbbdfnaaDoorK1
import Derived.Test.YtlhjcdihbbdfnaaDoorK2
import Derived.Test.YtlhjcdihbbdfnaaDoorK3
import Derived.Test.YtlhjcdihbbdfnaaDoorK4
namespace Go.Proofs.YtlhjcdihbbdfnaaDoor
open Go.RowKit
namespace Ab
set_option maxRecDepth 100000
namespace Q
structure SpI (s : ByteArray) (i at_ : Nat) (out : List Lne) : Prop where
  ai : at_ ≤ i
  is : i ≤ s.size
  no : (10 : UInt8) ∉ ((ls s).drop at_).take (i - at_)
  ol : out.length ≤ at_
  eq : ∃ f, ((ls s).drop at_).length ≤ f ∧ out ++ linesR f s.size out.length ((ls s).drop at_) = linesT s
theorem sp_0 (s : ByteArray) : SpI s 0 0 [] := ⟨Nat.le_refl _, Nat.zero_le _, by simp, Nat.le_refl _, s.size, by rw [List.drop_zero, show (ls s).length = s.size from (size_list s).symm]; exact Nat.le_refl _, rfl⟩
theorem sp_no {s : ByteArray} {i a : Nat} {out : List Lne} (h : SpI s i a out) (hi : i < s.size) (hc : ¬ (((ls s).getD i 0).toNat : Int) = 10) : SpI s (i + 1) a out := by
  have hl : i < (ls s).length := by rw [show (ls s).length = s.size from (size_list s).symm]; exact hi
  have ha := h.ai
  refine ⟨by omega, hi, ?_, h.ol, h.eq⟩
  rw [show i + 1 - a = (i - a) + 1 from by omega]
  refine no_step h.no (by rw [List.length_drop]; omega) ?_
  have : ((ls s).drop a).getD (i - a) 0 = (ls s).getD i 0 := by
    simp only [List.getD, List.getElem?_drop]
    rw [show a + (i - a) = i from by omega]
  rw [this]
  exact hc
theorem sp_yes {s : ByteArray} {i a : Nat} {out : List Lne} (h : SpI s i a out) (hi : i < s.size) (hc : (((ls s).getD i 0).toNat : Int) = 10) : SpI s (i + 1) (i + 1) (out ++ [((out.length : Int), (a : Int), s.extract a i, true)]) := by
  have hl : i < (ls s).length := by rw [show (ls s).length = s.size from (size_list s).symm]; exact hi
  have ha := h.ai
  have ho := h.ol
  obtain ⟨f, hf, e⟩ := h.eq
  have hb : (ls s).getD i 0 = 10 := by
    apply UInt8.toNat_inj.1
    have : ((ls s).getD i 0).toNat = 10 := by omega
    rw [this]; rfl
  have hr : (ls s).drop a = ((ls s).drop a).take (i - a) ++ 10 :: (ls s).drop (i + 1) := by
    conv => lhs; rw [← List.take_append_drop (i - a) ((ls s).drop a)]
    congr 1
    rw [List.drop_drop, show a + (i - a) = i from by omega, List.drop_eq_getElem_cons hl]
    congr 1
    rw [← hb, List.getD_eq_getElem?_getD, List.getElem?_eq_getElem hl]
    rfl
  have hc2 := cut_at (r := (ls s).drop (i + 1)) h.no
  rw [← hr] at hc2
  obtain ⟨y, w, hy⟩ : ∃ y w, (ls s).drop a = y :: w := by
    rw [hr]; cases ((ls s).drop a).take (i - a) <;> exact ⟨_, _, rfl⟩
  obtain ⟨f', rfl⟩ : ∃ f', f = f' + 1 := ⟨f - 1, by rw [hy, List.length_cons] at hf; omega⟩
  have hlen : ((ls s).drop a).length = s.size - a := by rw [List.length_drop, show (ls s).length = s.size from (size_list s).symm]
  refine ⟨Nat.le_refl _, hi, by simp, by rw [List.length_append, List.length_singleton]; omega, f', ?_, ?_⟩
  · rw [List.length_drop, show (ls s).length = s.size from (size_list s).symm]
    omega
  · rw [← e, List.append_assoc]
    congr 1
    rw [hy] at hc2 hlen ⊢
    rw [linesR_cons, hc2, hlen]
    simp only [List.singleton_append, List.length_append, List.length_singleton]
    congr 1
    refine Prod.ext rfl (Prod.ext (by simp only; omega) (Prod.ext ?_ rfl))
    show s.extract a i = bytes ((y :: w).take (i - a))
    rw [← hy]
    rw [← bytes_ls (s.extract a i)]
    congr 1
    exact extract_ls s a i
theorem sp_end {s : ByteArray} {a : Nat} {out : List Lne} (h : SpI s s.size a out) : (a < s.size → out ++ [((out.length : Int), (a : Int), s.extract a s.size, false)] = linesT s) ∧ (¬ a < s.size → out = linesT s) := by
  obtain ⟨f, hf, e⟩ := h.eq
  have hlen : ((ls s).drop a).length = s.size - a := by rw [List.length_drop, show (ls s).length = s.size from (size_list s).symm]
  have hno := h.no
  rw [List.take_of_length_le (by omega)] at hno
  refine ⟨fun hlt => ?_, fun hge => ?_⟩
  · rw [← e]
    congr 1
    obtain ⟨y, w, hy⟩ : ∃ y w, (ls s).drop a = y :: w := by
      cases e2 : (ls s).drop a with
      | nil => rw [e2] at hlen; simp at hlen; omega
      | cons y w => exact ⟨_, _, rfl⟩
    obtain ⟨f', rfl⟩ : ∃ f', f = f' + 1 := ⟨f - 1, by rw [hy, List.length_cons] at hf; omega⟩
    have hx : s.extract a s.size = bytes ((ls s).drop a) := ext_drop s a
    rw [hx]
    rw [hy] at hno hlen ⊢
    rw [linesR_cons, cut_none hno, hlen]
    rw [show linesR f' s.size ((out.length : Int) + 1) (y :: w, ([] : List UInt8), false).2.1 = [] from by cases f' <;> rfl]
    congr 1
    exact Prod.ext rfl (Prod.ext (by simp only; omega) rfl)
  · have : (ls s).drop a = [] := List.eq_nil_of_length_eq_zero (by omega)
    rw [← e, this]
    cases f <;> simp [linesR]
def rawsL (l : List Itm) : List UInt8 := l.flatMap fun x => ls x.2.1
theorem raws_len (l : List Itm) : (rawsL l).length = szI l := by
  induction l with
  | nil => rfl
  | cons a r ih =>
    unfold rawsL szI at *
    simp only [List.flatMap_cons, List.length_append, List.map_cons, List.sum_cons, ih]
    rw [size_list]
theorem raws_snoc (l : List Itm) (i : Nat) (h : i < l.length) : rawsL (l.take (i + 1)) = rawsL (l.take i) ++ ls (l.getD i ((0 : Int), ByteArray.empty, ([] : List Fld))).2.1 := by
  unfold rawsL
  rw [List.take_succ_eq_append_getElem h, List.flatMap_append]
  simp [List.getD, h]
theorem szI_mem (l : List Itm) (i : Nat) (h : i < l.length) : szI (l.take i) + (l.getD i ((0 : Int), ByteArray.empty, ([] : List Fld))).2.1.size ≤ szI l := by
  rw [← szI_succ h]
  exact szI_le l (i + 1)
theorem joinI_c (l : List Itm) (hl : l.length ≤ 1000000) (hs : szI l ≤ 1000000) : ACall Tryd.prog 45 [.one (.sl rItm l)] (is (bytes (rawsL l))) := by
  refine acall_of (rs := [2]) Tryd.func45 rfl rfl rfl teOk rfl ?_
  refine acode_seq ?_
  refine acode_region ?_
  refine acode_seq ?_
  refine acode_region ?_
  refine acode_seq ?_
  refine acode_seq ?_
  refine acode_bld 0 5 (.int .u8) rfl ?_
  refine acode_region ?_
  intro l2_1
  try simp only [Int.toNat_natCast, dflt_sl, dflt_st, dflt_str, dflt_int, dflt_bool] at l2_1
  refine acode_block ?_
  refine acode_loopP (fun (x : Nat × Bool) => x.1 ≤ l.length) (fun (x : Nat × Bool) => [(3, .one (.own 0 0)), (6, .one (.sl rItm l)), (7, ii .i64 l.length), (8, ii .i64 x.1)]) (fun (x : Nat × Bool) => [(0, .box 115 [.nself x.2 0, .vec 1]), (1, .vec 5 (.int .u8) (intsOf (bytes (rawsL (l.take x.1)))))]) 2 (fun (x : Nat × Bool) => l.length - x.1) (0, false) (Nat.zero_le _) (le_of ⟨rfl, rfl, rfl, rfl⟩ ⟨rfl, rfl⟩ rfl) ?_
  intro ⟨i, u⟩ hI0
  simp only at hI0 ⊢
  refine acode_seq ?_
  refine acode_region ?_
  refine acode_seq ?_
  refine acode_cond rfl (fun h9 => ?_) (fun h9 => ?_)
  · try simp only [decide_eq_true_eq] at h9
    try simp only [Int.toNat_natCast, dflt_sl, dflt_st, dflt_str, dflt_int, dflt_bool] at h9
    have hlt : i < l.length := (by omega)
    have hm := szI_mem l i hlt
    have hr := raws_len (l.take i)
    refine acode_skip ?_
    refine acode_seq ?_
    refine acode_block ?_
    refine acode_seq ?_
    refine acode_region ?_
    refine And.intro (by first | omega | assumption | decide | (simp only [Int.toNat_natCast, dflt_sl, dflt_st, dflt_str, dflt_int, dflt_bool]; omega) | (simp <;> omega)) ?_
    refine acode_region ?_
    refine Or.inr (Exists.intro [] (Exists.intro [0, 1] (Exists.intro _ (Exists.intro _ (Exists.intro _ (Exists.intro _ (Exists.intro _ (And.intro (writeString_o _ _ _ (by rw [ints_len, hr]; show _ + (l.getD i ((0 : Int), ByteArray.empty, ([] : List Fld))).2.1.size ≤ _; omega)) (And.intro rfl (And.intro (And.intro (And.intro rfl rfl) (And.intro (And.intro rfl rfl) True.intro)) (And.intro rfl ?_)))))))))))
    refine acode_region ?_
    refine And.intro (by first | omega | assumption | decide | (simp only [Int.toNat_natCast, dflt_sl, dflt_st, dflt_str, dflt_int, dflt_bool]; omega) | (simp <;> omega)) ?_
    exact ⟨(i + 1, true), (by simp only; omega), by first | omega | (simp <;> omega), le_of ⟨rfl, rfl, rfl, (ii_eq (by simp only; omega))⟩ ⟨rfl, (vec_eq (by simp only; rw [raws_snoc l i hlt]; exact ints_add _ _ _ (bytes_ls _).symm))⟩ rfl⟩
  · try simp only [decide_eq_false_iff_not, Int.not_lt] at h9
    try simp only [Int.toNat_natCast, dflt_sl, dflt_st, dflt_str, dflt_int, dflt_bool] at h9
    refine acode_exit ?_
    refine acode_seq ?_
    refine acode_region ?_
    refine Or.inr (Exists.intro [] (Exists.intro [0, 1] (Exists.intro _ (Exists.intro _ (Exists.intro _ (Exists.intro _ (Exists.intro _ (And.intro (string_o _ _) (And.intro rfl (And.intro (And.intro (And.intro rfl rfl) (And.intro (And.intro rfl rfl) True.intro)) (And.intro rfl ?_)))))))))))
    refine acode_ret ?_
    rw [List.take_of_length_le (by omega)]
    rfl
theorem refKindL_c (s : ByteArray) (hs : s.size ≤ 1000000000) : ACall Tryd.prog 75 [is s] (ii .i64 (kindL (ls s))) := refKind_c s hs
theorem beh_eq (k : List Int) (i : Nat) : (decide (0 < (i : Int)) && (decide (k.getD ((i : Int) - 1).toNat (Rd.int IntKind.i64).dflt = 4) || decide (k.getD ((i : Int) - 1).toNat (Rd.int IntKind.i64).dflt = 3))) = (decide (0 < i) && (decide (k.getD (i - 1) 0 = 4) || decide (k.getD (i - 1) 0 = 3))) := by
  have h : ((i : Int) - 1).toNat = i - 1 := by omega
  have h0 : decide (0 < (i : Int)) = decide (0 < i) := decide_eq_decide.2 (by omega)
  rw [h, h0]
  rfl
theorem getD_get {α : Type} {l : List α} {i : Nat} (h : i < l.length) (d : α) : l[i] = l.getD i d := by
  rw [List.getD_eq_getElem?_getD, List.getElem?_eq_getElem h]
  rfl
theorem kind_at {L : List Lne} {k : List Int} (hk : k = L.map (fun l => kindL (ls l.2.2.1))) {n : Nat} (h : n < L.length) : k.getD n 0 = kindL (ls (L.getD n ((0 : Int), (0 : Int), ByteArray.empty, false)).2.2.1) := by
  subst hk
  simp [List.getD, h]
theorem tw_stop {L : List Lne} {j : Nat} (h : (L.take j).all more = true) (hs : L.length ≤ j ∨ (j < L.length ∧ more (L.getD j ((0 : Int), (0 : Int), ByteArray.empty, false)) = false)) : L.takeWhile more = L.take j := by
  conv => lhs; rw [← List.take_append_drop j L]
  rw [List.takeWhile_append_of_pos (by simpa [List.all_eq_true] using h)]
  have : (L.drop j).takeWhile more = [] := by
    rcases hs with hs | ⟨hs, hm⟩
    · rw [List.drop_eq_nil_of_le hs]; rfl
    · rw [List.drop_eq_getElem_cons hs, List.takeWhile_cons_of_neg]
      rw [show L[j] = L.getD j ((0 : Int), (0 : Int), ByteArray.empty, false) from by simp [List.getD, hs], hm]
      decide
  rw [this, List.append_nil]
theorem drop_getL {L : List Lne} {i j : Nat} : (L.drop (i + 1)).getD j ((0 : Int), (0 : Int), ByteArray.empty, false) = L.getD (i + 1 + j) ((0 : Int), (0 : Int), ByteArray.empty, false) := by
  simp only [List.getD, List.getElem?_drop]
theorem tw_more {L : List Lne} {i j : Nat} (h : ((L.drop (i + 1)).take j).all more = true) (hj : j < L.length - (i + 1)) (hm : kindL (ls (L.getD (i + 1 + j) ((0 : Int), (0 : Int), ByteArray.empty, false)).2.2.1) = 3) : ((L.drop (i + 1)).take (j + 1)).all more = true := by
  have hlt : j < (L.drop (i + 1)).length := by rw [List.length_drop]; exact hj
  rw [List.take_succ_eq_append_getElem hlt, List.all_append, h]
  rw [getD_get hlt ((0 : Int), (0 : Int), ByteArray.empty, false), drop_getL]
  simp only [List.all_cons, List.all_nil, Bool.and_true, Bool.true_and]
  exact decide_eq_true hm
theorem said_next {L : List Lne} {i j : Nat} (hj : j < L.length - (i + 1)) : ((L.drop (i + 1)).take (j + 1)).map (·.2.2.1) = ((L.drop (i + 1)).take j).map (·.2.2.1) ++ [(L.getD (i + 1 + j) ((0 : Int), (0 : Int), ByteArray.empty, false)).2.2.1] := by
  have hlt : j < (L.drop (i + 1)).length := by rw [List.length_drop]; exact hj
  rw [List.take_succ_eq_append_getElem hlt, List.map_append]
  rw [getD_get hlt ((0 : Int), (0 : Int), ByteArray.empty, false), drop_getL]
  rfl
end Q
end Ab
end Go.Proofs.YtlhjcdihbbdfnaaDoor
namespace Go.Proofs.YtlhjcdihbbdfnaaDoor
open Go.RowKit
namespace Ab
set_option maxRecDepth 100000
namespace Q
theorem linesR_no : ∀ (f : Nat) (tot no : Int) (s : List UInt8) (i : Nat), i < (linesR f tot no s).length → ((linesR f tot no s).getD i ((0 : Int), (0 : Int), ByteArray.empty, false)).1 = no + i
  | 0, _, _, _, i, h => by simp [linesR] at h
  | f + 1, _, _, [], i, h => by simp [linesR] at h
  | f + 1, tot, no, a :: r, i, h => by
    rw [linesR_cons] at h ⊢
    cases i with
    | zero => simp
    | succ i =>
      have := linesR_no f tot (no + 1) (Lib.cut (a :: r) [10]).2.1 i (by simpa using h)
      rw [List.getD_cons_succ, this]
      omega
def bhI (k : List Int) (i : Nat) : Bool := decide (0 < i) && (decide (k.getD (i - 1) 0 = 4) || decide (k.getD (i - 1) 0 = 3))
/-- What the document's answer holds ahead of a line. -/
structure RI (L : List Lne) (k : List Int) (i : Nat) (t : RSt) : Prop where
  il : i ≤ L.length
  eq : runR false rst0 L = runR (bhI k i) t (L.drop i)
  r0 : 0 ≤ t.recs
  ri : t.recs ≤ i
  oi : t.out.length ≤ 2 * i
  fi : t.flds.length ≤ i
  rw_ : t.raw.size ≤ ((L.take i).map (fun l => l.2.2.1.size + 1)).sum
  rd : t.raw = ByteArray.empty ↔ t.raw.size = 0
theorem ri_0 (L : List Lne) (k : List Int) : RI L k 0 rst0 := ⟨Nat.zero_le _, rfl, Int.le_refl _, Int.le_refl _, Nat.le_refl _, Nat.le_refl _, Nat.zero_le _, ⟨fun _ => rfl, fun _ => rfl⟩⟩
theorem size0 (s : ByteArray) : s = ByteArray.empty ↔ s.size = 0 := by
  refine ⟨fun h => by rw [h]; rfl, fun h => ?_⟩
  rw [size_list] at h
  have := List.eq_nil_of_length_eq_zero h
  rw [← bytes_ls s, show ls s = [] from this]; rfl
theorem sum_succ (L : List Lne) (i : Nat) (h : i < L.length) : ((L.take (i + 1)).map (fun l => l.2.2.1.size + 1)).sum = ((L.take i).map (fun l => l.2.2.1.size + 1)).sum + ((L.getD i ((0 : Int), (0 : Int), ByteArray.empty, false)).2.2.1.size + 1) := by
  rw [List.take_succ_eq_append_getElem h, List.map_append, List.sum_append, ← getD_get h ((0 : Int), (0 : Int), ByteArray.empty, false)]
  simp
theorem ri_eq {L : List Lne} {k : List Int} {i : Nat} {t : RSt} (h : RI L k i t) (hi : i < L.length) : runR false rst0 L = if wrongL (bhI k i) (L.getD i ((0 : Int), (0 : Int), ByteArray.empty, false)) (L.drop (i + 1)) t.flds.length t.recs ≠ 0 then .inl ((L.getD i ((0 : Int), (0 : Int), ByteArray.empty, false)).1, wrongL (bhI k i) (L.getD i ((0 : Int), (0 : Int), ByteArray.empty, false)) (L.drop (i + 1)) t.flds.length t.recs) else runR (decide (kindL (ls (L.getD i ((0 : Int), (0 : Int), ByteArray.empty, false)).2.2.1) = 4) || decide (kindL (ls (L.getD i ((0 : Int), (0 : Int), ByteArray.empty, false)).2.2.1) = 3)) (stepR t (L.getD i ((0 : Int), (0 : Int), ByteArray.empty, false)) (L.drop (i + 1))) (L.drop (i + 1)) := by
  rw [h.eq, List.drop_eq_getElem_cons hi, getD_get hi ((0 : Int), (0 : Int), ByteArray.empty, false)]
  rfl
theorem bh_next {L : List Lne} {k : List Int} (hk : k = L.map (fun l => kindL (ls l.2.2.1))) {i : Nat} (hi : i < L.length) : bhI k (i + 1) = (decide (kindL (ls (L.getD i ((0 : Int), (0 : Int), ByteArray.empty, false)).2.2.1) = 4) || decide (kindL (ls (L.getD i ((0 : Int), (0 : Int), ByteArray.empty, false)).2.2.1) = 3)) := by
  unfold bhI
  rw [Nat.add_sub_cancel, kind_at hk hi]
  simp
theorem ri_next {L : List Lne} {k : List Int} (hk : k = L.map (fun l => kindL (ls l.2.2.1))) {i : Nat} {t : RSt} (h : RI L k i t) (hi : i < L.length) (hw : wrongL (bhI k i) (L.getD i ((0 : Int), (0 : Int), ByteArray.empty, false)) (L.drop (i + 1)) t.flds.length t.recs = 0) : RI L k (i + 1) (stepR t (L.getD i ((0 : Int), (0 : Int), ByteArray.empty, false)) (L.drop (i + 1))) := by
  have e := ri_eq h hi
  rw [if_neg (by rw [hw]; simp), ← bh_next hk hi] at e
  have h1 := h.r0
  have h2 := h.ri
  have h3 := h.oi
  have h4 := h.fi
  have h5 := h.rw_
  have h6 := sum_succ L i hi
  refine ⟨hi, e, ?_, ?_, ?_, ?_, ?_, size0 _⟩
  · unfold stepR
    split
    · exact h1
    · split
      · simp only; split <;> omega
      · exact h1
  · unfold stepR
    split
    · simp only; omega
    · split
      · simp only; split <;> omega
      · simp only; omega
  · unfold stepR
    split
    · simp only; split <;> simp <;> omega
    · split
      · simp only; omega
      · simp only; omega
  · unfold stepR
    split
    · simp
    · split
      · simp; omega
      · simp only; omega
  · rw [h6]
    have h10 : ByteArray.size ⟨#[10]⟩ = 1 := rfl
    unfold stepR
    split
    · simp
    · split
      · simp only [ByteArray.size_append]; omega
      · simp only [ByteArray.size_append]; omega
theorem said_ok {s : ByteArray} (hs : s.size ≤ 60000) {i : Nat} (hi : i < (linesT s).length) : LinesOk (saidL ((linesT s).getD i ((0 : Int), (0 : Int), ByteArray.empty, false)) ((linesT s).drop (i + 1))) := by
  obtain ⟨h1, h2⟩ := linesT_len s
  have h3 : ((((linesT s).drop (i + 1)).takeWhile more).map (·.2.2.1.size)).sum ≤ ((linesT s).map (·.2.2.1.size)).sum := by
    have e1 : (linesT s) = (linesT s).take (i + 1) ++ ((linesT s).drop (i + 1)) := (List.take_append_drop _ _).symm
    have e2 : (linesT s).drop (i + 1) = ((linesT s).drop (i + 1)).takeWhile more ++ ((linesT s).drop (i + 1)).dropWhile more := List.takeWhile_append_dropWhile.symm
    conv => rhs; rw [e1, e2]
    simp only [List.map_append, List.sum_append]
    omega
  have h4 : (((linesT s).drop (i + 1)).takeWhile more).length ≤ (linesT s).length := by
    have := (List.takeWhile_sublist more (l := (linesT s).drop (i + 1))).length_le
    rw [List.length_drop] at this
    omega
  have h5 := linesT_sz hi
  rw [getD_get hi ((0 : Int), (0 : Int), ByteArray.empty, false)] at h5
  unfold saidL
  refine ⟨by simp only [List.length_cons, List.length_map]; omega, ?_⟩
  simp only [List.map_cons, List.sum_cons, List.map_map]
  have : ((((linesT s).drop (i + 1)).takeWhile more).map ((fun x : ByteArray => x.size) ∘ fun x : Lne => x.2.2.1)).sum = ((((linesT s).drop (i + 1)).takeWhile more).map (·.2.2.1.size)).sum := rfl
  omega
def resR : (Int × Int) ⊕ List Itm → A
  | .inl e => .tup [(false, [.sl rItm []]), (false, [.lit (.int .i64 e.1)]), (false, [.lit (.int .i64 e.2)])]
  | .inr l => .tup [(false, [.sl rItm l]), (false, [.lit (.int .i64 (-9))]), (false, [.lit (.int .i64 0)])]
theorem sum_total (s : ByteArray) (i : Nat) : (((linesT s).take i).map (fun l => l.2.2.1.size + 1)).sum ≤ 2 * s.size := by
  obtain ⟨h1, h2⟩ := linesT_len s
  have e : ∀ L : List Lne, (L.map (fun l => l.2.2.1.size + 1)).sum = (L.map (·.2.2.1.size)).sum + L.length := by
    intro L
    induction L with
    | nil => rfl
    | cons a r ih => simp only [List.map_cons, List.sum_cons, List.length_cons, ih]; omega
  have h3 : (((linesT s).take i).map (fun l => l.2.2.1.size + 1)).sum ≤ ((linesT s).map (fun l => l.2.2.1.size + 1)).sum := by
    conv => rhs; rw [← List.take_append_drop i (linesT s)]
    rw [List.map_append, List.sum_append]
    omega
  rw [e (linesT s)] at h3
  omega
end Q
end Ab
end Go.Proofs.YtlhjcdihbbdfnaaDoor
namespace Go.Proofs.YtlhjcdihbbdfnaaDoor
open Go.RowKit
namespace Ab
set_option maxRecDepth 100000
namespace Q
abbrev rRow : Rd (List Fld) := .sl rFld
def recsL (l : List Itm) : List (List Fld) := (l.filter fun x => decide (x.1 = 3)).map (·.2.2)
theorem recs_snoc (l : List Itm) (i : Nat) (h : i < l.length) : recsL (l.take (i + 1)) = if (l.getD i ((0 : Int), ByteArray.empty, ([] : List Fld))).1 = 3 then recsL (l.take i) ++ [(l.getD i ((0 : Int), ByteArray.empty, ([] : List Fld))).2.2] else recsL (l.take i) := by
  unfold recsL
  rw [List.take_succ_eq_append_getElem h, List.filter_append, List.map_append, getD_get h ((0 : Int), ByteArray.empty, ([] : List Fld))]
  by_cases h3 : (l.getD i ((0 : Int), ByteArray.empty, ([] : List Fld))).1 = 3
  · rw [if_pos h3, List.filter_cons_of_pos (by simpa using h3)]; rfl
  · rw [if_neg h3, List.filter_cons_of_neg (by simpa using h3)]; simp
theorem recs_le (l : List Itm) (i : Nat) : (recsL (l.take i)).length ≤ l.length := by
  unfold recsL
  rw [List.length_map]
  refine Nat.le_trans (List.length_filter_le _ _) ?_
  rw [List.length_take]
  omega
theorem stanzas_c (l : List Itm) (hl : l.length ≤ 1000000) (hf : ∀ x ∈ l, x.2.2.length ≤ 1000000) : ACall Tryd.prog 16 [.one (.sl rItm l)] (.one (.sl rRow (recsL l))) := by
  refine acall_of (rs := [2]) Tryd.func16 rfl rfl rfl teOk rfl ?_
  refine acode_seq ?_
  refine acode_region ?_
  refine acode_seq ?_
  refine acode_region ?_
  refine acode_seq ?_
  refine acode_seq ?_
  refine acode_nilvec 3 29 rRow rfl ?_
  refine acode_region ?_
  intro l2_1
  try simp only [Int.toNat_natCast, dflt_sl, dflt_st, dflt_str, dflt_int, dflt_bool] at l2_1
  refine acode_block ?_
  refine acode_loopP (fun (i : Nat) => i ≤ l.length) (fun (i : Nat) => [(3, .one (.vec 0)), (6, .one (.sl rItm l)), (7, ii .i64 l.length), (8, ii .i64 i)]) (fun (i : Nat) => [(0, .vec 29 rRow (recsL (l.take i)))]) 1 (fun (i : Nat) => l.length - i) 0 (Nat.zero_le _) (le_of ⟨rfl, rfl, rfl, rfl⟩ rfl rfl) ?_
  intro i hI0
  refine acode_seq ?_
  refine acode_region ?_
  refine acode_seq ?_
  refine acode_cond rfl (fun h9 => ?_) (fun h9 => ?_)
  · try simp only [decide_eq_true_eq] at h9
    try simp only [Int.toNat_natCast, dflt_sl, dflt_st, dflt_str, dflt_int, dflt_bool] at h9
    have hil : i < l.length := (by omega)
    have hrs := recs_snoc l i hil
    have hrl := recs_le l i
    have hfl := hf _ (getD_mem hil ((0 : Int), ByteArray.empty, ([] : List Fld)))
    refine acode_skip ?_
    refine acode_seq ?_
    refine acode_block ?_
    refine acode_seq ?_
    refine acode_region ?_
    refine And.intro (by first | omega | assumption | decide | (simp only [Int.toNat_natCast, dflt_sl, dflt_st, dflt_str, dflt_int, dflt_bool]; omega) | (simp <;> omega)) ?_
    refine acode_seq ?_
    refine acode_region ?_
    refine acode_cond rfl (fun h14 => ?_) (fun h14 => ?_)
    · try simp only [decide_eq_true_eq] at h14
      try simp only [Int.toNat_natCast, dflt_sl, dflt_st, dflt_str, dflt_int] at h14
      rw [if_pos h14] at hrs
      refine acode_region ?_
      refine And.intro (by first | exact app_le (show (l.getD i ((0 : Int), ByteArray.empty, ([] : List Fld))).2.2.length ≤ 1000000000 by omega) (by decide) | exact app_le (show 0 + (l.getD i ((0 : Int), ByteArray.empty, ([] : List Fld))).2.2.length ≤ 1000000000 by omega) (by decide)) ?_
      refine And.intro (by first | exact app_le (by first | omega | (simp only [List.length_cons, List.length_nil]; omega) | (simp; omega)) (by decide) | omega | assumption | decide | (simp only [Int.toNat_natCast, dflt_sl, dflt_st, dflt_str, dflt_int, dflt_bool]; omega) | (simp <;> omega)) ?_
      refine acode_region ?_
      refine And.intro (by first | omega | assumption | decide | (simp only [Int.toNat_natCast, dflt_sl, dflt_st, dflt_str, dflt_int, dflt_bool]; omega) | (simp <;> omega)) ?_
      exact ⟨i + 1, by omega, by first | omega | (simp <;> omega), le_of ⟨rfl, rfl, rfl, (ii_eq (by omega))⟩ (vec_eq (by rw [hrs]; try rfl)) rfl⟩
    · try simp only [decide_eq_false_iff_not] at h14
      try simp only [Int.toNat_natCast, dflt_sl, dflt_st, dflt_str, dflt_int] at h14
      rw [if_neg h14] at hrs
      refine acode_skip ?_
      refine acode_region ?_
      refine And.intro (by first | omega | assumption | decide | (simp only [Int.toNat_natCast, dflt_sl, dflt_st, dflt_str, dflt_int, dflt_bool]; omega) | (simp <;> omega)) ?_
      exact ⟨i + 1, by omega, by first | omega | (simp <;> omega), le_of ⟨rfl, rfl, rfl, (ii_eq (by omega))⟩ (vec_eq (by rw [hrs]; try rfl)) rfl⟩
  · try simp only [decide_eq_false_iff_not, Int.not_lt] at h9
    try simp only [Int.toNat_natCast, dflt_sl, dflt_st, dflt_str, dflt_int, dflt_bool] at h9
    refine acode_exit ?_
    refine acode_seq ?_
    refine acode_region ?_
    refine acode_ret ?_
    rw [List.take_of_length_le (by omega)]
    rfl
def contP (p : PSt) : List UInt8 := rawsL p.its ++ endL (p.blk.map ls)
theorem raws_app (a b : List Itm) : rawsL (a ++ b) = rawsL a ++ rawsL b := by simp [rawsL]
theorem endL_app (a b : List (List UInt8)) : endL (a ++ b) = endL a ++ endL b := by simp [endL]
theorem close_cont (p : PSt) : contP (closeS p) = contP p := by
  unfold closeS
  split
  · rename_i h
    unfold contP
    simp [h]
  · rename_i h
    unfold contP
    simp only [raws_app]
    rw [rawB_C h]
    have : rawsL [((if p.flds = [] then 2 else 3 : Int), rawC p.blk, p.flds)] = endL (p.blk.map ls) := by
      unfold rawsL rawC
      simp only [List.flatMap_cons, List.flatMap_nil, List.append_nil]
      exact bytes_list _
    rw [this]
    simp [endL]
theorem flush_cont {p q : PSt} (h : flushS p = .inr q) : contP q = contP p := by
  obtain ⟨h1, h2⟩ := flush_same h
  unfold contP
  rw [h1, h2]
theorem end_cont {p q : PSt} (h : endS p = .inr q) : contP q = contP p := by
  unfold endS at h
  cases e : flushS p with
  | inl x => rw [e] at h; cases h
  | inr r =>
    rw [e] at h
    cases h
    rw [close_cont, flush_cont e]
theorem ahead_cont {p q : PSt} {l : Lne} {k : Int} (h : aheadS p l k = .inr q) : contP q = contP p := by
  unfold aheadS at h
  split at h
  · split at h
    · cases h
    · split at h
      · cases h; rfl
      · rw [flush_cont h]; rfl
  · split at h
    · exact end_cont h
    · exact flush_cont h
theorem take_cont {p q : PSt} {l : Lne} (h : takeS p l = .inr q) : contP q = contP p ++ (ls l.2.2.1 ++ [10]) := by
  have hi := fun hk => (ahead_took (p := p) (l := l) (k := kindL (ls l.2.2.1)) (q := q) hk)
  unfold takeS at h
  cases e : aheadS p l (kindL (ls l.2.2.1)) with
  | inl x => rw [e] at h; cases h
  | inr r =>
    rw [e] at h
    have hc := ahead_cont e
    obtain ⟨_, _, h4⟩ := ahead_took e
    simp only at h
    unfold lineS at h
    split at h
    · cases h
    · split at h
      · rename_i g1
        cases h
        rw [← hc]
        unfold contP
        simp only [raws_app, (h4 g1).2.1]
        simp [rawsL, endL, ls]
      · split at h
        · cases h
          rw [← hc]
          unfold contP beginS
          simp only [List.map_append, endL_app]
          simp [endL, ls]
        · cases h
          rw [← hc]
          unfold contP
          simp only [List.map_append, endL_app]
          simp [endL, ls]
theorem run_cont : ∀ (L : List Lne) (p q : PSt), runS p L = .inr q → contP q = contP p ++ glue (L.map (·.2.2))
  | [], p, q, h => by cases h; simp [glue]
  | l :: r, p, q, h => by
    simp only [runS] at h
    cases e : takeS p l with
    | inl x => rw [e] at h; cases h
    | inr p1 =>
      rw [e] at h
      obtain ⟨he, _⟩ := take_took e
      rw [run_cont r p1 q h, take_cont e, List.map_cons]
      simp only [glue, he, if_true, List.append_assoc]
theorem raws_text {s : ByteArray} {l : List Itm} (hp : parseS s = .inr l) : bytes (rawsL l) = s := by
  unfold parseS at hp
  cases e : runS pst0 (linesT s) with
  | inl x => rw [e] at hp; cases hp
  | inr p =>
    rw [e] at hp
    simp only at hp
    cases e2 : endS p with
    | inl x => rw [e2] at hp; cases hp
    | inr q =>
      rw [e2] at hp
      cases hp
      obtain ⟨_, _, hidle⟩ := end_took e2
      have h1 : contP q = rawsL q.its := by unfold contP; rw [hidle.2.1]; simp [endL]
      rw [← h1, end_cont e2, run_cont _ _ _ e, lines_text, glue_lines _ _ (by rw [show (ls s).length = s.size from (size_list s).symm]; exact Nat.le_refl _)]
      exact bytes_ls s
theorem runR_ne : ∀ (L : List Lne) (t : RSt) (bh : Bool) (e : Int × Int), runR bh t L = .inl e → e.2 ≠ 0
  | [], t, bh, e, h => by unfold runR at h; cases h
  | l :: r, t, bh, e, h => by
    unfold runR at h
    split at h
    · rename_i hw; cases h; exact hw
    · exact runR_ne r _ _ e h
theorem items_flds {s : ByteArray} {l : List Itm} (hs : s.size ≤ 60000) (hp : parseS s = .inr l) : l.length ≤ 1000000 ∧ ∀ x ∈ l, x.2.2.length ≤ 1000000 := by
  have h0 := parse_ref s
  rw [hp] at h0
  obtain ⟨h1, _⟩ := linesT_len s
  have key : ∀ (L : List Lne) (t : RSt) (bh : Bool) (l : List Itm), runR bh t L = .inr l → l.length ≤ t.out.length + 1 + 2 * L.length ∧ ∀ (B : Nat), t.flds.length + L.length ≤ B → (∀ x ∈ t.out, x.2.2.length ≤ B) → ∀ x ∈ l, x.2.2.length ≤ B := by
    intro L
    induction L with
    | nil =>
      intro t bh l h
      unfold runR at h
      cases h
      refine ⟨by split <;> simp, fun B hB ho x hx => ?_⟩
      split at hx
      · exact ho x hx
      · rcases List.mem_append.1 hx with hx | hx
        · exact ho x hx
        · rw [List.mem_singleton.1 hx]; simpa using hB
    | cons a r ih =>
      intro t bh l h
      unfold runR at h
      split at h
      · cases h
      · obtain ⟨i1, i2⟩ := ih _ _ _ h
        have so : (stepR t a r).out.length ≤ t.out.length + 2 := by
          unfold stepR
          split
          · simp only; split <;> simp
          · split <;> simp
        have sf : (stepR t a r).flds.length ≤ t.flds.length + 1 := by
          unfold stepR
          split
          · simp
          · split <;> simp
        refine ⟨by rw [List.length_cons]; omega, fun B hB ho => i2 B (by rw [List.length_cons] at hB; omega) (fun x hx => ?_)⟩
        have hB2 : t.flds.length ≤ B := by omega
        unfold stepR at hx
        split at hx
        · simp only at hx
          rcases List.mem_append.1 hx with hx | hx
          · split at hx
            · exact ho x hx
            · rcases List.mem_append.1 hx with hx | hx
              · exact ho x hx
              · rw [List.mem_singleton.1 hx]; exact hB2
          · rw [List.mem_singleton.1 hx]; exact Nat.zero_le _
        · split at hx
          · exact ho x hx
          · exact ho x hx
  obtain ⟨k1, k2⟩ := key _ _ _ _ h0.symm
  refine ⟨by simp only [rst0, List.length_nil] at k1; omega, k2 1000000 (by simp only [rst0, List.length_nil]; omega) (fun x hx => by cases hx)⟩
theorem at_errno (n : Int) : ACall Tryd.prog 13 [.one (errN n)] (ii .i64 (-9)) := by
  refine acall_of (rs := [2]) Tryd.func13 rfl rfl rfl teOk rfl ?_
  refine acode_seq ?_
  refine acode_region ?_
  refine acode_seq ?_
  refine acode_seq ?_
  refine acode_region ?_
  refine acode_seq ?_
  refine acode_region ?_
  refine And.intro (fun h => trivial) ?_
  refine And.intro (fun h => ⟨⟨h, trivial⟩, trivial⟩) ?_
  refine And.intro (by exact fun h => h) ?_
  refine acode_cond rfl (fun h14 => ?_) (fun h14 => ?_)
  · try simp only [Bool.and_eq_true, Bool.not_eq_true'] at h14
    try simp only [Int.toNat_natCast, dflt_sl, dflt_st, dflt_str, dflt_int, dflt_bool] at h14
    simp at h14
  · try simp only [Bool.not_eq_false', Bool.and_eq_false_iff] at h14
    try simp only [Int.toNat_natCast, dflt_sl, dflt_st, dflt_str, dflt_int, dflt_bool] at h14
    refine acode_skip ?_
    refine acode_seq ?_
    refine acode_region ?_
    refine acode_ret ?_
    rfl
end Q
end Ab
end Go.Proofs.YtlhjcdihbbdfnaaDoor
namespace Go.Proofs.YtlhjcdihbbdfnaaDoor
open Go.RowKit
namespace Ab
set_option maxRecDepth 100000
namespace Q
def badAt : Int → List Fld → Int × Int
  | _, [] => (-9, 0)
  | i, f :: r => if checkF f ≠ 0 then (i, checkF f) else badAt (i + 1) r
/-- Where fields aren't a stanza's, an error's number. -/
def chkR (l : List Fld) : Int × Int := if l = [] then (-9, 2) else if 40 < l.length then (-9, 11) else badAt 0 l
def chkA (l : List Fld) : C := if (chkR l).2 = 0 then .lit .nilIface else if (chkR l).1 = -9 then errN (chkR l).2 else errF (chkR l).1 (chkR l).2
theorem badAt_hit : ∀ (l : List Fld) (i : Nat) (k : Int), i < l.length → (∀ f ∈ l.take i, checkF f = 0) → checkF (l.getD i (ByteArray.empty, ByteArray.empty)) ≠ 0 → badAt k l = (k + i, checkF (l.getD i (ByteArray.empty, ByteArray.empty)))
  | [], i, k, h, _, _ => by simp at h
  | f :: r, 0, k, _, _, hb => by
    unfold badAt
    rw [if_pos (by simpa using hb)]
    simp
  | f :: r, i + 1, k, h, ht, hb => by
    unfold badAt
    rw [if_neg (by simpa using ht f (by simp))]
    rw [badAt_hit r i (k + 1) (by simpa using h) (fun g hg => ht g (by simp [hg])) (by simpa using hb)]
    simp only [List.getD_cons_succ]
    congr 1
    omega
theorem badAt_no : ∀ (l : List Fld) (k : Int), (∀ f ∈ l, checkF f = 0) → badAt k l = (-9, 0)
  | [], _, _ => rfl
  | f :: r, k, h => by
    unfold badAt
    rw [if_neg (by simpa using h f (by simp))]
    exact badAt_no r (k + 1) (fun g hg => h g (by simp [hg]))
theorem chkA_nil {l : List Fld} (h : chkR l = (-9, 0)) : chkA l = .lit .nilIface := by unfold chkA; rw [h]; rfl
theorem chkA_no {l : List Fld} {n : Int} (h : chkR l = (-9, n)) (hn : n ≠ 0) : chkA l = errN n := by unfold chkA; rw [h, if_neg hn, if_pos rfl]
theorem chkA_at {l : List Fld} {i n : Int} (h : chkR l = (i, n)) (hn : n ≠ 0) (hi : 0 ≤ i) : chkA l = errF i n := by unfold chkA; rw [h, if_neg hn, if_neg (by show ¬ i = -9; omega)]
theorem pcheck_c (l : List Fld) (hl : FldsOk l) : ACall Tryd.prog 22 [.one (.sl rFld l)] (.one (chkA l)) := by
  have hln := hl.1
  refine acall_of (rs := [2]) Tryd.func22 rfl rfl rfl teOk rfl ?_
  refine acode_seq ?_
  refine acode_region ?_
  refine acode_seq ?_
  refine acode_block ?_
  refine acode_seq ?_
  refine acode_region ?_
  intro l1_1
  try simp only [Int.toNat_natCast, dflt_sl, dflt_st, dflt_str, dflt_int, dflt_bool] at l1_1
  refine acode_cond rfl (fun h6 => ?_) (fun h6 => ?_)
  · try simp only [decide_eq_true_eq] at h6
    try simp only [Int.toNat_natCast, dflt_sl, dflt_st, dflt_str, dflt_int, dflt_bool] at h6
    refine acode_seq ?_
    refine acode_region ?_
    refine acode_ret ?_
    rw [chkA_no (l := l) (n := 2) (by unfold chkR; rw [if_pos (List.eq_nil_of_length_eq_zero (by omega))]) (by decide)]
    rfl
  · try simp only [decide_eq_false_iff_not] at h6
    try simp only [Int.toNat_natCast, dflt_sl, dflt_st, dflt_str, dflt_int, dflt_bool] at h6
    refine acode_seq ?_
    refine acode_region ?_
    intro l3_1
    try simp only [Int.toNat_natCast, dflt_sl, dflt_st, dflt_str, dflt_int, dflt_bool] at l3_1
    refine acode_cond rfl (fun h11 => ?_) (fun h11 => ?_)
    · try simp only [decide_eq_true_eq] at h11
      try simp only [Int.toNat_natCast, dflt_sl, dflt_st, dflt_str, dflt_int, dflt_bool] at h11
      refine acode_seq ?_
      refine acode_region ?_
      refine acode_ret ?_
      rw [chkA_no (l := l) (n := 11) (by unfold chkR; rw [if_neg (fun e => h6 (by rw [e]; rfl)), if_pos (by omega)]) (by decide)]
      rfl
    · try simp only [decide_eq_false_iff_not, Int.not_lt] at h11
      try simp only [Int.toNat_natCast, dflt_sl, dflt_st, dflt_str, dflt_int, dflt_bool] at h11
      refine acode_skip ?_
      refine acode_seq ?_
      refine acode_seq ?_
      refine acode_region ?_
      intro l5_1
      try simp only [Int.toNat_natCast, dflt_sl, dflt_st, dflt_str, dflt_int, dflt_bool] at l5_1
      refine acode_block ?_
      refine acode_loopP (fun (i : Nat) => i ≤ l.length ∧ ∀ f ∈ l.take i, checkF f = 0) (fun (i : Nat) => [(16, .one (.sl rFld l)), (17, ii .i64 l.length), (18, ii .i64 i)]) (fun (i : Nat) => []) 0 (fun (i : Nat) => l.length - i) 0 (⟨Nat.zero_le _, by simp⟩) (le_of ⟨rfl, rfl, rfl⟩ trivial rfl) ?_
      intro i hI1
      obtain ⟨hi, hall⟩ := hI1
      refine acode_seq ?_
      refine acode_region ?_
      refine acode_seq ?_
      refine acode_cond rfl (fun h19 => ?_) (fun h19 => ?_)
      · try simp only [decide_eq_true_eq] at h19
        try simp only [Int.toNat_natCast, dflt_sl, dflt_st, dflt_str, dflt_int, dflt_bool] at h19
        have hlt : i < l.length := (by omega)
        have hm := hl.2 _ (getD_mem hlt (ByteArray.empty, ByteArray.empty))
        have hne : l ≠ [] := (fun e => by rw [e] at hlt; simp at hlt)
        refine acode_skip ?_
        refine acode_seq ?_
        refine acode_block ?_
        refine acode_seq ?_
        refine acode_region ?_
        refine And.intro (by first | omega | assumption | decide | (simp only [Int.toNat_natCast, dflt_sl, dflt_st, dflt_str, dflt_int, dflt_bool]; omega) | (simp <;> omega)) ?_
        refine acode_seq ?_
        rcases check_cases (l.getD i (ByteArray.empty, ByteArray.empty)) with hc|hc|hc
        · refine acode_region ?_
          refine Or.inl ?_
          refine And.intro (rfl) ?_
          refine Exists.intro _ (And.intro (check_v (l.getD i (ByteArray.empty, ByteArray.empty)) _ (by omega) hc) ?_)
          refine acode_seq ?_
          refine acode_region ?_
          refine acode_cond rfl (fun h26 => ?_) (fun h26 => ?_)
          · skip
            refine acode_seq ?_
            refine acode_region ?_
            refine acode_ret ?_
            rw [chkA_at (l := l) (i := i) (n := 5) (by unfold chkR; rw [if_neg hne, if_neg (by omega), badAt_hit l i 0 hlt hall (by rw [hc]; decide), hc]; simp) (by decide) (by omega)]
            rfl
          · try simp only [decide_eq_true_eq, decide_eq_false_iff_not, Bool.and_eq_true, Bool.not_eq_true', Bool.not_eq_false', Bool.or_eq_false_iff, Bool.or_eq_true, Bool.and_eq_false_iff, Int.not_lt, Int.not_le] at h26
            try simp only [Int.toNat_natCast, dflt_sl, dflt_st, dflt_str, dflt_int, dflt_bool] at h26
            cases h26
        · refine acode_region ?_
          refine Or.inl ?_
          refine And.intro (rfl) ?_
          refine Exists.intro _ (And.intro (check_v (l.getD i (ByteArray.empty, ByteArray.empty)) _ (by omega) hc) ?_)
          refine acode_seq ?_
          refine acode_region ?_
          refine acode_cond rfl (fun h26 => ?_) (fun h26 => ?_)
          · skip
            refine acode_seq ?_
            refine acode_region ?_
            refine acode_ret ?_
            rw [chkA_at (l := l) (i := i) (n := 6) (by unfold chkR; rw [if_neg hne, if_neg (by omega), badAt_hit l i 0 hlt hall (by rw [hc]; decide), hc]; simp) (by decide) (by omega)]
            rfl
          · try simp only [decide_eq_true_eq, decide_eq_false_iff_not, Bool.and_eq_true, Bool.not_eq_true', Bool.not_eq_false', Bool.or_eq_false_iff, Bool.or_eq_true, Bool.and_eq_false_iff, Int.not_lt, Int.not_le] at h26
            try simp only [Int.toNat_natCast, dflt_sl, dflt_st, dflt_str, dflt_int, dflt_bool] at h26
            cases h26
        · refine acode_region ?_
          refine Or.inl ?_
          refine And.intro (rfl) ?_
          refine Exists.intro _ (And.intro (check_v (l.getD i (ByteArray.empty, ByteArray.empty)) _ (by omega) hc) ?_)
          refine acode_seq ?_
          refine acode_region ?_
          refine acode_cond rfl (fun h26 => ?_) (fun h26 => ?_)
          · try simp only [Bool.not_eq_true'] at h26
            try simp only [Int.toNat_natCast, dflt_sl, dflt_st, dflt_str, dflt_int, dflt_bool] at h26
            cases h26
          · try simp only [Bool.not_eq_false'] at h26
            try simp only [Int.toNat_natCast, dflt_sl, dflt_st, dflt_str, dflt_int, dflt_bool] at h26
            refine acode_skip ?_
            refine acode_region ?_
            refine And.intro (by first | omega | assumption | decide | (simp only [Int.toNat_natCast, dflt_sl, dflt_st, dflt_str, dflt_int, dflt_bool]; omega) | (simp <;> omega)) ?_
            exact ⟨i + 1, ⟨by omega, by rw [← take_snoc (ByteArray.empty, ByteArray.empty) hlt]; intro f hf; rcases List.mem_append.1 hf with h|h; exact hall f h; rw [List.mem_singleton.1 h]; exact hc⟩, by first | omega | (simp <;> omega), le_of ⟨rfl, rfl, (ii_eq (by omega))⟩ trivial rfl⟩
      · try simp only [decide_eq_false_iff_not, Int.not_lt] at h19
        try simp only [Int.toNat_natCast, dflt_sl, dflt_st, dflt_str, dflt_int, dflt_bool] at h19
        refine acode_exit ?_
        refine acode_seq ?_
        refine acode_region ?_
        refine acode_ret ?_
        rw [List.take_of_length_le (by omega)] at hall
        rw [chkA_nil (by unfold chkR; rw [if_neg (fun e => h6 (by rw [e]; rfl)), if_neg (by omega)]; exact badAt_no l 0 hall)]
        rfl
theorem badAt_zero : ∀ (l : List Fld) (k : Int), (badAt k l).2 = 0 → (∀ f ∈ l, checkF f = 0)
  | [], _, _, f, hf => by cases hf
  | g :: r, k, h, f, hf => by
    unfold badAt at h
    split at h
    · rename_i hg; exact absurd h hg
    · rename_i hg
      rcases List.mem_cons.1 hf with rfl | hf
      · exact Classical.not_not.1 hg
      · exact badAt_zero r (k + 1) h f hf
theorem chk_good {l : List Fld} (h : (chkR l).2 = 0) : GoodS l ∧ badF l = 0 ∧ chkA l = .lit .nilIface := by
  have hA : chkA l = .lit .nilIface := by unfold chkA; rw [if_pos h]
  unfold chkR at h
  split at h
  · cases h
  · rename_i h0
    split at h
    · cases h
    · rename_i h4
      have := badAt_zero l 0 h
      exact ⟨⟨h0, by omega, this⟩, badF_ok this, hA⟩
theorem chk_bad {l : List Fld} (h : (chkR l).2 ≠ 0) : ∃ e, chkA l = e ∧ ((∃ n, n ≠ 0 ∧ e = errN n ∧ chkR l = (-9, n)) ∨ ∃ i n, n ≠ 0 ∧ e = errF i n ∧ chkR l = (i, n)) := by
  refine ⟨_, rfl, ?_⟩
  unfold chkA
  rw [if_neg h]
  by_cases h9 : (chkR l).1 = -9
  · rw [if_pos h9]
    exact .inl ⟨_, h, rfl, Prod.ext h9 rfl⟩
  · rw [if_neg h9]
    exact .inr ⟨_, _, h, rfl, rfl⟩
theorem pstanza_ok {l : List Fld} (hl : FldsOk l) (h : (chkR l).2 = 0) : ACall Tryd.prog 20 [.one (.sl rFld l)] (.tup [(false, [.lit (.string (bytes (foldL l)))]), (false, [.lit .nilIface])]) := by
  obtain ⟨h1, h2, h3⟩ := chk_good h
  have hc := pcheck_c l hl
  rw [h3] at hc
  refine acall_of (rs := [2, 3]) Tryd.func20 rfl rfl rfl teOk rfl ?_
  refine acode_seq ?_
  refine acode_region ?_
  refine acode_seq ?_
  refine acode_seq ?_
  refine acode_region ?_
  refine Or.inl ?_
  refine And.intro (rfl) ?_
  refine Exists.intro _ (And.intro (hc) ?_)
  refine acode_seq ?_
  refine acode_region ?_
  refine acode_cond rfl (fun h8 => ?_) (fun h8 => ?_)
  · try simp only [Bool.not_eq_true'] at h8
    try simp only [Int.toNat_natCast, dflt_sl, dflt_st, dflt_str, dflt_int, dflt_bool] at h8
    cases h8
  · try simp only [Bool.not_eq_false'] at h8
    try simp only [Int.toNat_natCast, dflt_sl, dflt_st, dflt_str, dflt_int, dflt_bool] at h8
    refine acode_skip ?_
    refine acode_seq ?_
    refine acode_region ?_
    refine Or.inl ?_
    refine And.intro (rfl) ?_
    refine Exists.intro _ (And.intro (fold_yes hl h2) ?_)
    refine acode_ret ?_
    rfl
theorem pstanza_err {l : List Fld} (hl : FldsOk l) (h : (chkR l).2 ≠ 0) : ACall Tryd.prog 20 [.one (.sl rFld l)] (.tup [(false, [.lit (.string ⟨#[]⟩)]), (false, [chkA l])]) := by
  have hc := pcheck_c l hl
  obtain ⟨e, he, hs⟩ := chk_bad h
  rw [he] at hc ⊢
  rcases hs with ⟨n, hn, rfl, _⟩ | ⟨i, n, hn, rfl, _⟩
  ·
    refine acall_of (rs := [2, 3]) Tryd.func20 rfl rfl rfl teOk rfl ?_
    refine acode_seq ?_
    refine acode_region ?_
    refine acode_seq ?_
    refine acode_seq ?_
    refine acode_region ?_
    refine Or.inl ?_
    refine And.intro (rfl) ?_
    refine Exists.intro _ (And.intro (hc) ?_)
    refine acode_seq ?_
    refine acode_region ?_
    refine acode_cond rfl (fun h8 => ?_) (fun h8 => ?_)
    · skip
      refine acode_seq ?_
      refine acode_region ?_
      refine acode_ret ?_
      rfl
    · try simp only [decide_eq_true_eq, decide_eq_false_iff_not, Bool.and_eq_true, Bool.not_eq_true', Bool.not_eq_false', Bool.or_eq_false_iff, Bool.or_eq_true, Bool.and_eq_false_iff, Int.not_lt, Int.not_le] at h8
      try simp only [Int.toNat_natCast, dflt_sl, dflt_st, dflt_str, dflt_int, dflt_bool] at h8
      cases h8
  ·
    refine acall_of (rs := [2, 3]) Tryd.func20 rfl rfl rfl teOk rfl ?_
    refine acode_seq ?_
    refine acode_region ?_
    refine acode_seq ?_
    refine acode_seq ?_
    refine acode_region ?_
    refine Or.inl ?_
    refine And.intro (rfl) ?_
    refine Exists.intro _ (And.intro (hc) ?_)
    refine acode_seq ?_
    refine acode_region ?_
    refine acode_cond rfl (fun h8 => ?_) (fun h8 => ?_)
    · skip
      refine acode_seq ?_
      refine acode_region ?_
      refine acode_ret ?_
      rfl
    · try simp only [decide_eq_true_eq, decide_eq_false_iff_not, Bool.and_eq_true, Bool.not_eq_true', Bool.not_eq_false', Bool.or_eq_false_iff, Bool.or_eq_true, Bool.and_eq_false_iff, Int.not_lt, Int.not_le] at h8
      try simp only [Int.toNat_natCast, dflt_sl, dflt_st, dflt_str, dflt_int, dflt_bool] at h8
      cases h8
theorem foldG_len {a : List Fld} (h : GoodS a) : (foldL a).length ≤ 40 * 5000000 :=
  Nat.le_trans (flat_le textL 5000000 a fun f hf => (text_len (h.2.2 f hf)).1) (Nat.mul_le_mul_right _ h.2.1)
theorem map_foldB (l : List (List Fld)) : (l.map fun a => bytes (foldL a)).map (·.data.toList) = l.map foldL := by
  rw [List.map_map]
  exact List.map_congr_left fun a _ => bytes_list _
theorem joinG_len {l : List (List Fld)} (h : ∀ a ∈ l, GoodS a) (hl : l.length ≤ 1000) : (Lib.join ((l.map fun a => bytes (foldL a)).map (·.data.toList)) [10]).length ≤ 140737488355328 := by
  rw [map_foldB]
  refine Nat.le_trans (joinL_len 10 _) ?_
  rw [List.map_map, List.length_map]
  have h1 : ∀ m : List (List Fld), (∀ a ∈ m, GoodS a) → (m.map ((·.length) ∘ foldL)).sum ≤ m.length * 200000000 := by
    intro m
    induction m with
    | nil => intro _; simp
    | cons a r ih =>
      intro hm
      have h2 := ih fun b hb => hm b (List.mem_cons_of_mem _ hb)
      have h3 := foldG_len (hm a List.mem_cons_self)
      simp only [List.map_cons, List.sum_cons, List.length_cons, Function.comp_apply]
      omega
  have := h1 l h
  omega
theorem ptext_ok {l : List (List Fld)} (hl : l.length ≤ 1000) (hf : ∀ a ∈ l, FldsOk a) (h : ∀ a ∈ l, (chkR a).2 = 0) : ACall Tryd.prog 10 [.one (.sl rRow l)] (.tup [(false, [.lit (.string (bytes (Lib.join (l.map foldL) [10])))]), (false, [.lit .nilIface])]) := by
  have hg : ∀ a ∈ l, GoodS a := fun a ha => (chk_good (h a ha)).1
  have hjl := joinG_len hg hl
  have hj := join_c (l.map fun a => bytes (foldL a)) ⟨#[10]⟩ (by rw [List.length_map]; omega) hjl
  rw [map_foldB] at hj
  refine acall_of (rs := [2, 3]) Tryd.func10 rfl rfl rfl teOk rfl ?_
  refine acode_seq ?_
  refine acode_region ?_
  refine acode_seq ?_
  refine acode_region ?_
  refine acode_seq ?_
  refine acode_seq ?_
  refine acode_nilvec 4 9 .str rfl ?_
  refine acode_region ?_
  intro l2_1
  try simp only [Int.toNat_natCast, dflt_sl, dflt_st, dflt_str, dflt_int, dflt_bool] at l2_1
  refine acode_block ?_
  refine acode_loopP (fun (i : Nat) => i ≤ l.length) (fun (i : Nat) => [(4, .one (.vec 0)), (9, .one (.sl rRow l)), (10, ii .i64 l.length), (11, ii .i64 i)]) (fun (i : Nat) => [(0, .vec 9 .str ((l.take i).map fun a => bytes (foldL a)))]) 1 (fun (i : Nat) => l.length - i) 0 (Nat.zero_le _) (le_of ⟨rfl, rfl, rfl, rfl⟩ rfl rfl) ?_
  intro i hI0
  refine acode_seq ?_
  refine acode_region ?_
  refine acode_seq ?_
  refine acode_cond rfl (fun h12 => ?_) (fun h12 => ?_)
  · try simp only [decide_eq_true_eq] at h12
    try simp only [Int.toNat_natCast, dflt_sl, dflt_st, dflt_str, dflt_int, dflt_bool] at h12
    have hil : i < l.length := (by omega)
    have hm := getD_mem hil ([] : List Fld)
    refine acode_skip ?_
    refine acode_seq ?_
    refine acode_block ?_
    refine acode_seq ?_
    refine acode_region ?_
    refine And.intro (by first | omega | assumption | decide | (simp only [Int.toNat_natCast, dflt_sl, dflt_st, dflt_str, dflt_int, dflt_bool]; omega) | (simp <;> omega)) ?_
    refine acode_seq ?_
    refine acode_region ?_
    refine Or.inl ?_
    refine And.intro (rfl) ?_
    refine Exists.intro _ (And.intro (pstanza_ok (hf _ hm) (h _ hm)) ?_)
    refine acode_seq ?_
    refine acode_seq ?_
    refine acode_region ?_
    refine acode_cond rfl (fun h21 => ?_) (fun h21 => ?_)
    · try simp only [Bool.not_eq_true'] at h21
      try simp only [Int.toNat_natCast, dflt_sl, dflt_st, dflt_str, dflt_int, dflt_bool] at h21
      cases h21
    · try simp only [Bool.not_eq_false'] at h21
      try simp only [Int.toNat_natCast, dflt_sl, dflt_st, dflt_str, dflt_int, dflt_bool] at h21
      refine acode_skip ?_
      refine acode_region ?_
      refine And.intro (by first | exact app_le (by first | omega | (simp only [List.length_cons, List.length_nil, List.length_map, List.length_take]; omega) | (simp; omega)) (by decide) | omega | assumption | decide | (simp only [Int.toNat_natCast, dflt_sl, dflt_st, dflt_str, dflt_int, dflt_bool]; omega) | (simp <;> omega)) ?_
      refine acode_region ?_
      refine And.intro (by first | omega | assumption | decide | (simp only [Int.toNat_natCast, dflt_sl, dflt_st, dflt_str, dflt_int, dflt_bool]; omega) | (simp <;> omega)) ?_
      exact ⟨i + 1, by omega, by first | omega | (simp <;> omega), le_of ⟨rfl, rfl, rfl, (ii_eq (by omega))⟩ (vec_eq (by rw [← take_snoc ([] : List Fld) hil, List.map_append]; rfl)) rfl⟩
  · try simp only [decide_eq_false_iff_not, Int.not_lt] at h12
    try simp only [Int.toNat_natCast, dflt_sl, dflt_st, dflt_str, dflt_int, dflt_bool] at h12
    refine acode_exit ?_
    refine acode_seq ?_
    rw [List.take_of_length_le (by omega)]
    refine acode_region ?_
    refine Or.inl ?_
    refine And.intro (rfl) ?_
    refine Exists.intro _ (And.intro (hj) ?_)
    refine acode_ret ?_
    rfl
theorem ptext_err {l : List (List Fld)} (hl : l.length ≤ 1000) (hf : ∀ a ∈ l, FldsOk a) {k : Nat} (hk : k < l.length) (h : ∀ a ∈ l.take k, (chkR a).2 = 0) (hb : (chkR (l.getD k ([] : List Fld))).2 ≠ 0) : ACall Tryd.prog 10 [.one (.sl rRow l)] (.tup [(false, [.lit (.string ⟨#[]⟩)]), (false, [chkA (l.getD k ([] : List Fld))])]) := by
  have hne : ∃ e, chkA (l.getD k ([] : List Fld)) = e ∧ ((∃ n, e = errN n) ∨ ∃ i n, e = errF i n) := by
    obtain ⟨e, he, hs⟩ := chk_bad hb
    refine ⟨e, he, ?_⟩
    rcases hs with ⟨n, _, h1, _⟩ | ⟨i, n, _, h1, _⟩
    · exact .inl ⟨n, h1⟩
    · exact .inr ⟨i, n, h1⟩
  obtain ⟨e, he, hs⟩ := hne
  have hbad := pstanza_err (hf _ (getD_mem hk ([] : List Fld))) hb
  rw [he] at hbad ⊢
  refine acall_of (rs := [2, 3]) Tryd.func10 rfl rfl rfl teOk rfl ?_
  refine acode_seq ?_
  refine acode_region ?_
  refine acode_seq ?_
  refine acode_region ?_
  refine acode_seq ?_
  refine acode_seq ?_
  refine acode_nilvec 4 9 .str rfl ?_
  refine acode_region ?_
  intro l2_1
  try simp only [Int.toNat_natCast, dflt_sl, dflt_st, dflt_str, dflt_int, dflt_bool] at l2_1
  refine acode_block ?_
  refine acode_loopP (fun (i : Nat) => i ≤ k) (fun (i : Nat) => [(4, .one (.vec 0)), (9, .one (.sl rRow l)), (10, ii .i64 l.length), (11, ii .i64 i)]) (fun (i : Nat) => [(0, .vec 9 .str ((l.take i).map fun a => bytes (foldL a)))]) 1 (fun (i : Nat) => l.length - i) 0 (Nat.zero_le _) (le_of ⟨rfl, rfl, rfl, rfl⟩ rfl rfl) ?_
  intro i hI0
  refine acode_seq ?_
  refine acode_region ?_
  refine acode_seq ?_
  refine acode_cond rfl (fun h12 => ?_) (fun h12 => ?_)
  · try simp only [decide_eq_true_eq] at h12
    try simp only [Int.toNat_natCast, dflt_sl, dflt_st, dflt_str, dflt_int, dflt_bool] at h12
    have hil : i < l.length := (by omega)
    have hm := getD_mem hil ([] : List Fld)
    refine acode_skip ?_
    refine acode_seq ?_
    refine acode_block ?_
    refine acode_seq ?_
    refine acode_region ?_
    refine And.intro (by first | omega | assumption | decide | (simp only [Int.toNat_natCast, dflt_sl, dflt_st, dflt_str, dflt_int, dflt_bool]; omega) | (simp <;> omega)) ?_
    refine acode_seq ?_
    rcases (show (i = k ∧ ∃ n, e = errN n) ∨ (i = k ∧ ∃ a n, e = errF a n) ∨ i ≠ k from by by_cases hik : i = k; exact hs.elim (fun h => .inl ⟨hik, h⟩) (fun h => .inr (.inl ⟨hik, h⟩)); exact .inr (.inr hik)) with ⟨hik, n, rfl⟩|⟨hik, a, n, rfl⟩|hik
    · refine acode_region ?_
      refine Or.inl ?_
      refine And.intro (rfl) ?_
      refine Exists.intro _ (And.intro ((by rw [← hik] at hbad; exact hbad)) ?_)
      refine acode_seq ?_
      refine acode_seq ?_
      refine acode_region ?_
      refine acode_cond rfl (fun h21 => ?_) (fun h21 => ?_)
      · skip
        refine acode_seq ?_
        refine acode_region ?_
        refine acode_ret ?_
        rfl
      · try simp only [decide_eq_true_eq, decide_eq_false_iff_not, Bool.and_eq_true, Bool.not_eq_true', Bool.not_eq_false', Bool.or_eq_false_iff, Bool.or_eq_true, Bool.and_eq_false_iff, Int.not_lt, Int.not_le] at h21
        try simp only [Int.toNat_natCast, dflt_sl, dflt_st, dflt_str, dflt_int, dflt_bool] at h21
        cases h21
    · refine acode_region ?_
      refine Or.inl ?_
      refine And.intro (rfl) ?_
      refine Exists.intro _ (And.intro ((by rw [← hik] at hbad; exact hbad)) ?_)
      refine acode_seq ?_
      refine acode_seq ?_
      refine acode_region ?_
      refine acode_cond rfl (fun h21 => ?_) (fun h21 => ?_)
      · skip
        refine acode_seq ?_
        refine acode_region ?_
        refine acode_ret ?_
        rfl
      · try simp only [decide_eq_true_eq, decide_eq_false_iff_not, Bool.and_eq_true, Bool.not_eq_true', Bool.not_eq_false', Bool.or_eq_false_iff, Bool.or_eq_true, Bool.and_eq_false_iff, Int.not_lt, Int.not_le] at h21
        try simp only [Int.toNat_natCast, dflt_sl, dflt_st, dflt_str, dflt_int, dflt_bool] at h21
        cases h21
    · refine acode_region ?_
      refine Or.inl ?_
      refine And.intro (rfl) ?_
      refine Exists.intro _ (And.intro (pstanza_ok (hf _ hm) (h _ (by rw [List.mem_take_iff_getElem]; exact ⟨i, by omega, getD_get hil ([] : List Fld)⟩))) ?_)
      refine acode_seq ?_
      refine acode_seq ?_
      refine acode_region ?_
      refine acode_cond rfl (fun h21 => ?_) (fun h21 => ?_)
      · try simp only [Bool.not_eq_true'] at h21
        try simp only [Int.toNat_natCast, dflt_sl, dflt_st, dflt_str, dflt_int, dflt_bool] at h21
        cases h21
      · try simp only [Bool.not_eq_false'] at h21
        try simp only [Int.toNat_natCast, dflt_sl, dflt_st, dflt_str, dflt_int, dflt_bool] at h21
        refine acode_skip ?_
        refine acode_region ?_
        refine And.intro (by first | exact app_le (by first | omega | (simp only [List.length_cons, List.length_nil, List.length_map, List.length_take]; omega) | (simp; omega)) (by decide) | omega | assumption | decide | (simp only [Int.toNat_natCast, dflt_sl, dflt_st, dflt_str, dflt_int, dflt_bool]; omega) | (simp <;> omega)) ?_
        refine acode_region ?_
        refine And.intro (by first | omega | assumption | decide | (simp only [Int.toNat_natCast, dflt_sl, dflt_st, dflt_str, dflt_int, dflt_bool]; omega) | (simp <;> omega)) ?_
        exact ⟨i + 1, by omega, by first | omega | (simp <;> omega), le_of ⟨rfl, rfl, rfl, (ii_eq (by omega))⟩ (vec_eq (by rw [← take_snoc ([] : List Fld) hil, List.map_append]; rfl)) rfl⟩
  · try simp only [decide_eq_false_iff_not, Int.not_lt] at h12
    try simp only [Int.toNat_natCast, dflt_sl, dflt_st, dflt_str, dflt_int, dflt_bool] at h12
    omega
end Q
end Ab
end Go.Proofs.YtlhjcdihbbdfnaaDoor
namespace Go.Proofs.YtlhjcdihbbdfnaaDoor
open Go.RowKit
namespace Ab
set_option maxRecDepth 100000
namespace Q
/-- Items put apart: behind an item of this kind (1: a blank one, or none). -/
def apartK (k : Int) : List Itm → List Itm
  | [] => []
  | x :: r => if k ≠ 1 ∧ x.1 ≠ 1 then (1, ⟨#[10]⟩, []) :: x :: apartK x.1 r else x :: apartK x.1 r
def apartL (l : List Itm) : List Itm := apartK 1 l
/-- No two neighbours that aren't blank, behind an item of this kind; the last one's kind. -/
def altK (k : Int) : List Itm → Prop
  | [] => True
  | x :: r => (k = 1 ∨ x.1 = 1) ∧ altK x.1 r
def lastK (k : Int) : List Itm → Int
  | [] => k
  | x :: r => lastK x.1 r
theorem apart_alt : ∀ (l : List Itm) (k : Int), altK k l → apartK k l = l
  | [], _, _ => rfl
  | x :: r, k, h => by
    unfold apartK
    rw [if_neg (fun e => h.1.elim e.1 e.2), apart_alt r x.1 h.2]
theorem altK_app : ∀ (l m : List Itm) (k : Int), altK k (l ++ m) ↔ altK k l ∧ altK (lastK k l) m
  | [], m, k => by simp [altK, lastK]
  | x :: r, m, k => by
    simp only [List.cons_append, altK, lastK, altK_app r m x.1, and_assoc]
theorem lastK_app : ∀ (l m : List Itm) (k : Int), lastK k (l ++ m) = lastK (lastK k l) m
  | [], _, _ => rfl
  | x :: r, m, k => by simp only [List.cons_append, lastK, lastK_app r m x.1]
def AltP (p : PSt) : Prop := altK 1 p.its ∧ lastK 1 p.its = 1
theorem flush_alt {p q : PSt} (h : flushS p = .inr q) (hp : AltP p) : AltP q := by
  unfold AltP
  rw [(flush_same h).1]
  exact hp
theorem end_alt {p q : PSt} (h : endS p = .inr q) (hp : AltP p) : altK 1 q.its := by
  unfold endS at h
  cases e : flushS p with
  | inl x => rw [e] at h; cases h
  | inr r =>
    rw [e] at h
    cases h
    have hr := flush_alt e hp
    unfold closeS
    split
    · exact hr.1
    · refine (altK_app _ _ _).2 ⟨hr.1, .inl hr.2, trivial⟩
theorem take_alt {p q : PSt} {l : Lne} (h : takeS p l = .inr q) (hp : AltP p) : AltP q := by
  unfold takeS at h
  cases e : aheadS p l (kindL (ls l.2.2.1)) with
  | inl x => rw [e] at h; cases h
  | inr r =>
    rw [e] at h
    simp only at h
    by_cases h1 : kindL (ls l.2.2.1) = 1
    · have hr : altK 1 r.its := by
        unfold aheadS at e
        rw [h1, if_neg (by decide), if_pos rfl] at e
        exact end_alt e hp
      unfold lineS at h
      split at h
      · cases h
      · cases h
        exact ⟨(altK_app _ _ _).2 ⟨hr, .inr rfl, trivial⟩, by rw [lastK_app]; rfl⟩
    · have hr : AltP r := by
        unfold aheadS at e
        split at e
        · split at e
          · cases e
          · split at e
            · cases e; exact hp
            · exact flush_alt e hp
        · exact flush_alt e hp
      unfold lineS at h
      split at h
      · cases h
      · split at h <;> (cases h; exact hr)
theorem run_alt : ∀ (L : List Lne) (p q : PSt), runS p L = .inr q → AltP p → AltP q
  | [], p, q, h, hp => by cases h; exact hp
  | l :: r, p, q, h, hp => by
    simp only [runS] at h
    cases e : takeS p l with
    | inl x => rw [e] at h; cases h
    | inr p1 =>
      rw [e] at h
      exact run_alt r p1 q h (take_alt e hp)
theorem parse_alt {s : ByteArray} {l : List Itm} (hp : parseS s = .inr l) : apartL l = l := by
  unfold parseS at hp
  cases e : runS pst0 (linesT s) with
  | inl x => rw [e] at hp; cases hp
  | inr p =>
    rw [e] at hp
    simp only at hp
    cases e2 : endS p with
    | inl x => rw [e2] at hp; cases hp
    | inr q =>
      rw [e2] at hp
      cases hp
      exact apart_alt _ _ (end_alt e2 (run_alt _ _ _ e ⟨trivial, rfl⟩))
end Q
end Ab
end Go.Proofs.YtlhjcdihbbdfnaaDoor
namespace Go.Proofs.YtlhjcdihbbdfnaaDoor
open Go.RowKit
namespace Ab
set_option maxRecDepth 100000
namespace Q
theorem clone_c (l : List Fld) (hl : l.length ≤ 1000000) : ACall Tryd.prog 43 [.one (.sl rFld l)] (.one (.sl rFld l)) := by
  refine acall_of (rs := [2]) Tryd.func43 rfl rfl rfl teOk rfl ?_
  refine acode_seq ?_
  refine acode_region ?_
  refine acode_seq ?_
  refine acode_seq ?_
  refine acode_isnil [_] _ (R := rFld) (xs := l) rfl rfl rfl rfl (e := 68) rfl rfl ?_
  refine ⟨rfl, fun b hb => ?_⟩
  refine acode_cond rfl (fun h4 => ?_) (fun h4 => ?_)
  · have hl0 := hb h4
    subst hl0
    refine acode_seq ?_
    refine acode_region ?_
    refine acode_nilvec 2 68 rFld rfl ?_
    refine acode_ret ?_
    rfl
  · refine acode_skip ?_
    refine acode_seq ?_
    refine acode_region ?_
    refine And.intro (by first | exact app_le (show l.length ≤ 1000000000 by omega) (by decide) | exact app_le (show 0 + l.length ≤ 1000000000 by omega) (by decide)) ?_
    refine acode_ret ?_
    rfl
theorem copied_c (x : Itm) (hx : x.2.2.length ≤ 1000000) : ACall Tryd.prog 46 [.agg (toL rItm x)] (.agg (toL rItm x)) := by
  refine acall_ofc (rs := [.cell 2 43]) Tryd.func46 rfl rfl rfl teOk rfl ?_
  refine acode_seq ?_
  refine acode_region ?_
  refine acode_seq ?_
  refine acode_region ?_
  refine Or.inl ?_
  refine And.intro (rfl) ?_
  refine Exists.intro _ (And.intro (clone_c x.2.2 hx) ?_)
  refine acode_seq ?_
  refine acode_region ?_
  refine acode_ret ?_
  rfl
theorem render_c (l m : List Itm) (hm : m.length ≤ 1000000) (hs : szI m ≤ 1000000) (ha : ACall Tryd.prog 28 [.one (.sl rItm l)] (.one (.sl rItm m))) : ACall Tryd.prog 27 [.one (.sl rItm l)] (is (bytes (rawsL m))) := by
  refine acall_of (rs := [2]) Tryd.func27 rfl rfl rfl teOk rfl ?_
  refine acode_seq ?_
  refine acode_region ?_
  refine acode_seq ?_
  refine acode_region ?_
  refine Or.inl ?_
  refine And.intro (rfl) ?_
  refine Exists.intro _ (And.intro (ha) ?_)
  refine Or.inl ?_
  refine And.intro (rfl) ?_
  refine Exists.intro _ (And.intro (joinI_c m hm hs) ?_)
  refine acode_ret ?_
  rfl
theorem apartK_snoc : ∀ (l : List Itm) (k : Int) (x : Itm), apartK k (l ++ [x]) = apartK k l ++ (if lastK k l ≠ 1 ∧ x.1 ≠ 1 then [(1, ⟨#[10]⟩, []), x] else [x])
  | [], k, x => by
    unfold lastK
    rw [List.nil_append]
    unfold apartK
    by_cases h : k ≠ 1 ∧ x.1 ≠ 1
    · rw [if_pos h, if_pos h]; rfl
    · rw [if_neg h, if_neg h]; rfl
  | y :: r, k, x => by
    have ih := apartK_snoc r y.1 x
    rw [List.cons_append]
    unfold apartK lastK
    rw [ih]
    by_cases h : k ≠ 1 ∧ y.1 ≠ 1
    · rw [if_pos h, if_pos h]; rfl
    · rw [if_neg h, if_neg h]; rfl
theorem lastK_take {l : List Itm} {i : Nat} (h : i < l.length) (k : Int) : lastK k (l.take (i + 1)) = (l.getD i ((0 : Int), ByteArray.empty, ([] : List Fld))).1 := by
  rw [List.take_succ_eq_append_getElem h, lastK_app, getD_get h ((0 : Int), ByteArray.empty, ([] : List Fld))]
  rfl
theorem apart_snoc (l : List Itm) (i : Nat) (h : i < l.length) : apartL (l.take (i + 1)) = apartL (l.take i) ++ (if (0 < i ∧ (l.getD (i - 1) ((0 : Int), ByteArray.empty, ([] : List Fld))).1 ≠ 1) ∧ (l.getD i ((0 : Int), ByteArray.empty, ([] : List Fld))).1 ≠ 1 then [(1, ⟨#[10]⟩, []), l.getD i ((0 : Int), ByteArray.empty, ([] : List Fld))] else [l.getD i ((0 : Int), ByteArray.empty, ([] : List Fld))]) := by
  unfold apartL
  rw [List.take_succ_eq_append_getElem h, apartK_snoc, getD_get h ((0 : Int), ByteArray.empty, ([] : List Fld))]
  have e : lastK 1 (l.take i) ≠ 1 ↔ (0 < i ∧ (l.getD (i - 1) ((0 : Int), ByteArray.empty, ([] : List Fld))).1 ≠ 1) := by
    cases i with
    | zero => simp [lastK]
    | succ i => rw [lastK_take (by omega), Nat.add_sub_cancel]; simp
  congr 1
  by_cases hh : lastK 1 (l.take i) ≠ 1 ∧ (l.getD i ((0 : Int), ByteArray.empty, ([] : List Fld))).1 ≠ 1
  · rw [if_pos hh, if_pos ⟨e.1 hh.1, hh.2⟩]
  · rw [if_neg hh, if_neg (fun g => hh ⟨e.2 g.1, g.2⟩)]
theorem apartK_len : ∀ (l : List Itm) (k : Int), (apartK k l).length ≤ 2 * l.length
  | [], _ => by simp [apartK]
  | x :: r, k => by
    have := apartK_len r x.1
    unfold apartK
    split <;> (simp only [List.length_cons]; omega)
theorem apart_c (l : List Itm) (hl : l.length ≤ 1000000) (hf : ∀ x ∈ l, x.2.2.length ≤ 1000000) : ACall Tryd.prog 28 [.one (.sl rItm l)] (.one (.sl rItm (apartL l))) := by
  refine acall_of (rs := [2]) Tryd.func28 rfl rfl rfl teOk rfl ?_
  refine acode_seq ?_
  refine acode_region ?_
  refine acode_seq ?_
  refine acode_region ?_
  refine acode_seq ?_
  refine acode_seq ?_
  refine acode_nilvec 3 43 rItm rfl ?_
  refine acode_region ?_
  intro l2_1
  try simp only [Int.toNat_natCast, dflt_sl, dflt_st, dflt_str, dflt_int, dflt_bool] at l2_1
  refine acode_block ?_
  refine acode_loopP (fun (i : Nat) => i ≤ l.length) (fun (i : Nat) => [(0, .one (.sl rItm l)), (3, .one (.vec 0)), (6, .one (.sl rItm l)), (7, ii .i64 l.length), (8, ii .i64 i)]) (fun (i : Nat) => [(0, .vec 43 rItm (apartL (l.take i)))]) 1 (fun (i : Nat) => l.length - i) 0 (Nat.zero_le _) (le_of ⟨rfl, rfl, rfl, rfl, rfl⟩ rfl rfl) ?_
  intro i hI0
  refine acode_seq ?_
  refine acode_region ?_
  refine acode_seq ?_
  refine acode_cond rfl (fun h9 => ?_) (fun h9 => ?_)
  · try simp only [decide_eq_true_eq] at h9
    try simp only [Int.toNat_natCast, dflt_sl, dflt_st, dflt_str, dflt_int, dflt_bool] at h9
    have hil : i < l.length := (by omega)
    have hsn := apart_snoc l i hil
    have hal := apartK_len (l.take i) 1
    rw [List.length_take] at hal
    have hal : (apartL (l.take i)).length ≤ 2 * min i l.length := hal
    have e1 : ((i : Int) - 1).toNat = i - 1 := (by omega)
    refine acode_skip ?_
    refine acode_seq ?_
    refine acode_block ?_
    refine acode_seq ?_
    refine acode_region ?_
    refine And.intro (by first | omega | assumption | decide | (simp only [Int.toNat_natCast, dflt_sl, dflt_st, dflt_str, dflt_int, dflt_bool]; omega) | (simp <;> omega)) ?_
    refine acode_seq ?_
    refine acode_seq ?_
    refine acode_region ?_
    refine And.intro (fun h => trivial) ?_
    refine And.intro (fun h => ⟨⟨h, trivial⟩, trivial⟩) ?_
    refine And.intro (fun h => ⟨⟨h, trivial⟩, trivial⟩) ?_
    refine And.intro (by exact fun h => h) ?_
    refine And.intro (fun h => trivial) ?_
    refine And.intro (fun h => trivial) ?_
    refine And.intro (fun h => ⟨⟨⟨h, trivial⟩, trivial⟩, by first | omega | decide | (simp only [Int.toNat_natCast, dflt_sl, dflt_st, dflt_str, dflt_int, dflt_bool]; omega) | (have h9 := of_decide_eq_true h; omega) | (simp [gq] at h; omega)⟩) ?_
    refine And.intro (fun h => ⟨⟨⟨h, trivial⟩, ⟨h, trivial⟩, trivial⟩, by first | omega | decide | (simp only [Int.toNat_natCast, dflt_sl, dflt_st, dflt_str, dflt_int, dflt_bool]; omega) | (have h9 := of_decide_eq_true h; omega) | (simp [gq] at h; omega)⟩) ?_
    refine And.intro (fun h => ⟨⟨h, trivial⟩, trivial⟩) ?_
    refine And.intro (fun h => ⟨⟨h, trivial⟩, trivial⟩) ?_
    refine And.intro (fun h => ⟨⟨h, trivial⟩, trivial⟩) ?_
    refine And.intro (by exact fun h => h) ?_
    refine acode_cond rfl (fun h28 => ?_) (fun h28 => ?_)
    · try simp only [decide_eq_true_eq, decide_eq_false_iff_not, Bool.and_eq_true, Bool.not_eq_true'] at h28
      try simp only [Int.toNat_natCast, dflt_sl, dflt_st, dflt_str, dflt_int] at h28
      rw [e1] at h28
      rw [if_pos ⟨⟨by omega, h28.2⟩, h28.1.2⟩] at hsn
      refine acode_region ?_
      refine And.intro (by exact app_le (show (apartL (l.take i)).length + 1 ≤ 1000000000 by omega) (by decide)) ?_
      refine acode_region ?_
      refine Or.inl ?_
      refine And.intro (rfl) ?_
      refine Exists.intro _ (And.intro (copied_c (l.getD i ((0 : Int), ByteArray.empty, ([] : List Fld))) (hf _ (getD_mem hil ((0 : Int), ByteArray.empty, ([] : List Fld))))) ?_)
      refine And.intro (by exact app_le (by rw [List.length_append]; show (apartL (l.take i)).length + 1 + 1 ≤ 1000000000; omega) (by decide)) ?_
      refine acode_region ?_
      refine And.intro (by first | omega | assumption | decide | (simp only [Int.toNat_natCast, dflt_sl, dflt_st, dflt_str, dflt_int, dflt_bool]; omega) | (simp <;> omega)) ?_
      exact ⟨i + 1, by omega, by first | omega | (simp <;> omega), le_of ⟨rfl, rfl, rfl, rfl, (ii_eq (by omega))⟩ (vec_eq (by rw [hsn]; (try rw [List.append_assoc]); (try exact rfl))) rfl⟩
    · try simp only [decide_eq_true_eq, decide_eq_false_iff_not, Bool.not_eq_false', Bool.and_eq_false_iff, Int.not_lt] at h28
      try simp only [Int.toNat_natCast, dflt_sl, dflt_st, dflt_str, dflt_int] at h28
      rw [e1] at h28
      rw [if_neg (fun h => h28.elim (fun g => g.elim (fun g => by omega) (fun g => h.2 g)) (fun g => h.1.2 g))] at hsn
      refine acode_skip ?_
      refine acode_region ?_
      refine Or.inl ?_
      refine And.intro (rfl) ?_
      refine Exists.intro _ (And.intro (copied_c (l.getD i ((0 : Int), ByteArray.empty, ([] : List Fld))) (hf _ (getD_mem hil ((0 : Int), ByteArray.empty, ([] : List Fld))))) ?_)
      refine And.intro (by exact app_le (show (apartL (l.take i)).length + 1 ≤ 1000000000 by omega) (by decide)) ?_
      refine acode_region ?_
      refine And.intro (by first | omega | assumption | decide | (simp only [Int.toNat_natCast, dflt_sl, dflt_st, dflt_str, dflt_int, dflt_bool]; omega) | (simp <;> omega)) ?_
      exact ⟨i + 1, by omega, by first | omega | (simp <;> omega), le_of ⟨rfl, rfl, rfl, rfl, (ii_eq (by omega))⟩ (vec_eq (by rw [hsn]; (try rw [List.append_assoc]); (try exact rfl))) rfl⟩
  · try simp only [decide_eq_false_iff_not, Int.not_lt] at h9
    try simp only [Int.toNat_natCast, dflt_sl, dflt_st, dflt_str, dflt_int, dflt_bool] at h9
    refine acode_exit ?_
    refine acode_seq ?_
    refine acode_region ?_
    refine acode_ret ?_
    rw [List.take_of_length_le (by omega)]
    rfl
def al6 : List (List Fld) := [[(⟨#[65]⟩, ⟨#[49]⟩)], [(⟨#[66]⟩, ⟨#[50]⟩)]]
theorem al6_chk : ∀ a ∈ al6, (chkR a).2 = 0 := by
  intro a ha
  unfold al6 at ha
  simp only [List.mem_cons, List.not_mem_nil, or_false] at ha
  rcases ha with rfl | rfl <;> decide +kernel
theorem al6_text : bytes (Lib.join (al6.map foldL) [10]) = ⟨#[65, 58, 32, 49, 10, 10, 66, 58, 32, 50, 10]⟩ := by decide +kernel
theorem alive6_c : ACall Tryd.prog 8 [] (ib true) := by
  have hp := ptext_ok (l := al6) (by decide) (fun a ha => (by
    unfold al6 at ha
    simp only [List.mem_cons, List.not_mem_nil, or_false] at ha
    rcases ha with rfl | rfl <;> exact ⟨by simp, fun f hf => by rw [List.mem_singleton.1 hf]; exact ⟨by decide, by decide⟩⟩)) al6_chk
  rw [al6_text] at hp
  refine acall_of (rs := [0]) Tryd.func8 rfl rfl rfl teOk rfl ?_
  refine acode_seq ?_
  refine acode_region ?_
  refine acode_seq ?_
  refine acode_region ?_
  refine Or.inl ?_
  refine And.intro (rfl) ?_
  refine Exists.intro _ (And.intro (hp) ?_)
  refine acode_seq ?_
  refine acode_region ?_
  refine And.intro (fun h => trivial) ?_
  refine And.intro (fun h => ⟨⟨h, trivial⟩, trivial⟩) ?_
  refine And.intro (by exact fun h => h) ?_
  refine acode_ret ?_
  rfl
end Q
end Ab
end Go.Proofs.YtlhjcdihbbdfnaaDoor
namespace Go.Proofs.YtlhjcdihbbdfnaaDoor
open Go.RowKit
namespace Ab
set_option maxRecDepth 100000
namespace Q
theorem tup2_eq {a b c d : Int} (h1 : a = c) (h2 : b = d) : A.tup [(false, [C.lit (.int .i64 a)]), (false, [C.lit (.int .i64 b)])] = A.tup [(false, [C.lit (.int .i64 c)]), (false, [C.lit (.int .i64 d)])] := by rw [h1, h2]
theorem refChk_c (l : List Fld) (hl : FldsOk l) : ACall Tryd.prog 11 [.one (.sl rFld l)] (.tup [(false, [.lit (.int .i64 (chkR l).1)]), (false, [.lit (.int .i64 (chkR l).2)])]) := by
  have hln := hl.1
  refine acall_of (rs := [2, 3]) Tryd.func11 rfl rfl rfl teOk rfl ?_
  refine acode_seq ?_
  refine acode_region ?_
  refine acode_seq ?_
  refine acode_seq ?_
  refine acode_region ?_
  intro l1_1
  try simp only [Int.toNat_natCast, dflt_sl, dflt_st, dflt_str, dflt_int, dflt_bool] at l1_1
  refine acode_cond rfl (fun h8 => ?_) (fun h8 => ?_)
  · try simp only [decide_eq_true_eq] at h8
    try simp only [Int.toNat_natCast, dflt_sl, dflt_st, dflt_str, dflt_int, dflt_bool] at h8
    refine acode_seq ?_
    refine acode_region ?_
    refine acode_ret ?_
    have e : chkR l = (-9, 2) := (by unfold chkR; rw [if_pos (List.eq_nil_of_length_eq_zero (by omega))])
    rw [e]
    rfl
  · try simp only [decide_eq_false_iff_not] at h8
    try simp only [Int.toNat_natCast, dflt_sl, dflt_st, dflt_str, dflt_int, dflt_bool] at h8
    refine acode_skip ?_
    refine acode_seq ?_
    refine acode_seq ?_
    refine acode_region ?_
    intro l3_1
    try simp only [Int.toNat_natCast, dflt_sl, dflt_st, dflt_str, dflt_int, dflt_bool] at l3_1
    refine acode_cond rfl (fun h11 => ?_) (fun h11 => ?_)
    · try simp only [decide_eq_true_eq] at h11
      try simp only [Int.toNat_natCast, dflt_sl, dflt_st, dflt_str, dflt_int, dflt_bool] at h11
      refine acode_seq ?_
      refine acode_region ?_
      refine acode_ret ?_
      have e : chkR l = (-9, 11) := (by unfold chkR; rw [if_neg (fun e => h8 (by rw [e]; rfl)), if_pos (by omega)])
      rw [e]
      rfl
    · try simp only [decide_eq_false_iff_not, Int.not_lt] at h11
      try simp only [Int.toNat_natCast, dflt_sl, dflt_st, dflt_str, dflt_int, dflt_bool] at h11
      refine acode_skip ?_
      refine acode_seq ?_
      refine acode_seq ?_
      refine acode_region ?_
      refine acode_block ?_
      refine acode_loopP (fun (i : Nat) => i ≤ l.length ∧ ∀ f ∈ l.take i, checkF f = 0) (fun (i : Nat) => [(0, .one (.sl rFld l)), (4, ii .i64 i)]) (fun (i : Nat) => []) 0 (fun (i : Nat) => l.length - i) 0 (⟨Nat.zero_le _, by simp⟩) (le_of ⟨rfl, rfl⟩ trivial rfl) ?_
      intro i hI0
      obtain ⟨hi, hall⟩ := hI0
      refine acode_seq ?_
      refine acode_seq ?_
      refine acode_region ?_
      intro l6_2
      try simp only [Int.toNat_natCast, dflt_sl, dflt_st, dflt_str, dflt_int, dflt_bool] at l6_2
      refine acode_cond rfl (fun h15 => ?_) (fun h15 => ?_)
      · try simp only [decide_eq_true_eq] at h15
        try simp only [Int.toNat_natCast, dflt_sl, dflt_st, dflt_str, dflt_int, dflt_bool] at h15
        have hlt : i < l.length := (by omega)
        have hm := hl.2 _ (getD_mem hlt (ByteArray.empty, ByteArray.empty))
        have hne : l ≠ [] := (fun e => by rw [e] at hlt; simp at hlt)
        refine acode_skip ?_
        refine acode_seq ?_
        refine acode_block ?_
        refine acode_seq ?_
        refine acode_region ?_
        refine And.intro (by first | omega | assumption | decide | (simp only [Int.toNat_natCast, dflt_sl, dflt_st, dflt_str, dflt_int, dflt_bool]; omega) | (simp <;> omega)) ?_
        refine Or.inl ?_
        refine And.intro (rfl) ?_
        refine Exists.intro _ (And.intro (refCheck_c (l.getD i (ByteArray.empty, ByteArray.empty)) (by omega)) ?_)
        refine acode_seq ?_
        refine acode_region ?_
        refine acode_cond rfl (fun h24 => ?_) (fun h24 => ?_)
        · try simp only [decide_eq_false_iff_not, Bool.not_eq_true'] at h24
          try simp only [Int.toNat_natCast, dflt_sl, dflt_st, dflt_str, dflt_int, dflt_bool] at h24
          refine acode_seq ?_
          refine acode_region ?_
          refine acode_ret ?_
          have e : chkR l = ((i : Int), checkF (l.getD i (ByteArray.empty, ByteArray.empty))) := (by unfold chkR; rw [if_neg hne, if_neg (by omega), badAt_hit l i 0 hlt hall h24, Int.zero_add])
          rw [e]
          rfl
        · try simp only [decide_eq_true_eq, Bool.not_eq_false'] at h24
          try simp only [Int.toNat_natCast, dflt_sl, dflt_st, dflt_str, dflt_int, dflt_bool] at h24
          refine acode_skip ?_
          refine acode_region ?_
          refine And.intro (by first | omega | assumption | decide | (simp only [Int.toNat_natCast, dflt_sl, dflt_st, dflt_str, dflt_int, dflt_bool]; omega) | (simp <;> omega)) ?_
          exact ⟨i + 1, ⟨by omega, by rw [← take_snoc (ByteArray.empty, ByteArray.empty) hlt]; intro f hf; rcases List.mem_append.1 hf with h|h; exact hall f h; rw [List.mem_singleton.1 h]; exact h24⟩, by first | omega | (simp <;> omega), le_of ⟨rfl, (ii_eq (by omega))⟩ trivial rfl⟩
      · try simp only [decide_eq_false_iff_not, Int.not_lt] at h15
        try simp only [Int.toNat_natCast, dflt_sl, dflt_st, dflt_str, dflt_int, dflt_bool] at h15
        refine acode_exit ?_
        refine acode_seq ?_
        refine acode_region ?_
        refine acode_ret ?_
        rw [List.take_of_length_le (by omega)] at hall
        have e : chkR l = (-9, 0) := (by unfold chkR; rw [if_neg (fun e => h8 (by rw [e]; rfl)), if_neg (by omega)]; exact badAt_no l 0 hall)
        rw [e]
        rfl
end Q
end Ab
end Go.Proofs.YtlhjcdihbbdfnaaDoor
namespace Go.Proofs.YtlhjcdihbbdfnaaDoor
open Go.RowKit
namespace Ab
set_option maxRecDepth 100000
namespace Q
def joinT (l : List (List Fld)) : List UInt8 := Lib.join (l.map foldL) [10]
theorem joinT_snoc (l : List (List Fld)) (i : Nat) (h : i < l.length) : joinT (l.take (i + 1)) = if 0 < i then joinT (l.take i) ++ ([10] ++ foldL (l.getD i ([] : List Fld))) else foldL (l.getD i ([] : List Fld)) := by
  unfold joinT
  rw [← take_snoc ([] : List Fld) h, List.map_append, List.map_cons, List.map_nil]
  split
  · rename_i h0
    refine join_snoc _ [10] (fun e => ?_)
    ·
      have := congrArg List.length e
      rw [List.length_map, List.length_take, List.length_nil] at this
      omega
  · rename_i h0
    obtain rfl : i = 0 := by omega
    simp [Lib.join]
theorem joinT_len {l : List (List Fld)} (hg : ∀ a ∈ l, GoodS a) (i : Nat) (hl : l.length ≤ 1000) : (joinT (l.take i)).length ≤ 200000001000 := by
  unfold joinT
  refine Nat.le_trans (joinL_len 10 _) ?_
  rw [List.map_map, List.length_map, List.length_take]
  have h1 : ∀ m : List (List Fld), (∀ a ∈ m, GoodS a) → (m.map ((·.length) ∘ foldL)).sum ≤ m.length * 200000000 := by
    intro m
    induction m with
    | nil => intro _; simp
    | cons a r ih =>
      intro hm
      have h2 := ih fun b hb => hm b (List.mem_cons_of_mem _ hb)
      have h3 := foldG_len (hm a List.mem_cons_self)
      simp only [List.map_cons, List.sum_cons, List.length_cons, Function.comp_apply]
      omega
  have h2 := h1 (l.take i) (fun a ha => hg a (List.mem_of_mem_take ha))
  rw [List.length_take] at h2
  omega
theorem refText_c (l : List (List Fld)) (hl : l.length ≤ 1000) (hg : ∀ a ∈ l, GoodS a) : ACall Tryd.prog 14 [.one (.sl rRow l)] (is (bytes (joinT l))) := by
  refine acall_of (rs := [2]) Tryd.func14 rfl rfl rfl teOk rfl ?_
  refine acode_seq ?_
  refine acode_region ?_
  refine acode_seq ?_
  refine acode_region ?_
  refine acode_seq ?_
  refine acode_seq ?_
  refine acode_region ?_
  refine acode_block ?_
  refine acode_loopP (fun (i : Nat) => i ≤ l.length) (fun (i : Nat) => [(0, .one (.sl rRow l)), (3, is (bytes (joinT (l.take i)))), (4, ii .i64 i)]) (fun (i : Nat) => []) 0 (fun (i : Nat) => l.length - i) 0 (Nat.zero_le _) (le_of ⟨rfl, rfl, rfl⟩ trivial rfl) ?_
  intro i hI0
  refine acode_seq ?_
  refine acode_seq ?_
  refine acode_region ?_
  intro l3_2
  try simp only [Int.toNat_natCast, dflt_sl, dflt_st, dflt_str, dflt_int, dflt_bool] at l3_2
  refine acode_cond rfl (fun h8 => ?_) (fun h8 => ?_)
  · try simp only [decide_eq_true_eq] at h8
    try simp only [Int.toNat_natCast, dflt_sl, dflt_st, dflt_str, dflt_int, dflt_bool] at h8
    have hil : i < l.length := (by omega)
    have hm := hg _ (getD_mem hil ([] : List Fld))
    have hsn := joinT_snoc l i hil
    have hjl := joinT_len hg i hl
    have hfl := foldG_len hm
    have hbs := bytes_size (joinT (l.take i))
    have hbf := bytes_size (foldL (l.getD i ([] : List Fld)))
    have hk10 : ByteArray.size ⟨#[10]⟩ = 1 := rfl
    refine acode_skip ?_
    refine acode_seq ?_
    refine acode_block ?_
    refine acode_seq ?_
    refine acode_seq ?_
    refine acode_region ?_
    refine acode_cond rfl (fun h12 => ?_) (fun h12 => ?_)
    · try simp only [decide_eq_true_eq] at h12
      try simp only [Int.toNat_natCast, dflt_sl, dflt_st, dflt_str, dflt_int, dflt_bool] at h12
      refine acode_region ?_
      refine And.intro (by (have hk0 : ByteArray.size { data := #[10] } = 1 := rfl; first | (unfold maxLen; omega) | (simp only [ByteArray.size_append]; omega) | (unfold maxLen; (try simp only [ByteArray.size_append]); omega))) ?_
      refine acode_region ?_
      refine And.intro (by first | omega | assumption | decide | (simp only [Int.toNat_natCast, dflt_sl, dflt_st, dflt_str, dflt_int, dflt_bool]; omega) | (simp <;> omega)) ?_
      refine Or.inl ?_
      refine And.intro (rfl) ?_
      refine Exists.intro _ (And.intro (refFold_c (l.getD i ([] : List Fld)) hm.2.2 (by have := hm.2.1; omega)) ?_)
      refine And.intro (by exact Nat.le_trans (m := 300000000000) (by simp only [ByteArray.size_append]; omega) (by decide)) ?_
      refine acode_region ?_
      refine And.intro (by first | omega | assumption | decide | (simp only [Int.toNat_natCast, dflt_sl, dflt_st, dflt_str, dflt_int, dflt_bool]; omega) | (simp <;> omega)) ?_
      exact ⟨i + 1, by omega, by first | omega | (simp <;> omega), le_of ⟨rfl, (is_eq (by rw [hsn, if_pos (by omega), bytes_app, bytes_app, ByteArray.append_assoc]; rfl)), (ii_eq (by omega))⟩ trivial rfl⟩
    · try simp only [decide_eq_false_iff_not, Int.not_lt] at h12
      try simp only [Int.toNat_natCast, dflt_sl, dflt_st, dflt_str, dflt_int, dflt_bool] at h12
      refine acode_skip ?_
      refine acode_region ?_
      refine And.intro (by first | omega | assumption | decide | (simp only [Int.toNat_natCast, dflt_sl, dflt_st, dflt_str, dflt_int, dflt_bool]; omega) | (simp <;> omega)) ?_
      refine Or.inl ?_
      refine And.intro (rfl) ?_
      refine Exists.intro _ (And.intro (refFold_c (l.getD i ([] : List Fld)) hm.2.2 (by have := hm.2.1; omega)) ?_)
      refine And.intro (by first | omega | (simp only [ByteArray.size_append]; omega) | (unfold maxLen; (try simp only [ByteArray.size_append]); omega)) ?_
      refine acode_region ?_
      refine And.intro (by first | omega | assumption | decide | (simp only [Int.toNat_natCast, dflt_sl, dflt_st, dflt_str, dflt_int, dflt_bool]; omega) | (simp <;> omega)) ?_
      exact ⟨i + 1, by omega, by first | omega | (simp <;> omega), le_of ⟨rfl, (is_eq (by rw [hsn, if_neg (by omega)]; obtain rfl : i = 0 := (by omega); rfl)), (ii_eq (by omega))⟩ trivial rfl⟩
  · try simp only [decide_eq_false_iff_not, Int.not_lt] at h8
    try simp only [Int.toNat_natCast, dflt_sl, dflt_st, dflt_str, dflt_int, dflt_bool] at h8
    refine acode_exit ?_
    refine acode_seq ?_
    refine acode_region ?_
    refine acode_ret ?_
    exact is_eq (by rw [List.take_of_length_le (by omega)])
def much6B (l : List (List Fld)) : Bool := decide (13 < l.length) || l.any muchB
theorem much6_no {l : List (List Fld)} (h : much6B l = false) : l.length ≤ 13 ∧ ∀ a ∈ l, muchB a = false := by
  unfold much6B at h
  rw [Bool.or_eq_false_iff] at h
  refine ⟨by simpa using h.1, fun a ha => ?_⟩
  have := h.2
  rw [List.any_eq_false] at this
  simpa using this a ha
theorem much6_yes {l : List (List Fld)} (h : 13 < l.length ∨ ∃ a ∈ l, muchB a = true) : much6B l = true := by
  unfold much6B
  rw [Bool.or_eq_true]
  exact h.imp (fun h => decide_eq_true h) (fun ⟨a, ha, hm⟩ => List.any_eq_true.2 ⟨a, ha, hm⟩)
theorem much6_f {l : List (List Fld)} (h : l.length ≤ 13) (h2 : ∀ a ∈ l, muchB a = false) : much6B l = false := by
  unfold much6B
  rw [Bool.or_eq_false_iff]
  exact ⟨decide_eq_false (by omega), List.any_eq_false.2 fun a ha => by rw [h2 a ha]; decide⟩
theorem much6_c (l : List (List Fld)) : ACall Tryd.prog 9 [.one (.sl rRow l)] (ib (much6B l)) := by
  refine acall_of (rs := [2]) Tryd.func9 rfl rfl rfl teOk rfl ?_
  refine acode_seq ?_
  refine acode_region ?_
  refine acode_seq ?_
  refine acode_seq ?_
  refine acode_region ?_
  intro l1_1
  try simp only [Int.toNat_natCast, dflt_sl, dflt_st, dflt_str, dflt_int, dflt_bool] at l1_1
  refine acode_block ?_
  refine acode_loopP (fun (i : Nat) => i ≤ l.length ∧ i ≤ 13 ∧ ∀ a ∈ l.take i, muchB a = false) (fun (i : Nat) => [(5, .one (.sl rRow l)), (6, ii .i64 l.length), (7, ii .i64 i)]) (fun (i : Nat) => []) 0 (fun (i : Nat) => l.length - i) 0 (⟨Nat.zero_le _, by omega, by simp⟩) (le_of ⟨rfl, rfl, rfl⟩ trivial rfl) ?_
  intro i hI0
  refine acode_seq ?_
  refine acode_region ?_
  refine acode_seq ?_
  refine acode_cond rfl (fun h8 => ?_) (fun h8 => ?_)
  · try simp only [decide_eq_true_eq] at h8
    try simp only [Int.toNat_natCast, dflt_sl, dflt_st, dflt_str, dflt_int, dflt_bool] at h8
    have hil : i < l.length := (by omega)
    refine acode_skip ?_
    refine acode_seq ?_
    refine acode_block ?_
    refine acode_seq ?_
    refine acode_region ?_
    refine And.intro (by first | omega | assumption | decide | (simp only [Int.toNat_natCast, dflt_sl, dflt_st, dflt_str, dflt_int, dflt_bool]; omega) | (simp <;> omega)) ?_
    refine acode_seq ?_
    refine acode_region ?_
    refine And.intro (fun h => trivial) ?_
    refine And.intro (rfl) ?_
    refine Exists.intro _ (And.intro (fun h => ⟨⟨⟨h, trivial⟩, trivial⟩, much_c (l.getD i ([] : List Fld))⟩) ?_)
    refine And.intro (by first | (intro h; rw [h]; rfl) | (intro h; cases h)) ?_
    refine acode_cond rfl (fun h17 => ?_) (fun h17 => ?_)
    · try simp only [decide_eq_true_eq, Bool.or_eq_true] at h17
      try simp only [Int.toNat_natCast, dflt_sl, dflt_st, dflt_str, dflt_int, dflt_bool] at h17
      refine acode_seq ?_
      refine acode_region ?_
      refine acode_ret ?_
      exact ib_eq (much6_yes (h17.elim (fun h => .inl (by omega)) (fun h => .inr ⟨_, getD_mem hil ([] : List Fld), h⟩))).symm
    · try simp only [decide_eq_false_iff_not, Bool.or_eq_false_iff, Int.not_lt] at h17
      try simp only [Int.toNat_natCast, dflt_sl, dflt_st, dflt_str, dflt_int, dflt_bool] at h17
      refine acode_skip ?_
      refine acode_region ?_
      refine And.intro (by first | omega | assumption | decide | (simp only [Int.toNat_natCast, dflt_sl, dflt_st, dflt_str, dflt_int, dflt_bool]; omega) | (simp <;> omega)) ?_
      exact ⟨i + 1, ⟨by omega, by omega, by rw [← take_snoc ([] : List Fld) hil]; intro a ha; rcases List.mem_append.1 ha with h|h; exact hI0.2.2 a h; rw [List.mem_singleton.1 h]; exact h17.2⟩, by first | omega | (simp <;> omega), le_of ⟨rfl, rfl, (ii_eq (by omega))⟩ trivial rfl⟩
  · try simp only [decide_eq_false_iff_not, Int.not_lt] at h8
    try simp only [Int.toNat_natCast, dflt_sl, dflt_st, dflt_str, dflt_int, dflt_bool] at h8
    refine acode_exit ?_
    refine acode_seq ?_
    refine acode_region ?_
    refine acode_ret ?_
    exact ib_eq (much6_f (by omega) (by have := hI0.2.2; rwa [List.take_of_length_le (by omega)] at this)).symm
theorem bad_first : ∀ (l : List (List Fld)), (∀ a ∈ l, (chkR a).2 = 0) ∨ ∃ k, k < l.length ∧ (∀ a ∈ l.take k, (chkR a).2 = 0) ∧ (chkR (l.getD k ([] : List Fld))).2 ≠ 0
  | [] => .inl (fun a h => by cases h)
  | a :: r => by
    by_cases h : (chkR a).2 = 0
    · rcases bad_first r with g | ⟨k, h1, h2, h3⟩
      · refine .inl fun b hb => ?_
        rcases List.mem_cons.1 hb with rfl | hb
        · exact h
        · exact g b hb
      · refine .inr ⟨k + 1, by simpa using h1, fun b hb => ?_, by simpa using h3⟩
        rw [List.take_succ_cons] at hb
        rcases List.mem_cons.1 hb with rfl | hb
        · exact h
        · exact h2 b hb
    · exact .inr ⟨0, by simp, by simp, by simpa using h⟩
theorem texts_cases (l : List (List Fld)) : (∀ a ∈ l, (chkR a).2 = 0) ∨ (∃ k n, k < l.length ∧ (∀ a ∈ l.take k, (chkR a).2 = 0) ∧ n ≠ 0 ∧ chkR (l.getD k ([] : List Fld)) = (-9, n) ∧ chkA (l.getD k ([] : List Fld)) = errN n) ∨ ∃ k i n, k < l.length ∧ (∀ a ∈ l.take k, (chkR a).2 = 0) ∧ n ≠ 0 ∧ chkR (l.getD k ([] : List Fld)) = (i, n) ∧ chkA (l.getD k ([] : List Fld)) = errF i n := by
  rcases bad_first l with h | ⟨k, h1, h2, h3⟩
  · exact .inl h
  · obtain ⟨e, he, hs⟩ := chk_bad h3
    rcases hs with ⟨n, hn, h4, h5⟩ | ⟨i, n, hn, h4, h5⟩
    · exact .inr (.inl ⟨k, n, h1, h2, hn, h5, he.trans h4⟩)
    · exact .inr (.inr ⟨k, i, n, h1, h2, hn, h5, he.trans h4⟩)
theorem chk_v {l : List Fld} (hl : FldsOk l) {i n : Int} (h : chkR l = (i, n)) : ACall Tryd.prog 11 [.one (.sl rFld l)] (.tup [(false, [.lit (.int .i64 i)]), (false, [.lit (.int .i64 n)])]) := by
  have := refChk_c l hl
  rw [h] at this
  exact this
theorem chk_z {l : List Fld} (hl : FldsOk l) (h : (chkR l).2 = 0) : ACall Tryd.prog 11 [.one (.sl rFld l)] (.tup [(false, [.lit (.int .i64 (chkR l).1)]), (false, [.lit (.int .i64 0)])]) := by
  have := refChk_c l hl
  rw [h] at this
  exact this
theorem PrintTexts_c (l : List (List Fld)) : ACall Tryd.prog 3 [.one (.sl rRow l)] (ib true) := by
  refine acall_of (rs := [2]) Tryd.func3 rfl rfl rfl teOk rfl ?_
  refine acode_seq ?_
  refine acode_region ?_
  refine acode_seq ?_
  refine acode_seq ?_
  refine acode_region ?_
  refine Or.inl ?_
  refine And.intro (rfl) ?_
  refine Exists.intro _ (And.intro (alive6_c) ?_)
  refine acode_cond rfl (fun h13 => ?_) (fun h13 => ?_)
  · try simp only [Bool.not_eq_true'] at h13
    try simp only [Int.toNat_natCast, dflt_sl, dflt_st, dflt_str, dflt_int, dflt_bool] at h13
    cases h13
  · try simp only [Bool.not_eq_false'] at h13
    try simp only [Int.toNat_natCast, dflt_sl, dflt_st, dflt_str, dflt_int, dflt_bool] at h13
    refine acode_skip ?_
    refine acode_seq ?_
    refine acode_seq ?_
    refine acode_region ?_
    refine Or.inl ?_
    refine And.intro (rfl) ?_
    refine Exists.intro _ (And.intro (much6_c l) ?_)
    refine acode_cond rfl (fun h15 => ?_) (fun h15 => ?_)
    · try simp only [decide_eq_true_eq, decide_eq_false_iff_not, Bool.and_eq_true, Bool.not_eq_true', Bool.not_eq_false', Bool.or_eq_false_iff, Bool.or_eq_true, Bool.and_eq_false_iff, Int.not_lt, Int.not_le] at h15
      try simp only [Int.toNat_natCast, dflt_sl, dflt_st, dflt_str, dflt_int, dflt_bool] at h15
      refine acode_seq ?_
      refine acode_region ?_
      refine acode_ret ?_
      first | rfl | exact ib_eq (by simp)
    · try simp only [decide_eq_true_eq, decide_eq_false_iff_not, Bool.and_eq_true, Bool.not_eq_true', Bool.not_eq_false', Bool.or_eq_false_iff, Bool.or_eq_true, Bool.and_eq_false_iff, Int.not_lt, Int.not_le] at h15
      try simp only [Int.toNat_natCast, dflt_sl, dflt_st, dflt_str, dflt_int, dflt_bool] at h15
      obtain ⟨hl13, hmu⟩ := much6_no h15
      have hfo : ∀ a ∈ l, FldsOk a := (fun a ha => much_ok (hmu a ha))
      refine acode_skip ?_
      refine acode_seq ?_
      rcases texts_cases l with hg | ⟨k, n, hk, hpre, hn, hchk, hA⟩ | ⟨k, j, n, hk, hpre, hn, hchk, hA⟩
      · refine acode_region ?_
        refine Or.inl ?_
        refine And.intro (rfl) ?_
        refine Exists.intro _ (And.intro (ptext_ok (by omega) hfo hg) ?_)
        refine acode_seq ?_
        refine acode_seq ?_
        refine acode_region ?_
        intro l6_1
        try simp only [Int.toNat_natCast, dflt_sl, dflt_st, dflt_str, dflt_int, dflt_bool] at l6_1
        refine acode_block ?_
        refine acode_loopP (fun (i : Nat) => i ≤ l.length) (fun (i : Nat) => [(0, .one (.sl rRow l)), (3, is (bytes (joinT l))), (4, .one (.lit .nilIface)), (21, .one (.sl rRow l)), (22, ii .i64 l.length), (23, ii .i64 i)]) (fun (i : Nat) => []) 0 (fun (i : Nat) => l.length - i) 0 (Nat.zero_le _) (le_of ⟨rfl, rfl, rfl, rfl, rfl, rfl⟩ trivial rfl) ?_
        intro i hI0
        refine acode_seq ?_
        refine acode_region ?_
        refine acode_seq ?_
        refine acode_cond rfl (fun h24 => ?_) (fun h24 => ?_)
        · try simp only [decide_eq_true_eq] at h24
          try simp only [Int.toNat_natCast, dflt_sl, dflt_st, dflt_str, dflt_int, dflt_bool] at h24
          have hil : i < l.length := (by omega)
          have hmem := getD_mem hil ([] : List Fld)
          refine acode_skip ?_
          refine acode_seq ?_
          refine acode_block ?_
          refine acode_seq ?_
          refine acode_region ?_
          refine And.intro (by first | omega | assumption | decide | (simp only [Int.toNat_natCast, dflt_sl, dflt_st, dflt_str, dflt_int, dflt_bool]; omega) | (simp <;> omega)) ?_
          refine acode_seq ?_
          refine acode_region ?_
          refine Or.inl ?_
          refine And.intro (rfl) ?_
          refine Exists.intro _ (And.intro (chk_z (hfo _ hmem) (hg _ hmem)) ?_)
          refine acode_seq ?_
          refine acode_region ?_
          refine acode_cond rfl (fun h33 => ?_) (fun h33 => ?_)
          · try simp only [decide_eq_false_iff_not, Bool.not_eq_true'] at h33
            try simp only [Int.toNat_natCast, dflt_sl, dflt_st, dflt_str, dflt_int, dflt_bool] at h33
            exact absurd h33 (by decide)
          · try simp only [decide_eq_true_eq, Bool.not_eq_false'] at h33
            try simp only [Int.toNat_natCast, dflt_sl, dflt_st, dflt_str, dflt_int, dflt_bool] at h33
            refine acode_skip ?_
            refine acode_region ?_
            refine And.intro (by first | omega | assumption | decide | (simp only [Int.toNat_natCast, dflt_sl, dflt_st, dflt_str, dflt_int, dflt_bool]; omega) | (simp <;> omega)) ?_
            exact ⟨i + 1, by omega, by first | omega | (simp <;> omega), le_of ⟨rfl, rfl, rfl, rfl, rfl, (ii_eq (by omega))⟩ trivial rfl⟩
        · try simp only [decide_eq_false_iff_not, Int.not_lt] at h24
          try simp only [Int.toNat_natCast, dflt_sl, dflt_st, dflt_str, dflt_int, dflt_bool] at h24
          refine acode_exit ?_
          refine acode_seq ?_
          refine acode_seq ?_
          refine acode_region ?_
          refine And.intro (fun h => trivial) ?_
          refine And.intro (fun h => trivial) ?_
          refine And.intro (rfl) ?_
          refine Exists.intro _ (And.intro (fun h => ⟨⟨⟨h, trivial⟩, trivial⟩, refText_c l (by omega) (fun a ha => (chk_good (hg a ha)).1)⟩) ?_)
          refine And.intro (fun h => ⟨⟨h, trivial⟩, ⟨h, trivial⟩, trivial⟩) ?_
          refine And.intro (by first | (intro h; rw [h]; rfl) | (intro h; cases h)) ?_
          refine acode_cond rfl (fun h56 => ?_) (fun h56 => ?_)
          · try simp only [decide_eq_false_iff_not, Bool.not_eq_true', Bool.or_eq_true] at h56
            try simp only [Int.toNat_natCast, dflt_sl, dflt_st, dflt_str, dflt_int, dflt_bool] at h56
            simp at h56
          · try simp only [decide_eq_true_eq, Bool.not_eq_false', Bool.or_eq_false_iff] at h56
            try simp only [Int.toNat_natCast, dflt_sl, dflt_st, dflt_str, dflt_int, dflt_bool] at h56
            refine acode_skip ?_
            refine acode_seq ?_
            refine acode_seq ?_
            refine acode_region ?_
            refine acode_cond rfl (fun h59 => ?_) (fun h59 => ?_)
            · try simp only [decide_eq_true_eq] at h59
              try simp only [Int.toNat_natCast, dflt_sl, dflt_st, dflt_str, dflt_int, dflt_bool] at h59
              refine acode_seq ?_
              refine acode_region ?_
              refine acode_ret ?_
              first | rfl | exact ib_eq (by simp)
            · try simp only [decide_eq_false_iff_not, Int.not_lt] at h59
              try simp only [Int.toNat_natCast, dflt_sl, dflt_st, dflt_str, dflt_int, dflt_bool] at h59
              obtain ⟨m, hpar, hrec⟩ := texts_parse (fun a ha => (chk_good (hg a ha)).1) (show l.length ≤ 400 by omega)
              have hs6 : (bytes (joinT l)).size ≤ 60000 := (by omega)
              have hpp := parse_a (bytes (joinT l)) hs6
              rw [show parseS (bytes (joinT l)) = .inr m from hpar] at hpp
              obtain ⟨hml, hmf⟩ := items_flds hs6 hpar
              have hst := stanzas_c m hml hmf
              rw [show recsL m = l from hrec] at hst
              refine acode_skip ?_
              refine acode_seq ?_
              refine acode_region ?_
              refine Or.inl ?_
              refine And.intro (rfl) ?_
              refine Exists.intro _ (And.intro (hpp) ?_)
              refine acode_seq ?_
              refine acode_region ?_
              refine Or.inl ?_
              refine And.intro (rfl) ?_
              refine Exists.intro _ (And.intro (hst) ?_)
              refine acode_seq ?_
              refine acode_seq ?_
              refine acode_region ?_
              refine And.intro (fun h => trivial) ?_
              refine And.intro (fun h => ⟨⟨h, trivial⟩, trivial⟩) ?_
              refine And.intro (fun h => trivial) ?_
              refine And.intro (fun h => ⟨⟨h, trivial⟩, trivial⟩) ?_
              refine And.intro (fun h => ⟨⟨h, trivial⟩, ⟨h, trivial⟩, trivial⟩) ?_
              refine And.intro (by first | (intro h; rw [h]; rfl) | (intro h; cases h)) ?_
              refine acode_cond rfl (fun h75 => ?_) (fun h75 => ?_)
              · try simp only [decide_eq_false_iff_not, Bool.not_eq_true', Bool.or_eq_true] at h75
                try simp only [Int.toNat_natCast, dflt_sl, dflt_st, dflt_str, dflt_int, dflt_bool] at h75
                simp at h75
              · try simp only [decide_eq_true_eq, Bool.not_eq_false', Bool.or_eq_false_iff] at h75
                try simp only [Int.toNat_natCast, dflt_sl, dflt_st, dflt_str, dflt_int, dflt_bool] at h75
                refine acode_skip ?_
                refine acode_seq ?_
                refine acode_seq ?_
                refine acode_region ?_
                intro l21_1
                try simp only [Int.toNat_natCast, dflt_sl, dflt_st, dflt_str, dflt_int, dflt_bool] at l21_1
                refine acode_block ?_
                refine acode_loopP (fun (i : Nat) => i ≤ l.length) (fun (i : Nat) => [(0, .one (.sl rRow l)), (10, .one (.sl rRow l)), (77, ii .i64 l.length), (78, ii .i64 i)]) (fun (i : Nat) => []) 0 (fun (i : Nat) => l.length - i) 0 (Nat.zero_le _) (le_of ⟨rfl, rfl, rfl, rfl⟩ trivial rfl) ?_
                intro i hI2
                refine acode_seq ?_
                refine acode_region ?_
                refine acode_seq ?_
                refine acode_cond rfl (fun h79 => ?_) (fun h79 => ?_)
                · try simp only [decide_eq_true_eq] at h79
                  try simp only [Int.toNat_natCast, dflt_sl, dflt_st, dflt_str, dflt_int, dflt_bool] at h79
                  refine acode_skip ?_
                  refine acode_seq ?_
                  refine acode_block ?_
                  refine acode_seq ?_
                  refine acode_region ?_
                  refine acode_seq ?_
                  refine acode_draw rfl (by kernel_rfl) ?_
                  refine And.intro (by first | omega | assumption | decide | (simp only [Int.toNat_natCast, dflt_sl, dflt_st, dflt_str, dflt_int, dflt_bool]; omega) | (simp <;> omega)) ?_
                  refine And.intro (by first | omega | assumption | decide | (simp only [Int.toNat_natCast, dflt_sl, dflt_st, dflt_str, dflt_int, dflt_bool]; omega) | (simp <;> omega)) ?_
                  refine And.intro (rfl) ?_
                  refine Exists.intro _ (And.intro (fields_self (l.getD i ([] : List Fld))) ?_)
                  refine acode_cond rfl (fun h90 => ?_) (fun h90 => ?_)
                  · try simp only [Bool.not_eq_true'] at h90
                    try simp only [Int.toNat_natCast, dflt_sl, dflt_st, dflt_str, dflt_int, dflt_bool] at h90
                    simp at h90
                  · try simp only [Bool.not_eq_false'] at h90
                    try simp only [Int.toNat_natCast, dflt_sl, dflt_st, dflt_str, dflt_int, dflt_bool] at h90
                    refine acode_skip ?_
                    refine acode_region ?_
                    refine And.intro (by first | omega | assumption | decide | (simp only [Int.toNat_natCast, dflt_sl, dflt_st, dflt_str, dflt_int, dflt_bool]; omega) | (simp <;> omega)) ?_
                    exact ⟨i + 1, by omega, by first | omega | (simp <;> omega), le_of ⟨rfl, rfl, rfl, (ii_eq (by omega))⟩ trivial rfl⟩
                · try simp only [decide_eq_false_iff_not, Int.not_lt] at h79
                  try simp only [Int.toNat_natCast, dflt_sl, dflt_st, dflt_str, dflt_int, dflt_bool] at h79
                  refine acode_exit ?_
                  refine acode_seq ?_
                  refine acode_region ?_
                  refine acode_ret ?_
                  first | rfl | exact ib_eq (by simp)
      · refine acode_region ?_
        refine Or.inl ?_
        refine And.intro (rfl) ?_
        refine Exists.intro _ (And.intro ((by have h := ptext_err (by omega) hfo hk hpre (by rw [hchk]; exact hn); rw [hA] at h; exact h)) ?_)
        refine acode_seq ?_
        refine acode_seq ?_
        refine acode_region ?_
        intro l6_1
        try simp only [Int.toNat_natCast, dflt_sl, dflt_st, dflt_str, dflt_int, dflt_bool] at l6_1
        refine acode_block ?_
        refine acode_loopP (fun (i : Nat) => i ≤ k) (fun (i : Nat) => [(0, .one (.sl rRow l)), (3, is ⟨#[]⟩), (4, .one (errN n)), (21, .one (.sl rRow l)), (22, ii .i64 l.length), (23, ii .i64 i)]) (fun (i : Nat) => []) 0 (fun (i : Nat) => l.length - i) 0 (Nat.zero_le _) (le_of ⟨rfl, rfl, rfl, rfl, rfl, rfl⟩ trivial rfl) ?_
        intro i hI0
        refine acode_seq ?_
        refine acode_region ?_
        refine acode_seq ?_
        refine acode_cond rfl (fun h24 => ?_) (fun h24 => ?_)
        · try simp only [decide_eq_true_eq] at h24
          try simp only [Int.toNat_natCast, dflt_sl, dflt_st, dflt_str, dflt_int, dflt_bool] at h24
          have hil : i < l.length := (by omega)
          have hmem := getD_mem hil ([] : List Fld)
          refine acode_skip ?_
          refine acode_seq ?_
          refine acode_block ?_
          refine acode_seq ?_
          refine acode_region ?_
          refine And.intro (by first | omega | assumption | decide | (simp only [Int.toNat_natCast, dflt_sl, dflt_st, dflt_str, dflt_int, dflt_bool]; omega) | (simp <;> omega)) ?_
          refine acode_seq ?_
          rcases Nat.lt_or_ge i k with hik | hik
          · refine acode_region ?_
            refine Or.inl ?_
            refine And.intro (rfl) ?_
            refine Exists.intro _ (And.intro (chk_z (hfo _ hmem) (hpre _ (by rw [List.mem_take_iff_getElem]; exact ⟨i, by omega, getD_get hil ([] : List Fld)⟩))) ?_)
            refine acode_seq ?_
            refine acode_region ?_
            refine acode_cond rfl (fun h33 => ?_) (fun h33 => ?_)
            · try simp only [decide_eq_false_iff_not, Bool.not_eq_true'] at h33
              try simp only [Int.toNat_natCast, dflt_sl, dflt_st, dflt_str, dflt_int, dflt_bool] at h33
              exact absurd h33 (by decide)
            · try simp only [decide_eq_true_eq, Bool.not_eq_false'] at h33
              try simp only [Int.toNat_natCast, dflt_sl, dflt_st, dflt_str, dflt_int, dflt_bool] at h33
              refine acode_skip ?_
              refine acode_region ?_
              refine And.intro (by first | omega | assumption | decide | (simp only [Int.toNat_natCast, dflt_sl, dflt_st, dflt_str, dflt_int, dflt_bool]; omega) | (simp <;> omega)) ?_
              exact ⟨i + 1, by omega, by first | omega | (simp <;> omega), le_of ⟨rfl, rfl, rfl, rfl, rfl, (ii_eq (by omega))⟩ trivial rfl⟩
          · refine acode_region ?_
            refine Or.inl ?_
            refine And.intro (rfl) ?_
            refine Exists.intro _ (And.intro (chk_v (hfo _ hmem) (by have e : i = k := (by omega); subst e; exact hchk)) ?_)
            refine acode_seq ?_
            refine acode_region ?_
            refine acode_cond rfl (fun h33 => ?_) (fun h33 => ?_)
            · try simp only [decide_eq_false_iff_not, Bool.not_eq_true'] at h33
              try simp only [Int.toNat_natCast, dflt_sl, dflt_st, dflt_str, dflt_int, dflt_bool] at h33
              refine acode_seq ?_
              refine acode_region ?_
              refine Or.inl ?_
              refine And.intro (rfl) ?_
              refine Exists.intro _ (And.intro (num_errno n hn) ?_)
              refine And.intro (fun h => trivial) ?_
              refine And.intro (rfl) ?_
              refine Exists.intro _ (And.intro (fun h => ⟨⟨⟨h, trivial⟩, trivial⟩, at_errno n⟩) ?_)
              refine And.intro (fun h => trivial) ?_
              refine And.intro (fun h => ⟨⟨h, trivial⟩, ⟨h, trivial⟩, trivial⟩) ?_
              refine And.intro (by exact fun h => h) ?_
              refine And.intro (fun h => trivial) ?_
              refine And.intro (fun h => ⟨⟨h, trivial⟩, trivial⟩) ?_
              refine And.intro (by exact fun h => h) ?_
              refine acode_ret ?_
              first | rfl | exact ib_eq (by simp)
            · try simp only [decide_eq_true_eq, Bool.not_eq_false'] at h33
              try simp only [Int.toNat_natCast, dflt_sl, dflt_st, dflt_str, dflt_int, dflt_bool] at h33
              exact absurd h33 hn
        · try simp only [decide_eq_false_iff_not, Int.not_lt] at h24
          try simp only [Int.toNat_natCast, dflt_sl, dflt_st, dflt_str, dflt_int, dflt_bool] at h24
          omega
      · refine acode_region ?_
        refine Or.inl ?_
        refine And.intro (rfl) ?_
        refine Exists.intro _ (And.intro ((by have h := ptext_err (by omega) hfo hk hpre (by rw [hchk]; exact hn); rw [hA] at h; exact h)) ?_)
        refine acode_seq ?_
        refine acode_seq ?_
        refine acode_region ?_
        intro l6_1
        try simp only [Int.toNat_natCast, dflt_sl, dflt_st, dflt_str, dflt_int, dflt_bool] at l6_1
        refine acode_block ?_
        refine acode_loopP (fun (i : Nat) => i ≤ k) (fun (i : Nat) => [(0, .one (.sl rRow l)), (3, is ⟨#[]⟩), (4, .one (errF j n)), (21, .one (.sl rRow l)), (22, ii .i64 l.length), (23, ii .i64 i)]) (fun (i : Nat) => []) 0 (fun (i : Nat) => l.length - i) 0 (Nat.zero_le _) (le_of ⟨rfl, rfl, rfl, rfl, rfl, rfl⟩ trivial rfl) ?_
        intro i hI0
        refine acode_seq ?_
        refine acode_region ?_
        refine acode_seq ?_
        refine acode_cond rfl (fun h24 => ?_) (fun h24 => ?_)
        · try simp only [decide_eq_true_eq] at h24
          try simp only [Int.toNat_natCast, dflt_sl, dflt_st, dflt_str, dflt_int, dflt_bool] at h24
          have hil : i < l.length := (by omega)
          have hmem := getD_mem hil ([] : List Fld)
          refine acode_skip ?_
          refine acode_seq ?_
          refine acode_block ?_
          refine acode_seq ?_
          refine acode_region ?_
          refine And.intro (by first | omega | assumption | decide | (simp only [Int.toNat_natCast, dflt_sl, dflt_st, dflt_str, dflt_int, dflt_bool]; omega) | (simp <;> omega)) ?_
          refine acode_seq ?_
          rcases Nat.lt_or_ge i k with hik | hik
          · refine acode_region ?_
            refine Or.inl ?_
            refine And.intro (rfl) ?_
            refine Exists.intro _ (And.intro (chk_z (hfo _ hmem) (hpre _ (by rw [List.mem_take_iff_getElem]; exact ⟨i, by omega, getD_get hil ([] : List Fld)⟩))) ?_)
            refine acode_seq ?_
            refine acode_region ?_
            refine acode_cond rfl (fun h33 => ?_) (fun h33 => ?_)
            · try simp only [decide_eq_false_iff_not, Bool.not_eq_true'] at h33
              try simp only [Int.toNat_natCast, dflt_sl, dflt_st, dflt_str, dflt_int, dflt_bool] at h33
              exact absurd h33 (by decide)
            · try simp only [decide_eq_true_eq, Bool.not_eq_false'] at h33
              try simp only [Int.toNat_natCast, dflt_sl, dflt_st, dflt_str, dflt_int, dflt_bool] at h33
              refine acode_skip ?_
              refine acode_region ?_
              refine And.intro (by first | omega | assumption | decide | (simp only [Int.toNat_natCast, dflt_sl, dflt_st, dflt_str, dflt_int, dflt_bool]; omega) | (simp <;> omega)) ?_
              exact ⟨i + 1, by omega, by first | omega | (simp <;> omega), le_of ⟨rfl, rfl, rfl, rfl, rfl, (ii_eq (by omega))⟩ trivial rfl⟩
          · refine acode_region ?_
            refine Or.inl ?_
            refine And.intro (rfl) ?_
            refine Exists.intro _ (And.intro (chk_v (hfo _ hmem) (by have e : i = k := (by omega); subst e; exact hchk)) ?_)
            refine acode_seq ?_
            refine acode_region ?_
            refine acode_cond rfl (fun h33 => ?_) (fun h33 => ?_)
            · try simp only [decide_eq_false_iff_not, Bool.not_eq_true'] at h33
              try simp only [Int.toNat_natCast, dflt_sl, dflt_st, dflt_str, dflt_int, dflt_bool] at h33
              refine acode_seq ?_
              refine acode_region ?_
              refine Or.inl ?_
              refine And.intro (rfl) ?_
              refine Exists.intro _ (And.intro (num_fault j n hn) ?_)
              refine And.intro (fun h => trivial) ?_
              refine And.intro (rfl) ?_
              refine Exists.intro _ (And.intro (fun h => ⟨⟨⟨h, trivial⟩, trivial⟩, at_fault j n⟩) ?_)
              refine And.intro (fun h => trivial) ?_
              refine And.intro (fun h => ⟨⟨h, trivial⟩, ⟨h, trivial⟩, trivial⟩) ?_
              refine And.intro (by exact fun h => h) ?_
              refine And.intro (fun h => trivial) ?_
              refine And.intro (fun h => ⟨⟨h, trivial⟩, trivial⟩) ?_
              refine And.intro (by exact fun h => h) ?_
              refine acode_ret ?_
              first | rfl | exact ib_eq (by simp)
            · try simp only [decide_eq_true_eq, Bool.not_eq_false'] at h33
              try simp only [Int.toNat_natCast, dflt_sl, dflt_st, dflt_str, dflt_int, dflt_bool] at h33
              exact absurd h33 hn
        · try simp only [decide_eq_false_iff_not, Int.not_lt] at h24
          try simp only [Int.toNat_natCast, dflt_sl, dflt_st, dflt_str, dflt_int, dflt_bool] at h24
          omega
end Q
end Ab
end Go.Proofs.YtlhjcdihbbdfnaaDoor
namespace Go.Proofs.YtlhjcdihbbdfnaaDoor
open Go.RowKit
namespace Ab
set_option maxRecDepth 100000
theorem o_str : Opens Tryd.prog 9 .str := opens_str Tryd.underlying9 (by kernel_rfl)
theorem o_int : Opens Tryd.prog 3 (.int .i64) := opens_int Tryd.underlying3 (by kernel_rfl)
theorem o_bool : Opens Tryd.prog 4 .bool := opens_bool Tryd.underlying4 (by kernel_rfl)
theorem o_field : Opens Tryd.prog 68 (.st .str .str) := opens_st Tryd.underlying68 (by kernel_rfl) (.cons rfl o_str (.one rfl o_str))
theorem o_fields : Opens Tryd.prog 29 (.sl (.st .str .str)) := opens_sl (by decide) Tryd.underlying29 (by kernel_rfl) o_field
theorem open_fields {H : Type} {enc : TypeId × Value → H} {W : World} {base : Nat} {v : Value} {d : DataW H} {p : List MemPlace} (hv : Value.okWide Tryd.prog W .any base 29 v) (h : DataW.Trod enc Tryd.prog W 0 (fun _ => true) true 29 v d p) :
    ∃ xs, (C.sl (.st .str .str) xs).rep AllOk noNames W v := open_sl Tryd.underlying29 o_fields hv h
/-- The library's variable holds some number. -/
theorem globAt {W : World} (h : W.ShapedOpen Tryd.prog) : GlobAt AllOk W := by
  have hc : GlobCell W := cell_of_shapedOpen_int (g := 0) (t := 3) (zero := #[.int .i64 0]) h (of_decide_eq_true (by kernel_rfl)) (by kernel_rfl) rfl (by kernel_rfl) (by kernel_rfl) Tryd.underlying3
  refine ⟨trivial, ?_, hc⟩
  obtain ⟨m, hm⟩ := hc
  rcases Nat.lt_or_ge 0 W.heap.size with h1 | h1
  · exact h1
  · exfalso
    simp only [World.cell?, Array.getElem?_eq_none h1] at hm
    cases hm
end Ab
end Go.Proofs.YtlhjcdihbbdfnaaDoor
namespace Go.Proofs.YtlhjcdihbbdfnaaDoor
open Go.RowKit
namespace Ab
set_option maxRecDepth 100000
theorem open_agg {P : Program} {α : Type} {R : Rd α} {t : TypeId} {fs : Array Field} (hu : P.underlying t = some (.struct fs)) (ho : Opens P t R) {H : Type} {enc : TypeId × Value → H} {W : World} {base : Nat} {v : Value} {d : DataW H} {p : List MemPlace} (hv : Value.okWide P W .any base t v)
    (h : DataW.Trod enc P W 0 (fun _ => true) true t v d p) : ∃ x : α, (A.agg (toL R x)).rep AllOk noNames W v := by
  obtain ⟨cs, rfl, _⟩ := Go.WideShapes.okWide_struct hu hv
  obtain ⟨fuel, hf⟩ := h
  obtain ⟨x, hx⟩ := ho.2 enc W _ _ _ _ _ _ hf
  exact ⟨x, cs.toList, by simp, toL_rep R hx⟩
theorem open_field {H : Type} {enc : TypeId × Value → H} {W : World} {base : Nat} {v : Value} {d : DataW H} {p : List MemPlace} (hv : Value.okWide Tryd.prog W .any base 68 v) (h : DataW.Trod enc Tryd.prog W 0 (fun _ => true) true 68 v d p) :
    ∃ x, (A.agg (toL (.st .str .str) x)).rep AllOk noNames W v := open_agg Tryd.underlying68 o_field hv h
theorem o_strs : Opens Tryd.prog 69 (.sl .str) := opens_sl (by decide) Tryd.underlying69 (by kernel_rfl) o_str
theorem open_strs {H : Type} {enc : TypeId × Value → H} {W : World} {base : Nat} {v : Value} {d : DataW H} {p : List MemPlace} (hv : Value.okWide Tryd.prog W .any base 69 v) (h : DataW.Trod enc Tryd.prog W 0 (fun _ => true) true 69 v d p) :
    ∃ xs, (C.sl .str xs).rep AllOk noNames W v := open_sl Tryd.underlying69 o_strs hv h
theorem o_rows : Opens Tryd.prog 22 (.sl (.sl (.st .str .str))) := opens_sl (by decide) Tryd.underlying22 (by kernel_rfl) o_fields
theorem open_rows {H : Type} {enc : TypeId × Value → H} {W : World} {base : Nat} {v : Value} {d : DataW H} {p : List MemPlace} (hv : Value.okWide Tryd.prog W .any base 22 v) (h : DataW.Trod enc Tryd.prog W 0 (fun _ => true) true 22 v d p) :
    ∃ xs, (C.sl (.sl (.st .str .str)) xs).rep AllOk noNames W v := open_sl Tryd.underlying22 o_rows hv h
theorem o_item : Opens Tryd.prog 43 (.st (.int .i64) (.st .str (.sl (.st .str .str)))) := opens_st Tryd.underlying43 (by kernel_rfl) (.cons rfl o_int (.cons rfl o_str (.one rfl o_fields)))
theorem o_items : Opens Tryd.prog 34 (.sl (.st (.int .i64) (.st .str (.sl (.st .str .str))))) := opens_sl (by decide) Tryd.underlying34 (by kernel_rfl) o_item
theorem open_items {H : Type} {enc : TypeId × Value → H} {W : World} {base : Nat} {v : Value} {d : DataW H} {p : List MemPlace} (hv : Value.okWide Tryd.prog W .any base 34 v) (h : DataW.Trod enc Tryd.prog W 0 (fun _ => true) true 34 v d p) :
    ∃ xs, (C.sl (.st (.int .i64) (.st .str (.sl (.st .str .str)))) xs).rep AllOk noNames W v := open_sl Tryd.underlying34 o_items hv h
end Ab
end Go.Proofs.YtlhjcdihbbdfnaaDoor
