/-
  The texts of this proof, joined: abstract values, the library, the functions of the program and what they compute (part 5). No condition.
-/
import Derived.Shelf.Vars
import Derived.KernelRfl
import Derived.Test.YtlhjcdihbbdfnaaDoorK1
import Derived.Test.YtlhjcdihbbdfnaaDoorK2
import Derived.Test.YtlhjcdihbbdfnaaDoorK3
import Derived.Test.YtlhjcdihbbdfnaaDoorK4
namespace Go.Proofs.YtlhjcdihbbdfnaaDoor
open Go.RowKit
namespace Ab
set_option maxRecDepth 100000
namespace Q
theorem linesR_no : ∀ (f : Nat) (tot no : Int) (s : List UInt8) (i : Nat), i < (linesR f tot no s).length → ((linesR f tot no s).getD i ((0 : Int), (0 : Int), ByteArray.empty, false)).1 = no + i
  | 0, _, _, _, i, h => by simp [linesR] at h
  | f + 1, _, _, [], i, h => by simp [linesR] at h
  | f + 1, tot, no, a :: r, i, h => by
    rw [linesR_cons] at h ⊢
    cases i with
    | zero => simp
    | succ i =>
      have := linesR_no f tot (no + 1) (Lib.cut (a :: r) [10]).2.1 i (by simpa using h)
      rw [List.getD_cons_succ, this]
      omega
def bhI (k : List Int) (i : Nat) : Bool := decide (0 < i) && (decide (k.getD (i - 1) 0 = 4) || decide (k.getD (i - 1) 0 = 3))
/-- What the document's answer holds ahead of a line. -/
structure RI (L : List Lne) (k : List Int) (i : Nat) (t : RSt) : Prop where
  il : i ≤ L.length
  eq : runR false rst0 L = runR (bhI k i) t (L.drop i)
  r0 : 0 ≤ t.recs
  ri : t.recs ≤ i
  oi : t.out.length ≤ 2 * i
  fi : t.flds.length ≤ i
  rw_ : t.raw.size ≤ ((L.take i).map (fun l => l.2.2.1.size + 1)).sum
  rd : t.raw = ByteArray.empty ↔ t.raw.size = 0
theorem ri_0 (L : List Lne) (k : List Int) : RI L k 0 rst0 := ⟨Nat.zero_le _, rfl, Int.le_refl _, Int.le_refl _, Nat.le_refl _, Nat.le_refl _, Nat.zero_le _, ⟨fun _ => rfl, fun _ => rfl⟩⟩
theorem size0 (s : ByteArray) : s = ByteArray.empty ↔ s.size = 0 := by
  refine ⟨fun h => by rw [h]; rfl, fun h => ?_⟩
  rw [size_list] at h
  have := List.eq_nil_of_length_eq_zero h
  rw [← bytes_ls s, show ls s = [] from this]; rfl
theorem sum_succ (L : List Lne) (i : Nat) (h : i < L.length) : ((L.take (i + 1)).map (fun l => l.2.2.1.size + 1)).sum = ((L.take i).map (fun l => l.2.2.1.size + 1)).sum + ((L.getD i ((0 : Int), (0 : Int), ByteArray.empty, false)).2.2.1.size + 1) := by
  rw [List.take_succ_eq_append_getElem h, List.map_append, List.sum_append, ← getD_get h ((0 : Int), (0 : Int), ByteArray.empty, false)]
  simp
theorem ri_eq {L : List Lne} {k : List Int} {i : Nat} {t : RSt} (h : RI L k i t) (hi : i < L.length) : runR false rst0 L = if wrongL (bhI k i) (L.getD i ((0 : Int), (0 : Int), ByteArray.empty, false)) (L.drop (i + 1)) t.flds.length t.recs ≠ 0 then .inl ((L.getD i ((0 : Int), (0 : Int), ByteArray.empty, false)).1, wrongL (bhI k i) (L.getD i ((0 : Int), (0 : Int), ByteArray.empty, false)) (L.drop (i + 1)) t.flds.length t.recs) else runR (decide (kindL (ls (L.getD i ((0 : Int), (0 : Int), ByteArray.empty, false)).2.2.1) = 4) || decide (kindL (ls (L.getD i ((0 : Int), (0 : Int), ByteArray.empty, false)).2.2.1) = 3)) (stepR t (L.getD i ((0 : Int), (0 : Int), ByteArray.empty, false)) (L.drop (i + 1))) (L.drop (i + 1)) := by
  rw [h.eq, List.drop_eq_getElem_cons hi, getD_get hi ((0 : Int), (0 : Int), ByteArray.empty, false)]
  rfl
theorem bh_next {L : List Lne} {k : List Int} (hk : k = L.map (fun l => kindL (ls l.2.2.1))) {i : Nat} (hi : i < L.length) : bhI k (i + 1) = (decide (kindL (ls (L.getD i ((0 : Int), (0 : Int), ByteArray.empty, false)).2.2.1) = 4) || decide (kindL (ls (L.getD i ((0 : Int), (0 : Int), ByteArray.empty, false)).2.2.1) = 3)) := by
  unfold bhI
  rw [Nat.add_sub_cancel, kind_at hk hi]
  simp
theorem ri_next {L : List Lne} {k : List Int} (hk : k = L.map (fun l => kindL (ls l.2.2.1))) {i : Nat} {t : RSt} (h : RI L k i t) (hi : i < L.length) (hw : wrongL (bhI k i) (L.getD i ((0 : Int), (0 : Int), ByteArray.empty, false)) (L.drop (i + 1)) t.flds.length t.recs = 0) : RI L k (i + 1) (stepR t (L.getD i ((0 : Int), (0 : Int), ByteArray.empty, false)) (L.drop (i + 1))) := by
  have e := ri_eq h hi
  rw [if_neg (by rw [hw]; simp), ← bh_next hk hi] at e
  have h1 := h.r0
  have h2 := h.ri
  have h3 := h.oi
  have h4 := h.fi
  have h5 := h.rw_
  have h6 := sum_succ L i hi
  refine ⟨hi, e, ?_, ?_, ?_, ?_, ?_, size0 _⟩
  · unfold stepR
    split
    · exact h1
    · split
      · simp only; split <;> omega
      · exact h1
  · unfold stepR
    split
    · simp only; omega
    · split
      · simp only; split <;> omega
      · simp only; omega
  · unfold stepR
    split
    · simp only; split <;> simp <;> omega
    · split
      · simp only; omega
      · simp only; omega
  · unfold stepR
    split
    · simp
    · split
      · simp; omega
      · simp only; omega
  · rw [h6]
    have h10 : ByteArray.size ⟨#[10]⟩ = 1 := rfl
    unfold stepR
    split
    · simp
    · split
      · simp only [ByteArray.size_append]; omega
      · simp only [ByteArray.size_append]; omega
theorem said_ok {s : ByteArray} (hs : s.size ≤ 60000) {i : Nat} (hi : i < (linesT s).length) : LinesOk (saidL ((linesT s).getD i ((0 : Int), (0 : Int), ByteArray.empty, false)) ((linesT s).drop (i + 1))) := by
  obtain ⟨h1, h2⟩ := linesT_len s
  have h3 : ((((linesT s).drop (i + 1)).takeWhile more).map (·.2.2.1.size)).sum ≤ ((linesT s).map (·.2.2.1.size)).sum := by
    have e1 : (linesT s) = (linesT s).take (i + 1) ++ ((linesT s).drop (i + 1)) := (List.take_append_drop _ _).symm
    have e2 : (linesT s).drop (i + 1) = ((linesT s).drop (i + 1)).takeWhile more ++ ((linesT s).drop (i + 1)).dropWhile more := List.takeWhile_append_dropWhile.symm
    conv => rhs; rw [e1, e2]
    simp only [List.map_append, List.sum_append]
    omega
  have h4 : (((linesT s).drop (i + 1)).takeWhile more).length ≤ (linesT s).length := by
    have := (List.takeWhile_sublist more (l := (linesT s).drop (i + 1))).length_le
    rw [List.length_drop] at this
    omega
  have h5 := linesT_sz hi
  rw [getD_get hi ((0 : Int), (0 : Int), ByteArray.empty, false)] at h5
  unfold saidL
  refine ⟨by simp only [List.length_cons, List.length_map]; omega, ?_⟩
  simp only [List.map_cons, List.sum_cons, List.map_map]
  have : ((((linesT s).drop (i + 1)).takeWhile more).map ((fun x : ByteArray => x.size) ∘ fun x : Lne => x.2.2.1)).sum = ((((linesT s).drop (i + 1)).takeWhile more).map (·.2.2.1.size)).sum := rfl
  omega
def resR : (Int × Int) ⊕ List Itm → A
  | .inl e => .tup [(false, [.sl rItm []]), (false, [.lit (.int .i64 e.1)]), (false, [.lit (.int .i64 e.2)])]
  | .inr l => .tup [(false, [.sl rItm l]), (false, [.lit (.int .i64 (-9))]), (false, [.lit (.int .i64 0)])]
theorem sum_total (s : ByteArray) (i : Nat) : (((linesT s).take i).map (fun l => l.2.2.1.size + 1)).sum ≤ 2 * s.size := by
  obtain ⟨h1, h2⟩ := linesT_len s
  have e : ∀ L : List Lne, (L.map (fun l => l.2.2.1.size + 1)).sum = (L.map (·.2.2.1.size)).sum + L.length := by
    intro L
    induction L with
    | nil => rfl
    | cons a r ih => simp only [List.map_cons, List.sum_cons, List.length_cons, ih]; omega
  have h3 : (((linesT s).take i).map (fun l => l.2.2.1.size + 1)).sum ≤ ((linesT s).map (fun l => l.2.2.1.size + 1)).sum := by
    conv => rhs; rw [← List.take_append_drop i (linesT s)]
    rw [List.map_append, List.sum_append]
    omega
  rw [e (linesT s)] at h3
  omega
end Q
end Ab
end Go.Proofs.YtlhjcdihbbdfnaaDoor
namespace Go.Proofs.YtlhjcdihbbdfnaaDoor
open Go.RowKit
namespace Ab
set_option maxRecDepth 100000
namespace Q
abbrev rRow : Rd (List Fld) := .sl rFld
def recsL (l : List Itm) : List (List Fld) := (l.filter fun x => decide (x.1 = 3)).map (·.2.2)
theorem recs_snoc (l : List Itm) (i : Nat) (h : i < l.length) : recsL (l.take (i + 1)) = if (l.getD i ((0 : Int), ByteArray.empty, ([] : List Fld))).1 = 3 then recsL (l.take i) ++ [(l.getD i ((0 : Int), ByteArray.empty, ([] : List Fld))).2.2] else recsL (l.take i) := by
  unfold recsL
  rw [List.take_succ_eq_append_getElem h, List.filter_append, List.map_append, getD_get h ((0 : Int), ByteArray.empty, ([] : List Fld))]
  by_cases h3 : (l.getD i ((0 : Int), ByteArray.empty, ([] : List Fld))).1 = 3
  · rw [if_pos h3, List.filter_cons_of_pos (by simpa using h3)]; rfl
  · rw [if_neg h3, List.filter_cons_of_neg (by simpa using h3)]; simp
theorem recs_le (l : List Itm) (i : Nat) : (recsL (l.take i)).length ≤ l.length := by
  unfold recsL
  rw [List.length_map]
  refine Nat.le_trans (List.length_filter_le _ _) ?_
  rw [List.length_take]
  omega
theorem stanzas_c (l : List Itm) (hl : l.length ≤ 1000000) (hf : ∀ x ∈ l, x.2.2.length ≤ 1000000) : ACall Tryd.prog 16 [.one (.sl rItm l)] (.one (.sl rRow (recsL l))) := by
  refine acall_of (rs := [2]) Tryd.func16 rfl rfl rfl teOk rfl ?_
  refine acode_seq ?_
  refine acode_region ?_
  refine acode_seq ?_
  refine acode_region ?_
  refine acode_seq ?_
  refine acode_seq ?_
  refine acode_nilvec 3 29 rRow rfl ?_
  refine acode_region ?_
  intro l2_1
  try simp only [Int.toNat_natCast, dflt_sl, dflt_st, dflt_str, dflt_int, dflt_bool] at l2_1
  refine acode_block ?_
  refine acode_loopP (fun (i : Nat) => i ≤ l.length) (fun (i : Nat) => [(3, .one (.vec 0)), (6, .one (.sl rItm l)), (7, ii .i64 l.length), (8, ii .i64 i)]) (fun (i : Nat) => [(0, .vec 29 rRow (recsL (l.take i)))]) 1 (fun (i : Nat) => l.length - i) 0 (Nat.zero_le _) (le_of ⟨rfl, rfl, rfl, rfl⟩ rfl rfl) ?_
  intro i hI0
  refine acode_seq ?_
  refine acode_region ?_
  refine acode_seq ?_
  refine acode_cond rfl (fun h9 => ?_) (fun h9 => ?_)
  · try simp only [decide_eq_true_eq] at h9
    try simp only [Int.toNat_natCast, dflt_sl, dflt_st, dflt_str, dflt_int, dflt_bool] at h9
    have hil : i < l.length := (by omega)
    have hrs := recs_snoc l i hil
    have hrl := recs_le l i
    have hfl := hf _ (getD_mem hil ((0 : Int), ByteArray.empty, ([] : List Fld)))
    refine acode_skip ?_
    refine acode_seq ?_
    refine acode_block ?_
    refine acode_seq ?_
    refine acode_region ?_
    refine And.intro (by first | omega | assumption | decide | (simp only [Int.toNat_natCast, dflt_sl, dflt_st, dflt_str, dflt_int, dflt_bool]; omega) | (simp <;> omega)) ?_
    refine acode_seq ?_
    refine acode_region ?_
    refine acode_cond rfl (fun h14 => ?_) (fun h14 => ?_)
    · try simp only [decide_eq_true_eq] at h14
      try simp only [Int.toNat_natCast, dflt_sl, dflt_st, dflt_str, dflt_int] at h14
      rw [if_pos h14] at hrs
      refine acode_region ?_
      refine And.intro (by first | exact app_le (show (l.getD i ((0 : Int), ByteArray.empty, ([] : List Fld))).2.2.length ≤ 1000000000 by omega) (by decide) | exact app_le (show 0 + (l.getD i ((0 : Int), ByteArray.empty, ([] : List Fld))).2.2.length ≤ 1000000000 by omega) (by decide)) ?_
      refine And.intro (by first | exact app_le (by first | omega | (simp only [List.length_cons, List.length_nil]; omega) | (simp; omega)) (by decide) | omega | assumption | decide | (simp only [Int.toNat_natCast, dflt_sl, dflt_st, dflt_str, dflt_int, dflt_bool]; omega) | (simp <;> omega)) ?_
      refine acode_region ?_
      refine And.intro (by first | omega | assumption | decide | (simp only [Int.toNat_natCast, dflt_sl, dflt_st, dflt_str, dflt_int, dflt_bool]; omega) | (simp <;> omega)) ?_
      exact ⟨i + 1, by omega, by first | omega | (simp <;> omega), le_of ⟨rfl, rfl, rfl, (ii_eq (by omega))⟩ (vec_eq (by rw [hrs]; try rfl)) rfl⟩
    · try simp only [decide_eq_false_iff_not] at h14
      try simp only [Int.toNat_natCast, dflt_sl, dflt_st, dflt_str, dflt_int] at h14
      rw [if_neg h14] at hrs
      refine acode_skip ?_
      refine acode_region ?_
      refine And.intro (by first | omega | assumption | decide | (simp only [Int.toNat_natCast, dflt_sl, dflt_st, dflt_str, dflt_int, dflt_bool]; omega) | (simp <;> omega)) ?_
      exact ⟨i + 1, by omega, by first | omega | (simp <;> omega), le_of ⟨rfl, rfl, rfl, (ii_eq (by omega))⟩ (vec_eq (by rw [hrs]; try rfl)) rfl⟩
  · try simp only [decide_eq_false_iff_not, Int.not_lt] at h9
    try simp only [Int.toNat_natCast, dflt_sl, dflt_st, dflt_str, dflt_int, dflt_bool] at h9
    refine acode_exit ?_
    refine acode_seq ?_
    refine acode_region ?_
    refine acode_ret ?_
    rw [List.take_of_length_le (by omega)]
    rfl
def contP (p : PSt) : List UInt8 := rawsL p.its ++ endL (p.blk.map ls)
theorem raws_app (a b : List Itm) : rawsL (a ++ b) = rawsL a ++ rawsL b := by simp [rawsL]
theorem endL_app (a b : List (List UInt8)) : endL (a ++ b) = endL a ++ endL b := by simp [endL]
theorem close_cont (p : PSt) : contP (closeS p) = contP p := by
  unfold closeS
  split
  · rename_i h
    unfold contP
    simp [h]
  · rename_i h
    unfold contP
    simp only [raws_app]
    rw [rawB_C h]
    have : rawsL [((if p.flds = [] then 2 else 3 : Int), rawC p.blk, p.flds)] = endL (p.blk.map ls) := by
      unfold rawsL rawC
      simp only [List.flatMap_cons, List.flatMap_nil, List.append_nil]
      exact bytes_list _
    rw [this]
    simp [endL]
theorem flush_cont {p q : PSt} (h : flushS p = .inr q) : contP q = contP p := by
  obtain ⟨h1, h2⟩ := flush_same h
  unfold contP
  rw [h1, h2]
theorem end_cont {p q : PSt} (h : endS p = .inr q) : contP q = contP p := by
  unfold endS at h
  cases e : flushS p with
  | inl x => rw [e] at h; cases h
  | inr r =>
    rw [e] at h
    cases h
    rw [close_cont, flush_cont e]
theorem ahead_cont {p q : PSt} {l : Lne} {k : Int} (h : aheadS p l k = .inr q) : contP q = contP p := by
  unfold aheadS at h
  split at h
  · split at h
    · cases h
    · split at h
      · cases h; rfl
      · rw [flush_cont h]; rfl
  · split at h
    · exact end_cont h
    · exact flush_cont h
theorem take_cont {p q : PSt} {l : Lne} (h : takeS p l = .inr q) : contP q = contP p ++ (ls l.2.2.1 ++ [10]) := by
  have hi := fun hk => (ahead_took (p := p) (l := l) (k := kindL (ls l.2.2.1)) (q := q) hk)
  unfold takeS at h
  cases e : aheadS p l (kindL (ls l.2.2.1)) with
  | inl x => rw [e] at h; cases h
  | inr r =>
    rw [e] at h
    have hc := ahead_cont e
    obtain ⟨_, _, h4⟩ := ahead_took e
    simp only at h
    unfold lineS at h
    split at h
    · cases h
    · split at h
      · rename_i g1
        cases h
        rw [← hc]
        unfold contP
        simp only [raws_app, (h4 g1).2.1]
        simp [rawsL, endL, ls]
      · split at h
        · cases h
          rw [← hc]
          unfold contP beginS
          simp only [List.map_append, endL_app]
          simp [endL, ls]
        · cases h
          rw [← hc]
          unfold contP
          simp only [List.map_append, endL_app]
          simp [endL, ls]
theorem run_cont : ∀ (L : List Lne) (p q : PSt), runS p L = .inr q → contP q = contP p ++ glue (L.map (·.2.2))
  | [], p, q, h => by cases h; simp [glue]
  | l :: r, p, q, h => by
    simp only [runS] at h
    cases e : takeS p l with
    | inl x => rw [e] at h; cases h
    | inr p1 =>
      rw [e] at h
      obtain ⟨he, _⟩ := take_took e
      rw [run_cont r p1 q h, take_cont e, List.map_cons]
      simp only [glue, he, if_true, List.append_assoc]
theorem raws_text {s : ByteArray} {l : List Itm} (hp : parseS s = .inr l) : bytes (rawsL l) = s := by
  unfold parseS at hp
  cases e : runS pst0 (linesT s) with
  | inl x => rw [e] at hp; cases hp
  | inr p =>
    rw [e] at hp
    simp only at hp
    cases e2 : endS p with
    | inl x => rw [e2] at hp; cases hp
    | inr q =>
      rw [e2] at hp
      cases hp
      obtain ⟨_, _, hidle⟩ := end_took e2
      have h1 : contP q = rawsL q.its := by unfold contP; rw [hidle.2.1]; simp [endL]
      rw [← h1, end_cont e2, run_cont _ _ _ e, lines_text, glue_lines _ _ (by rw [show (ls s).length = s.size from (size_list s).symm]; exact Nat.le_refl _)]
      exact bytes_ls s
theorem runR_ne : ∀ (L : List Lne) (t : RSt) (bh : Bool) (e : Int × Int), runR bh t L = .inl e → e.2 ≠ 0
  | [], t, bh, e, h => by unfold runR at h; cases h
  | l :: r, t, bh, e, h => by
    unfold runR at h
    split at h
    · rename_i hw; cases h; exact hw
    · exact runR_ne r _ _ e h
theorem items_flds {s : ByteArray} {l : List Itm} (hs : s.size ≤ 60000) (hp : parseS s = .inr l) : l.length ≤ 1000000 ∧ ∀ x ∈ l, x.2.2.length ≤ 1000000 := by
  have h0 := parse_ref s
  rw [hp] at h0
  obtain ⟨h1, _⟩ := linesT_len s
  have key : ∀ (L : List Lne) (t : RSt) (bh : Bool) (l : List Itm), runR bh t L = .inr l → l.length ≤ t.out.length + 1 + 2 * L.length ∧ ∀ (B : Nat), t.flds.length + L.length ≤ B → (∀ x ∈ t.out, x.2.2.length ≤ B) → ∀ x ∈ l, x.2.2.length ≤ B := by
    intro L
    induction L with
    | nil =>
      intro t bh l h
      unfold runR at h
      cases h
      refine ⟨by split <;> simp, fun B hB ho x hx => ?_⟩
      split at hx
      · exact ho x hx
      · rcases List.mem_append.1 hx with hx | hx
        · exact ho x hx
        · rw [List.mem_singleton.1 hx]; simpa using hB
    | cons a r ih =>
      intro t bh l h
      unfold runR at h
      split at h
      · cases h
      · obtain ⟨i1, i2⟩ := ih _ _ _ h
        have so : (stepR t a r).out.length ≤ t.out.length + 2 := by
          unfold stepR
          split
          · simp only; split <;> simp
          · split <;> simp
        have sf : (stepR t a r).flds.length ≤ t.flds.length + 1 := by
          unfold stepR
          split
          · simp
          · split <;> simp
        refine ⟨by rw [List.length_cons]; omega, fun B hB ho => i2 B (by rw [List.length_cons] at hB; omega) (fun x hx => ?_)⟩
        have hB2 : t.flds.length ≤ B := by omega
        unfold stepR at hx
        split at hx
        · simp only at hx
          rcases List.mem_append.1 hx with hx | hx
          · split at hx
            · exact ho x hx
            · rcases List.mem_append.1 hx with hx | hx
              · exact ho x hx
              · rw [List.mem_singleton.1 hx]; exact hB2
          · rw [List.mem_singleton.1 hx]; exact Nat.zero_le _
        · split at hx
          · exact ho x hx
          · exact ho x hx
  obtain ⟨k1, k2⟩ := key _ _ _ _ h0.symm
  refine ⟨by simp only [rst0, List.length_nil] at k1; omega, k2 1000000 (by simp only [rst0, List.length_nil]; omega) (fun x hx => by cases hx)⟩
theorem at_errno (n : Int) : ACall Tryd.prog 13 [.one (errN n)] (ii .i64 (-9)) := by
  refine acall_of (rs := [2]) Tryd.func13 rfl rfl rfl teOk rfl ?_
  refine acode_seq ?_
  refine acode_region ?_
  refine acode_seq ?_
  refine acode_seq ?_
  refine acode_region ?_
  refine acode_seq ?_
  refine acode_region ?_
  refine And.intro (fun h => trivial) ?_
  refine And.intro (fun h => ⟨⟨h, trivial⟩, trivial⟩) ?_
  refine And.intro (by exact fun h => h) ?_
  refine acode_cond rfl (fun h14 => ?_) (fun h14 => ?_)
  · try simp only [Bool.and_eq_true, Bool.not_eq_true'] at h14
    try simp only [Int.toNat_natCast, dflt_sl, dflt_st, dflt_str, dflt_int, dflt_bool] at h14
    simp at h14
  · try simp only [Bool.not_eq_false', Bool.and_eq_false_iff] at h14
    try simp only [Int.toNat_natCast, dflt_sl, dflt_st, dflt_str, dflt_int, dflt_bool] at h14
    refine acode_skip ?_
    refine acode_seq ?_
    refine acode_region ?_
    refine acode_ret ?_
    rfl
end Q
end Ab
end Go.Proofs.YtlhjcdihbbdfnaaDoor
namespace Go.Proofs.YtlhjcdihbbdfnaaDoor
open Go.RowKit
namespace Ab
set_option maxRecDepth 100000
namespace Q
/-- Items put apart: behind an item of this kind (1: a blank one, or none). -/
def apartK (k : Int) : List Itm → List Itm
  | [] => []
  | x :: r => if k ≠ 1 ∧ x.1 ≠ 1 then (1, ⟨#[10]⟩, []) :: x :: apartK x.1 r else x :: apartK x.1 r
def apartL (l : List Itm) : List Itm := apartK 1 l
/-- No two neighbours that aren't blank, behind an item of this kind; the last one's kind. -/
def altK (k : Int) : List Itm → Prop
  | [] => True
  | x :: r => (k = 1 ∨ x.1 = 1) ∧ altK x.1 r
def lastK (k : Int) : List Itm → Int
  | [] => k
  | x :: r => lastK x.1 r
theorem apart_alt : ∀ (l : List Itm) (k : Int), altK k l → apartK k l = l
  | [], _, _ => rfl
  | x :: r, k, h => by
    unfold apartK
    rw [if_neg (fun e => h.1.elim e.1 e.2), apart_alt r x.1 h.2]
theorem altK_app : ∀ (l m : List Itm) (k : Int), altK k (l ++ m) ↔ altK k l ∧ altK (lastK k l) m
  | [], m, k => by simp [altK, lastK]
  | x :: r, m, k => by
    simp only [List.cons_append, altK, lastK, altK_app r m x.1, and_assoc]
theorem lastK_app : ∀ (l m : List Itm) (k : Int), lastK k (l ++ m) = lastK (lastK k l) m
  | [], _, _ => rfl
  | x :: r, m, k => by simp only [List.cons_append, lastK, lastK_app r m x.1]
def AltP (p : PSt) : Prop := altK 1 p.its ∧ lastK 1 p.its = 1
theorem flush_alt {p q : PSt} (h : flushS p = .inr q) (hp : AltP p) : AltP q := by
  unfold AltP
  rw [(flush_same h).1]
  exact hp
theorem end_alt {p q : PSt} (h : endS p = .inr q) (hp : AltP p) : altK 1 q.its := by
  unfold endS at h
  cases e : flushS p with
  | inl x => rw [e] at h; cases h
  | inr r =>
    rw [e] at h
    cases h
    have hr := flush_alt e hp
    unfold closeS
    split
    · exact hr.1
    · refine (altK_app _ _ _).2 ⟨hr.1, .inl hr.2, trivial⟩
theorem take_alt {p q : PSt} {l : Lne} (h : takeS p l = .inr q) (hp : AltP p) : AltP q := by
  unfold takeS at h
  cases e : aheadS p l (kindL (ls l.2.2.1)) with
  | inl x => rw [e] at h; cases h
  | inr r =>
    rw [e] at h
    simp only at h
    by_cases h1 : kindL (ls l.2.2.1) = 1
    · have hr : altK 1 r.its := by
        unfold aheadS at e
        rw [h1, if_neg (by decide), if_pos rfl] at e
        exact end_alt e hp
      unfold lineS at h
      split at h
      · cases h
      · cases h
        exact ⟨(altK_app _ _ _).2 ⟨hr, .inr rfl, trivial⟩, by rw [lastK_app]; rfl⟩
    · have hr : AltP r := by
        unfold aheadS at e
        split at e
        · split at e
          · cases e
          · split at e
            · cases e; exact hp
            · exact flush_alt e hp
        · exact flush_alt e hp
      unfold lineS at h
      split at h
      · cases h
      · split at h <;> (cases h; exact hr)
theorem run_alt : ∀ (L : List Lne) (p q : PSt), runS p L = .inr q → AltP p → AltP q
  | [], p, q, h, hp => by cases h; exact hp
  | l :: r, p, q, h, hp => by
    simp only [runS] at h
    cases e : takeS p l with
    | inl x => rw [e] at h; cases h
    | inr p1 =>
      rw [e] at h
      exact run_alt r p1 q h (take_alt e hp)
theorem parse_alt {s : ByteArray} {l : List Itm} (hp : parseS s = .inr l) : apartL l = l := by
  unfold parseS at hp
  cases e : runS pst0 (linesT s) with
  | inl x => rw [e] at hp; cases hp
  | inr p =>
    rw [e] at hp
    simp only at hp
    cases e2 : endS p with
    | inl x => rw [e2] at hp; cases hp
    | inr q =>
      rw [e2] at hp
      cases hp
      exact apart_alt _ _ (end_alt e2 (run_alt _ _ _ e ⟨trivial, rfl⟩))
end Q
end Ab
end Go.Proofs.YtlhjcdihbbdfnaaDoor
namespace Go.Proofs.YtlhjcdihbbdfnaaDoor
open Go.RowKit
namespace Ab
set_option maxRecDepth 100000
namespace Q
theorem flush_recs {p q : PSt} (h : flushS p = .inr q) : q.recs = p.recs := by
  unfold flushS at h
  split at h
  · cases h; rfl
  · split at h
    · cases h
    · split at h
      · cases h
      · cases h; rfl
theorem close_recs (p : PSt) : p.recs ≤ (closeS p).recs ∧ (closeS p).recs ≤ p.recs + 1 := by
  unfold closeS
  split
  · exact ⟨Int.le_refl _, by simp only; omega⟩
  · simp only
    split <;> omega
theorem end_recs {p q : PSt} (h : endS p = .inr q) : p.recs ≤ q.recs ∧ q.recs ≤ p.recs + 1 := by
  unfold endS at h
  cases e : flushS p with
  | inl x => rw [e] at h; cases h
  | inr r =>
    rw [e] at h
    cases h
    rw [← flush_recs e]
    exact close_recs r
theorem ahead_recs {p q : PSt} {l : Lne} {k : Int} (h : aheadS p l k = .inr q) : p.recs ≤ q.recs ∧ (k ≠ 1 → q.recs = p.recs) := by
  unfold aheadS at h
  split at h
  · split at h
    · cases h
    · split at h
      · cases h; exact ⟨Int.le_refl _, fun _ => rfl⟩
      · have := flush_recs h
        simp only at this
        exact ⟨by omega, fun _ => this⟩
  · split at h
    · rename_i h1
      exact ⟨(end_recs h).1, fun e => absurd h1 e⟩
    · have := flush_recs h
      exact ⟨by omega, fun _ => this⟩
theorem line_recs {p q : PSt} {l : Lne} {k : Int} (h : lineS p l k = .inr q) : q.recs = p.recs := by
  unfold lineS at h
  split at h
  · cases h
  · split at h
    · cases h; rfl
    · split at h <;> (cases h; rfl)
theorem take_recs {p q : PSt} {l : Lne} (h : takeS p l = .inr q) : p.recs ≤ q.recs ∧ (kindL (ls l.2.2.1) ≠ 1 → q.recs = p.recs) := by
  unfold takeS at h
  cases e : aheadS p l (kindL (ls l.2.2.1)) with
  | inl x => rw [e] at h; cases h
  | inr r =>
    rw [e] at h
    rw [line_recs h]
    exact ahead_recs e
theorem run_recs : ∀ (L : List Lne) (p q : PSt), runS p L = .inr q → p.recs ≤ q.recs
  | [], p, q, h => by cases h; exact Int.le_refl _
  | l :: r, p, q, h => by
    simp only [runS] at h
    cases e : takeS p l with
    | inl x => rw [e] at h; cases h
    | inr p1 =>
      rw [e] at h
      exact Int.le_trans (take_recs e).1 (run_recs r p1 q h)
theorem take_its {p q : PSt} {l : Lne} (h : takeS p l = .inr q) (hk : kindL (ls l.2.2.1) ≠ 1) : q.its = p.its := by
  unfold takeS at h
  cases e : aheadS p l (kindL (ls l.2.2.1)) with
  | inl x => rw [e] at h; cases h
  | inr r =>
    rw [e] at h
    have h1 : r.its = p.its := by
      unfold aheadS at e
      split at e
      · split at e
        · cases e
        · split at e
          · cases e; rfl
          · exact (flush_same e).1
      · exact (flush_same e).1
    rw [← h1]
    simp only at h
    unfold lineS at h
    split at h
    · cases h
    · split at h <;> (cases h; rfl)
/-- Two parsers that do alike, the other way about: the first one goes on where there is room. -/
structure Fwd (I : List Itm) (c : Int) (p q : PSt) : Prop where
  lns : p.lns = q.lns
  full : q.lns ≠ [] → q.full = false → p.full = false
  its : p.its = I ++ q.its
  blk : p.blk = q.blk
  flds : p.flds = q.flds
  recs : p.recs = q.recs + c
  c0 : 0 ≤ c
section
variable {I : List Itm} {c : Int} {p q q1 : PSt}
theorem flush_fwd (h : Fwd I c p q) (hf : flushS q = .inr q1) : ∃ p1, flushS p = .inr p1 ∧ Fwd I c p1 q1 := by
  unfold flushS at hf ⊢
  by_cases h0 : q.lns = []
  · rw [if_pos h0] at hf; cases hf
    rw [if_pos (by rw [h.lns]; exact h0)]
    exact ⟨_, rfl, h⟩
  · rw [if_neg h0] at hf
    rw [if_neg (by rw [h.lns]; exact h0), h.lns]
    split at hf
    · cases hf
    · rename_i h1
      rw [if_neg h1]
      split at hf
      · cases hf
      · rename_i h2
        cases hf
        have h3 : p.full = false := h.full h0 (by simpa using h2)
        rw [if_neg (by rw [h3]; decide)]
        exact ⟨_, rfl, rfl, fun e => absurd rfl e, h.its, h.blk, by simp only [h.flds], h.recs, h.c0⟩
theorem close_fwd (h : Fwd I c p q) : Fwd I c (closeS p) (closeS q) := by
  unfold closeS
  rw [h.blk, h.flds]
  split
  · exact ⟨h.lns, h.full, h.its, rfl, rfl, h.recs, h.c0⟩
  · by_cases hf : q.flds = []
    · simp only [if_pos hf]
      exact ⟨h.lns, h.full, by simp only [h.its, List.append_assoc], rfl, rfl, h.recs, h.c0⟩
    · have h2 := h.recs
      simp only [if_neg hf]
      exact ⟨h.lns, h.full, by simp only [h.its, List.append_assoc], rfl, rfl, by simp only; omega, h.c0⟩
theorem end_fwd (h : Fwd I c p q) (hf : endS q = .inr q1) : ∃ p1, endS p = .inr p1 ∧ Fwd I c p1 q1 := by
  unfold endS at hf ⊢
  cases e : flushS q with
  | inl x => rw [e] at hf; cases hf
  | inr r =>
    rw [e] at hf
    cases hf
    obtain ⟨p1, e1, h1⟩ := flush_fwd h e
    rw [e1]
    exact ⟨_, rfl, close_fwd h1⟩
theorem begin_fwd {l : Lne} (h : Fwd I c p q) (hr : p.recs < 400) : Fwd I c (beginS p l) (beginS q l) := by
  refine ⟨rfl, fun _ e => ?_, h.its, h.blk, h.flds, h.recs, h.c0⟩
  simp only [beginS, h.flds, Bool.or_eq_false_iff, Bool.and_eq_false_iff, decide_eq_false_iff_not] at e ⊢
  exact ⟨e.1, .inr (by omega)⟩
theorem more_fwd {t : ByteArray} (h : Fwd I c p q) (h0 : q.lns ≠ []) : Fwd I c { p with lns := p.lns ++ [t] } { q with lns := q.lns ++ [t] } :=
  ⟨by simp only [h.lns], fun _ e => h.full h0 e, h.its, h.blk, h.flds, h.recs, h.c0⟩
theorem ahead_fwd {l : Lne} {k : Int} (h : Fwd I c p q) (hf : aheadS q l k = .inr q1) : ∃ p1, aheadS p l k = .inr p1 ∧ Fwd I c p1 q1 := by
  unfold aheadS at hf ⊢
  split at hf
  · rename_i hk
    rw [if_pos hk]
    by_cases h0 : q.lns = []
    · rw [if_pos h0] at hf; cases hf
    · rw [if_neg h0] at hf
      rw [if_neg (by rw [h.lns]; exact h0)]
      split at hf
      · rename_i he
        rw [if_pos he]
        cases hf
        exact ⟨_, rfl, more_fwd h h0⟩
      · rename_i he
        rw [if_neg he]
        exact flush_fwd (more_fwd h h0) hf
  · rename_i hk
    rw [if_neg hk]
    split at hf
    · rename_i h1; rw [if_pos h1]; exact end_fwd h hf
    · rename_i h1; rw [if_neg h1]; exact flush_fwd h hf
theorem take_fwd {l : Lne} (h : Fwd I c p q) (hf : takeS q l = .inr q1) (hr : q1.recs + c < 400) : ∃ p1, takeS p l = .inr p1 ∧ Fwd I c p1 q1 := by
  unfold takeS at hf ⊢
  cases e : aheadS q l (kindL (ls l.2.2.1)) with
  | inl x => rw [e] at hf; cases hf
  | inr r =>
    rw [e] at hf
    obtain ⟨r', e1, h1⟩ := ahead_fwd h e
    rw [e1]
    simp only at hf ⊢
    have hrr := line_recs hf
    unfold lineS at hf ⊢
    split at hf
    · cases hf
    · rename_i g1
      rw [if_neg g1]
      split at hf
      · rename_i g2
        rw [if_pos g2]
        cases hf
        exact ⟨_, rfl, h1.lns, h1.full, by simp only [h1.its, List.append_assoc], h1.blk, h1.flds, h1.recs, h1.c0⟩
      · rename_i g2
        rw [if_neg g2]
        split at hf
        · rename_i g3
          rw [if_pos g3]
          cases hf
          have h2 := begin_fwd (l := l) h1 (by have := h1.recs; omega)
          exact ⟨_, rfl, h2.lns, h2.full, h2.its, by simp only [h1.blk], h2.flds, h2.recs, h2.c0⟩
        · rename_i g3
          rw [if_neg g3]
          cases hf
          exact ⟨_, rfl, h1.lns, h1.full, h1.its, by simp only [h1.blk], h1.flds, h1.recs, h1.c0⟩
end
theorem run_fwd {I : List Itm} {c : Int} : ∀ (L : List Lne) (p q q1 : PSt), Fwd I c p q → runS q L = .inr q1 → q1.recs + c < 400 → ∃ p1, runS p L = .inr p1 ∧ Fwd I c p1 q1
  | [], p, q, q1, h, hr, _ => by cases hr; exact ⟨_, rfl, h⟩
  | l :: r, p, q, q1, h, hr, h4 => by
    simp only [runS] at hr ⊢
    cases e1 : takeS q l with
    | inl x => rw [e1] at hr; cases hr
    | inr q2 =>
      rw [e1] at hr
      have := run_recs r q2 q1 hr
      obtain ⟨p2, e2, h2⟩ := take_fwd h e1 (by omega)
      rw [e2]
      exact run_fwd r p2 q2 q1 h2 hr h4
/-- A block: lines that are parsed to just this item. -/
def Blk (x : Itm) : Prop := ∃ (L : List Lne) (q qe : PSt), (∀ l ∈ L, l.2.2.2 = true ∧ (10 : UInt8) ∉ ls l.2.2.1) ∧ runS pst0 L = .inr q ∧ q.its = [] ∧ q.recs = 0 ∧ endS q = .inr qe ∧ qe.its = [x] ∧ glue (L.map (·.2.2)) = ls x.2.1
theorem end_one {q qe : PSt} (h : endS q = .inr qe) (h0 : q.its = []) : qe.its = [] ∨ ∃ x, qe.its = [x] := by
  unfold endS at h
  cases e : flushS q with
  | inl x => rw [e] at h; cases h
  | inr r =>
    rw [e] at h
    cases h
    have h1 := (flush_same e).1
    unfold closeS
    split
    · left; simp only; rw [h1, h0]
    · right; simp only; rw [h1, h0]; exact ⟨_, rfl⟩
/-- How far the blocks are known: those that are put down, and the one that is under way. -/
def Par (p : PSt) : Prop := ∃ (I : List Itm) (c : Int) (L : List Lne) (q : PSt), Rel I c p q ∧ runS pst0 L = .inr q ∧ q.its = [] ∧ q.recs = 0 ∧ (∀ l ∈ L, l.2.2.2 = true ∧ (10 : UInt8) ∉ ls l.2.2.1) ∧ ∀ x ∈ I, x.1 ≠ 1 → Blk x
theorem end_par {p pe : PSt} (hp : Par p) (h : endS p = .inr pe) : (∀ x ∈ pe.its, x.1 ≠ 1 → Blk x) ∧ Idle pe ∧ 0 ≤ pe.recs ∧ pe.recs ≤ 400 := by
  obtain ⟨I, c, L, q, hrel, hrun, hits, hrec, hL, hI⟩ := hp
  obtain ⟨qe, h1, h2⟩ := end_rel hrel h
  obtain ⟨_, _, hid⟩ := end_took h
  have hqr := end_recs h1
  refine ⟨fun x hx hx1 => ?_, hid, by have := h2.recs; have := h2.c0; omega, h2.r4⟩
  rw [h2.its] at hx
  rcases List.mem_append.1 hx with hx | hx
  · exact hI x hx hx1
  · rcases end_one h1 hits with e | ⟨y, e⟩
    · rw [e] at hx; cases hx
    · rw [e] at hx
      obtain rfl := List.mem_singleton.1 hx
      refine ⟨L, q, qe, hL, hrun, hits, hrec, h1, e, ?_⟩
      obtain ⟨_, _, hidq⟩ := end_took h1
      have c1 := end_cont h1
      have c2 := run_cont _ _ _ hrun
      have c3 : contP qe = rawsL qe.its := by unfold contP; rw [hidq.2.1]; simp [endL]
      have c4 : contP pst0 = [] := rfl
      rw [c4, List.nil_append] at c2
      rw [← c2, ← c1, c3, e]
      simp [rawsL]
theorem take_par {p p1 : PSt} {l : Lne} (hp : Par p) (h : takeS p l = .inr p1) (hn : (10 : UInt8) ∉ ls l.2.2.1) : Par p1 := by
  by_cases hk : kindL (ls l.2.2.1) = 1
  · unfold takeS at h
    rw [hk] at h
    cases e : aheadS p l 1 with
    | inl x => rw [e] at h; cases h
    | inr pe =>
      rw [e] at h
      have e' : endS p = .inr pe := e
      obtain ⟨hb, hid, h0, h4⟩ := end_par hp e'
      simp only at h
      unfold lineS at h
      split at h
      · cases h
      · rw [if_pos rfl] at h
        cases h
        refine ⟨_, _, [], pst0, rel_self (pe.its ++ [(1, l.2.2.1 ++ ⟨#[10]⟩, [])]) ⟨hid.1, hid.2.1, hid.2.2⟩ rfl h0 h4, rfl, rfl, rfl, (fun _ h => by cases h), fun x hx hx1 => ?_⟩
        rcases List.mem_append.1 hx with hx | hx
        · exact hb x hx hx1
        · rw [List.mem_singleton.1 hx] at hx1
          exact absurd rfl hx1
  · obtain ⟨I, c, L, q, hrel, hrun, hits, hrec, hL, hI⟩ := hp
    obtain ⟨a, b, t⟩ := l
    obtain ⟨q1, h1, h2⟩ := take_rel (a' := a) (b' := b) hrel h
    refine ⟨I, c, L ++ [(a, b, t)], q1, h2, ?_, (take_its h1 hk).trans hits, ((take_recs h1).2 hk).trans hrec, fun x hx => ?_, hI⟩
    · rw [run_app _ _ _ _ hrun]
      simp only [runS, h1]
    · rcases List.mem_append.1 hx with hx | hx
      · exact hL x hx
      · rw [List.mem_singleton.1 hx]
        exact ⟨(take_took h).1, hn⟩
theorem run_par : ∀ (L : List Lne) (p q : PSt), Par p → runS p L = .inr q → (∀ l ∈ L, (10 : UInt8) ∉ ls l.2.2.1) → Par q
  | [], p, q, hp, h, _ => by cases h; exact hp
  | l :: r, p, q, hp, h, hn => by
    simp only [runS] at h
    cases e : takeS p l with
    | inl x => rw [e] at h; cases h
    | inr p1 =>
      rw [e] at h
      exact run_par r p1 q (take_par hp e (hn l List.mem_cons_self)) h (fun x hx => hn x (List.mem_cons_of_mem _ hx))
theorem parse_blks {s : ByteArray} {l : List Itm} (hp : parseS s = .inr l) : ∀ x ∈ l, x.1 ≠ 1 → Blk x := by
  unfold parseS at hp
  cases e : runS pst0 (linesT s) with
  | inl x => rw [e] at hp; cases hp
  | inr p =>
    rw [e] at hp
    simp only at hp
    cases e2 : endS p with
    | inl x => rw [e2] at hp; cases hp
    | inr q =>
      rw [e2] at hp
      cases hp
      refine (end_par (run_par _ _ _ ⟨[], 0, [], pst0, rel_0, rfl, rfl, rfl, (fun _ h => by cases h), (fun _ h => by cases h)⟩ e fun l hl => ?_) e2).1
      have h1 : l.2.2 ∈ (linesT s).map (·.2.2) := List.mem_map_of_mem hl
      rw [lines_text] at h1
      exact linesB_no _ _ _ h1
theorem blank_one {p p2 : PSt} (h : endS p = .inr p2) : takeS p (mkL ⟨#[]⟩) = .inr { p2 with its := p2.its ++ [(1, ⟨#[10]⟩, [])] } := by
  unfold takeS
  have hk : kindL (ls (mkL ⟨#[]⟩).2.2.1) = 1 := by decide +kernel
  rw [hk]
  have e : aheadS p (mkL ⟨#[]⟩) 1 = .inr p2 := h
  rw [e]
  rfl
theorem mix_run : ∀ (all : List Itm), all ≠ [] → (∀ x ∈ all, x.1 ≠ 1 ∧ Blk x) → ∀ p : PSt, Idle p → 0 ≤ p.recs → p.recs + all.length ≤ 400 →
    ∃ M p1 p2, (∀ l ∈ M, l.2.2.2 = true ∧ (10 : UInt8) ∉ ls l.2.2.1) ∧ runS p M = .inr p1 ∧ endS p1 = .inr p2 ∧ p2.its = p.its ++ apartL all ∧ glue (M.map (·.2.2)) = rawsL (apartL all)
  | [], h, _, _, _, _, _ => absurd rfl h
  | [x], _, hb, p, hid, h0, h4 => by
    obtain ⟨_, L, q, qe, hL, hrun, hits, hrec, hend, hqe, hg⟩ := hb x List.mem_cons_self
    have hf : Fwd p.its p.recs p pst0 := ⟨hid.1, fun e => absurd rfl e, by simp [pst0], hid.2.1, hid.2.2, by simp [pst0], h0⟩
    simp only [List.length_singleton] at h4
    obtain ⟨p1, h1, h2⟩ := run_fwd L p pst0 q hf hrun (by omega)
    obtain ⟨p2, h3, h5⟩ := end_fwd h2 hend
    refine ⟨L, p1, p2, hL, h1, h3, ?_, ?_⟩
    · rw [h5.its, hqe]; simp [apartL, apartK]
    · rw [hg]; simp [apartL, apartK, rawsL]
  | x :: y :: r, _, hb, p, hid, h0, h4 => by
    obtain ⟨hx1, L, q, qe, hL, hrun, hits, hrec, hend, hqe, hg⟩ := hb x List.mem_cons_self
    have hf : Fwd p.its p.recs p pst0 := ⟨hid.1, fun e => absurd rfl e, by simp [pst0], hid.2.1, hid.2.2, by simp [pst0], h0⟩
    simp only [List.length_cons] at h4
    obtain ⟨p1, h1, h2⟩ := run_fwd L p pst0 q hf hrun (by omega)
    obtain ⟨p2, h3, h5⟩ := end_fwd h2 hend
    have hbl := blank_one h3
    obtain ⟨_, _, hid2⟩ := end_took h3
    have hr2 := end_recs hend
    have hr5 := h5.recs
    obtain ⟨M, p3, p4, i1, i2, i3, i4, i5⟩ := mix_run (y :: r) (by simp) (fun z hz => hb z (List.mem_cons_of_mem _ hz)) { p2 with its := p2.its ++ [(1, ⟨#[10]⟩, [])] } ⟨hid2.1, hid2.2.1, hid2.2.2⟩ (by simp only; omega) (by simp only [List.length_cons]; omega)
    have hy1 : y.1 ≠ 1 := (hb y (by simp)).1
    have hap : apartL (x :: y :: r) = x :: (1, ⟨#[10]⟩, []) :: apartL (y :: r) := by
      unfold apartL
      rw [apartK, if_neg (by simp), apartK, if_pos ⟨hx1, hy1⟩, apartK, if_neg (by simp)]
    refine ⟨L ++ (mkL ⟨#[]⟩ :: M), p3, p4, fun l hl => ?_, ?_, i3, ?_, ?_⟩
    · rcases List.mem_append.1 hl with hl | hl
      · exact hL l hl
      · rcases List.mem_cons.1 hl with rfl | hl
        · exact ⟨rfl, by simp [mkL, ls]⟩
        · exact i1 l hl
    · rw [run_app _ _ _ _ h1]
      simp only [runS, hbl]
      exact i2
    · rw [i4, hap]
      simp only
      rw [h5.its, hqe]
      simp
    · rw [List.map_append, glue_app, hg, List.map_cons, hap]
      have e2 : rawsL (x :: (1, ⟨#[10]⟩, []) :: apartL (y :: r)) = ls x.2.1 ++ ([10] ++ rawsL (apartL (y :: r))) := by simp [rawsL, ls]
      rw [e2, ← i5]
      rfl
theorem mix_parse {all : List Itm} (hb : ∀ x ∈ all, x.1 ≠ 1 ∧ Blk x) (h4 : all.length ≤ 400) : parseS (bytes (rawsL (apartL all))) = .inr (apartL all) := by
  by_cases h : all = []
  · subst h
    decide +kernel
  · obtain ⟨M, p1, p2, i1, i2, i3, i4, i5⟩ := mix_run all h hb pst0 ⟨rfl, rfl, rfl⟩ (by decide) (by simp only [pst0]; omega)
    rw [← i5]
    rw [parse_of (lines_of i1) i2 i3, i4]
    rfl
theorem apart_filter : ∀ (l : List Itm) (k : Int), (∀ x ∈ l, x.1 ≠ 1) → (apartK k l).filter (fun x => !decide (x.1 = 1)) = l
  | [], _, _ => rfl
  | x :: r, k, h => by
    have hx := h x List.mem_cons_self
    have ih := apart_filter r x.1 fun y hy => h y (List.mem_cons_of_mem _ hy)
    unfold apartK
    split
    · simp [hx, ih]
    · simp [hx, ih]
theorem apart_len : ∀ (l : List Itm) (k : Int), szI (apartK k l) ≤ szI l + l.length
  | [], _ => by simp [apartK, szI]
  | x :: r, k => by
    have ih := apart_len r x.1
    have h10 : ByteArray.size ⟨#[10]⟩ = 1 := rfl
    unfold apartK
    unfold szI at ih ⊢
    split <;> (simp only [List.map_cons, List.sum_cons, List.length_cons, h10]; omega)
theorem raws_sz (l : List Itm) : (rawsL l).length = szI l := by
  induction l with
  | nil => rfl
  | cons x r ih =>
    unfold rawsL szI at *
    simp only [List.flatMap_cons, List.length_append, List.map_cons, List.sum_cons, ih]
    rw [size_list]
theorem filter_at {α : Type} (p : α → Bool) (d : α) : ∀ (l : List α) (j : Nat) (h : j < l.length), p (l.getD j d) = true → ((l.take j).filter p).length < (l.filter p).length ∧ (l.filter p).getD ((l.take j).filter p).length d = l.getD j d
  | [], j, h, _ => by simp at h
  | x :: r, 0, h, hp => by
    have hp : p x = true := by simpa using hp
    simp [hp]
  | x :: r, j + 1, h, hp => by
    obtain ⟨h1, h2⟩ := filter_at p d r j (by simpa using h) (by simpa using hp)
    rw [List.take_succ_cons, List.filter_cons, List.filter_cons]
    by_cases hx : p x = true
    · simp only [hx, if_true, List.length_cons, List.getD_cons_succ]
      exact ⟨by omega, h2⟩
    · simp only [hx, List.getD_cons_succ]
      exact ⟨h1, h2⟩
def mix1 (l : List Itm) (k : Nat) : List Itm := if k < l.length ∧ (l.getD k ((0 : Int), ByteArray.empty, ([] : List Fld))).1 ≠ 1 then [l.getD k ((0 : Int), ByteArray.empty, ([] : List Fld))] else []
def mixL (turn : Bool) (l m : List Itm) (i : Nat) : List Itm := (List.range i).flatMap fun k => mix1 l k ++ if turn then mix1 m k else []
theorem mix_snoc (turn : Bool) (l m : List Itm) (i : Nat) : mixL turn l m (i + 1) = mixL turn l m i ++ (mix1 l i ++ if turn then mix1 m i else []) := by
  unfold mixL
  rw [List.range_succ, List.flatMap_append]
  simp
theorem mix1_mem {l : List Itm} {k : Nat} {x : Itm} (h : x ∈ mix1 l k) : x ∈ l ∧ x.1 ≠ 1 := by
  unfold mix1 at h
  split at h
  · rename_i hk
    rw [List.mem_singleton.1 h]
    exact ⟨getD_mem hk.1 _, hk.2⟩
  · cases h
theorem mix_mem {turn : Bool} {l m : List Itm} {i : Nat} {x : Itm} (h : x ∈ mixL turn l m i) : (x ∈ l ∨ x ∈ m) ∧ x.1 ≠ 1 := by
  unfold mixL at h
  obtain ⟨k, _, h⟩ := List.mem_flatMap.1 h
  rcases List.mem_append.1 h with h | h
  · exact ⟨.inl (mix1_mem h).1, (mix1_mem h).2⟩
  · split at h
    · exact ⟨.inr (mix1_mem h).1, (mix1_mem h).2⟩
    · cases h
theorem mix1_sz (l : List Itm) (i : Nat) : szI (l.take i) + szI (mix1 l i) ≤ szI (l.take (i + 1)) := by
  unfold mix1
  split
  · rename_i h
    rw [← take_snoc ((0 : Int), ByteArray.empty, ([] : List Fld)) h.1, szI_app]
    exact Nat.le_refl _
  · rcases Nat.lt_or_ge i l.length with h | h
    · rw [← take_snoc ((0 : Int), ByteArray.empty, ([] : List Fld)) h, szI_app]
      simp [szI]
    · rw [List.take_of_length_le h, List.take_of_length_le (by omega)]
      simp [szI]
theorem mix_sz (turn : Bool) (l m : List Itm) : ∀ i, szI (mixL turn l m i) ≤ szI (l.take i) + szI (m.take i)
  | 0 => by simp [mixL, szI]
  | i + 1 => by
    have ih := mix_sz turn l m i
    have h1 := mix1_sz l i
    have h2 := mix1_sz m i
    rw [mix_snoc, szI_app, szI_app]
    cases turn
    · simp only [Bool.false_eq_true, if_false, show szI ([] : List Itm) = 0 from rfl]; omega
    · simp only [if_true]; omega
theorem sz_take (l : List Itm) (i : Nat) : szI (l.take i) ≤ szI l := by
  have h := szI_app (l.take i) (l.drop i)
  rw [List.take_append_drop] at h
  omega
theorem mix_len (turn : Bool) (l m : List Itm) : ∀ i, (mixL turn l m i).length ≤ 2 * i
  | 0 => by simp [mixL]
  | i + 1 => by
    have ih := mix_len turn l m i
    rw [mix_snoc, List.length_append, List.length_append]
    have h1 : ∀ n : List Itm, (mix1 n i).length ≤ 1 := by
      intro n; unfold mix1; split <;> simp
    have h2 := h1 l
    have h3 := h1 m
    cases turn <;> simp <;> omega
end Q
end Ab
end Go.Proofs.YtlhjcdihbbdfnaaDoor
namespace Go.Proofs.YtlhjcdihbbdfnaaDoor
open Go.RowKit
namespace Ab
set_option maxRecDepth 100000
namespace Q
def recsT (l : List Itm) : List (List Fld) := (l.filter fun x => decide (x.1 = 3)).map (·.2.2)
theorem recsT_app (a b : List Itm) : recsT (a ++ b) = recsT a ++ recsT b := by simp [recsT]
def fldL (a : List Fld) : List ByteArray := a.flatMap fun f => lineB f.1 f.2
/-- The lines of a list's text. -/
def textT : List (List Fld) → List ByteArray
  | [] => []
  | [a] => fldL a
  | a :: b :: r => fldL a ++ (⟨#[]⟩ :: textT (b :: r))
def GoodS (a : List Fld) : Prop := a ≠ [] ∧ a.length ≤ 40 ∧ ∀ f ∈ a, checkF f = 0
theorem texts_run : ∀ (l : List (List Fld)) (p : PSt), l ≠ [] → (∀ a ∈ l, GoodS a) → Idle p → 0 ≤ p.recs → p.recs + l.length ≤ 400 → ∃ q q2, runS p ((textT l).map mkL) = .inr q ∧ endS q = .inr q2 ∧ recsT q2.its = recsT p.its ++ l
  | [], _, h, _, _, _, _ => absurd rfl h
  | [a], p, _, hg, hi, h0, h4 => by
    obtain ⟨g1, g2, g3⟩ := hg a List.mem_cons_self
    simp only [List.length_singleton] at h4
    obtain ⟨q, e1, e2, e3, e4, e5⟩ := fields_run a p [] g3 (ready_idle hi.1 hi.2.2) (by simpa using g2) (by omega) g1
    obtain ⟨r, q2, f1, f2, f3, f4⟩ := end_run e2 (by simpa using g1) e5
    refine ⟨q, q2, e1, f1, ?_⟩
    rw [f3, recsT_app, e3]
    rfl
  | a :: b :: r, p, _, hg, hi, h0, h4 => by
    obtain ⟨g1, g2, g3⟩ := hg a List.mem_cons_self
    simp only [List.length_cons] at h4
    obtain ⟨q, e1, e2, e3, e4, e5⟩ := fields_run a p [] g3 (ready_idle hi.1 hi.2.2) (by simpa using g2) (by omega) g1
    obtain ⟨x, q2, f1, f2, f3, f4⟩ := blank_run e2 (by simpa using g1) e5
    obtain ⟨q3, q4, i1, i2, i3⟩ := texts_run (b :: r) q2 (by simp) (fun c hc => hg c (List.mem_cons_of_mem _ hc)) f2 (by omega) (by rw [List.length_cons]; omega)
    refine ⟨q3, q4, ?_, i2, ?_⟩
    · unfold textT fldL
      rw [List.map_append, run_app _ _ _ _ e1, List.map_cons]
      simp only [runS, f1]
      exact i1
    · rw [i3, f3, recsT_app, e3, List.append_assoc]
      rfl
theorem textT_no : ∀ (l : List (List Fld)), (∀ a ∈ l, GoodS a) → ∀ t ∈ textT l, (10 : UInt8) ∉ ls t
  | [], _, t, ht => by cases ht
  | [a], hg, t, ht => by
    obtain ⟨f, hf, ht⟩ := List.mem_flatMap.1 (show t ∈ a.flatMap fun f => lineB f.1 f.2 from ht)
    exact lines_no (v := f.2.data.toList) (check_ok ((hg a List.mem_cons_self).2.2 f hf)).1 (ls t) (by rw [← lineB_map2]; exact List.mem_map_of_mem ht)
  | a :: b :: r, hg, t, ht => by
    unfold textT at ht
    rcases List.mem_append.1 ht with ht | ht
    · obtain ⟨f, hf, ht⟩ := List.mem_flatMap.1 (show t ∈ a.flatMap fun f => lineB f.1 f.2 from ht)
      exact lines_no (v := f.2.data.toList) (check_ok ((hg a List.mem_cons_self).2.2 f hf)).1 (ls t) (by rw [← lineB_map2]; exact List.mem_map_of_mem ht)
    · rcases List.mem_cons.1 ht with rfl | ht
      · decide
      · exact textT_no (b :: r) (fun c hc => hg c (List.mem_cons_of_mem _ hc)) t ht
theorem textT_join : ∀ (l : List (List Fld)), endL ((textT l).map ls) = Lib.join (l.map foldL) [10]
  | [] => by rfl
  | [a] => by
    rw [List.map_cons, List.map_nil, Lib.join_one]
    exact endL_flat a
  | a :: b :: r => by
    have ih := textT_join (b :: r)
    rw [List.map_cons] at ih
    rw [List.map_cons, List.map_cons, join_two, ← ih]
    show endL (((a.flatMap fun f => lineB f.1 f.2) ++ (⟨#[]⟩ :: textT (b :: r))).map ls) = _
    rw [List.map_append, List.map_cons]
    have hA := endL_flat a
    unfold endL at hA ⊢
    rw [List.flatMap_append, hA, List.flatMap_cons]
    simp [ls]
/-- What is parsed of a list's text. -/
theorem texts_parse {l : List (List Fld)} (hg : ∀ a ∈ l, GoodS a) (h4 : l.length ≤ 400) : ∃ m, parseS (bytes (Lib.join (l.map foldL) [10])) = .inr m ∧ recsT m = l := by
  by_cases h0 : l = []
  · subst h0
    refine ⟨[], ?_, rfl⟩
    decide +kernel
  · obtain ⟨q, q2, h1, h2, h3⟩ := texts_run l pst0 h0 hg ⟨rfl, rfl, rfl⟩ (by decide) (by show (0 : Int) + _ ≤ _; omega)
    have hno := textT_no l hg
    have hl := lines_of (L := (textT l).map mkL) (fun x hx => by
      obtain ⟨t, ht, rfl⟩ := List.mem_map.1 hx
      exact ⟨rfl, hno t ht⟩)
    rw [glue_mk, textT_join] at hl
    refine ⟨q2.its, parse_of hl h1 h2, ?_⟩
    rw [h3]
    rfl
end Q
end Ab
end Go.Proofs.YtlhjcdihbbdfnaaDoor
namespace Go.Proofs.YtlhjcdihbbdfnaaDoor
open Go.RowKit
namespace Ab
set_option maxRecDepth 100000
namespace Q
def badAt : Int → List Fld → Int × Int
  | _, [] => (-9, 0)
  | i, f :: r => if checkF f ≠ 0 then (i, checkF f) else badAt (i + 1) r
/-- Where fields aren't a stanza's, an error's number. -/
def chkR (l : List Fld) : Int × Int := if l = [] then (-9, 2) else if 40 < l.length then (-9, 11) else badAt 0 l
def chkA (l : List Fld) : C := if (chkR l).2 = 0 then .lit .nilIface else if (chkR l).1 = -9 then errN (chkR l).2 else errF (chkR l).1 (chkR l).2
theorem badAt_hit : ∀ (l : List Fld) (i : Nat) (k : Int), i < l.length → (∀ f ∈ l.take i, checkF f = 0) → checkF (l.getD i (ByteArray.empty, ByteArray.empty)) ≠ 0 → badAt k l = (k + i, checkF (l.getD i (ByteArray.empty, ByteArray.empty)))
  | [], i, k, h, _, _ => by simp at h
  | f :: r, 0, k, _, _, hb => by
    unfold badAt
    rw [if_pos (by simpa using hb)]
    simp
  | f :: r, i + 1, k, h, ht, hb => by
    unfold badAt
    rw [if_neg (by simpa using ht f (by simp))]
    rw [badAt_hit r i (k + 1) (by simpa using h) (fun g hg => ht g (by simp [hg])) (by simpa using hb)]
    simp only [List.getD_cons_succ]
    congr 1
    omega
theorem badAt_no : ∀ (l : List Fld) (k : Int), (∀ f ∈ l, checkF f = 0) → badAt k l = (-9, 0)
  | [], _, _ => rfl
  | f :: r, k, h => by
    unfold badAt
    rw [if_neg (by simpa using h f (by simp))]
    exact badAt_no r (k + 1) (fun g hg => h g (by simp [hg]))
theorem chkA_nil {l : List Fld} (h : chkR l = (-9, 0)) : chkA l = .lit .nilIface := by unfold chkA; rw [h]; rfl
theorem chkA_no {l : List Fld} {n : Int} (h : chkR l = (-9, n)) (hn : n ≠ 0) : chkA l = errN n := by unfold chkA; rw [h, if_neg hn, if_pos rfl]
theorem chkA_at {l : List Fld} {i n : Int} (h : chkR l = (i, n)) (hn : n ≠ 0) (hi : 0 ≤ i) : chkA l = errF i n := by unfold chkA; rw [h, if_neg hn, if_neg (by show ¬ i = -9; omega)]
theorem pcheck_c (l : List Fld) (hl : FldsOk l) : ACall Tryd.prog 22 [.one (.sl rFld l)] (.one (chkA l)) := by
  have hln := hl.1
  refine acall_of (rs := [2]) Tryd.func22 rfl rfl rfl teOk rfl ?_
  refine acode_seq ?_
  refine acode_region ?_
  refine acode_seq ?_
  refine acode_block ?_
  refine acode_seq ?_
  refine acode_region ?_
  intro l1_1
  try simp only [Int.toNat_natCast, dflt_sl, dflt_st, dflt_str, dflt_int, dflt_bool] at l1_1
  refine acode_cond rfl (fun h6 => ?_) (fun h6 => ?_)
  · try simp only [decide_eq_true_eq] at h6
    try simp only [Int.toNat_natCast, dflt_sl, dflt_st, dflt_str, dflt_int, dflt_bool] at h6
    refine acode_seq ?_
    refine acode_region ?_
    refine acode_ret ?_
    rw [chkA_no (l := l) (n := 2) (by unfold chkR; rw [if_pos (List.eq_nil_of_length_eq_zero (by omega))]) (by decide)]
    rfl
  · try simp only [decide_eq_false_iff_not] at h6
    try simp only [Int.toNat_natCast, dflt_sl, dflt_st, dflt_str, dflt_int, dflt_bool] at h6
    refine acode_seq ?_
    refine acode_region ?_
    intro l3_1
    try simp only [Int.toNat_natCast, dflt_sl, dflt_st, dflt_str, dflt_int, dflt_bool] at l3_1
    refine acode_cond rfl (fun h11 => ?_) (fun h11 => ?_)
    · try simp only [decide_eq_true_eq] at h11
      try simp only [Int.toNat_natCast, dflt_sl, dflt_st, dflt_str, dflt_int, dflt_bool] at h11
      refine acode_seq ?_
      refine acode_region ?_
      refine acode_ret ?_
      rw [chkA_no (l := l) (n := 11) (by unfold chkR; rw [if_neg (fun e => h6 (by rw [e]; rfl)), if_pos (by omega)]) (by decide)]
      rfl
    · try simp only [decide_eq_false_iff_not, Int.not_lt] at h11
      try simp only [Int.toNat_natCast, dflt_sl, dflt_st, dflt_str, dflt_int, dflt_bool] at h11
      refine acode_skip ?_
      refine acode_seq ?_
      refine acode_seq ?_
      refine acode_region ?_
      intro l5_1
      try simp only [Int.toNat_natCast, dflt_sl, dflt_st, dflt_str, dflt_int, dflt_bool] at l5_1
      refine acode_block ?_
      refine acode_loopP (fun (i : Nat) => i ≤ l.length ∧ ∀ f ∈ l.take i, checkF f = 0) (fun (i : Nat) => [(16, .one (.sl rFld l)), (17, ii .i64 l.length), (18, ii .i64 i)]) (fun (i : Nat) => []) 0 (fun (i : Nat) => l.length - i) 0 (⟨Nat.zero_le _, by simp⟩) (le_of ⟨rfl, rfl, rfl⟩ trivial rfl) ?_
      intro i hI1
      obtain ⟨hi, hall⟩ := hI1
      refine acode_seq ?_
      refine acode_region ?_
      refine acode_seq ?_
      refine acode_cond rfl (fun h19 => ?_) (fun h19 => ?_)
      · try simp only [decide_eq_true_eq] at h19
        try simp only [Int.toNat_natCast, dflt_sl, dflt_st, dflt_str, dflt_int, dflt_bool] at h19
        have hlt : i < l.length := (by omega)
        have hm := hl.2 _ (getD_mem hlt (ByteArray.empty, ByteArray.empty))
        have hne : l ≠ [] := (fun e => by rw [e] at hlt; simp at hlt)
        refine acode_skip ?_
        refine acode_seq ?_
        refine acode_block ?_
        refine acode_seq ?_
        refine acode_region ?_
        refine And.intro (by first | omega | assumption | decide | (simp only [Int.toNat_natCast, dflt_sl, dflt_st, dflt_str, dflt_int, dflt_bool]; omega) | (simp <;> omega)) ?_
        refine acode_seq ?_
        rcases check_cases (l.getD i (ByteArray.empty, ByteArray.empty)) with hc|hc|hc
        · refine acode_region ?_
          refine Or.inl ?_
          refine And.intro (rfl) ?_
          refine Exists.intro _ (And.intro (check_v (l.getD i (ByteArray.empty, ByteArray.empty)) _ (by omega) hc) ?_)
          refine acode_seq ?_
          refine acode_region ?_
          refine acode_cond rfl (fun h26 => ?_) (fun h26 => ?_)
          · skip
            refine acode_seq ?_
            refine acode_region ?_
            refine acode_ret ?_
            rw [chkA_at (l := l) (i := i) (n := 5) (by unfold chkR; rw [if_neg hne, if_neg (by omega), badAt_hit l i 0 hlt hall (by rw [hc]; decide), hc]; simp) (by decide) (by omega)]
            rfl
          · try simp only [decide_eq_true_eq, decide_eq_false_iff_not, Bool.and_eq_true, Bool.not_eq_true', Bool.not_eq_false', Bool.or_eq_false_iff, Bool.or_eq_true, Bool.and_eq_false_iff, Int.not_lt, Int.not_le] at h26
            try simp only [Int.toNat_natCast, dflt_sl, dflt_st, dflt_str, dflt_int, dflt_bool] at h26
            cases h26
        · refine acode_region ?_
          refine Or.inl ?_
          refine And.intro (rfl) ?_
          refine Exists.intro _ (And.intro (check_v (l.getD i (ByteArray.empty, ByteArray.empty)) _ (by omega) hc) ?_)
          refine acode_seq ?_
          refine acode_region ?_
          refine acode_cond rfl (fun h26 => ?_) (fun h26 => ?_)
          · skip
            refine acode_seq ?_
            refine acode_region ?_
            refine acode_ret ?_
            rw [chkA_at (l := l) (i := i) (n := 6) (by unfold chkR; rw [if_neg hne, if_neg (by omega), badAt_hit l i 0 hlt hall (by rw [hc]; decide), hc]; simp) (by decide) (by omega)]
            rfl
          · try simp only [decide_eq_true_eq, decide_eq_false_iff_not, Bool.and_eq_true, Bool.not_eq_true', Bool.not_eq_false', Bool.or_eq_false_iff, Bool.or_eq_true, Bool.and_eq_false_iff, Int.not_lt, Int.not_le] at h26
            try simp only [Int.toNat_natCast, dflt_sl, dflt_st, dflt_str, dflt_int, dflt_bool] at h26
            cases h26
        · refine acode_region ?_
          refine Or.inl ?_
          refine And.intro (rfl) ?_
          refine Exists.intro _ (And.intro (check_v (l.getD i (ByteArray.empty, ByteArray.empty)) _ (by omega) hc) ?_)
          refine acode_seq ?_
          refine acode_region ?_
          refine acode_cond rfl (fun h26 => ?_) (fun h26 => ?_)
          · try simp only [Bool.not_eq_true'] at h26
            try simp only [Int.toNat_natCast, dflt_sl, dflt_st, dflt_str, dflt_int, dflt_bool] at h26
            cases h26
          · try simp only [Bool.not_eq_false'] at h26
            try simp only [Int.toNat_natCast, dflt_sl, dflt_st, dflt_str, dflt_int, dflt_bool] at h26
            refine acode_skip ?_
            refine acode_region ?_
            refine And.intro (by first | omega | assumption | decide | (simp only [Int.toNat_natCast, dflt_sl, dflt_st, dflt_str, dflt_int, dflt_bool]; omega) | (simp <;> omega)) ?_
            exact ⟨i + 1, ⟨by omega, by rw [← take_snoc (ByteArray.empty, ByteArray.empty) hlt]; intro f hf; rcases List.mem_append.1 hf with h|h; exact hall f h; rw [List.mem_singleton.1 h]; exact hc⟩, by first | omega | (simp <;> omega), le_of ⟨rfl, rfl, (ii_eq (by omega))⟩ trivial rfl⟩
      · try simp only [decide_eq_false_iff_not, Int.not_lt] at h19
        try simp only [Int.toNat_natCast, dflt_sl, dflt_st, dflt_str, dflt_int, dflt_bool] at h19
        refine acode_exit ?_
        refine acode_seq ?_
        refine acode_region ?_
        refine acode_ret ?_
        rw [List.take_of_length_le (by omega)] at hall
        rw [chkA_nil (by unfold chkR; rw [if_neg (fun e => h6 (by rw [e]; rfl)), if_neg (by omega)]; exact badAt_no l 0 hall)]
        rfl
theorem badAt_zero : ∀ (l : List Fld) (k : Int), (badAt k l).2 = 0 → (∀ f ∈ l, checkF f = 0)
  | [], _, _, f, hf => by cases hf
  | g :: r, k, h, f, hf => by
    unfold badAt at h
    split at h
    · rename_i hg; exact absurd h hg
    · rename_i hg
      rcases List.mem_cons.1 hf with rfl | hf
      · exact Classical.not_not.1 hg
      · exact badAt_zero r (k + 1) h f hf
theorem chk_good {l : List Fld} (h : (chkR l).2 = 0) : GoodS l ∧ badF l = 0 ∧ chkA l = .lit .nilIface := by
  have hA : chkA l = .lit .nilIface := by unfold chkA; rw [if_pos h]
  unfold chkR at h
  split at h
  · cases h
  · rename_i h0
    split at h
    · cases h
    · rename_i h4
      have := badAt_zero l 0 h
      exact ⟨⟨h0, by omega, this⟩, badF_ok this, hA⟩
theorem chk_bad {l : List Fld} (h : (chkR l).2 ≠ 0) : ∃ e, chkA l = e ∧ ((∃ n, n ≠ 0 ∧ e = errN n ∧ chkR l = (-9, n)) ∨ ∃ i n, n ≠ 0 ∧ e = errF i n ∧ chkR l = (i, n)) := by
  refine ⟨_, rfl, ?_⟩
  unfold chkA
  rw [if_neg h]
  by_cases h9 : (chkR l).1 = -9
  · rw [if_pos h9]
    exact .inl ⟨_, h, rfl, Prod.ext h9 rfl⟩
  · rw [if_neg h9]
    exact .inr ⟨_, _, h, rfl, rfl⟩
theorem pstanza_ok {l : List Fld} (hl : FldsOk l) (h : (chkR l).2 = 0) : ACall Tryd.prog 20 [.one (.sl rFld l)] (.tup [(false, [.lit (.string (bytes (foldL l)))]), (false, [.lit .nilIface])]) := by
  obtain ⟨h1, h2, h3⟩ := chk_good h
  have hc := pcheck_c l hl
  rw [h3] at hc
  refine acall_of (rs := [2, 3]) Tryd.func20 rfl rfl rfl teOk rfl ?_
  refine acode_seq ?_
  refine acode_region ?_
  refine acode_seq ?_
  refine acode_seq ?_
  refine acode_region ?_
  refine Or.inl ?_
  refine And.intro (rfl) ?_
  refine Exists.intro _ (And.intro (hc) ?_)
  refine acode_seq ?_
  refine acode_region ?_
  refine acode_cond rfl (fun h8 => ?_) (fun h8 => ?_)
  · try simp only [Bool.not_eq_true'] at h8
    try simp only [Int.toNat_natCast, dflt_sl, dflt_st, dflt_str, dflt_int, dflt_bool] at h8
    cases h8
  · try simp only [Bool.not_eq_false'] at h8
    try simp only [Int.toNat_natCast, dflt_sl, dflt_st, dflt_str, dflt_int, dflt_bool] at h8
    refine acode_skip ?_
    refine acode_seq ?_
    refine acode_region ?_
    refine Or.inl ?_
    refine And.intro (rfl) ?_
    refine Exists.intro _ (And.intro (fold_yes hl h2) ?_)
    refine acode_ret ?_
    rfl
theorem pstanza_err {l : List Fld} (hl : FldsOk l) (h : (chkR l).2 ≠ 0) : ACall Tryd.prog 20 [.one (.sl rFld l)] (.tup [(false, [.lit (.string ⟨#[]⟩)]), (false, [chkA l])]) := by
  have hc := pcheck_c l hl
  obtain ⟨e, he, hs⟩ := chk_bad h
  rw [he] at hc ⊢
  rcases hs with ⟨n, hn, rfl, _⟩ | ⟨i, n, hn, rfl, _⟩
  ·
    refine acall_of (rs := [2, 3]) Tryd.func20 rfl rfl rfl teOk rfl ?_
    refine acode_seq ?_
    refine acode_region ?_
    refine acode_seq ?_
    refine acode_seq ?_
    refine acode_region ?_
    refine Or.inl ?_
    refine And.intro (rfl) ?_
    refine Exists.intro _ (And.intro (hc) ?_)
    refine acode_seq ?_
    refine acode_region ?_
    refine acode_cond rfl (fun h8 => ?_) (fun h8 => ?_)
    · skip
      refine acode_seq ?_
      refine acode_region ?_
      refine acode_ret ?_
      rfl
    · try simp only [decide_eq_true_eq, decide_eq_false_iff_not, Bool.and_eq_true, Bool.not_eq_true', Bool.not_eq_false', Bool.or_eq_false_iff, Bool.or_eq_true, Bool.and_eq_false_iff, Int.not_lt, Int.not_le] at h8
      try simp only [Int.toNat_natCast, dflt_sl, dflt_st, dflt_str, dflt_int, dflt_bool] at h8
      cases h8
  ·
    refine acall_of (rs := [2, 3]) Tryd.func20 rfl rfl rfl teOk rfl ?_
    refine acode_seq ?_
    refine acode_region ?_
    refine acode_seq ?_
    refine acode_seq ?_
    refine acode_region ?_
    refine Or.inl ?_
    refine And.intro (rfl) ?_
    refine Exists.intro _ (And.intro (hc) ?_)
    refine acode_seq ?_
    refine acode_region ?_
    refine acode_cond rfl (fun h8 => ?_) (fun h8 => ?_)
    · skip
      refine acode_seq ?_
      refine acode_region ?_
      refine acode_ret ?_
      rfl
    · try simp only [decide_eq_true_eq, decide_eq_false_iff_not, Bool.and_eq_true, Bool.not_eq_true', Bool.not_eq_false', Bool.or_eq_false_iff, Bool.or_eq_true, Bool.and_eq_false_iff, Int.not_lt, Int.not_le] at h8
      try simp only [Int.toNat_natCast, dflt_sl, dflt_st, dflt_str, dflt_int, dflt_bool] at h8
      cases h8
theorem foldG_len {a : List Fld} (h : GoodS a) : (foldL a).length ≤ 40 * 5000000 :=
  Nat.le_trans (flat_le textL 5000000 a fun f hf => (text_len (h.2.2 f hf)).1) (Nat.mul_le_mul_right _ h.2.1)
theorem map_foldB (l : List (List Fld)) : (l.map fun a => bytes (foldL a)).map (·.data.toList) = l.map foldL := by
  rw [List.map_map]
  exact List.map_congr_left fun a _ => bytes_list _
theorem joinG_len {l : List (List Fld)} (h : ∀ a ∈ l, GoodS a) (hl : l.length ≤ 1000) : (Lib.join ((l.map fun a => bytes (foldL a)).map (·.data.toList)) [10]).length ≤ 140737488355328 := by
  rw [map_foldB]
  refine Nat.le_trans (joinL_len 10 _) ?_
  rw [List.map_map, List.length_map]
  have h1 : ∀ m : List (List Fld), (∀ a ∈ m, GoodS a) → (m.map ((·.length) ∘ foldL)).sum ≤ m.length * 200000000 := by
    intro m
    induction m with
    | nil => intro _; simp
    | cons a r ih =>
      intro hm
      have h2 := ih fun b hb => hm b (List.mem_cons_of_mem _ hb)
      have h3 := foldG_len (hm a List.mem_cons_self)
      simp only [List.map_cons, List.sum_cons, List.length_cons, Function.comp_apply]
      omega
  have := h1 l h
  omega
theorem ptext_ok {l : List (List Fld)} (hl : l.length ≤ 1000) (hf : ∀ a ∈ l, FldsOk a) (h : ∀ a ∈ l, (chkR a).2 = 0) : ACall Tryd.prog 10 [.one (.sl rRow l)] (.tup [(false, [.lit (.string (bytes (Lib.join (l.map foldL) [10])))]), (false, [.lit .nilIface])]) := by
  have hg : ∀ a ∈ l, GoodS a := fun a ha => (chk_good (h a ha)).1
  have hjl := joinG_len hg hl
  have hj := join_c (l.map fun a => bytes (foldL a)) ⟨#[10]⟩ (by rw [List.length_map]; omega) hjl
  rw [map_foldB] at hj
  refine acall_of (rs := [2, 3]) Tryd.func10 rfl rfl rfl teOk rfl ?_
  refine acode_seq ?_
  refine acode_region ?_
  refine acode_seq ?_
  refine acode_region ?_
  refine acode_seq ?_
  refine acode_seq ?_
  refine acode_nilvec 4 9 .str rfl ?_
  refine acode_region ?_
  intro l2_1
  try simp only [Int.toNat_natCast, dflt_sl, dflt_st, dflt_str, dflt_int, dflt_bool] at l2_1
  refine acode_block ?_
  refine acode_loopP (fun (i : Nat) => i ≤ l.length) (fun (i : Nat) => [(4, .one (.vec 0)), (9, .one (.sl rRow l)), (10, ii .i64 l.length), (11, ii .i64 i)]) (fun (i : Nat) => [(0, .vec 9 .str ((l.take i).map fun a => bytes (foldL a)))]) 1 (fun (i : Nat) => l.length - i) 0 (Nat.zero_le _) (le_of ⟨rfl, rfl, rfl, rfl⟩ rfl rfl) ?_
  intro i hI0
  refine acode_seq ?_
  refine acode_region ?_
  refine acode_seq ?_
  refine acode_cond rfl (fun h12 => ?_) (fun h12 => ?_)
  · try simp only [decide_eq_true_eq] at h12
    try simp only [Int.toNat_natCast, dflt_sl, dflt_st, dflt_str, dflt_int, dflt_bool] at h12
    have hil : i < l.length := (by omega)
    have hm := getD_mem hil ([] : List Fld)
    refine acode_skip ?_
    refine acode_seq ?_
    refine acode_block ?_
    refine acode_seq ?_
    refine acode_region ?_
    refine And.intro (by first | omega | assumption | decide | (simp only [Int.toNat_natCast, dflt_sl, dflt_st, dflt_str, dflt_int, dflt_bool]; omega) | (simp <;> omega)) ?_
    refine acode_seq ?_
    refine acode_region ?_
    refine Or.inl ?_
    refine And.intro (rfl) ?_
    refine Exists.intro _ (And.intro (pstanza_ok (hf _ hm) (h _ hm)) ?_)
    refine acode_seq ?_
    refine acode_seq ?_
    refine acode_region ?_
    refine acode_cond rfl (fun h21 => ?_) (fun h21 => ?_)
    · try simp only [Bool.not_eq_true'] at h21
      try simp only [Int.toNat_natCast, dflt_sl, dflt_st, dflt_str, dflt_int, dflt_bool] at h21
      cases h21
    · try simp only [Bool.not_eq_false'] at h21
      try simp only [Int.toNat_natCast, dflt_sl, dflt_st, dflt_str, dflt_int, dflt_bool] at h21
      refine acode_skip ?_
      refine acode_region ?_
      refine And.intro (by first | exact app_le (by first | omega | (simp only [List.length_cons, List.length_nil, List.length_map, List.length_take]; omega) | (simp; omega)) (by decide) | omega | assumption | decide | (simp only [Int.toNat_natCast, dflt_sl, dflt_st, dflt_str, dflt_int, dflt_bool]; omega) | (simp <;> omega)) ?_
      refine acode_region ?_
      refine And.intro (by first | omega | assumption | decide | (simp only [Int.toNat_natCast, dflt_sl, dflt_st, dflt_str, dflt_int, dflt_bool]; omega) | (simp <;> omega)) ?_
      exact ⟨i + 1, by omega, by first | omega | (simp <;> omega), le_of ⟨rfl, rfl, rfl, (ii_eq (by omega))⟩ (vec_eq (by rw [← take_snoc ([] : List Fld) hil, List.map_append]; rfl)) rfl⟩
  · try simp only [decide_eq_false_iff_not, Int.not_lt] at h12
    try simp only [Int.toNat_natCast, dflt_sl, dflt_st, dflt_str, dflt_int, dflt_bool] at h12
    refine acode_exit ?_
    refine acode_seq ?_
    rw [List.take_of_length_le (by omega)]
    refine acode_region ?_
    refine Or.inl ?_
    refine And.intro (rfl) ?_
    refine Exists.intro _ (And.intro (hj) ?_)
    refine acode_ret ?_
    rfl
theorem ptext_err {l : List (List Fld)} (hl : l.length ≤ 1000) (hf : ∀ a ∈ l, FldsOk a) {k : Nat} (hk : k < l.length) (h : ∀ a ∈ l.take k, (chkR a).2 = 0) (hb : (chkR (l.getD k ([] : List Fld))).2 ≠ 0) : ACall Tryd.prog 10 [.one (.sl rRow l)] (.tup [(false, [.lit (.string ⟨#[]⟩)]), (false, [chkA (l.getD k ([] : List Fld))])]) := by
  have hne : ∃ e, chkA (l.getD k ([] : List Fld)) = e ∧ ((∃ n, e = errN n) ∨ ∃ i n, e = errF i n) := by
    obtain ⟨e, he, hs⟩ := chk_bad hb
    refine ⟨e, he, ?_⟩
    rcases hs with ⟨n, _, h1, _⟩ | ⟨i, n, _, h1, _⟩
    · exact .inl ⟨n, h1⟩
    · exact .inr ⟨i, n, h1⟩
  obtain ⟨e, he, hs⟩ := hne
  have hbad := pstanza_err (hf _ (getD_mem hk ([] : List Fld))) hb
  rw [he] at hbad ⊢
  refine acall_of (rs := [2, 3]) Tryd.func10 rfl rfl rfl teOk rfl ?_
  refine acode_seq ?_
  refine acode_region ?_
  refine acode_seq ?_
  refine acode_region ?_
  refine acode_seq ?_
  refine acode_seq ?_
  refine acode_nilvec 4 9 .str rfl ?_
  refine acode_region ?_
  intro l2_1
  try simp only [Int.toNat_natCast, dflt_sl, dflt_st, dflt_str, dflt_int, dflt_bool] at l2_1
  refine acode_block ?_
  refine acode_loopP (fun (i : Nat) => i ≤ k) (fun (i : Nat) => [(4, .one (.vec 0)), (9, .one (.sl rRow l)), (10, ii .i64 l.length), (11, ii .i64 i)]) (fun (i : Nat) => [(0, .vec 9 .str ((l.take i).map fun a => bytes (foldL a)))]) 1 (fun (i : Nat) => l.length - i) 0 (Nat.zero_le _) (le_of ⟨rfl, rfl, rfl, rfl⟩ rfl rfl) ?_
  intro i hI0
  refine acode_seq ?_
  refine acode_region ?_
  refine acode_seq ?_
  refine acode_cond rfl (fun h12 => ?_) (fun h12 => ?_)
  · try simp only [decide_eq_true_eq] at h12
    try simp only [Int.toNat_natCast, dflt_sl, dflt_st, dflt_str, dflt_int, dflt_bool] at h12
    have hil : i < l.length := (by omega)
    have hm := getD_mem hil ([] : List Fld)
    refine acode_skip ?_
    refine acode_seq ?_
    refine acode_block ?_
    refine acode_seq ?_
    refine acode_region ?_
    refine And.intro (by first | omega | assumption | decide | (simp only [Int.toNat_natCast, dflt_sl, dflt_st, dflt_str, dflt_int, dflt_bool]; omega) | (simp <;> omega)) ?_
    refine acode_seq ?_
    rcases (show (i = k ∧ ∃ n, e = errN n) ∨ (i = k ∧ ∃ a n, e = errF a n) ∨ i ≠ k from by by_cases hik : i = k; exact hs.elim (fun h => .inl ⟨hik, h⟩) (fun h => .inr (.inl ⟨hik, h⟩)); exact .inr (.inr hik)) with ⟨hik, n, rfl⟩|⟨hik, a, n, rfl⟩|hik
    · refine acode_region ?_
      refine Or.inl ?_
      refine And.intro (rfl) ?_
      refine Exists.intro _ (And.intro ((by rw [← hik] at hbad; exact hbad)) ?_)
      refine acode_seq ?_
      refine acode_seq ?_
      refine acode_region ?_
      refine acode_cond rfl (fun h21 => ?_) (fun h21 => ?_)
      · skip
        refine acode_seq ?_
        refine acode_region ?_
        refine acode_ret ?_
        rfl
      · try simp only [decide_eq_true_eq, decide_eq_false_iff_not, Bool.and_eq_true, Bool.not_eq_true', Bool.not_eq_false', Bool.or_eq_false_iff, Bool.or_eq_true, Bool.and_eq_false_iff, Int.not_lt, Int.not_le] at h21
        try simp only [Int.toNat_natCast, dflt_sl, dflt_st, dflt_str, dflt_int, dflt_bool] at h21
        cases h21
    · refine acode_region ?_
      refine Or.inl ?_
      refine And.intro (rfl) ?_
      refine Exists.intro _ (And.intro ((by rw [← hik] at hbad; exact hbad)) ?_)
      refine acode_seq ?_
      refine acode_seq ?_
      refine acode_region ?_
      refine acode_cond rfl (fun h21 => ?_) (fun h21 => ?_)
      · skip
        refine acode_seq ?_
        refine acode_region ?_
        refine acode_ret ?_
        rfl
      · try simp only [decide_eq_true_eq, decide_eq_false_iff_not, Bool.and_eq_true, Bool.not_eq_true', Bool.not_eq_false', Bool.or_eq_false_iff, Bool.or_eq_true, Bool.and_eq_false_iff, Int.not_lt, Int.not_le] at h21
        try simp only [Int.toNat_natCast, dflt_sl, dflt_st, dflt_str, dflt_int, dflt_bool] at h21
        cases h21
    · refine acode_region ?_
      refine Or.inl ?_
      refine And.intro (rfl) ?_
      refine Exists.intro _ (And.intro (pstanza_ok (hf _ hm) (h _ (by rw [List.mem_take_iff_getElem]; exact ⟨i, by omega, getD_get hil ([] : List Fld)⟩))) ?_)
      refine acode_seq ?_
      refine acode_seq ?_
      refine acode_region ?_
      refine acode_cond rfl (fun h21 => ?_) (fun h21 => ?_)
      · try simp only [Bool.not_eq_true'] at h21
        try simp only [Int.toNat_natCast, dflt_sl, dflt_st, dflt_str, dflt_int, dflt_bool] at h21
        cases h21
      · try simp only [Bool.not_eq_false'] at h21
        try simp only [Int.toNat_natCast, dflt_sl, dflt_st, dflt_str, dflt_int, dflt_bool] at h21
        refine acode_skip ?_
        refine acode_region ?_
        refine And.intro (by first | exact app_le (by first | omega | (simp only [List.length_cons, List.length_nil, List.length_map, List.length_take]; omega) | (simp; omega)) (by decide) | omega | assumption | decide | (simp only [Int.toNat_natCast, dflt_sl, dflt_st, dflt_str, dflt_int, dflt_bool]; omega) | (simp <;> omega)) ?_
        refine acode_region ?_
        refine And.intro (by first | omega | assumption | decide | (simp only [Int.toNat_natCast, dflt_sl, dflt_st, dflt_str, dflt_int, dflt_bool]; omega) | (simp <;> omega)) ?_
        exact ⟨i + 1, by omega, by first | omega | (simp <;> omega), le_of ⟨rfl, rfl, rfl, (ii_eq (by omega))⟩ (vec_eq (by rw [← take_snoc ([] : List Fld) hil, List.map_append]; rfl)) rfl⟩
  · try simp only [decide_eq_false_iff_not, Int.not_lt] at h12
    try simp only [Int.toNat_natCast, dflt_sl, dflt_st, dflt_str, dflt_int, dflt_bool] at h12
    omega
end Q
end Ab
end Go.Proofs.YtlhjcdihbbdfnaaDoor
namespace Go.Proofs.YtlhjcdihbbdfnaaDoor
open Go.RowKit
namespace Ab
set_option maxRecDepth 100000
namespace Q
theorem clone_c (l : List Fld) (hl : l.length ≤ 1000000) : ACall Tryd.prog 43 [.one (.sl rFld l)] (.one (.sl rFld l)) := by
  refine acall_of (rs := [2]) Tryd.func43 rfl rfl rfl teOk rfl ?_
  refine acode_seq ?_
  refine acode_region ?_
  refine acode_seq ?_
  refine acode_seq ?_
  refine acode_isnil [_] _ (R := rFld) (xs := l) rfl rfl rfl rfl (e := 68) rfl rfl ?_
  refine ⟨rfl, fun b hb => ?_⟩
  refine acode_cond rfl (fun h4 => ?_) (fun h4 => ?_)
  · have hl0 := hb h4
    subst hl0
    refine acode_seq ?_
    refine acode_region ?_
    refine acode_nilvec 2 68 rFld rfl ?_
    refine acode_ret ?_
    rfl
  · refine acode_skip ?_
    refine acode_seq ?_
    refine acode_region ?_
    refine And.intro (by first | exact app_le (show l.length ≤ 1000000000 by omega) (by decide) | exact app_le (show 0 + l.length ≤ 1000000000 by omega) (by decide)) ?_
    refine acode_ret ?_
    rfl
theorem copied_c (x : Itm) (hx : x.2.2.length ≤ 1000000) : ACall Tryd.prog 46 [.agg (toL rItm x)] (.agg (toL rItm x)) := by
  refine acall_ofc (rs := [.cell 2 43]) Tryd.func46 rfl rfl rfl teOk rfl ?_
  refine acode_seq ?_
  refine acode_region ?_
  refine acode_seq ?_
  refine acode_region ?_
  refine Or.inl ?_
  refine And.intro (rfl) ?_
  refine Exists.intro _ (And.intro (clone_c x.2.2 hx) ?_)
  refine acode_seq ?_
  refine acode_region ?_
  refine acode_ret ?_
  rfl
theorem render_c (l m : List Itm) (hm : m.length ≤ 1000000) (hs : szI m ≤ 1000000) (ha : ACall Tryd.prog 28 [.one (.sl rItm l)] (.one (.sl rItm m))) : ACall Tryd.prog 27 [.one (.sl rItm l)] (is (bytes (rawsL m))) := by
  refine acall_of (rs := [2]) Tryd.func27 rfl rfl rfl teOk rfl ?_
  refine acode_seq ?_
  refine acode_region ?_
  refine acode_seq ?_
  refine acode_region ?_
  refine Or.inl ?_
  refine And.intro (rfl) ?_
  refine Exists.intro _ (And.intro (ha) ?_)
  refine Or.inl ?_
  refine And.intro (rfl) ?_
  refine Exists.intro _ (And.intro (joinI_c m hm hs) ?_)
  refine acode_ret ?_
  rfl
theorem apartK_snoc : ∀ (l : List Itm) (k : Int) (x : Itm), apartK k (l ++ [x]) = apartK k l ++ (if lastK k l ≠ 1 ∧ x.1 ≠ 1 then [(1, ⟨#[10]⟩, []), x] else [x])
  | [], k, x => by
    unfold lastK
    rw [List.nil_append]
    unfold apartK
    by_cases h : k ≠ 1 ∧ x.1 ≠ 1
    · rw [if_pos h, if_pos h]; rfl
    · rw [if_neg h, if_neg h]; rfl
  | y :: r, k, x => by
    have ih := apartK_snoc r y.1 x
    rw [List.cons_append]
    unfold apartK lastK
    rw [ih]
    by_cases h : k ≠ 1 ∧ y.1 ≠ 1
    · rw [if_pos h, if_pos h]; rfl
    · rw [if_neg h, if_neg h]; rfl
theorem lastK_take {l : List Itm} {i : Nat} (h : i < l.length) (k : Int) : lastK k (l.take (i + 1)) = (l.getD i ((0 : Int), ByteArray.empty, ([] : List Fld))).1 := by
  rw [List.take_succ_eq_append_getElem h, lastK_app, getD_get h ((0 : Int), ByteArray.empty, ([] : List Fld))]
  rfl
theorem apart_snoc (l : List Itm) (i : Nat) (h : i < l.length) : apartL (l.take (i + 1)) = apartL (l.take i) ++ (if (0 < i ∧ (l.getD (i - 1) ((0 : Int), ByteArray.empty, ([] : List Fld))).1 ≠ 1) ∧ (l.getD i ((0 : Int), ByteArray.empty, ([] : List Fld))).1 ≠ 1 then [(1, ⟨#[10]⟩, []), l.getD i ((0 : Int), ByteArray.empty, ([] : List Fld))] else [l.getD i ((0 : Int), ByteArray.empty, ([] : List Fld))]) := by
  unfold apartL
  rw [List.take_succ_eq_append_getElem h, apartK_snoc, getD_get h ((0 : Int), ByteArray.empty, ([] : List Fld))]
  have e : lastK 1 (l.take i) ≠ 1 ↔ (0 < i ∧ (l.getD (i - 1) ((0 : Int), ByteArray.empty, ([] : List Fld))).1 ≠ 1) := by
    cases i with
    | zero => simp [lastK]
    | succ i => rw [lastK_take (by omega), Nat.add_sub_cancel]; simp
  congr 1
  by_cases hh : lastK 1 (l.take i) ≠ 1 ∧ (l.getD i ((0 : Int), ByteArray.empty, ([] : List Fld))).1 ≠ 1
  · rw [if_pos hh, if_pos ⟨e.1 hh.1, hh.2⟩]
  · rw [if_neg hh, if_neg (fun g => hh ⟨e.2 g.1, g.2⟩)]
theorem apartK_len : ∀ (l : List Itm) (k : Int), (apartK k l).length ≤ 2 * l.length
  | [], _ => by simp [apartK]
  | x :: r, k => by
    have := apartK_len r x.1
    unfold apartK
    split <;> (simp only [List.length_cons]; omega)
theorem apart_c (l : List Itm) (hl : l.length ≤ 1000000) (hf : ∀ x ∈ l, x.2.2.length ≤ 1000000) : ACall Tryd.prog 28 [.one (.sl rItm l)] (.one (.sl rItm (apartL l))) := by
  refine acall_of (rs := [2]) Tryd.func28 rfl rfl rfl teOk rfl ?_
  refine acode_seq ?_
  refine acode_region ?_
  refine acode_seq ?_
  refine acode_region ?_
  refine acode_seq ?_
  refine acode_seq ?_
  refine acode_nilvec 3 43 rItm rfl ?_
  refine acode_region ?_
  intro l2_1
  try simp only [Int.toNat_natCast, dflt_sl, dflt_st, dflt_str, dflt_int, dflt_bool] at l2_1
  refine acode_block ?_
  refine acode_loopP (fun (i : Nat) => i ≤ l.length) (fun (i : Nat) => [(0, .one (.sl rItm l)), (3, .one (.vec 0)), (6, .one (.sl rItm l)), (7, ii .i64 l.length), (8, ii .i64 i)]) (fun (i : Nat) => [(0, .vec 43 rItm (apartL (l.take i)))]) 1 (fun (i : Nat) => l.length - i) 0 (Nat.zero_le _) (le_of ⟨rfl, rfl, rfl, rfl, rfl⟩ rfl rfl) ?_
  intro i hI0
  refine acode_seq ?_
  refine acode_region ?_
  refine acode_seq ?_
  refine acode_cond rfl (fun h9 => ?_) (fun h9 => ?_)
  · try simp only [decide_eq_true_eq] at h9
    try simp only [Int.toNat_natCast, dflt_sl, dflt_st, dflt_str, dflt_int, dflt_bool] at h9
    have hil : i < l.length := (by omega)
    have hsn := apart_snoc l i hil
    have hal := apartK_len (l.take i) 1
    rw [List.length_take] at hal
    have hal : (apartL (l.take i)).length ≤ 2 * min i l.length := hal
    have e1 : ((i : Int) - 1).toNat = i - 1 := (by omega)
    refine acode_skip ?_
    refine acode_seq ?_
    refine acode_block ?_
    refine acode_seq ?_
    refine acode_region ?_
    refine And.intro (by first | omega | assumption | decide | (simp only [Int.toNat_natCast, dflt_sl, dflt_st, dflt_str, dflt_int, dflt_bool]; omega) | (simp <;> omega)) ?_
    refine acode_seq ?_
    refine acode_seq ?_
    refine acode_region ?_
    refine And.intro (fun h => trivial) ?_
    refine And.intro (fun h => ⟨⟨h, trivial⟩, trivial⟩) ?_
    refine And.intro (fun h => ⟨⟨h, trivial⟩, trivial⟩) ?_
    refine And.intro (by exact fun h => h) ?_
    refine And.intro (fun h => trivial) ?_
    refine And.intro (fun h => trivial) ?_
    refine And.intro (fun h => ⟨⟨⟨h, trivial⟩, trivial⟩, by first | omega | decide | (simp only [Int.toNat_natCast, dflt_sl, dflt_st, dflt_str, dflt_int, dflt_bool]; omega) | (have h9 := of_decide_eq_true h; omega) | (simp [gq] at h; omega)⟩) ?_
    refine And.intro (fun h => ⟨⟨⟨h, trivial⟩, ⟨h, trivial⟩, trivial⟩, by first | omega | decide | (simp only [Int.toNat_natCast, dflt_sl, dflt_st, dflt_str, dflt_int, dflt_bool]; omega) | (have h9 := of_decide_eq_true h; omega) | (simp [gq] at h; omega)⟩) ?_
    refine And.intro (fun h => ⟨⟨h, trivial⟩, trivial⟩) ?_
    refine And.intro (fun h => ⟨⟨h, trivial⟩, trivial⟩) ?_
    refine And.intro (fun h => ⟨⟨h, trivial⟩, trivial⟩) ?_
    refine And.intro (by exact fun h => h) ?_
    refine acode_cond rfl (fun h28 => ?_) (fun h28 => ?_)
    · try simp only [decide_eq_true_eq, decide_eq_false_iff_not, Bool.and_eq_true, Bool.not_eq_true'] at h28
      try simp only [Int.toNat_natCast, dflt_sl, dflt_st, dflt_str, dflt_int] at h28
      rw [e1] at h28
      rw [if_pos ⟨⟨by omega, h28.2⟩, h28.1.2⟩] at hsn
      refine acode_region ?_
      refine And.intro (by exact app_le (show (apartL (l.take i)).length + 1 ≤ 1000000000 by omega) (by decide)) ?_
      refine acode_region ?_
      refine Or.inl ?_
      refine And.intro (rfl) ?_
      refine Exists.intro _ (And.intro (copied_c (l.getD i ((0 : Int), ByteArray.empty, ([] : List Fld))) (hf _ (getD_mem hil ((0 : Int), ByteArray.empty, ([] : List Fld))))) ?_)
      refine And.intro (by exact app_le (by rw [List.length_append]; show (apartL (l.take i)).length + 1 + 1 ≤ 1000000000; omega) (by decide)) ?_
      refine acode_region ?_
      refine And.intro (by first | omega | assumption | decide | (simp only [Int.toNat_natCast, dflt_sl, dflt_st, dflt_str, dflt_int, dflt_bool]; omega) | (simp <;> omega)) ?_
      exact ⟨i + 1, by omega, by first | omega | (simp <;> omega), le_of ⟨rfl, rfl, rfl, rfl, (ii_eq (by omega))⟩ (vec_eq (by rw [hsn]; (try rw [List.append_assoc]); (try exact rfl))) rfl⟩
    · try simp only [decide_eq_true_eq, decide_eq_false_iff_not, Bool.not_eq_false', Bool.and_eq_false_iff, Int.not_lt] at h28
      try simp only [Int.toNat_natCast, dflt_sl, dflt_st, dflt_str, dflt_int] at h28
      rw [e1] at h28
      rw [if_neg (fun h => h28.elim (fun g => g.elim (fun g => by omega) (fun g => h.2 g)) (fun g => h.1.2 g))] at hsn
      refine acode_skip ?_
      refine acode_region ?_
      refine Or.inl ?_
      refine And.intro (rfl) ?_
      refine Exists.intro _ (And.intro (copied_c (l.getD i ((0 : Int), ByteArray.empty, ([] : List Fld))) (hf _ (getD_mem hil ((0 : Int), ByteArray.empty, ([] : List Fld))))) ?_)
      refine And.intro (by exact app_le (show (apartL (l.take i)).length + 1 ≤ 1000000000 by omega) (by decide)) ?_
      refine acode_region ?_
      refine And.intro (by first | omega | assumption | decide | (simp only [Int.toNat_natCast, dflt_sl, dflt_st, dflt_str, dflt_int, dflt_bool]; omega) | (simp <;> omega)) ?_
      exact ⟨i + 1, by omega, by first | omega | (simp <;> omega), le_of ⟨rfl, rfl, rfl, rfl, (ii_eq (by omega))⟩ (vec_eq (by rw [hsn]; (try rw [List.append_assoc]); (try exact rfl))) rfl⟩
  · try simp only [decide_eq_false_iff_not, Int.not_lt] at h9
    try simp only [Int.toNat_natCast, dflt_sl, dflt_st, dflt_str, dflt_int, dflt_bool] at h9
    refine acode_exit ?_
    refine acode_seq ?_
    refine acode_region ?_
    refine acode_ret ?_
    rw [List.take_of_length_le (by omega)]
    rfl
def al6 : List (List Fld) := [[(⟨#[65]⟩, ⟨#[49]⟩)], [(⟨#[66]⟩, ⟨#[50]⟩)]]
theorem al6_chk : ∀ a ∈ al6, (chkR a).2 = 0 := by
  intro a ha
  unfold al6 at ha
  simp only [List.mem_cons, List.not_mem_nil, or_false] at ha
  rcases ha with rfl | rfl <;> decide +kernel
theorem al6_text : bytes (Lib.join (al6.map foldL) [10]) = ⟨#[65, 58, 32, 49, 10, 10, 66, 58, 32, 50, 10]⟩ := by decide +kernel
theorem alive6_c : ACall Tryd.prog 8 [] (ib true) := by
  have hp := ptext_ok (l := al6) (by decide) (fun a ha => (by
    unfold al6 at ha
    simp only [List.mem_cons, List.not_mem_nil, or_false] at ha
    rcases ha with rfl | rfl <;> exact ⟨by simp, fun f hf => by rw [List.mem_singleton.1 hf]; exact ⟨by decide, by decide⟩⟩)) al6_chk
  rw [al6_text] at hp
  refine acall_of (rs := [0]) Tryd.func8 rfl rfl rfl teOk rfl ?_
  refine acode_seq ?_
  refine acode_region ?_
  refine acode_seq ?_
  refine acode_region ?_
  refine Or.inl ?_
  refine And.intro (rfl) ?_
  refine Exists.intro _ (And.intro (hp) ?_)
  refine acode_seq ?_
  refine acode_region ?_
  refine And.intro (fun h => trivial) ?_
  refine And.intro (fun h => ⟨⟨h, trivial⟩, trivial⟩) ?_
  refine And.intro (by exact fun h => h) ?_
  refine acode_ret ?_
  rfl
end Q
end Ab
end Go.Proofs.YtlhjcdihbbdfnaaDoor
namespace Go.Proofs.YtlhjcdihbbdfnaaDoor
open Go.RowKit
namespace Ab
set_option maxRecDepth 100000
namespace Q
theorem tup2_eq {a b c d : Int} (h1 : a = c) (h2 : b = d) : A.tup [(false, [C.lit (.int .i64 a)]), (false, [C.lit (.int .i64 b)])] = A.tup [(false, [C.lit (.int .i64 c)]), (false, [C.lit (.int .i64 d)])] := by rw [h1, h2]
theorem refChk_c (l : List Fld) (hl : FldsOk l) : ACall Tryd.prog 11 [.one (.sl rFld l)] (.tup [(false, [.lit (.int .i64 (chkR l).1)]), (false, [.lit (.int .i64 (chkR l).2)])]) := by
  have hln := hl.1
  refine acall_of (rs := [2, 3]) Tryd.func11 rfl rfl rfl teOk rfl ?_
  refine acode_seq ?_
  refine acode_region ?_
  refine acode_seq ?_
  refine acode_seq ?_
  refine acode_region ?_
  intro l1_1
  try simp only [Int.toNat_natCast, dflt_sl, dflt_st, dflt_str, dflt_int, dflt_bool] at l1_1
  refine acode_cond rfl (fun h8 => ?_) (fun h8 => ?_)
  · try simp only [decide_eq_true_eq] at h8
    try simp only [Int.toNat_natCast, dflt_sl, dflt_st, dflt_str, dflt_int, dflt_bool] at h8
    refine acode_seq ?_
    refine acode_region ?_
    refine acode_ret ?_
    have e : chkR l = (-9, 2) := (by unfold chkR; rw [if_pos (List.eq_nil_of_length_eq_zero (by omega))])
    rw [e]
    rfl
  · try simp only [decide_eq_false_iff_not] at h8
    try simp only [Int.toNat_natCast, dflt_sl, dflt_st, dflt_str, dflt_int, dflt_bool] at h8
    refine acode_skip ?_
    refine acode_seq ?_
    refine acode_seq ?_
    refine acode_region ?_
    intro l3_1
    try simp only [Int.toNat_natCast, dflt_sl, dflt_st, dflt_str, dflt_int, dflt_bool] at l3_1
    refine acode_cond rfl (fun h11 => ?_) (fun h11 => ?_)
    · try simp only [decide_eq_true_eq] at h11
      try simp only [Int.toNat_natCast, dflt_sl, dflt_st, dflt_str, dflt_int, dflt_bool] at h11
      refine acode_seq ?_
      refine acode_region ?_
      refine acode_ret ?_
      have e : chkR l = (-9, 11) := (by unfold chkR; rw [if_neg (fun e => h8 (by rw [e]; rfl)), if_pos (by omega)])
      rw [e]
      rfl
    · try simp only [decide_eq_false_iff_not, Int.not_lt] at h11
      try simp only [Int.toNat_natCast, dflt_sl, dflt_st, dflt_str, dflt_int, dflt_bool] at h11
      refine acode_skip ?_
      refine acode_seq ?_
      refine acode_seq ?_
      refine acode_region ?_
      refine acode_block ?_
      refine acode_loopP (fun (i : Nat) => i ≤ l.length ∧ ∀ f ∈ l.take i, checkF f = 0) (fun (i : Nat) => [(0, .one (.sl rFld l)), (4, ii .i64 i)]) (fun (i : Nat) => []) 0 (fun (i : Nat) => l.length - i) 0 (⟨Nat.zero_le _, by simp⟩) (le_of ⟨rfl, rfl⟩ trivial rfl) ?_
      intro i hI0
      obtain ⟨hi, hall⟩ := hI0
      refine acode_seq ?_
      refine acode_seq ?_
      refine acode_region ?_
      intro l6_2
      try simp only [Int.toNat_natCast, dflt_sl, dflt_st, dflt_str, dflt_int, dflt_bool] at l6_2
      refine acode_cond rfl (fun h15 => ?_) (fun h15 => ?_)
      · try simp only [decide_eq_true_eq] at h15
        try simp only [Int.toNat_natCast, dflt_sl, dflt_st, dflt_str, dflt_int, dflt_bool] at h15
        have hlt : i < l.length := (by omega)
        have hm := hl.2 _ (getD_mem hlt (ByteArray.empty, ByteArray.empty))
        have hne : l ≠ [] := (fun e => by rw [e] at hlt; simp at hlt)
        refine acode_skip ?_
        refine acode_seq ?_
        refine acode_block ?_
        refine acode_seq ?_
        refine acode_region ?_
        refine And.intro (by first | omega | assumption | decide | (simp only [Int.toNat_natCast, dflt_sl, dflt_st, dflt_str, dflt_int, dflt_bool]; omega) | (simp <;> omega)) ?_
        refine Or.inl ?_
        refine And.intro (rfl) ?_
        refine Exists.intro _ (And.intro (refCheck_c (l.getD i (ByteArray.empty, ByteArray.empty)) (by omega)) ?_)
        refine acode_seq ?_
        refine acode_region ?_
        refine acode_cond rfl (fun h24 => ?_) (fun h24 => ?_)
        · try simp only [decide_eq_false_iff_not, Bool.not_eq_true'] at h24
          try simp only [Int.toNat_natCast, dflt_sl, dflt_st, dflt_str, dflt_int, dflt_bool] at h24
          refine acode_seq ?_
          refine acode_region ?_
          refine acode_ret ?_
          have e : chkR l = ((i : Int), checkF (l.getD i (ByteArray.empty, ByteArray.empty))) := (by unfold chkR; rw [if_neg hne, if_neg (by omega), badAt_hit l i 0 hlt hall h24, Int.zero_add])
          rw [e]
          rfl
        · try simp only [decide_eq_true_eq, Bool.not_eq_false'] at h24
          try simp only [Int.toNat_natCast, dflt_sl, dflt_st, dflt_str, dflt_int, dflt_bool] at h24
          refine acode_skip ?_
          refine acode_region ?_
          refine And.intro (by first | omega | assumption | decide | (simp only [Int.toNat_natCast, dflt_sl, dflt_st, dflt_str, dflt_int, dflt_bool]; omega) | (simp <;> omega)) ?_
          exact ⟨i + 1, ⟨by omega, by rw [← take_snoc (ByteArray.empty, ByteArray.empty) hlt]; intro f hf; rcases List.mem_append.1 hf with h|h; exact hall f h; rw [List.mem_singleton.1 h]; exact h24⟩, by first | omega | (simp <;> omega), le_of ⟨rfl, (ii_eq (by omega))⟩ trivial rfl⟩
      · try simp only [decide_eq_false_iff_not, Int.not_lt] at h15
        try simp only [Int.toNat_natCast, dflt_sl, dflt_st, dflt_str, dflt_int, dflt_bool] at h15
        refine acode_exit ?_
        refine acode_seq ?_
        refine acode_region ?_
        refine acode_ret ?_
        rw [List.take_of_length_le (by omega)] at hall
        have e : chkR l = (-9, 0) := (by unfold chkR; rw [if_neg (fun e => h8 (by rw [e]; rfl)), if_neg (by omega)]; exact badAt_no l 0 hall)
        rw [e]
        rfl
end Q
end Ab
end Go.Proofs.YtlhjcdihbbdfnaaDoor
namespace Go.Proofs.YtlhjcdihbbdfnaaDoor
open Go.RowKit
namespace Ab
set_option maxRecDepth 100000
namespace Q
def cntN (l : List Itm) : Nat := (l.filter fun x => !decide (x.1 = 1)).length
theorem cnt_snoc {l : List Itm} {j : Nat} (h : j < l.length) : cntN (l.take (j + 1)) = cntN (l.take j) + if (l.getD j ((0 : Int), ByteArray.empty, ([] : List Fld))).1 = 1 then 0 else 1 := by
  unfold cntN
  rw [← take_snoc ((0 : Int), ByteArray.empty, ([] : List Fld)) h, List.filter_append, List.length_append]
  generalize l.getD j ((0 : Int), ByteArray.empty, ([] : List Fld)) = x
  by_cases hk : x.1 = 1
  · simp [hk]
  · simp [hk]
theorem mix_szl {s : ByteArray} {l : List Itm} (h : parseS s = .inr l) : szI l = s.size := by
  have h1 := raws_text h
  rw [← raws_sz, ← h1, bytes_size]
theorem itemsF_c (a b : List Itm) : ACall Tryd.prog 24 [.one (.full rItm a), .one (.sl rItm b)] (ib (decide (a = b))) :=
  acall_arg (fun ok ρ w vs h => by obtain ⟨v, t, rfl, hv, ht⟩ := h; exact ⟨v, t, rfl, hv.1, ht⟩) (items_c a b)
theorem drop_take_one {α : Type} (d : α) {l : List α} {c : Nat} (h : c < l.length) : (l.take (c + 1)).drop c = [l.getD c d] := by
  rw [List.drop_take, List.drop_eq_getElem_cons h, getD_get h d]
  simp
theorem one_at {got all : List Itm} (hfil : got.filter (fun x => !decide (x.1 = 1)) = all) {j : Nat} (hj : j < got.length) (hk : ¬ (got.getD j ((0 : Int), ByteArray.empty, ([] : List Fld))).1 = 1) : cntN (got.take j) < all.length ∧ [got.getD j ((0 : Int), ByteArray.empty, ([] : List Fld))] = (all.take ((cntN (got.take j) : Int) + 1).toNat).drop (cntN (got.take j) : Int).toNat := by
  obtain ⟨h1, h2⟩ := filter_at (fun x : Itm => !decide (x.1 = 1)) ((0 : Int), ByteArray.empty, ([] : List Fld)) got j hj (by rw [decide_eq_false hk]; rfl)
  rw [hfil] at h1 h2
  refine ⟨h1, ?_⟩
  have h1' : cntN (got.take j) < all.length := h1
  rw [show ((cntN (got.take j) : Int) + 1).toNat = cntN (got.take j) + 1 by omega, Int.toNat_natCast, drop_take_one ((0 : Int), ByteArray.empty, ([] : List Fld)) h1']
  rw [← h2]
  rfl
theorem cnt_all {got all : List Itm} (hfil : got.filter (fun x => !decide (x.1 = 1)) = all) : cntN got = all.length := by
  rw [← hfil]; rfl
theorem PrintMixes_c (a b : ByteArray) (turn : Bool) : ACall Tryd.prog 6 [is a, is b, ib turn] (ib true) := by
  refine acall_of (rs := [6]) Tryd.func6 rfl rfl rfl teOk rfl ?_
  refine acode_seq ?_
  refine acode_region ?_
  refine acode_seq ?_
  refine acode_seq ?_
  refine acode_region ?_
  refine Or.inl ?_
  refine And.intro (rfl) ?_
  refine Exists.intro _ (And.intro (alive6_c) ?_)
  refine acode_cond rfl (fun h18 => ?_) (fun h18 => ?_)
  · try simp only [Bool.not_eq_true'] at h18
    try simp only [Int.toNat_natCast, dflt_sl, dflt_st, dflt_str, dflt_int, dflt_bool] at h18
    cases h18
  · try simp only [Bool.not_eq_false'] at h18
    try simp only [Int.toNat_natCast, dflt_sl, dflt_st, dflt_str, dflt_int, dflt_bool] at h18
    refine acode_skip ?_
    refine acode_seq ?_
    refine acode_seq ?_
    refine acode_region ?_
    refine And.intro (fun h => trivial) ?_
    refine And.intro (fun h => ⟨⟨h, trivial⟩, trivial⟩) ?_
    refine And.intro (fun h => ⟨⟨h, trivial⟩, trivial⟩) ?_
    refine And.intro (by first | (intro h; rw [h]; rfl) | (intro h; cases h)) ?_
    refine acode_cond rfl (fun h26 => ?_) (fun h26 => ?_)
    · try simp only [decide_eq_true_eq, Bool.or_eq_true] at h26
      try simp only [Int.toNat_natCast, dflt_sl, dflt_st, dflt_str, dflt_int, dflt_bool] at h26
      refine acode_seq ?_
      refine acode_region ?_
      refine acode_ret ?_
      first | rfl | exact ib_eq (by rw [List.take_of_length_le (by omega), cnt_all hfil]; simp)
    · try simp only [decide_eq_false_iff_not, Bool.or_eq_false_iff, Int.not_lt] at h26
      try simp only [Int.toNat_natCast, dflt_sl, dflt_st, dflt_str, dflt_int, dflt_bool] at h26
      have hpa := parse_a a (by omega)
      have hpb := parse_a b (by omega)
      refine acode_skip ?_
      refine acode_seq ?_
      rcases hra : parseS a with e | l <;> rw [hra] at hpa
      · refine acode_region ?_
        refine Or.inl ?_
        refine And.intro (rfl) ?_
        refine Exists.intro _ (And.intro (hpa) ?_)
        refine acode_seq ?_
        rcases hrb : parseS b with e | m <;> rw [hrb] at hpb
        · refine acode_region ?_
          refine Or.inl ?_
          refine And.intro (rfl) ?_
          refine Exists.intro _ (And.intro (hpb) ?_)
          refine acode_seq ?_
          refine acode_seq ?_
          refine acode_region ?_
          refine And.intro (fun h => trivial) ?_
          refine And.intro (fun h => ⟨⟨h, trivial⟩, trivial⟩) ?_
          refine And.intro (by first | (intro h; rw [h]; rfl) | (intro h; cases h)) ?_
          refine acode_cond rfl (fun h42 => ?_) (fun h42 => ?_)
          · try simp only [Bool.or_eq_true] at h42
            try simp only [Int.toNat_natCast, dflt_sl, dflt_st, dflt_str, dflt_int, dflt_bool] at h42
            refine acode_seq ?_
            refine acode_region ?_
            refine acode_ret ?_
            first | rfl | exact ib_eq (by rw [List.take_of_length_le (by omega), cnt_all hfil]; simp)
          · try simp only [Bool.or_eq_false_iff] at h42
            try simp only [Int.toNat_natCast, dflt_sl, dflt_st, dflt_str, dflt_int, dflt_bool] at h42
            simp at h42
        · refine acode_region ?_
          refine Or.inl ?_
          refine And.intro (rfl) ?_
          refine Exists.intro _ (And.intro (hpb) ?_)
          refine acode_seq ?_
          refine acode_seq ?_
          refine acode_region ?_
          refine And.intro (fun h => trivial) ?_
          refine And.intro (fun h => ⟨⟨h, trivial⟩, trivial⟩) ?_
          refine And.intro (by first | (intro h; rw [h]; rfl) | (intro h; cases h)) ?_
          refine acode_cond rfl (fun h42 => ?_) (fun h42 => ?_)
          · try simp only [Bool.not_eq_true', Bool.or_eq_true] at h42
            try simp only [Int.toNat_natCast, dflt_sl, dflt_st, dflt_str, dflt_int, dflt_bool] at h42
            refine acode_seq ?_
            refine acode_region ?_
            refine acode_ret ?_
            first | rfl | exact ib_eq (by rw [List.take_of_length_le (by omega), cnt_all hfil]; simp)
          · try simp only [Bool.not_eq_false', Bool.or_eq_false_iff] at h42
            try simp only [Int.toNat_natCast, dflt_sl, dflt_st, dflt_str, dflt_int, dflt_bool] at h42
            simp at h42
      · refine acode_region ?_
        refine Or.inl ?_
        refine And.intro (rfl) ?_
        refine Exists.intro _ (And.intro (hpa) ?_)
        refine acode_seq ?_
        rcases hrb : parseS b with e | m <;> rw [hrb] at hpb
        · refine acode_region ?_
          refine Or.inl ?_
          refine And.intro (rfl) ?_
          refine Exists.intro _ (And.intro (hpb) ?_)
          refine acode_seq ?_
          refine acode_seq ?_
          refine acode_region ?_
          refine And.intro (fun h => trivial) ?_
          refine And.intro (fun h => ⟨⟨h, trivial⟩, trivial⟩) ?_
          refine And.intro (by first | (intro h; rw [h]; rfl) | (intro h; cases h)) ?_
          refine acode_cond rfl (fun h42 => ?_) (fun h42 => ?_)
          · try simp only [Bool.not_eq_true', Bool.or_eq_true] at h42
            try simp only [Int.toNat_natCast, dflt_sl, dflt_st, dflt_str, dflt_int, dflt_bool] at h42
            refine acode_seq ?_
            refine acode_region ?_
            refine acode_ret ?_
            first | rfl | exact ib_eq (by rw [List.take_of_length_le (by omega), cnt_all hfil]; simp)
          · try simp only [Bool.not_eq_false', Bool.or_eq_false_iff] at h42
            try simp only [Int.toNat_natCast, dflt_sl, dflt_st, dflt_str, dflt_int, dflt_bool] at h42
            simp at h42
        · refine acode_region ?_
          refine Or.inl ?_
          refine And.intro (rfl) ?_
          refine Exists.intro _ (And.intro (hpb) ?_)
          refine acode_seq ?_
          refine acode_seq ?_
          refine acode_region ?_
          refine And.intro (fun h => trivial) ?_
          refine And.intro (fun h => ⟨⟨h, trivial⟩, trivial⟩) ?_
          refine And.intro (by first | (intro h; rw [h]; rfl) | (intro h; cases h)) ?_
          refine acode_cond rfl (fun h42 => ?_) (fun h42 => ?_)
          · try simp only [Bool.not_eq_true', Bool.or_eq_true] at h42
            try simp only [Int.toNat_natCast, dflt_sl, dflt_st, dflt_str, dflt_int, dflt_bool] at h42
            simp at h42
          · try simp only [Bool.not_eq_false', Bool.or_eq_false_iff] at h42
            try simp only [Int.toNat_natCast, dflt_sl, dflt_st, dflt_str, dflt_int, dflt_bool] at h42
            have hl := items_flds (s := a) (by omega) hra
            have hm := items_flds (s := b) (by omega) hrb
            have szl := mix_szl hra
            have szm := mix_szl hrb
            refine acode_skip ?_
            refine acode_seq ?_
            refine acode_region ?_
            refine acode_seq ?_
            refine acode_seq ?_
            refine acode_region ?_
            intro l10_1
            try simp only [Int.toNat_natCast, dflt_sl, dflt_st, dflt_str, dflt_int, dflt_bool] at l10_1
            intro l10_3
            try simp only [Int.toNat_natCast, dflt_sl, dflt_st, dflt_str, dflt_int, dflt_bool] at l10_3
            refine acode_block ?_
            refine acode_loopP (fun (i : Nat) => i ≤ 2000000) (fun (i : Nat) => [(2, ib turn), (7, .one (.sl rItm l)), (9, .one (.sl rItm m)), (11, .one (.vec 0)), (48, ii .i64 (if (l.length : Int) < (m.length : Int) then (m.length : Int) else (l.length : Int))), (49, ii .i64 i)]) (fun (i : Nat) => [(0, .vec 43 rItm (mixL turn l m i))]) 1 (fun (i : Nat) => 2000000 - i) 0 (Nat.zero_le _) (le_of ⟨rfl, rfl, rfl, rfl, rfl, rfl⟩ rfl rfl) ?_
            intro i hI0
            refine acode_seq ?_
            refine acode_region ?_
            refine acode_seq ?_
            refine acode_cond rfl (fun h50 => ?_) (fun h50 => ?_)
            · try simp only [decide_eq_true_eq] at h50
              try simp only [Int.toNat_natCast, dflt_sl, dflt_st, dflt_str, dflt_int, dflt_bool] at h50
              have hil : i < l.length ∨ i < m.length := (by split at h50 <;> omega)
              have hi2 : i < 2000000 := (by have := hl.1; have := hm.1; omega)
              have hsn := mix_snoc turn l m i
              have hle := mix_len turn l m i
              refine acode_skip ?_
              refine acode_seq ?_
              refine acode_block ?_
              refine acode_seq ?_
              refine acode_region ?_
              refine acode_seq ?_
              refine acode_seq ?_
              refine acode_region ?_
              intro l13_2
              try simp only [Int.toNat_natCast, dflt_sl, dflt_st, dflt_str, dflt_int, dflt_bool] at l13_2
              refine And.intro (fun h => trivial) ?_
              refine And.intro (fun h => trivial) ?_
              refine And.intro (fun h => ⟨⟨⟨h, trivial⟩, ⟨h, trivial⟩, trivial⟩, by first | omega | decide | (simp only [Int.toNat_natCast, dflt_sl, dflt_st, dflt_str, dflt_int, dflt_bool]; omega) | (have h9 := of_decide_eq_true h; omega) | (simp [gq] at h; omega)⟩) ?_
              refine And.intro (fun h => ⟨⟨h, trivial⟩, trivial⟩) ?_
              refine And.intro (fun h => ⟨⟨h, trivial⟩, trivial⟩) ?_
              refine And.intro (fun h => ⟨⟨h, trivial⟩, trivial⟩) ?_
              refine And.intro (by exact fun h => h) ?_
              refine acode_cond rfl (fun h63 => ?_) (fun h63 => ?_)
              · try simp only [decide_eq_true_eq, decide_eq_false_iff_not, Bool.and_eq_true, Bool.not_eq_true'] at h63
                try simp only [Int.toNat_natCast, dflt_sl, dflt_st, dflt_str, dflt_int] at h63
                have e1 : mix1 l i = [l.getD i ((0 : Int), ByteArray.empty, ([] : List Fld))] := if_pos ⟨by omega, h63.2⟩
                refine acode_region ?_
                refine And.intro (by first | omega | assumption | decide | (simp only [Int.toNat_natCast, dflt_sl, dflt_st, dflt_str, dflt_int, dflt_bool]; omega) | (simp <;> omega)) ?_
                refine And.intro (by exact app_le (show (mixL turn l m i).length + 1 ≤ 1000000000 by omega) (by decide)) ?_
                refine acode_seq ?_
                refine acode_region ?_
                intro l15_2
                try simp only [Int.toNat_natCast, dflt_sl, dflt_st, dflt_str, dflt_int, dflt_bool] at l15_2
                refine And.intro (fun h => trivial) ?_
                refine And.intro (fun h => trivial) ?_
                refine And.intro (fun h => ⟨⟨⟨h, trivial⟩, ⟨h, trivial⟩, trivial⟩, by first | omega | decide | (simp only [Int.toNat_natCast, dflt_sl, dflt_st, dflt_str, dflt_int, dflt_bool]; omega) | (have h9 := of_decide_eq_true h; omega) | (simp [gq] at h; omega)⟩) ?_
                refine And.intro (fun h => ⟨⟨h, trivial⟩, trivial⟩) ?_
                refine And.intro (fun h => ⟨⟨h, trivial⟩, trivial⟩) ?_
                refine And.intro (fun h => ⟨⟨h, trivial⟩, trivial⟩) ?_
                refine And.intro (by exact fun h => h) ?_
                refine And.intro (fun h => trivial) ?_
                refine And.intro (by exact fun h => h) ?_
                refine acode_cond rfl (fun h85 => ?_) (fun h85 => ?_)
                · try simp only [decide_eq_true_eq, decide_eq_false_iff_not, Bool.and_eq_true, Bool.not_eq_true'] at h85
                  try simp only [Int.toNat_natCast, dflt_sl, dflt_st, dflt_str, dflt_int] at h85
                  have e2 : (if turn = true then mix1 m i else []) = [m.getD i ((0 : Int), ByteArray.empty, ([] : List Fld))] := (by rw [if_pos h85.2]; exact if_pos ⟨by omega, h85.1.2⟩)
                  refine acode_region ?_
                  refine And.intro (by first | omega | assumption | decide | (simp only [Int.toNat_natCast, dflt_sl, dflt_st, dflt_str, dflt_int, dflt_bool]; omega) | (simp <;> omega)) ?_
                  refine And.intro (by exact app_le (by rw [List.length_append]; show (mixL turn l m i).length + 1 + 1 ≤ 1000000000; omega) (by decide)) ?_
                  refine acode_region ?_
                  refine And.intro (by first | omega | assumption | decide | (simp only [Int.toNat_natCast, dflt_sl, dflt_st, dflt_str, dflt_int, dflt_bool]; omega) | (simp <;> omega)) ?_
                  exact ⟨i + 1, by omega, by first | omega | (simp <;> omega), le_of ⟨rfl, rfl, rfl, rfl, rfl, (ii_eq (by omega))⟩ (vec_eq (by rw [hsn, e1, e2, List.append_assoc]; rfl)) rfl⟩
                · try simp only [decide_eq_true_eq, decide_eq_false_iff_not, Bool.not_eq_false', Bool.and_eq_false_iff, Int.not_lt] at h85
                  try simp only [Int.toNat_natCast, dflt_sl, dflt_st, dflt_str, dflt_int] at h85
                  have e2 : (if turn = true then mix1 m i else []) = [] := (by split; rename_i ht; exact if_neg (fun h => h85.elim (fun g => g.elim (fun g => by omega) (fun g => h.2 g)) (fun g => by rw [ht] at g; cases g)); rfl)
                  refine acode_skip ?_
                  refine acode_region ?_
                  refine And.intro (by first | omega | assumption | decide | (simp only [Int.toNat_natCast, dflt_sl, dflt_st, dflt_str, dflt_int, dflt_bool]; omega) | (simp <;> omega)) ?_
                  exact ⟨i + 1, by omega, by first | omega | (simp <;> omega), le_of ⟨rfl, rfl, rfl, rfl, rfl, (ii_eq (by omega))⟩ (vec_eq (by rw [hsn, e1, e2]; rfl)) rfl⟩
              · try simp only [decide_eq_true_eq, decide_eq_false_iff_not, Bool.not_eq_false', Bool.and_eq_false_iff, Int.not_lt] at h63
                try simp only [Int.toNat_natCast, dflt_sl, dflt_st, dflt_str, dflt_int] at h63
                have e1 : mix1 l i = [] := if_neg (fun h => h63.elim (fun g => by omega) (fun g => h.2 g))
                refine acode_skip ?_
                refine acode_seq ?_
                refine acode_region ?_
                intro l15_2
                try simp only [Int.toNat_natCast, dflt_sl, dflt_st, dflt_str, dflt_int, dflt_bool] at l15_2
                refine And.intro (fun h => trivial) ?_
                refine And.intro (fun h => trivial) ?_
                refine And.intro (fun h => ⟨⟨⟨h, trivial⟩, ⟨h, trivial⟩, trivial⟩, by first | omega | decide | (simp only [Int.toNat_natCast, dflt_sl, dflt_st, dflt_str, dflt_int, dflt_bool]; omega) | (have h9 := of_decide_eq_true h; omega) | (simp [gq] at h; omega)⟩) ?_
                refine And.intro (fun h => ⟨⟨h, trivial⟩, trivial⟩) ?_
                refine And.intro (fun h => ⟨⟨h, trivial⟩, trivial⟩) ?_
                refine And.intro (fun h => ⟨⟨h, trivial⟩, trivial⟩) ?_
                refine And.intro (by exact fun h => h) ?_
                refine And.intro (fun h => trivial) ?_
                refine And.intro (by exact fun h => h) ?_
                refine acode_cond rfl (fun h85 => ?_) (fun h85 => ?_)
                · try simp only [decide_eq_true_eq, decide_eq_false_iff_not, Bool.and_eq_true, Bool.not_eq_true'] at h85
                  try simp only [Int.toNat_natCast, dflt_sl, dflt_st, dflt_str, dflt_int] at h85
                  have e2 : (if turn = true then mix1 m i else []) = [m.getD i ((0 : Int), ByteArray.empty, ([] : List Fld))] := (by rw [if_pos h85.2]; exact if_pos ⟨by omega, h85.1.2⟩)
                  refine acode_region ?_
                  refine And.intro (by first | omega | assumption | decide | (simp only [Int.toNat_natCast, dflt_sl, dflt_st, dflt_str, dflt_int, dflt_bool]; omega) | (simp <;> omega)) ?_
                  refine And.intro (by exact app_le (show (mixL turn l m i).length + 1 ≤ 1000000000 by omega) (by decide)) ?_
                  refine acode_region ?_
                  refine And.intro (by first | omega | assumption | decide | (simp only [Int.toNat_natCast, dflt_sl, dflt_st, dflt_str, dflt_int, dflt_bool]; omega) | (simp <;> omega)) ?_
                  exact ⟨i + 1, by omega, by first | omega | (simp <;> omega), le_of ⟨rfl, rfl, rfl, rfl, rfl, (ii_eq (by omega))⟩ (vec_eq (by rw [hsn, e1, e2]; rfl)) rfl⟩
                · try simp only [decide_eq_true_eq, decide_eq_false_iff_not, Bool.not_eq_false', Bool.and_eq_false_iff, Int.not_lt] at h85
                  try simp only [Int.toNat_natCast, dflt_sl, dflt_st, dflt_str, dflt_int] at h85
                  have e2 : (if turn = true then mix1 m i else []) = [] := (by split; rename_i ht; exact if_neg (fun h => h85.elim (fun g => g.elim (fun g => by omega) (fun g => h.2 g)) (fun g => by rw [ht] at g; cases g)); rfl)
                  refine acode_skip ?_
                  refine acode_region ?_
                  refine And.intro (by first | omega | assumption | decide | (simp only [Int.toNat_natCast, dflt_sl, dflt_st, dflt_str, dflt_int, dflt_bool]; omega) | (simp <;> omega)) ?_
                  exact ⟨i + 1, by omega, by first | omega | (simp <;> omega), le_of ⟨rfl, rfl, rfl, rfl, rfl, (ii_eq (by omega))⟩ (vec_eq (by rw [hsn, e1, e2]; simp)) rfl⟩
            · try simp only [decide_eq_false_iff_not, Int.not_lt] at h50
              try simp only [Int.toNat_natCast, dflt_sl, dflt_st, dflt_str, dflt_int, dflt_bool] at h50
              refine acode_exit ?_
              obtain ⟨all, hall⟩ : ∃ all, mixL turn l m i = all := ⟨_, rfl⟩
              have hmb : ∀ x ∈ all, x.1 ≠ 1 ∧ Blk x := (fun x hx => by rw [← hall] at hx; obtain ⟨h1, h2⟩ := mix_mem hx; exact ⟨h2, h1.elim (fun h => parse_blks hra x h h2) (fun h => parse_blks hrb x h h2)⟩)
              have hmz : szI all ≤ 6000 := (by rw [← hall]; have h1 := mix_sz turn l m i; have h2 := sz_take l i; have h3 := sz_take m i; omega)
              have hmf : ∀ x ∈ all, x.2.2.length ≤ 1000000 := (fun x hx => by rw [← hall] at hx; obtain ⟨h1, h2⟩ := mix_mem hx; exact h1.elim (fun h => hl.2 x h) (fun h => hm.2 x h))
              rw [hall]
              refine acode_seq ?_
              refine acode_seq ?_
              refine acode_frz [0] ?_
              refine acode_region ?_
              intro l18_1
              try simp only [Int.toNat_natCast, dflt_sl, dflt_st, dflt_str, dflt_int, dflt_bool] at l18_1
              refine acode_cond rfl (fun h96 => ?_) (fun h96 => ?_)
              · try simp only [decide_eq_true_eq] at h96
                try simp only [Int.toNat_natCast, dflt_sl, dflt_st, dflt_str, dflt_int, dflt_bool] at h96
                refine acode_seq ?_
                refine acode_region ?_
                refine acode_ret ?_
                first | rfl | exact ib_eq (by rw [List.take_of_length_le (by omega), cnt_all hfil]; simp)
              · try simp only [decide_eq_false_iff_not, Int.not_lt] at h96
                try simp only [Int.toNat_natCast, dflt_sl, dflt_st, dflt_str, dflt_int, dflt_bool] at h96
                have h4 : all.length ≤ 400 := (by omega)
                have hap := apart_c all (by omega) hmf
                have hal := apartK_len all 1
                have hsz := apart_len all 1
                have hren := render_c all (apartL all) (Nat.le_trans hal (by omega)) (Nat.le_trans hsz (by omega)) hap
                have hpr := mix_parse hmb h4
                have hps := parse_a (bytes (rawsL (apartL all))) (by rw [bytes_size, raws_sz]; exact Nat.le_trans hsz (by omega))
                rw [hpr] at hps
                have hfil : (apartL all).filter (fun x => !decide (x.1 = 1)) = all := apart_filter all 1 (fun x hx => (hmb x hx).1)
                obtain ⟨got, hgot⟩ : ∃ got, apartL all = got := ⟨_, rfl⟩
                rw [hgot] at hren hps hfil
                refine acode_skip ?_
                refine acode_seq ?_
                refine acode_region ?_
                refine Or.inl ?_
                refine And.intro (rfl) ?_
                refine Exists.intro _ (And.intro (hren) ?_)
                refine Or.inl ?_
                refine And.intro (rfl) ?_
                refine Exists.intro _ (And.intro (hps) ?_)
                refine acode_seq ?_
                refine acode_seq ?_
                refine acode_region ?_
                refine acode_cond rfl (fun h104 => ?_) (fun h104 => ?_)
                · try simp only [Bool.not_eq_true'] at h104
                  try simp only [Int.toNat_natCast, dflt_sl, dflt_st, dflt_str, dflt_int, dflt_bool] at h104
                  cases h104
                · try simp only [Bool.not_eq_false'] at h104
                  try simp only [Int.toNat_natCast, dflt_sl, dflt_st, dflt_str, dflt_int, dflt_bool] at h104
                  refine acode_skip ?_
                  refine acode_seq ?_
                  refine acode_region ?_
                  refine acode_seq ?_
                  refine acode_seq ?_
                  refine acode_region ?_
                  intro l24_1
                  try simp only [Int.toNat_natCast, dflt_sl, dflt_st, dflt_str, dflt_int, dflt_bool] at l24_1
                  refine acode_block ?_
                  refine acode_loopP (fun (j : Nat) => j ≤ got.length) (fun (j : Nat) => [(11, .one (.sl rItm all)), (14, ii .i64 (cntN (got.take j))), (105, .one (.sl rItm got)), (106, ii .i64 got.length), (107, ii .i64 j)]) (fun (j : Nat) => []) 0 (fun (j : Nat) => got.length - j) 0 (Nat.zero_le _) (le_of ⟨rfl, rfl, rfl, rfl, rfl⟩ trivial rfl) ?_
                  intro j hI2
                  refine acode_seq ?_
                  refine acode_region ?_
                  refine acode_seq ?_
                  refine acode_cond rfl (fun h108 => ?_) (fun h108 => ?_)
                  · try simp only [decide_eq_true_eq] at h108
                    try simp only [Int.toNat_natCast, dflt_sl, dflt_st, dflt_str, dflt_int, dflt_bool] at h108
                    have hjl : j < got.length := (by omega)
                    have hsn := cnt_snoc hjl
                    refine acode_skip ?_
                    refine acode_seq ?_
                    refine acode_block ?_
                    refine acode_seq ?_
                    refine acode_region ?_
                    refine And.intro (by first | omega | assumption | decide | (simp only [Int.toNat_natCast, dflt_sl, dflt_st, dflt_str, dflt_int, dflt_bool]; omega) | (simp <;> omega)) ?_
                    refine acode_seq ?_
                    refine acode_seq ?_
                    refine acode_region ?_
                    refine acode_cond rfl (fun h113 => ?_) (fun h113 => ?_)
                    · try simp only [decide_eq_true_eq] at h113
                      try simp only [Int.toNat_natCast, dflt_sl, dflt_st, dflt_str, dflt_int] at h113
                      rw [if_pos h113] at hsn
                      refine acode_exit ?_
                      refine acode_region ?_
                      refine And.intro (by first | omega | assumption | decide | (simp only [Int.toNat_natCast, dflt_sl, dflt_st, dflt_str, dflt_int, dflt_bool]; omega) | (simp <;> omega)) ?_
                      exact ⟨j + 1, by omega, by first | omega | (simp <;> omega), le_of ⟨rfl, (ii_eq (by omega)), rfl, rfl, (ii_eq (by omega))⟩ trivial rfl⟩
                    · try simp only [decide_eq_false_iff_not] at h113
                      try simp only [Int.toNat_natCast, dflt_sl, dflt_st, dflt_str, dflt_int] at h113
                      rw [if_neg h113] at hsn
                      obtain ⟨hf1, hf2⟩ := one_at hfil hjl h113
                      refine acode_skip ?_
                      refine acode_seq ?_
                      refine acode_seq ?_
                      refine acode_draw rfl (by kernel_rfl) ?_
                      refine And.intro (fun h => trivial) ?_
                      refine And.intro (fun h => ⟨⟨h, trivial⟩, trivial⟩) ?_
                      refine And.intro (fun h => trivial) ?_
                      refine And.intro (fun h => trivial) ?_
                      refine And.intro (fun h => trivial) ?_
                      refine And.intro (fun h => ⟨⟨⟨h, trivial⟩, trivial⟩, by first | omega | decide | (simp only [Int.toNat_natCast, dflt_sl, dflt_st, dflt_str, dflt_int, dflt_bool]; omega) | (have h9 := of_decide_eq_true h; omega) | (simp [gq] at h; omega)⟩) ?_
                      refine And.intro (fun h => ⟨⟨⟨h, trivial⟩, ⟨h, trivial⟩, ⟨h, trivial⟩, trivial⟩, by first | omega | decide | (simp only [Int.toNat_natCast, dflt_sl, dflt_st, dflt_str, dflt_int, dflt_bool]; omega) | (have h9 := of_decide_eq_true h; omega) | (simp [gq] at h; omega)⟩) ?_
                      refine And.intro (rfl) ?_
                      refine Exists.intro _ (And.intro (fun h => ⟨⟨⟨h, trivial⟩, ⟨h, trivial⟩, trivial⟩, itemsF_c [got.getD j ((0 : Int), ByteArray.empty, ([] : List Fld))] _⟩) ?_)
                      refine And.intro (fun h => ⟨⟨h, trivial⟩, trivial⟩) ?_
                      refine And.intro (by first | (intro h; rw [h]; rfl) | (intro h; cases h)) ?_
                      refine acode_cond rfl (fun h128 => ?_) (fun h128 => ?_)
                      · try simp only [decide_eq_true_eq, decide_eq_false_iff_not, Bool.not_eq_true', Bool.or_eq_true] at h128
                        try simp only [Int.toNat_natCast] at h128
                        exact h128.elim (fun g => by omega) (fun g => absurd hf2 g)
                      · try simp only [decide_eq_true_eq, decide_eq_false_iff_not, Bool.not_eq_false', Bool.or_eq_false_iff, Int.not_le] at h128
                        try simp only [Int.toNat_natCast] at h128
                        refine acode_skip ?_
                        refine acode_region ?_
                        refine And.intro (by first | omega | assumption | decide | (simp only [Int.toNat_natCast, dflt_sl, dflt_st, dflt_str, dflt_int, dflt_bool]; omega) | (simp <;> omega)) ?_
                        refine acode_region ?_
                        refine And.intro (by first | omega | assumption | decide | (simp only [Int.toNat_natCast, dflt_sl, dflt_st, dflt_str, dflt_int, dflt_bool]; omega) | (simp <;> omega)) ?_
                        exact ⟨j + 1, by omega, by first | omega | (simp <;> omega), le_of ⟨rfl, (ii_eq (by omega)), rfl, rfl, (ii_eq (by omega))⟩ trivial rfl⟩
                  · try simp only [decide_eq_false_iff_not, Int.not_lt] at h108
                    try simp only [Int.toNat_natCast, dflt_sl, dflt_st, dflt_str, dflt_int, dflt_bool] at h108
                    refine acode_exit ?_
                    refine acode_seq ?_
                    refine acode_region ?_
                    intro l32_2
                    try simp only [Int.toNat_natCast, dflt_sl, dflt_st, dflt_str, dflt_int, dflt_bool] at l32_2
                    refine acode_ret ?_
                    first | rfl | exact ib_eq (by rw [List.take_of_length_le (by omega), cnt_all hfil]; simp)
end Q
end Ab
end Go.Proofs.YtlhjcdihbbdfnaaDoor
namespace Go.Proofs.YtlhjcdihbbdfnaaDoor
open Go.RowKit
namespace Ab
set_option maxRecDepth 100000
theorem o_str : Opens Tryd.prog 9 .str := opens_str Tryd.underlying9 (by kernel_rfl)
theorem o_int : Opens Tryd.prog 3 (.int .i64) := opens_int Tryd.underlying3 (by kernel_rfl)
theorem o_bool : Opens Tryd.prog 4 .bool := opens_bool Tryd.underlying4 (by kernel_rfl)
theorem o_field : Opens Tryd.prog 68 (.st .str .str) := opens_st Tryd.underlying68 (by kernel_rfl) (.cons rfl o_str (.one rfl o_str))
theorem o_fields : Opens Tryd.prog 29 (.sl (.st .str .str)) := opens_sl (by decide) Tryd.underlying29 (by kernel_rfl) o_field
theorem open_fields {H : Type} {enc : TypeId × Value → H} {W : World} {base : Nat} {v : Value} {d : DataW H} {p : List MemPlace} (hv : Value.okWide Tryd.prog W .any base 29 v) (h : DataW.Trod enc Tryd.prog W 0 (fun _ => true) true 29 v d p) :
    ∃ xs, (C.sl (.st .str .str) xs).rep AllOk noNames W v := open_sl Tryd.underlying29 o_fields hv h
/-- The library's variable holds some number. -/
theorem globAt {W : World} (h : W.ShapedOpen Tryd.prog) : GlobAt AllOk W := by
  have hc : GlobCell W := cell_of_shapedOpen_int (g := 0) (t := 3) (zero := #[.int .i64 0]) h (of_decide_eq_true (by kernel_rfl)) (by kernel_rfl) rfl (by kernel_rfl) (by kernel_rfl) Tryd.underlying3
  refine ⟨trivial, ?_, hc⟩
  obtain ⟨m, hm⟩ := hc
  rcases Nat.lt_or_ge 0 W.heap.size with h1 | h1
  · exact h1
  · exfalso
    simp only [World.cell?, Array.getElem?_eq_none h1] at hm
    cases hm
end Ab
end Go.Proofs.YtlhjcdihbbdfnaaDoor
namespace Go.Proofs.YtlhjcdihbbdfnaaDoor
open Go.RowKit
namespace Ab
set_option maxRecDepth 100000
theorem open_agg {P : Program} {α : Type} {R : Rd α} {t : TypeId} {fs : Array Field} (hu : P.underlying t = some (.struct fs)) (ho : Opens P t R) {H : Type} {enc : TypeId × Value → H} {W : World} {base : Nat} {v : Value} {d : DataW H} {p : List MemPlace} (hv : Value.okWide P W .any base t v)
    (h : DataW.Trod enc P W 0 (fun _ => true) true t v d p) : ∃ x : α, (A.agg (toL R x)).rep AllOk noNames W v := by
  obtain ⟨cs, rfl, _⟩ := Go.WideShapes.okWide_struct hu hv
  obtain ⟨fuel, hf⟩ := h
  obtain ⟨x, hx⟩ := ho.2 enc W _ _ _ _ _ _ hf
  exact ⟨x, cs.toList, by simp, toL_rep R hx⟩
theorem open_field {H : Type} {enc : TypeId × Value → H} {W : World} {base : Nat} {v : Value} {d : DataW H} {p : List MemPlace} (hv : Value.okWide Tryd.prog W .any base 68 v) (h : DataW.Trod enc Tryd.prog W 0 (fun _ => true) true 68 v d p) :
    ∃ x, (A.agg (toL (.st .str .str) x)).rep AllOk noNames W v := open_agg Tryd.underlying68 o_field hv h
theorem o_strs : Opens Tryd.prog 69 (.sl .str) := opens_sl (by decide) Tryd.underlying69 (by kernel_rfl) o_str
theorem open_strs {H : Type} {enc : TypeId × Value → H} {W : World} {base : Nat} {v : Value} {d : DataW H} {p : List MemPlace} (hv : Value.okWide Tryd.prog W .any base 69 v) (h : DataW.Trod enc Tryd.prog W 0 (fun _ => true) true 69 v d p) :
    ∃ xs, (C.sl .str xs).rep AllOk noNames W v := open_sl Tryd.underlying69 o_strs hv h
theorem o_rows : Opens Tryd.prog 22 (.sl (.sl (.st .str .str))) := opens_sl (by decide) Tryd.underlying22 (by kernel_rfl) o_fields
theorem open_rows {H : Type} {enc : TypeId × Value → H} {W : World} {base : Nat} {v : Value} {d : DataW H} {p : List MemPlace} (hv : Value.okWide Tryd.prog W .any base 22 v) (h : DataW.Trod enc Tryd.prog W 0 (fun _ => true) true 22 v d p) :
    ∃ xs, (C.sl (.sl (.st .str .str)) xs).rep AllOk noNames W v := open_sl Tryd.underlying22 o_rows hv h
theorem o_item : Opens Tryd.prog 43 (.st (.int .i64) (.st .str (.sl (.st .str .str)))) := opens_st Tryd.underlying43 (by kernel_rfl) (.cons rfl o_int (.cons rfl o_str (.one rfl o_fields)))
theorem o_items : Opens Tryd.prog 34 (.sl (.st (.int .i64) (.st .str (.sl (.st .str .str))))) := opens_sl (by decide) Tryd.underlying34 (by kernel_rfl) o_item
theorem open_items {H : Type} {enc : TypeId × Value → H} {W : World} {base : Nat} {v : Value} {d : DataW H} {p : List MemPlace} (hv : Value.okWide Tryd.prog W .any base 34 v) (h : DataW.Trod enc Tryd.prog W 0 (fun _ => true) true 34 v d p) :
    ∃ xs, (C.sl (.st (.int .i64) (.st .str (.sl (.st .str .str)))) xs).rep AllOk noNames W v := open_sl Tryd.underlying34 o_items hv h
end Ab
end Go.Proofs.YtlhjcdihbbdfnaaDoor
