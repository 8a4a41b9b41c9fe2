/-
  The texts of this proof, joined: abstract values, the library, the functions of the program and what they compute (part 6). No condition.
-/
import Derived.Test.YtklhlkhlndhepaaDoorRows
import Derived.WalkKit
import Derived.LoopTactic
import Derived.Lib.Hide
import Derived.Deep.QuietTactic
import Derived.BigQuiet
import Derived.WalkSmall
import Derived.WalkSpells
import Derived.WalkLawsBesides
import Derived.Laws.StructEq
import Derived.Deep.OwnRows
import Derived.Deep.AppendLies
import Derived.Deep.RegionLaw
import Derived.Deep.RegionHeld3
import Derived.Deep.DeepCutAuto
import Derived.Deep.Upon
import Derived.Shelf.Vars
import Derived.KernelRfl
import Derived.Test.YtklhlkhlndhepaaDoorK1
import Derived.Test.YtklhlkhlndhepaaDoorK2
import Derived.Test.YtklhlkhlndhepaaDoorK3
import Derived.Test.YtklhlkhlndhepaaDoorK4
import Derived.Test.YtklhlkhlndhepaaDoorK5
namespace Go.Proofs.YtklhlkhlndhepaaDoor
open Go.RowKit
namespace Ab
set_option maxRecDepth 100000
namespace Q
theorem linesR_no : ∀ (f : Nat) (tot no : Int) (s : List UInt8) (i : Nat), i < (linesR f tot no s).length → ((linesR f tot no s).getD i ((0 : Int), (0 : Int), ByteArray.empty, false)).1 = no + i
  | 0, _, _, _, i, h => by simp [linesR] at h
  | f + 1, _, _, [], i, h => by simp [linesR] at h
  | f + 1, tot, no, a :: r, i, h => by
    rw [linesR_cons] at h ⊢
    cases i with
    | zero => simp
    | succ i =>
      have := linesR_no f tot (no + 1) (Lib.cut (a :: r) [10]).2.1 i (by simpa using h)
      rw [List.getD_cons_succ, this]
      omega
def bhI (k : List Int) (i : Nat) : Bool := decide (0 < i) && (decide (k.getD (i - 1) 0 = 4) || decide (k.getD (i - 1) 0 = 3))
/-- What the document's answer holds ahead of a line. -/
structure RI (L : List Lne) (k : List Int) (i : Nat) (t : RSt) : Prop where
  il : i ≤ L.length
  eq : runR false rst0 L = runR (bhI k i) t (L.drop i)
  r0 : 0 ≤ t.recs
  ri : t.recs ≤ i
  oi : t.out.length ≤ 2 * i
  fi : t.flds.length ≤ i
  rw_ : t.raw.size ≤ ((L.take i).map (fun l => l.2.2.1.size + 1)).sum
  rd : t.raw = ByteArray.empty ↔ t.raw.size = 0
theorem ri_0 (L : List Lne) (k : List Int) : RI L k 0 rst0 := ⟨Nat.zero_le _, rfl, Int.le_refl _, Int.le_refl _, Nat.le_refl _, Nat.le_refl _, Nat.zero_le _, ⟨fun _ => rfl, fun _ => rfl⟩⟩
theorem size0 (s : ByteArray) : s = ByteArray.empty ↔ s.size = 0 := by
  refine ⟨fun h => by rw [h]; rfl, fun h => ?_⟩
  rw [size_list] at h
  have := List.eq_nil_of_length_eq_zero h
  rw [← bytes_ls s, show ls s = [] from this]; rfl
theorem sum_succ (L : List Lne) (i : Nat) (h : i < L.length) : ((L.take (i + 1)).map (fun l => l.2.2.1.size + 1)).sum = ((L.take i).map (fun l => l.2.2.1.size + 1)).sum + ((L.getD i ((0 : Int), (0 : Int), ByteArray.empty, false)).2.2.1.size + 1) := by
  rw [List.take_succ_eq_append_getElem h, List.map_append, List.sum_append, ← getD_get h ((0 : Int), (0 : Int), ByteArray.empty, false)]
  simp
theorem ri_eq {L : List Lne} {k : List Int} {i : Nat} {t : RSt} (h : RI L k i t) (hi : i < L.length) : runR false rst0 L = if wrongL (bhI k i) (L.getD i ((0 : Int), (0 : Int), ByteArray.empty, false)) (L.drop (i + 1)) t.flds.length t.recs ≠ 0 then .inl ((L.getD i ((0 : Int), (0 : Int), ByteArray.empty, false)).1, wrongL (bhI k i) (L.getD i ((0 : Int), (0 : Int), ByteArray.empty, false)) (L.drop (i + 1)) t.flds.length t.recs) else runR (decide (kindL (ls (L.getD i ((0 : Int), (0 : Int), ByteArray.empty, false)).2.2.1) = 4) || decide (kindL (ls (L.getD i ((0 : Int), (0 : Int), ByteArray.empty, false)).2.2.1) = 3)) (stepR t (L.getD i ((0 : Int), (0 : Int), ByteArray.empty, false)) (L.drop (i + 1))) (L.drop (i + 1)) := by
  rw [h.eq, List.drop_eq_getElem_cons hi, getD_get hi ((0 : Int), (0 : Int), ByteArray.empty, false)]
  rfl
theorem bh_next {L : List Lne} {k : List Int} (hk : k = L.map (fun l => kindL (ls l.2.2.1))) {i : Nat} (hi : i < L.length) : bhI k (i + 1) = (decide (kindL (ls (L.getD i ((0 : Int), (0 : Int), ByteArray.empty, false)).2.2.1) = 4) || decide (kindL (ls (L.getD i ((0 : Int), (0 : Int), ByteArray.empty, false)).2.2.1) = 3)) := by
  unfold bhI
  rw [Nat.add_sub_cancel, kind_at hk hi]
  simp
theorem ri_next {L : List Lne} {k : List Int} (hk : k = L.map (fun l => kindL (ls l.2.2.1))) {i : Nat} {t : RSt} (h : RI L k i t) (hi : i < L.length) (hw : wrongL (bhI k i) (L.getD i ((0 : Int), (0 : Int), ByteArray.empty, false)) (L.drop (i + 1)) t.flds.length t.recs = 0) : RI L k (i + 1) (stepR t (L.getD i ((0 : Int), (0 : Int), ByteArray.empty, false)) (L.drop (i + 1))) := by
  have e := ri_eq h hi
  rw [if_neg (by rw [hw]; simp), ← bh_next hk hi] at e
  have h1 := h.r0
  have h2 := h.ri
  have h3 := h.oi
  have h4 := h.fi
  have h5 := h.rw_
  have h6 := sum_succ L i hi
  refine ⟨hi, e, ?_, ?_, ?_, ?_, ?_, size0 _⟩
  · unfold stepR
    split
    · exact h1
    · split
      · simp only; split <;> omega
      · exact h1
  · unfold stepR
    split
    · simp only; omega
    · split
      · simp only; split <;> omega
      · simp only; omega
  · unfold stepR
    split
    · simp only; split <;> simp <;> omega
    · split
      · simp only; omega
      · simp only; omega
  · unfold stepR
    split
    · simp
    · split
      · simp; omega
      · simp only; omega
  · rw [h6]
    have h10 : ByteArray.size ⟨#[10]⟩ = 1 := rfl
    unfold stepR
    split
    · simp
    · split
      · simp only [ByteArray.size_append]; omega
      · simp only [ByteArray.size_append]; omega
theorem said_ok {s : ByteArray} (hs : s.size ≤ 60000) {i : Nat} (hi : i < (linesT s).length) : LinesOk (saidL ((linesT s).getD i ((0 : Int), (0 : Int), ByteArray.empty, false)) ((linesT s).drop (i + 1))) := by
  obtain ⟨h1, h2⟩ := linesT_len s
  have h3 : ((((linesT s).drop (i + 1)).takeWhile more).map (·.2.2.1.size)).sum ≤ ((linesT s).map (·.2.2.1.size)).sum := by
    have e1 : (linesT s) = (linesT s).take (i + 1) ++ ((linesT s).drop (i + 1)) := (List.take_append_drop _ _).symm
    have e2 : (linesT s).drop (i + 1) = ((linesT s).drop (i + 1)).takeWhile more ++ ((linesT s).drop (i + 1)).dropWhile more := List.takeWhile_append_dropWhile.symm
    conv => rhs; rw [e1, e2]
    simp only [List.map_append, List.sum_append]
    omega
  have h4 : (((linesT s).drop (i + 1)).takeWhile more).length ≤ (linesT s).length := by
    have := (List.takeWhile_sublist more (l := (linesT s).drop (i + 1))).length_le
    rw [List.length_drop] at this
    omega
  have h5 := linesT_sz hi
  rw [getD_get hi ((0 : Int), (0 : Int), ByteArray.empty, false)] at h5
  unfold saidL
  refine ⟨by simp only [List.length_cons, List.length_map]; omega, ?_⟩
  simp only [List.map_cons, List.sum_cons, List.map_map]
  have : ((((linesT s).drop (i + 1)).takeWhile more).map ((fun x : ByteArray => x.size) ∘ fun x : Lne => x.2.2.1)).sum = ((((linesT s).drop (i + 1)).takeWhile more).map (·.2.2.1.size)).sum := rfl
  omega
def resR : (Int × Int) ⊕ List Itm → A
  | .inl e => .tup [(false, [.sl rItm []]), (false, [.lit (.int .i64 e.1)]), (false, [.lit (.int .i64 e.2)])]
  | .inr l => .tup [(false, [.sl rItm l]), (false, [.lit (.int .i64 (-9))]), (false, [.lit (.int .i64 0)])]
theorem sum_total (s : ByteArray) (i : Nat) : (((linesT s).take i).map (fun l => l.2.2.1.size + 1)).sum ≤ 2 * s.size := by
  obtain ⟨h1, h2⟩ := linesT_len s
  have e : ∀ L : List Lne, (L.map (fun l => l.2.2.1.size + 1)).sum = (L.map (·.2.2.1.size)).sum + L.length := by
    intro L
    induction L with
    | nil => rfl
    | cons a r ih => simp only [List.map_cons, List.sum_cons, List.length_cons, ih]; omega
  have h3 : (((linesT s).take i).map (fun l => l.2.2.1.size + 1)).sum ≤ ((linesT s).map (fun l => l.2.2.1.size + 1)).sum := by
    conv => rhs; rw [← List.take_append_drop i (linesT s)]
    rw [List.map_append, List.sum_append]
    omega
  rw [e (linesT s)] at h3
  omega
end Q
end Ab
end Go.Proofs.YtklhlkhlndhepaaDoor
namespace Go.Proofs.YtklhlkhlndhepaaDoor
open Go.RowKit
namespace Ab
set_option maxRecDepth 100000
namespace Q
abbrev rRow : Rd (List Fld) := .sl rFld
def recsL (l : List Itm) : List (List Fld) := (l.filter fun x => decide (x.1 = 3)).map (·.2.2)
theorem recs_snoc (l : List Itm) (i : Nat) (h : i < l.length) : recsL (l.take (i + 1)) = if (l.getD i ((0 : Int), ByteArray.empty, ([] : List Fld))).1 = 3 then recsL (l.take i) ++ [(l.getD i ((0 : Int), ByteArray.empty, ([] : List Fld))).2.2] else recsL (l.take i) := by
  unfold recsL
  rw [List.take_succ_eq_append_getElem h, List.filter_append, List.map_append, getD_get h ((0 : Int), ByteArray.empty, ([] : List Fld))]
  by_cases h3 : (l.getD i ((0 : Int), ByteArray.empty, ([] : List Fld))).1 = 3
  · rw [if_pos h3, List.filter_cons_of_pos (by simpa using h3)]; rfl
  · rw [if_neg h3, List.filter_cons_of_neg (by simpa using h3)]; simp
theorem recs_le (l : List Itm) (i : Nat) : (recsL (l.take i)).length ≤ l.length := by
  unfold recsL
  rw [List.length_map]
  refine Nat.le_trans (List.length_filter_le _ _) ?_
  rw [List.length_take]
  omega
theorem stanzas_c (l : List Itm) (hl : l.length ≤ 1000000) (hf : ∀ x ∈ l, x.2.2.length ≤ 1000000) : ACall Tryd.prog 19 [.one (.sl rItm l)] (.one (.sl rRow (recsL l))) := by
  refine acall_of (rs := [2]) Tryd.func19 rfl rfl rfl teOk rfl ?_
  refine acode_seq ?_
  refine acode_region ?_
  refine acode_seq ?_
  refine acode_region ?_
  refine acode_seq ?_
  refine acode_seq ?_
  refine acode_nilvec 3 24 rRow rfl ?_
  refine acode_region ?_
  intro l2_1
  try simp only [Int.toNat_natCast, dflt_sl, dflt_st, dflt_str, dflt_int, dflt_bool] at l2_1
  refine acode_block ?_
  refine acode_loopP (fun (i : Nat) => i ≤ l.length) (fun (i : Nat) => [(3, .one (.vec 0)), (6, .one (.sl rItm l)), (7, ii .i64 l.length), (8, ii .i64 i)]) (fun (i : Nat) => [(0, .vec 24 rRow (recsL (l.take i)))]) 1 (fun (i : Nat) => l.length - i) 0 (Nat.zero_le _) (le_of ⟨rfl, rfl, rfl, rfl⟩ rfl rfl) ?_
  intro i hI0
  refine acode_seq ?_
  refine acode_region ?_
  refine acode_seq ?_
  refine acode_cond rfl (fun h9 => ?_) (fun h9 => ?_)
  · try simp only [decide_eq_true_eq] at h9
    try simp only [Int.toNat_natCast, dflt_sl, dflt_st, dflt_str, dflt_int, dflt_bool] at h9
    have hil : i < l.length := (by omega)
    have hrs := recs_snoc l i hil
    have hrl := recs_le l i
    have hfl := hf _ (getD_mem hil ((0 : Int), ByteArray.empty, ([] : List Fld)))
    refine acode_skip ?_
    refine acode_seq ?_
    refine acode_block ?_
    refine acode_seq ?_
    refine acode_region ?_
    refine And.intro (by first | omega | assumption | decide | (simp only [Int.toNat_natCast, dflt_sl, dflt_st, dflt_str, dflt_int, dflt_bool]; omega) | (simp <;> omega)) ?_
    refine acode_seq ?_
    refine acode_region ?_
    refine acode_cond rfl (fun h14 => ?_) (fun h14 => ?_)
    · try simp only [decide_eq_true_eq] at h14
      try simp only [Int.toNat_natCast, dflt_sl, dflt_st, dflt_str, dflt_int] at h14
      rw [if_pos h14] at hrs
      refine acode_region ?_
      refine And.intro (by first | exact app_le (show (l.getD i ((0 : Int), ByteArray.empty, ([] : List Fld))).2.2.length ≤ 1000000000 by omega) (by decide) | exact app_le (show 0 + (l.getD i ((0 : Int), ByteArray.empty, ([] : List Fld))).2.2.length ≤ 1000000000 by omega) (by decide)) ?_
      refine And.intro (by first | exact app_le (by first | omega | (simp only [List.length_cons, List.length_nil]; omega) | (simp; omega)) (by decide) | omega | assumption | decide | (simp only [Int.toNat_natCast, dflt_sl, dflt_st, dflt_str, dflt_int, dflt_bool]; omega) | (simp <;> omega)) ?_
      refine acode_region ?_
      refine And.intro (by first | omega | assumption | decide | (simp only [Int.toNat_natCast, dflt_sl, dflt_st, dflt_str, dflt_int, dflt_bool]; omega) | (simp <;> omega)) ?_
      exact ⟨i + 1, by omega, by first | omega | (simp <;> omega), le_of ⟨rfl, rfl, rfl, (ii_eq (by omega))⟩ (vec_eq (by rw [hrs]; try rfl)) rfl⟩
    · try simp only [decide_eq_false_iff_not] at h14
      try simp only [Int.toNat_natCast, dflt_sl, dflt_st, dflt_str, dflt_int] at h14
      rw [if_neg h14] at hrs
      refine acode_skip ?_
      refine acode_region ?_
      refine And.intro (by first | omega | assumption | decide | (simp only [Int.toNat_natCast, dflt_sl, dflt_st, dflt_str, dflt_int, dflt_bool]; omega) | (simp <;> omega)) ?_
      exact ⟨i + 1, by omega, by first | omega | (simp <;> omega), le_of ⟨rfl, rfl, rfl, (ii_eq (by omega))⟩ (vec_eq (by rw [hrs]; try rfl)) rfl⟩
  · try simp only [decide_eq_false_iff_not, Int.not_lt] at h9
    try simp only [Int.toNat_natCast, dflt_sl, dflt_st, dflt_str, dflt_int, dflt_bool] at h9
    refine acode_exit ?_
    refine acode_seq ?_
    refine acode_region ?_
    refine acode_ret ?_
    rw [List.take_of_length_le (by omega)]
    rfl
def contP (p : PSt) : List UInt8 := rawsL p.its ++ endL (p.blk.map ls)
theorem raws_app (a b : List Itm) : rawsL (a ++ b) = rawsL a ++ rawsL b := by simp [rawsL]
theorem endL_app (a b : List (List UInt8)) : endL (a ++ b) = endL a ++ endL b := by simp [endL]
theorem close_cont (p : PSt) : contP (closeS p) = contP p := by
  unfold closeS
  split
  · rename_i h
    unfold contP
    simp [h]
  · rename_i h
    unfold contP
    simp only [raws_app]
    rw [rawB_C h]
    have : rawsL [((if p.flds = [] then 2 else 3 : Int), rawC p.blk, p.flds)] = endL (p.blk.map ls) := by
      unfold rawsL rawC
      simp only [List.flatMap_cons, List.flatMap_nil, List.append_nil]
      exact bytes_list _
    rw [this]
    simp [endL]
theorem flush_cont {p q : PSt} (h : flushS p = .inr q) : contP q = contP p := by
  obtain ⟨h1, h2⟩ := flush_same h
  unfold contP
  rw [h1, h2]
theorem end_cont {p q : PSt} (h : endS p = .inr q) : contP q = contP p := by
  unfold endS at h
  cases e : flushS p with
  | inl x => rw [e] at h; cases h
  | inr r =>
    rw [e] at h
    cases h
    rw [close_cont, flush_cont e]
theorem ahead_cont {p q : PSt} {l : Lne} {k : Int} (h : aheadS p l k = .inr q) : contP q = contP p := by
  unfold aheadS at h
  split at h
  · split at h
    · cases h
    · split at h
      · cases h; rfl
      · rw [flush_cont h]; rfl
  · split at h
    · exact end_cont h
    · exact flush_cont h
theorem take_cont {p q : PSt} {l : Lne} (h : takeS p l = .inr q) : contP q = contP p ++ (ls l.2.2.1 ++ [10]) := by
  have hi := fun hk => (ahead_took (p := p) (l := l) (k := kindL (ls l.2.2.1)) (q := q) hk)
  unfold takeS at h
  cases e : aheadS p l (kindL (ls l.2.2.1)) with
  | inl x => rw [e] at h; cases h
  | inr r =>
    rw [e] at h
    have hc := ahead_cont e
    obtain ⟨_, _, h4⟩ := ahead_took e
    simp only at h
    unfold lineS at h
    split at h
    · cases h
    · split at h
      · rename_i g1
        cases h
        rw [← hc]
        unfold contP
        simp only [raws_app, (h4 g1).2.1]
        simp [rawsL, endL, ls]
      · split at h
        · cases h
          rw [← hc]
          unfold contP beginS
          simp only [List.map_append, endL_app]
          simp [endL, ls]
        · cases h
          rw [← hc]
          unfold contP
          simp only [List.map_append, endL_app]
          simp [endL, ls]
theorem run_cont : ∀ (L : List Lne) (p q : PSt), runS p L = .inr q → contP q = contP p ++ glue (L.map (·.2.2))
  | [], p, q, h => by cases h; simp [glue]
  | l :: r, p, q, h => by
    simp only [runS] at h
    cases e : takeS p l with
    | inl x => rw [e] at h; cases h
    | inr p1 =>
      rw [e] at h
      obtain ⟨he, _⟩ := take_took e
      rw [run_cont r p1 q h, take_cont e, List.map_cons]
      simp only [glue, he, if_true, List.append_assoc]
theorem raws_text {s : ByteArray} {l : List Itm} (hp : parseS s = .inr l) : bytes (rawsL l) = s := by
  unfold parseS at hp
  cases e : runS pst0 (linesT s) with
  | inl x => rw [e] at hp; cases hp
  | inr p =>
    rw [e] at hp
    simp only at hp
    cases e2 : endS p with
    | inl x => rw [e2] at hp; cases hp
    | inr q =>
      rw [e2] at hp
      cases hp
      obtain ⟨_, _, hidle⟩ := end_took e2
      have h1 : contP q = rawsL q.its := by unfold contP; rw [hidle.2.1]; simp [endL]
      rw [← h1, end_cont e2, run_cont _ _ _ e, lines_text, glue_lines _ _ (by rw [show (ls s).length = s.size from (size_list s).symm]; exact Nat.le_refl _)]
      exact bytes_ls s
theorem runR_ne : ∀ (L : List Lne) (t : RSt) (bh : Bool) (e : Int × Int), runR bh t L = .inl e → e.2 ≠ 0
  | [], t, bh, e, h => by unfold runR at h; cases h
  | l :: r, t, bh, e, h => by
    unfold runR at h
    split at h
    · rename_i hw; cases h; exact hw
    · exact runR_ne r _ _ e h
theorem items_flds {s : ByteArray} {l : List Itm} (hs : s.size ≤ 60000) (hp : parseS s = .inr l) : l.length ≤ 1000000 ∧ ∀ x ∈ l, x.2.2.length ≤ 1000000 := by
  have h0 := parse_ref s
  rw [hp] at h0
  obtain ⟨h1, _⟩ := linesT_len s
  have key : ∀ (L : List Lne) (t : RSt) (bh : Bool) (l : List Itm), runR bh t L = .inr l → l.length ≤ t.out.length + 1 + 2 * L.length ∧ ∀ (B : Nat), t.flds.length + L.length ≤ B → (∀ x ∈ t.out, x.2.2.length ≤ B) → ∀ x ∈ l, x.2.2.length ≤ B := by
    intro L
    induction L with
    | nil =>
      intro t bh l h
      unfold runR at h
      cases h
      refine ⟨by split <;> simp, fun B hB ho x hx => ?_⟩
      split at hx
      · exact ho x hx
      · rcases List.mem_append.1 hx with hx | hx
        · exact ho x hx
        · rw [List.mem_singleton.1 hx]; simpa using hB
    | cons a r ih =>
      intro t bh l h
      unfold runR at h
      split at h
      · cases h
      · obtain ⟨i1, i2⟩ := ih _ _ _ h
        have so : (stepR t a r).out.length ≤ t.out.length + 2 := by
          unfold stepR
          split
          · simp only; split <;> simp
          · split <;> simp
        have sf : (stepR t a r).flds.length ≤ t.flds.length + 1 := by
          unfold stepR
          split
          · simp
          · split <;> simp
        refine ⟨by rw [List.length_cons]; omega, fun B hB ho => i2 B (by rw [List.length_cons] at hB; omega) (fun x hx => ?_)⟩
        have hB2 : t.flds.length ≤ B := by omega
        unfold stepR at hx
        split at hx
        · simp only at hx
          rcases List.mem_append.1 hx with hx | hx
          · split at hx
            · exact ho x hx
            · rcases List.mem_append.1 hx with hx | hx
              · exact ho x hx
              · rw [List.mem_singleton.1 hx]; exact hB2
          · rw [List.mem_singleton.1 hx]; exact Nat.zero_le _
        · split at hx
          · exact ho x hx
          · exact ho x hx
  obtain ⟨k1, k2⟩ := key _ _ _ _ h0.symm
  refine ⟨by simp only [rst0, List.length_nil] at k1; omega, k2 1000000 (by simp only [rst0, List.length_nil]; omega) (fun x hx => by cases hx)⟩
theorem at_errno (n : Int) : ACall Tryd.prog 29 [.one (errN n)] (ii .i64 (-9)) := by
  refine acall_of (rs := [2]) Tryd.func29 rfl rfl rfl teOk rfl ?_
  refine acode_seq ?_
  refine acode_region ?_
  refine acode_seq ?_
  refine acode_seq ?_
  refine acode_region ?_
  refine acode_seq ?_
  refine acode_region ?_
  refine And.intro (fun h => trivial) ?_
  refine And.intro (fun h => ⟨⟨h, trivial⟩, trivial⟩) ?_
  refine And.intro (by exact fun h => h) ?_
  refine acode_cond rfl (fun h14 => ?_) (fun h14 => ?_)
  · try simp only [Bool.and_eq_true, Bool.not_eq_true'] at h14
    try simp only [Int.toNat_natCast, dflt_sl, dflt_st, dflt_str, dflt_int, dflt_bool] at h14
    simp at h14
  · try simp only [Bool.not_eq_false', Bool.and_eq_false_iff] at h14
    try simp only [Int.toNat_natCast, dflt_sl, dflt_st, dflt_str, dflt_int, dflt_bool] at h14
    refine acode_skip ?_
    refine acode_seq ?_
    refine acode_region ?_
    refine acode_ret ?_
    rfl
end Q
end Ab
end Go.Proofs.YtklhlkhlndhepaaDoor
namespace Go.Proofs.YtklhlkhlndhepaaDoor
open Go.RowKit
namespace Ab
set_option maxRecDepth 100000
namespace Q
/-- Items put apart: behind an item of this kind (1: a blank one, or none). -/
def apartK (k : Int) : List Itm → List Itm
  | [] => []
  | x :: r => if k ≠ 1 ∧ x.1 ≠ 1 then (1, ⟨#[10]⟩, []) :: x :: apartK x.1 r else x :: apartK x.1 r
def apartL (l : List Itm) : List Itm := apartK 1 l
/-- No two neighbours that aren't blank, behind an item of this kind; the last one's kind. -/
def altK (k : Int) : List Itm → Prop
  | [] => True
  | x :: r => (k = 1 ∨ x.1 = 1) ∧ altK x.1 r
def lastK (k : Int) : List Itm → Int
  | [] => k
  | x :: r => lastK x.1 r
theorem apart_alt : ∀ (l : List Itm) (k : Int), altK k l → apartK k l = l
  | [], _, _ => rfl
  | x :: r, k, h => by
    unfold apartK
    rw [if_neg (fun e => h.1.elim e.1 e.2), apart_alt r x.1 h.2]
theorem altK_app : ∀ (l m : List Itm) (k : Int), altK k (l ++ m) ↔ altK k l ∧ altK (lastK k l) m
  | [], m, k => by simp [altK, lastK]
  | x :: r, m, k => by
    simp only [List.cons_append, altK, lastK, altK_app r m x.1, and_assoc]
theorem lastK_app : ∀ (l m : List Itm) (k : Int), lastK k (l ++ m) = lastK (lastK k l) m
  | [], _, _ => rfl
  | x :: r, m, k => by simp only [List.cons_append, lastK, lastK_app r m x.1]
def AltP (p : PSt) : Prop := altK 1 p.its ∧ lastK 1 p.its = 1
theorem flush_alt {p q : PSt} (h : flushS p = .inr q) (hp : AltP p) : AltP q := by
  unfold AltP
  rw [(flush_same h).1]
  exact hp
theorem end_alt {p q : PSt} (h : endS p = .inr q) (hp : AltP p) : altK 1 q.its := by
  unfold endS at h
  cases e : flushS p with
  | inl x => rw [e] at h; cases h
  | inr r =>
    rw [e] at h
    cases h
    have hr := flush_alt e hp
    unfold closeS
    split
    · exact hr.1
    · refine (altK_app _ _ _).2 ⟨hr.1, .inl hr.2, trivial⟩
theorem take_alt {p q : PSt} {l : Lne} (h : takeS p l = .inr q) (hp : AltP p) : AltP q := by
  unfold takeS at h
  cases e : aheadS p l (kindL (ls l.2.2.1)) with
  | inl x => rw [e] at h; cases h
  | inr r =>
    rw [e] at h
    simp only at h
    by_cases h1 : kindL (ls l.2.2.1) = 1
    · have hr : altK 1 r.its := by
        unfold aheadS at e
        rw [h1, if_neg (by decide), if_pos rfl] at e
        exact end_alt e hp
      unfold lineS at h
      split at h
      · cases h
      · cases h
        exact ⟨(altK_app _ _ _).2 ⟨hr, .inr rfl, trivial⟩, by rw [lastK_app]; rfl⟩
    · have hr : AltP r := by
        unfold aheadS at e
        split at e
        · split at e
          · cases e
          · split at e
            · cases e; exact hp
            · exact flush_alt e hp
        · exact flush_alt e hp
      unfold lineS at h
      split at h
      · cases h
      · split at h <;> (cases h; exact hr)
theorem run_alt : ∀ (L : List Lne) (p q : PSt), runS p L = .inr q → AltP p → AltP q
  | [], p, q, h, hp => by cases h; exact hp
  | l :: r, p, q, h, hp => by
    simp only [runS] at h
    cases e : takeS p l with
    | inl x => rw [e] at h; cases h
    | inr p1 =>
      rw [e] at h
      exact run_alt r p1 q h (take_alt e hp)
theorem parse_alt {s : ByteArray} {l : List Itm} (hp : parseS s = .inr l) : apartL l = l := by
  unfold parseS at hp
  cases e : runS pst0 (linesT s) with
  | inl x => rw [e] at hp; cases hp
  | inr p =>
    rw [e] at hp
    simp only at hp
    cases e2 : endS p with
    | inl x => rw [e2] at hp; cases hp
    | inr q =>
      rw [e2] at hp
      cases hp
      exact apart_alt _ _ (end_alt e2 (run_alt _ _ _ e ⟨trivial, rfl⟩))
end Q
end Ab
end Go.Proofs.YtklhlkhlndhepaaDoor
namespace Go.Proofs.YtklhlkhlndhepaaDoor
open Go.RowKit
namespace Ab
set_option maxRecDepth 100000
namespace Q
theorem flush_recs {p q : PSt} (h : flushS p = .inr q) : q.recs = p.recs := by
  unfold flushS at h
  split at h
  · cases h; rfl
  · split at h
    · cases h
    · split at h
      · cases h
      · cases h; rfl
theorem close_recs (p : PSt) : p.recs ≤ (closeS p).recs ∧ (closeS p).recs ≤ p.recs + 1 := by
  unfold closeS
  split
  · exact ⟨Int.le_refl _, by simp only; omega⟩
  · simp only
    split <;> omega
theorem end_recs {p q : PSt} (h : endS p = .inr q) : p.recs ≤ q.recs ∧ q.recs ≤ p.recs + 1 := by
  unfold endS at h
  cases e : flushS p with
  | inl x => rw [e] at h; cases h
  | inr r =>
    rw [e] at h
    cases h
    rw [← flush_recs e]
    exact close_recs r
theorem ahead_recs {p q : PSt} {l : Lne} {k : Int} (h : aheadS p l k = .inr q) : p.recs ≤ q.recs ∧ (k ≠ 1 → q.recs = p.recs) := by
  unfold aheadS at h
  split at h
  · split at h
    · cases h
    · split at h
      · cases h; exact ⟨Int.le_refl _, fun _ => rfl⟩
      · have := flush_recs h
        simp only at this
        exact ⟨by omega, fun _ => this⟩
  · split at h
    · rename_i h1
      exact ⟨(end_recs h).1, fun e => absurd h1 e⟩
    · have := flush_recs h
      exact ⟨by omega, fun _ => this⟩
theorem line_recs {p q : PSt} {l : Lne} {k : Int} (h : lineS p l k = .inr q) : q.recs = p.recs := by
  unfold lineS at h
  split at h
  · cases h
  · split at h
    · cases h; rfl
    · split at h <;> (cases h; rfl)
theorem take_recs {p q : PSt} {l : Lne} (h : takeS p l = .inr q) : p.recs ≤ q.recs ∧ (kindL (ls l.2.2.1) ≠ 1 → q.recs = p.recs) := by
  unfold takeS at h
  cases e : aheadS p l (kindL (ls l.2.2.1)) with
  | inl x => rw [e] at h; cases h
  | inr r =>
    rw [e] at h
    rw [line_recs h]
    exact ahead_recs e
theorem run_recs : ∀ (L : List Lne) (p q : PSt), runS p L = .inr q → p.recs ≤ q.recs
  | [], p, q, h => by cases h; exact Int.le_refl _
  | l :: r, p, q, h => by
    simp only [runS] at h
    cases e : takeS p l with
    | inl x => rw [e] at h; cases h
    | inr p1 =>
      rw [e] at h
      exact Int.le_trans (take_recs e).1 (run_recs r p1 q h)
theorem take_its {p q : PSt} {l : Lne} (h : takeS p l = .inr q) (hk : kindL (ls l.2.2.1) ≠ 1) : q.its = p.its := by
  unfold takeS at h
  cases e : aheadS p l (kindL (ls l.2.2.1)) with
  | inl x => rw [e] at h; cases h
  | inr r =>
    rw [e] at h
    have h1 : r.its = p.its := by
      unfold aheadS at e
      split at e
      · split at e
        · cases e
        · split at e
          · cases e; rfl
          · exact (flush_same e).1
      · exact (flush_same e).1
    rw [← h1]
    simp only at h
    unfold lineS at h
    split at h
    · cases h
    · split at h <;> (cases h; rfl)
/-- Two parsers that do alike, the other way about: the first one goes on where there is room. -/
structure Fwd (I : List Itm) (c : Int) (p q : PSt) : Prop where
  lns : p.lns = q.lns
  full : q.lns ≠ [] → q.full = false → p.full = false
  its : p.its = I ++ q.its
  blk : p.blk = q.blk
  flds : p.flds = q.flds
  recs : p.recs = q.recs + c
  c0 : 0 ≤ c
section
variable {I : List Itm} {c : Int} {p q q1 : PSt}
theorem flush_fwd (h : Fwd I c p q) (hf : flushS q = .inr q1) : ∃ p1, flushS p = .inr p1 ∧ Fwd I c p1 q1 := by
  unfold flushS at hf ⊢
  by_cases h0 : q.lns = []
  · rw [if_pos h0] at hf; cases hf
    rw [if_pos (by rw [h.lns]; exact h0)]
    exact ⟨_, rfl, h⟩
  · rw [if_neg h0] at hf
    rw [if_neg (by rw [h.lns]; exact h0), h.lns]
    split at hf
    · cases hf
    · rename_i h1
      rw [if_neg h1]
      split at hf
      · cases hf
      · rename_i h2
        cases hf
        have h3 : p.full = false := h.full h0 (by simpa using h2)
        rw [if_neg (by rw [h3]; decide)]
        exact ⟨_, rfl, rfl, fun e => absurd rfl e, h.its, h.blk, by simp only [h.flds], h.recs, h.c0⟩
theorem close_fwd (h : Fwd I c p q) : Fwd I c (closeS p) (closeS q) := by
  unfold closeS
  rw [h.blk, h.flds]
  split
  · exact ⟨h.lns, h.full, h.its, rfl, rfl, h.recs, h.c0⟩
  · by_cases hf : q.flds = []
    · simp only [if_pos hf]
      exact ⟨h.lns, h.full, by simp only [h.its, List.append_assoc], rfl, rfl, h.recs, h.c0⟩
    · have h2 := h.recs
      simp only [if_neg hf]
      exact ⟨h.lns, h.full, by simp only [h.its, List.append_assoc], rfl, rfl, by simp only; omega, h.c0⟩
theorem end_fwd (h : Fwd I c p q) (hf : endS q = .inr q1) : ∃ p1, endS p = .inr p1 ∧ Fwd I c p1 q1 := by
  unfold endS at hf ⊢
  cases e : flushS q with
  | inl x => rw [e] at hf; cases hf
  | inr r =>
    rw [e] at hf
    cases hf
    obtain ⟨p1, e1, h1⟩ := flush_fwd h e
    rw [e1]
    exact ⟨_, rfl, close_fwd h1⟩
theorem begin_fwd {l : Lne} (h : Fwd I c p q) (hr : p.recs < 400) : Fwd I c (beginS p l) (beginS q l) := by
  refine ⟨rfl, fun _ e => ?_, h.its, h.blk, h.flds, h.recs, h.c0⟩
  simp only [beginS, h.flds, Bool.or_eq_false_iff, Bool.and_eq_false_iff, decide_eq_false_iff_not] at e ⊢
  exact ⟨e.1, .inr (by omega)⟩
theorem more_fwd {t : ByteArray} (h : Fwd I c p q) (h0 : q.lns ≠ []) : Fwd I c { p with lns := p.lns ++ [t] } { q with lns := q.lns ++ [t] } :=
  ⟨by simp only [h.lns], fun _ e => h.full h0 e, h.its, h.blk, h.flds, h.recs, h.c0⟩
theorem ahead_fwd {l : Lne} {k : Int} (h : Fwd I c p q) (hf : aheadS q l k = .inr q1) : ∃ p1, aheadS p l k = .inr p1 ∧ Fwd I c p1 q1 := by
  unfold aheadS at hf ⊢
  split at hf
  · rename_i hk
    rw [if_pos hk]
    by_cases h0 : q.lns = []
    · rw [if_pos h0] at hf; cases hf
    · rw [if_neg h0] at hf
      rw [if_neg (by rw [h.lns]; exact h0)]
      split at hf
      · rename_i he
        rw [if_pos he]
        cases hf
        exact ⟨_, rfl, more_fwd h h0⟩
      · rename_i he
        rw [if_neg he]
        exact flush_fwd (more_fwd h h0) hf
  · rename_i hk
    rw [if_neg hk]
    split at hf
    · rename_i h1; rw [if_pos h1]; exact end_fwd h hf
    · rename_i h1; rw [if_neg h1]; exact flush_fwd h hf
theorem take_fwd {l : Lne} (h : Fwd I c p q) (hf : takeS q l = .inr q1) (hr : q1.recs + c < 400) : ∃ p1, takeS p l = .inr p1 ∧ Fwd I c p1 q1 := by
  unfold takeS at hf ⊢
  cases e : aheadS q l (kindL (ls l.2.2.1)) with
  | inl x => rw [e] at hf; cases hf
  | inr r =>
    rw [e] at hf
    obtain ⟨r', e1, h1⟩ := ahead_fwd h e
    rw [e1]
    simp only at hf ⊢
    have hrr := line_recs hf
    unfold lineS at hf ⊢
    split at hf
    · cases hf
    · rename_i g1
      rw [if_neg g1]
      split at hf
      · rename_i g2
        rw [if_pos g2]
        cases hf
        exact ⟨_, rfl, h1.lns, h1.full, by simp only [h1.its, List.append_assoc], h1.blk, h1.flds, h1.recs, h1.c0⟩
      · rename_i g2
        rw [if_neg g2]
        split at hf
        · rename_i g3
          rw [if_pos g3]
          cases hf
          have h2 := begin_fwd (l := l) h1 (by have := h1.recs; omega)
          exact ⟨_, rfl, h2.lns, h2.full, h2.its, by simp only [h1.blk], h2.flds, h2.recs, h2.c0⟩
        · rename_i g3
          rw [if_neg g3]
          cases hf
          exact ⟨_, rfl, h1.lns, h1.full, h1.its, by simp only [h1.blk], h1.flds, h1.recs, h1.c0⟩
end
theorem run_fwd {I : List Itm} {c : Int} : ∀ (L : List Lne) (p q q1 : PSt), Fwd I c p q → runS q L = .inr q1 → q1.recs + c < 400 → ∃ p1, runS p L = .inr p1 ∧ Fwd I c p1 q1
  | [], p, q, q1, h, hr, _ => by cases hr; exact ⟨_, rfl, h⟩
  | l :: r, p, q, q1, h, hr, h4 => by
    simp only [runS] at hr ⊢
    cases e1 : takeS q l with
    | inl x => rw [e1] at hr; cases hr
    | inr q2 =>
      rw [e1] at hr
      have := run_recs r q2 q1 hr
      obtain ⟨p2, e2, h2⟩ := take_fwd h e1 (by omega)
      rw [e2]
      exact run_fwd r p2 q2 q1 h2 hr h4
/-- A block: lines that are parsed to just this item. -/
def Blk (x : Itm) : Prop := ∃ (L : List Lne) (q qe : PSt), (∀ l ∈ L, l.2.2.2 = true ∧ (10 : UInt8) ∉ ls l.2.2.1) ∧ runS pst0 L = .inr q ∧ q.its = [] ∧ q.recs = 0 ∧ endS q = .inr qe ∧ qe.its = [x] ∧ glue (L.map (·.2.2)) = ls x.2.1
theorem end_one {q qe : PSt} (h : endS q = .inr qe) (h0 : q.its = []) : qe.its = [] ∨ ∃ x, qe.its = [x] := by
  unfold endS at h
  cases e : flushS q with
  | inl x => rw [e] at h; cases h
  | inr r =>
    rw [e] at h
    cases h
    have h1 := (flush_same e).1
    unfold closeS
    split
    · left; simp only; rw [h1, h0]
    · right; simp only; rw [h1, h0]; exact ⟨_, rfl⟩
/-- How far the blocks are known: those that are put down, and the one that is under way. -/
def Par (p : PSt) : Prop := ∃ (I : List Itm) (c : Int) (L : List Lne) (q : PSt), Rel I c p q ∧ runS pst0 L = .inr q ∧ q.its = [] ∧ q.recs = 0 ∧ (∀ l ∈ L, l.2.2.2 = true ∧ (10 : UInt8) ∉ ls l.2.2.1) ∧ ∀ x ∈ I, x.1 ≠ 1 → Blk x
theorem end_par {p pe : PSt} (hp : Par p) (h : endS p = .inr pe) : (∀ x ∈ pe.its, x.1 ≠ 1 → Blk x) ∧ Idle pe ∧ 0 ≤ pe.recs ∧ pe.recs ≤ 400 := by
  obtain ⟨I, c, L, q, hrel, hrun, hits, hrec, hL, hI⟩ := hp
  obtain ⟨qe, h1, h2⟩ := end_rel hrel h
  obtain ⟨_, _, hid⟩ := end_took h
  have hqr := end_recs h1
  refine ⟨fun x hx hx1 => ?_, hid, by have := h2.recs; have := h2.c0; omega, h2.r4⟩
  rw [h2.its] at hx
  rcases List.mem_append.1 hx with hx | hx
  · exact hI x hx hx1
  · rcases end_one h1 hits with e | ⟨y, e⟩
    · rw [e] at hx; cases hx
    · rw [e] at hx
      obtain rfl := List.mem_singleton.1 hx
      refine ⟨L, q, qe, hL, hrun, hits, hrec, h1, e, ?_⟩
      obtain ⟨_, _, hidq⟩ := end_took h1
      have c1 := end_cont h1
      have c2 := run_cont _ _ _ hrun
      have c3 : contP qe = rawsL qe.its := by unfold contP; rw [hidq.2.1]; simp [endL]
      have c4 : contP pst0 = [] := rfl
      rw [c4, List.nil_append] at c2
      rw [← c2, ← c1, c3, e]
      simp [rawsL]
theorem take_par {p p1 : PSt} {l : Lne} (hp : Par p) (h : takeS p l = .inr p1) (hn : (10 : UInt8) ∉ ls l.2.2.1) : Par p1 := by
  by_cases hk : kindL (ls l.2.2.1) = 1
  · unfold takeS at h
    rw [hk] at h
    cases e : aheadS p l 1 with
    | inl x => rw [e] at h; cases h
    | inr pe =>
      rw [e] at h
      have e' : endS p = .inr pe := e
      obtain ⟨hb, hid, h0, h4⟩ := end_par hp e'
      simp only at h
      unfold lineS at h
      split at h
      · cases h
      · rw [if_pos rfl] at h
        cases h
        refine ⟨_, _, [], pst0, rel_self (pe.its ++ [(1, l.2.2.1 ++ ⟨#[10]⟩, [])]) ⟨hid.1, hid.2.1, hid.2.2⟩ rfl h0 h4, rfl, rfl, rfl, (fun _ h => by cases h), fun x hx hx1 => ?_⟩
        rcases List.mem_append.1 hx with hx | hx
        · exact hb x hx hx1
        · rw [List.mem_singleton.1 hx] at hx1
          exact absurd rfl hx1
  · obtain ⟨I, c, L, q, hrel, hrun, hits, hrec, hL, hI⟩ := hp
    obtain ⟨a, b, t⟩ := l
    obtain ⟨q1, h1, h2⟩ := take_rel (a' := a) (b' := b) hrel h
    refine ⟨I, c, L ++ [(a, b, t)], q1, h2, ?_, (take_its h1 hk).trans hits, ((take_recs h1).2 hk).trans hrec, fun x hx => ?_, hI⟩
    · rw [run_app _ _ _ _ hrun]
      simp only [runS, h1]
    · rcases List.mem_append.1 hx with hx | hx
      · exact hL x hx
      · rw [List.mem_singleton.1 hx]
        exact ⟨(take_took h).1, hn⟩
theorem run_par : ∀ (L : List Lne) (p q : PSt), Par p → runS p L = .inr q → (∀ l ∈ L, (10 : UInt8) ∉ ls l.2.2.1) → Par q
  | [], p, q, hp, h, _ => by cases h; exact hp
  | l :: r, p, q, hp, h, hn => by
    simp only [runS] at h
    cases e : takeS p l with
    | inl x => rw [e] at h; cases h
    | inr p1 =>
      rw [e] at h
      exact run_par r p1 q (take_par hp e (hn l List.mem_cons_self)) h (fun x hx => hn x (List.mem_cons_of_mem _ hx))
theorem parse_blks {s : ByteArray} {l : List Itm} (hp : parseS s = .inr l) : ∀ x ∈ l, x.1 ≠ 1 → Blk x := by
  unfold parseS at hp
  cases e : runS pst0 (linesT s) with
  | inl x => rw [e] at hp; cases hp
  | inr p =>
    rw [e] at hp
    simp only at hp
    cases e2 : endS p with
    | inl x => rw [e2] at hp; cases hp
    | inr q =>
      rw [e2] at hp
      cases hp
      refine (end_par (run_par _ _ _ ⟨[], 0, [], pst0, rel_0, rfl, rfl, rfl, (fun _ h => by cases h), (fun _ h => by cases h)⟩ e fun l hl => ?_) e2).1
      have h1 : l.2.2 ∈ (linesT s).map (·.2.2) := List.mem_map_of_mem hl
      rw [lines_text] at h1
      exact linesB_no _ _ _ h1
theorem blank_one {p p2 : PSt} (h : endS p = .inr p2) : takeS p (mkL ⟨#[]⟩) = .inr { p2 with its := p2.its ++ [(1, ⟨#[10]⟩, [])] } := by
  unfold takeS
  have hk : kindL (ls (mkL ⟨#[]⟩).2.2.1) = 1 := by decide +kernel
  rw [hk]
  have e : aheadS p (mkL ⟨#[]⟩) 1 = .inr p2 := h
  rw [e]
  rfl
theorem mix_run : ∀ (all : List Itm), all ≠ [] → (∀ x ∈ all, x.1 ≠ 1 ∧ Blk x) → ∀ p : PSt, Idle p → 0 ≤ p.recs → p.recs + all.length ≤ 400 →
    ∃ M p1 p2, (∀ l ∈ M, l.2.2.2 = true ∧ (10 : UInt8) ∉ ls l.2.2.1) ∧ runS p M = .inr p1 ∧ endS p1 = .inr p2 ∧ p2.its = p.its ++ apartL all ∧ glue (M.map (·.2.2)) = rawsL (apartL all)
  | [], h, _, _, _, _, _ => absurd rfl h
  | [x], _, hb, p, hid, h0, h4 => by
    obtain ⟨_, L, q, qe, hL, hrun, hits, hrec, hend, hqe, hg⟩ := hb x List.mem_cons_self
    have hf : Fwd p.its p.recs p pst0 := ⟨hid.1, fun e => absurd rfl e, by simp [pst0], hid.2.1, hid.2.2, by simp [pst0], h0⟩
    simp only [List.length_singleton] at h4
    obtain ⟨p1, h1, h2⟩ := run_fwd L p pst0 q hf hrun (by omega)
    obtain ⟨p2, h3, h5⟩ := end_fwd h2 hend
    refine ⟨L, p1, p2, hL, h1, h3, ?_, ?_⟩
    · rw [h5.its, hqe]; simp [apartL, apartK]
    · rw [hg]; simp [apartL, apartK, rawsL]
  | x :: y :: r, _, hb, p, hid, h0, h4 => by
    obtain ⟨hx1, L, q, qe, hL, hrun, hits, hrec, hend, hqe, hg⟩ := hb x List.mem_cons_self
    have hf : Fwd p.its p.recs p pst0 := ⟨hid.1, fun e => absurd rfl e, by simp [pst0], hid.2.1, hid.2.2, by simp [pst0], h0⟩
    simp only [List.length_cons] at h4
    obtain ⟨p1, h1, h2⟩ := run_fwd L p pst0 q hf hrun (by omega)
    obtain ⟨p2, h3, h5⟩ := end_fwd h2 hend
    have hbl := blank_one h3
    obtain ⟨_, _, hid2⟩ := end_took h3
    have hr2 := end_recs hend
    have hr5 := h5.recs
    obtain ⟨M, p3, p4, i1, i2, i3, i4, i5⟩ := mix_run (y :: r) (by simp) (fun z hz => hb z (List.mem_cons_of_mem _ hz)) { p2 with its := p2.its ++ [(1, ⟨#[10]⟩, [])] } ⟨hid2.1, hid2.2.1, hid2.2.2⟩ (by simp only; omega) (by simp only [List.length_cons]; omega)
    have hy1 : y.1 ≠ 1 := (hb y (by simp)).1
    have hap : apartL (x :: y :: r) = x :: (1, ⟨#[10]⟩, []) :: apartL (y :: r) := by
      unfold apartL
      rw [apartK, if_neg (by simp), apartK, if_pos ⟨hx1, hy1⟩, apartK, if_neg (by simp)]
    refine ⟨L ++ (mkL ⟨#[]⟩ :: M), p3, p4, fun l hl => ?_, ?_, i3, ?_, ?_⟩
    · rcases List.mem_append.1 hl with hl | hl
      · exact hL l hl
      · rcases List.mem_cons.1 hl with rfl | hl
        · exact ⟨rfl, by simp [mkL, ls]⟩
        · exact i1 l hl
    · rw [run_app _ _ _ _ h1]
      simp only [runS, hbl]
      exact i2
    · rw [i4, hap]
      simp only
      rw [h5.its, hqe]
      simp
    · rw [List.map_append, glue_app, hg, List.map_cons, hap]
      have e2 : rawsL (x :: (1, ⟨#[10]⟩, []) :: apartL (y :: r)) = ls x.2.1 ++ ([10] ++ rawsL (apartL (y :: r))) := by simp [rawsL, ls]
      rw [e2, ← i5]
      rfl
theorem mix_parse {all : List Itm} (hb : ∀ x ∈ all, x.1 ≠ 1 ∧ Blk x) (h4 : all.length ≤ 400) : parseS (bytes (rawsL (apartL all))) = .inr (apartL all) := by
  by_cases h : all = []
  · subst h
    decide +kernel
  · obtain ⟨M, p1, p2, i1, i2, i3, i4, i5⟩ := mix_run all h hb pst0 ⟨rfl, rfl, rfl⟩ (by decide) (by simp only [pst0]; omega)
    rw [← i5]
    rw [parse_of (lines_of i1) i2 i3, i4]
    rfl
theorem apart_filter : ∀ (l : List Itm) (k : Int), (∀ x ∈ l, x.1 ≠ 1) → (apartK k l).filter (fun x => !decide (x.1 = 1)) = l
  | [], _, _ => rfl
  | x :: r, k, h => by
    have hx := h x List.mem_cons_self
    have ih := apart_filter r x.1 fun y hy => h y (List.mem_cons_of_mem _ hy)
    unfold apartK
    split
    · simp [hx, ih]
    · simp [hx, ih]
theorem apart_len : ∀ (l : List Itm) (k : Int), szI (apartK k l) ≤ szI l + l.length
  | [], _ => by simp [apartK, szI]
  | x :: r, k => by
    have ih := apart_len r x.1
    have h10 : ByteArray.size ⟨#[10]⟩ = 1 := rfl
    unfold apartK
    unfold szI at ih ⊢
    split <;> (simp only [List.map_cons, List.sum_cons, List.length_cons, h10]; omega)
theorem raws_sz (l : List Itm) : (rawsL l).length = szI l := by
  induction l with
  | nil => rfl
  | cons x r ih =>
    unfold rawsL szI at *
    simp only [List.flatMap_cons, List.length_append, List.map_cons, List.sum_cons, ih]
    rw [size_list]
theorem filter_at {α : Type} (p : α → Bool) (d : α) : ∀ (l : List α) (j : Nat) (h : j < l.length), p (l.getD j d) = true → ((l.take j).filter p).length < (l.filter p).length ∧ (l.filter p).getD ((l.take j).filter p).length d = l.getD j d
  | [], j, h, _ => by simp at h
  | x :: r, 0, h, hp => by
    have hp : p x = true := by simpa using hp
    simp [hp]
  | x :: r, j + 1, h, hp => by
    obtain ⟨h1, h2⟩ := filter_at p d r j (by simpa using h) (by simpa using hp)
    rw [List.take_succ_cons, List.filter_cons, List.filter_cons]
    by_cases hx : p x = true
    · simp only [hx, if_true, List.length_cons, List.getD_cons_succ]
      exact ⟨by omega, h2⟩
    · simp only [hx, List.getD_cons_succ]
      exact ⟨h1, h2⟩
def mix1 (l : List Itm) (k : Nat) : List Itm := if k < l.length ∧ (l.getD k ((0 : Int), ByteArray.empty, ([] : List Fld))).1 ≠ 1 then [l.getD k ((0 : Int), ByteArray.empty, ([] : List Fld))] else []
def mixL (turn : Bool) (l m : List Itm) (i : Nat) : List Itm := (List.range i).flatMap fun k => mix1 l k ++ if turn then mix1 m k else []
theorem mix_snoc (turn : Bool) (l m : List Itm) (i : Nat) : mixL turn l m (i + 1) = mixL turn l m i ++ (mix1 l i ++ if turn then mix1 m i else []) := by
  unfold mixL
  rw [List.range_succ, List.flatMap_append]
  simp
theorem mix1_mem {l : List Itm} {k : Nat} {x : Itm} (h : x ∈ mix1 l k) : x ∈ l ∧ x.1 ≠ 1 := by
  unfold mix1 at h
  split at h
  · rename_i hk
    rw [List.mem_singleton.1 h]
    exact ⟨getD_mem hk.1 _, hk.2⟩
  · cases h
theorem mix_mem {turn : Bool} {l m : List Itm} {i : Nat} {x : Itm} (h : x ∈ mixL turn l m i) : (x ∈ l ∨ x ∈ m) ∧ x.1 ≠ 1 := by
  unfold mixL at h
  obtain ⟨k, _, h⟩ := List.mem_flatMap.1 h
  rcases List.mem_append.1 h with h | h
  · exact ⟨.inl (mix1_mem h).1, (mix1_mem h).2⟩
  · split at h
    · exact ⟨.inr (mix1_mem h).1, (mix1_mem h).2⟩
    · cases h
theorem mix1_sz (l : List Itm) (i : Nat) : szI (l.take i) + szI (mix1 l i) ≤ szI (l.take (i + 1)) := by
  unfold mix1
  split
  · rename_i h
    rw [← take_snoc ((0 : Int), ByteArray.empty, ([] : List Fld)) h.1, szI_app]
    exact Nat.le_refl _
  · rcases Nat.lt_or_ge i l.length with h | h
    · rw [← take_snoc ((0 : Int), ByteArray.empty, ([] : List Fld)) h, szI_app]
      simp [szI]
    · rw [List.take_of_length_le h, List.take_of_length_le (by omega)]
      simp [szI]
theorem mix_sz (turn : Bool) (l m : List Itm) : ∀ i, szI (mixL turn l m i) ≤ szI (l.take i) + szI (m.take i)
  | 0 => by simp [mixL, szI]
  | i + 1 => by
    have ih := mix_sz turn l m i
    have h1 := mix1_sz l i
    have h2 := mix1_sz m i
    rw [mix_snoc, szI_app, szI_app]
    cases turn
    · simp only [Bool.false_eq_true, if_false, show szI ([] : List Itm) = 0 from rfl]; omega
    · simp only [if_true]; omega
theorem sz_take (l : List Itm) (i : Nat) : szI (l.take i) ≤ szI l := by
  have h := szI_app (l.take i) (l.drop i)
  rw [List.take_append_drop] at h
  omega
theorem mix_len (turn : Bool) (l m : List Itm) : ∀ i, (mixL turn l m i).length ≤ 2 * i
  | 0 => by simp [mixL]
  | i + 1 => by
    have ih := mix_len turn l m i
    rw [mix_snoc, List.length_append, List.length_append]
    have h1 : ∀ n : List Itm, (mix1 n i).length ≤ 1 := by
      intro n; unfold mix1; split <;> simp
    have h2 := h1 l
    have h3 := h1 m
    cases turn <;> simp <;> omega
end Q
end Ab
end Go.Proofs.YtklhlkhlndhepaaDoor
namespace Go.Proofs.YtklhlkhlndhepaaDoor
open Go.RowKit
namespace Ab
set_option maxRecDepth 100000
namespace Q
abbrev Ent := Itm × Int
abbrev rEnt : Rd Ent := .st rItm (.int .i64)
abbrev Lst := List Ent × Int × Int
abbrev rLst (k : Nat) : Rd Lst := .st (.slk k rEnt) (.st (.int .i64) (.int .i64))
abbrev Stz := Int × List Fld
abbrev rStz : Rd Stz := .st (.int .i64) (.sl rFld)
def isRec (x : Itm) : Bool := decide (x.1 = 3)
def cntR (l : List Itm) : Nat := (l.filter isRec).length
/-- Items, the stanzas numbered from n on. -/
def numI (n : Int) : List Itm → List Ent
  | [] => []
  | x :: r => match isRec x with
    | true => (x, n) :: numI (n + 1) r
    | false => (x, 0) :: numI n r
theorem cntR_app (a b : List Itm) : cntR (a ++ b) = cntR a + cntR b := by simp [cntR]
theorem numI_snoc : ∀ (l : List Itm) (n : Int) (x : Itm), numI n (l ++ [x]) = numI n l ++ [(x, if isRec x then n + cntR l else 0)]
  | [], n, x => by
    cases h : isRec x <;> simp [numI, h, cntR]
  | y :: r, n, x => by
    have ih := fun m => numI_snoc r m x
    cases h : isRec y with
    | true =>
      have e : n + 1 + (cntR r : Int) = n + (cntR (y :: r) : Int) := by simp [cntR, h]; omega
      simp only [List.cons_append, numI, h, ih, e]
    | false =>
      have e : (cntR r : Int) = (cntR (y :: r) : Int) := by simp [cntR, h]
      simp only [List.cons_append, numI, h, ih, e]
theorem numI_len : ∀ (l : List Itm) (n : Int), (numI n l).length = l.length
  | [], _ => rfl
  | x :: r, n => by
    unfold numI
    split <;> simp [numI_len r]
theorem numI_items : ∀ (l : List Itm) (n : Int), (numI n l).map (·.1) = l
  | [], _ => rfl
  | x :: r, n => by
    unfold numI
    split <;> simp [numI_items r]
def ofT (l : List Itm) : Lst := (numI 1 l, 1 + (cntR l : Int), (cntR l : Int))
def hasId (id : Int) (e : Ent) : Bool := decide (e.2 = id)
/-- Where a stanza's entry stands; -1: there is none. -/
def atE (es : List Ent) (id : Int) : Int := if id < 1 then -1 else ixOf (hasId id) es
theorem at_cases (es : List Ent) (id : Int) : (atE es id = -1 ∧ ∀ e ∈ es, 0 < id → e.2 ≠ id) ∨ ∃ i : Nat, i < es.length ∧ atE es id = i ∧ 0 < id ∧ (es.getD i (((0 : Int), ByteArray.empty, ([] : List Fld)), (0 : Int))).2 = id ∧ ∀ e ∈ es.take i, e.2 ≠ id := by
  unfold atE
  by_cases h : id < 1
  · exact .inl ⟨if_pos h, fun e _ h0 => by omega⟩
  · rw [if_neg h]
    rcases ixOf_cases (hasId id) es (((0 : Int), ByteArray.empty, ([] : List Fld)), (0 : Int)) with ⟨h1, h2⟩ | ⟨i, h1, h2, h3, h4⟩
    · refine .inl ⟨h1, fun e he _ => ?_⟩
      have := List.any_eq_false.1 h2 e he
      simpa [hasId] using this
    · refine .inr ⟨i, h1, h2, by omega, by simpa [hasId] using h4, fun e he => ?_⟩
      have := List.any_eq_false.1 h3 e he
      simpa [hasId] using this
def replE (es : List Ent) (i : Nat) (x : Itm) : List Ent := es.set i (x, (es.getD i (((0 : Int), ByteArray.empty, ([] : List Fld)), (0 : Int))).2)
def delE (es : List Ent) (i : Nat) : List Ent := es.take i ++ es.drop (i + 1)
def insE (es : List Ent) (i : Nat) (e : Ent) : List Ent := es.take i ++ e :: es.drop i
def live (e : Ent) : Bool := decide (0 < e.2)
def stzOf (e : Ent) : Stz := (e.2, e.1.2.2)
def stzL (es : List Ent) : List Stz := (es.filter live).map stzOf
def itmL (es : List Ent) : List Itm := es.map (·.1)
/-- Which one a stanza is. -/
def plcL (es : List Ent) (id : Int) : Int := ixOf (hasId id) (es.filter live)
def rowsL (es : List Ent) : List (List Fld) := (stzL es).map (·.2)
def getL (es : List Ent) (id : Int) : List Fld := (es.getD (atE es id).toNat (((0 : Int), ByteArray.empty, ([] : List Fld)), (0 : Int))).1.2.2
def rawL (es : List Ent) (id : Int) : ByteArray := (es.getD (atE es id).toNat (((0 : Int), ByteArray.empty, ([] : List Fld)), (0 : Int))).1.2.1
def txtL (es : List Ent) : List UInt8 := rawsL (apartL (itmL es))
end Q
end Ab
end Go.Proofs.YtklhlkhlndhepaaDoor
namespace Go.Proofs.YtklhlkhlndhepaaDoor
open Go.RowKit
namespace Ab
set_option maxRecDepth 100000
namespace Q
theorem cntR_at {l : List Itm} {i : Nat} (h : i < l.length) : cntR (l.take (i + 1)) = cntR (l.take i) + if isRec (l.getD i ((0 : Int), ByteArray.empty, ([] : List Fld))) then 1 else 0 := by
  rw [← take_snoc ((0 : Int), ByteArray.empty, ([] : List Fld)) h, cntR_app]
  generalize l.getD i ((0 : Int), ByteArray.empty, ([] : List Fld)) = x
  cases hk : isRec x
  · simp [cntR, hk]
  · simp [cntR, hk]
theorem numI_at {l : List Itm} {i : Nat} (h : i < l.length) : numI 1 (l.take (i + 1)) = numI 1 (l.take i) ++ [(l.getD i ((0 : Int), ByteArray.empty, ([] : List Fld)), if isRec (l.getD i ((0 : Int), ByteArray.empty, ([] : List Fld))) then 1 + (cntR (l.take i) : Int) else 0)] := by
  rw [← take_snoc ((0 : Int), ByteArray.empty, ([] : List Fld)) h]
  exact numI_snoc (l.take i) 1 _
theorem cntR_le (l : List Itm) : cntR l ≤ l.length := List.length_filter_le _ _
def lsO (l : Lst) : Obs := [(0, .box 107 [.vec 1, .lit (.int .i64 l.2.1), .lit (.int .i64 l.2.2)]), (1, .vec 109 rEnt l.1)]
theorem lbox_eq {a b c d : Int} (h1 : a = c) (h2 : b = d) : some (Ob.box 107 [.vec 1, .lit (.int .i64 a), .lit (.int .i64 b)]) = some (Ob.box 107 [.vec 1, .lit (.int .i64 c), .lit (.int .i64 d)]) := by rw [h1, h2]
theorem of_ok (s : ByteArray) (hs : s.size ≤ 60000) {l : List Itm} (hp : parseS s = .inr l) : ACallO Tryd.prog 35 [is s] [] 0 (.tup [(false, [.own 0 0]), (false, [.lit .nilIface])]) (lsO (ofT l)) 2 := by
  have hpa := parse_a s hs
  rw [hp] at hpa
  obtain ⟨hl1, hl2⟩ := items_flds hs hp
  refine acallo_of (rs := [2, 3]) Tryd.func35 rfl rfl rfl teOk (by decide) rfl ?_
  refine acode_seq ?_
  refine acode_region ?_
  refine acode_seq ?_
  refine acode_region ?_
  refine Or.inl ?_
  refine And.intro (rfl) ?_
  refine Exists.intro _ (And.intro (hpa) ?_)
  refine acode_seq ?_
  refine acode_seq ?_
  refine acode_region ?_
  refine acode_cond rfl (fun h16 => ?_) (fun h16 => ?_)
  · try simp only [Bool.not_eq_true'] at h16
    try simp only [Int.toNat_natCast, dflt_sl, dflt_st, dflt_str, dflt_int, dflt_bool] at h16
    cases h16
  · try simp only [Bool.not_eq_false'] at h16
    try simp only [Int.toNat_natCast, dflt_sl, dflt_st, dflt_str, dflt_int, dflt_bool] at h16
    refine acode_skip ?_
    refine acode_seq ?_
    refine acode_region ?_
    refine acode_seq ?_
    refine acode_seq ?_
    refine acode_nilcell 0 0 109 rEnt rfl rfl rfl ?_
    refine acode_region ?_
    intro l5_1
    try simp only [Int.toNat_natCast, dflt_sl, dflt_st, dflt_str, dflt_int, dflt_bool] at l5_1
    refine acode_block ?_
    refine acode_loopP (fun (i : Nat) => i ≤ l.length) (fun (i : Nat) => [(0, is s), (6, .one (.own 0 0)), (20, .one (.sl rItm l)), (21, ii .i64 l.length), (22, ii .i64 i)]) (fun (i : Nat) => [(0, .box 107 [.vec 1, .lit (.int .i64 (1 + (cntR (l.take i) : Int))), .lit (.int .i64 (cntR (l.take i)))]), (1, .vec 109 rEnt (numI 1 (l.take i)))]) 2 (fun (i : Nat) => l.length - i) 0 (Nat.zero_le _) (le_of ⟨rfl, rfl, rfl, rfl, rfl⟩ ⟨rfl, rfl⟩ rfl) ?_
    intro i hI0
    refine acode_seq ?_
    refine acode_region ?_
    refine acode_seq ?_
    refine acode_cond rfl (fun h23 => ?_) (fun h23 => ?_)
    · try simp only [decide_eq_true_eq] at h23
      try simp only [Int.toNat_natCast, dflt_sl, dflt_st, dflt_str, dflt_int, dflt_bool] at h23
      have hil : i < l.length := (by omega)
      have hsn := numI_at hil
      have hcn := cntR_at hil
      have hcl := cntR_le (l.take i)
      rw [List.length_take] at hcl
      refine acode_skip ?_
      refine acode_seq ?_
      refine acode_block ?_
      refine acode_seq ?_
      refine acode_region ?_
      refine And.intro (by first | omega | assumption | decide | (simp only [Int.toNat_natCast, dflt_sl, dflt_st, dflt_str, dflt_int, dflt_bool]; omega) | (simp <;> omega)) ?_
      refine acode_seq ?_
      refine acode_region ?_
      refine acode_seq ?_
      refine acode_seq ?_
      refine acode_region ?_
      refine acode_cond rfl (fun h30 => ?_) (fun h30 => ?_)
      · try simp only [decide_eq_true_eq] at h30
        try simp only [Int.toNat_natCast, dflt_sl, dflt_st, dflt_str, dflt_int] at h30
        have hk : isRec (l.getD i ((0 : Int), ByteArray.empty, ([] : List Fld))) = true := decide_eq_true h30
        rw [hk, if_pos rfl] at hsn hcn
        refine acode_seq ?_
        refine acode_region ?_
        refine acode_seq ?_
        refine acode_region ?_
        refine And.intro (by first | omega | assumption | decide | (simp only [Int.toNat_natCast, dflt_sl, dflt_st, dflt_str, dflt_int, dflt_bool]; omega) | (simp <;> omega)) ?_
        refine acode_region ?_
        refine And.intro (by first | omega | assumption | decide | (simp only [Int.toNat_natCast, dflt_sl, dflt_st, dflt_str, dflt_int, dflt_bool]; omega) | (simp <;> omega)) ?_
        refine acode_ord rfl ?_
        refine aord_light 0 rfl rfl rfl (by kernel_rfl) ?_
        refine aord_light 1 rfl rfl rfl (by kernel_rfl) ?_
        refine aord_light 2 rfl rfl rfl (by kernel_rfl) ?_
        refine aord_light 3 rfl rfl rfl (by kernel_rfl) ?_
        refine aord_all [4, 5] (by kernel_rfl) rfl ?_
        refine And.intro ?_ ?_
        · refine aord_all [5] (by kernel_rfl) rfl ?_
          refine aord_all [6] (by kernel_rfl) rfl ?_
          refine aord_all [7] (by kernel_rfl) rfl ?_
          refine And.intro (by exact app_le (show (numI 1 (l.take i)).length + 1 ≤ 1000000000 by rw [numI_len, List.length_take]; omega) (by decide)) ?_
          refine aord_light 8 rfl rfl rfl (by kernel_rfl) ?_
          refine aord_light 9 rfl rfl rfl (by kernel_rfl) ?_
          refine aord_all [10] (by kernel_rfl) rfl ?_
          refine aord_done (by kernel_rfl) ?_
          refine acode_region ?_
          refine And.intro (by first | omega | assumption | decide | (simp only [Int.toNat_natCast, dflt_sl, dflt_st, dflt_str, dflt_int, dflt_bool]; omega) | (simp <;> omega)) ?_
          exact ⟨i + 1, by omega, by first | omega | (simp <;> omega), le_of ⟨rfl, rfl, rfl, rfl, rfl⟩ ⟨(lbox_eq (by omega) (by omega)), (vec_eq (by rw [hsn]; exact rfl))⟩ rfl⟩
        · refine aord_all [4, 6] (by kernel_rfl) rfl ?_
          refine And.intro ?_ ?_
          · refine aord_all [6] (by kernel_rfl) rfl ?_
            refine aord_all [7] (by kernel_rfl) rfl ?_
            refine And.intro (by exact app_le (show (numI 1 (l.take i)).length + 1 ≤ 1000000000 by rw [numI_len, List.length_take]; omega) (by decide)) ?_
            refine aord_light 8 rfl rfl rfl (by kernel_rfl) ?_
            refine aord_light 9 rfl rfl rfl (by kernel_rfl) ?_
            refine aord_all [10] (by kernel_rfl) rfl ?_
            refine aord_done (by kernel_rfl) ?_
            refine acode_region ?_
            refine And.intro (by first | omega | assumption | decide | (simp only [Int.toNat_natCast, dflt_sl, dflt_st, dflt_str, dflt_int, dflt_bool]; omega) | (simp <;> omega)) ?_
            exact ⟨i + 1, by omega, by first | omega | (simp <;> omega), le_of ⟨rfl, rfl, rfl, rfl, rfl⟩ ⟨(lbox_eq (by omega) (by omega)), (vec_eq (by rw [hsn]; exact rfl))⟩ rfl⟩
          · refine aord_all [4] (by kernel_rfl) rfl ?_
            refine aord_all [7] (by kernel_rfl) rfl ?_
            refine And.intro (by exact app_le (show (numI 1 (l.take i)).length + 1 ≤ 1000000000 by rw [numI_len, List.length_take]; omega) (by decide)) ?_
            refine aord_light 8 rfl rfl rfl (by kernel_rfl) ?_
            refine aord_light 9 rfl rfl rfl (by kernel_rfl) ?_
            refine aord_all [10] (by kernel_rfl) rfl ?_
            refine aord_done (by kernel_rfl) ?_
            refine acode_region ?_
            refine And.intro (by first | omega | assumption | decide | (simp only [Int.toNat_natCast, dflt_sl, dflt_st, dflt_str, dflt_int, dflt_bool]; omega) | (simp <;> omega)) ?_
            exact ⟨i + 1, by omega, by first | omega | (simp <;> omega), le_of ⟨rfl, rfl, rfl, rfl, rfl⟩ ⟨(lbox_eq (by omega) (by omega)), (vec_eq (by rw [hsn]; exact rfl))⟩ rfl⟩
      · try simp only [decide_eq_false_iff_not] at h30
        try simp only [Int.toNat_natCast, dflt_sl, dflt_st, dflt_str, dflt_int] at h30
        have hk : isRec (l.getD i ((0 : Int), ByteArray.empty, ([] : List Fld))) = false := decide_eq_false h30
        rw [hk, if_neg Bool.false_ne_true] at hsn hcn
        refine acode_skip ?_
        refine acode_ord rfl ?_
        refine aord_light 0 rfl rfl rfl (by kernel_rfl) ?_
        refine aord_light 1 rfl rfl rfl (by kernel_rfl) ?_
        refine aord_light 2 rfl rfl rfl (by kernel_rfl) ?_
        refine aord_light 3 rfl rfl rfl (by kernel_rfl) ?_
        refine aord_all [4, 5] (by kernel_rfl) rfl ?_
        refine And.intro ?_ ?_
        · refine aord_all [5] (by kernel_rfl) rfl ?_
          refine aord_all [6] (by kernel_rfl) rfl ?_
          refine aord_all [7] (by kernel_rfl) rfl ?_
          refine And.intro (by exact app_le (show (numI 1 (l.take i)).length + 1 ≤ 1000000000 by rw [numI_len, List.length_take]; omega) (by decide)) ?_
          refine aord_light 8 rfl rfl rfl (by kernel_rfl) ?_
          refine aord_light 9 rfl rfl rfl (by kernel_rfl) ?_
          refine aord_all [10] (by kernel_rfl) rfl ?_
          refine aord_done (by kernel_rfl) ?_
          refine acode_region ?_
          refine And.intro (by first | omega | assumption | decide | (simp only [Int.toNat_natCast, dflt_sl, dflt_st, dflt_str, dflt_int, dflt_bool]; omega) | (simp <;> omega)) ?_
          exact ⟨i + 1, by omega, by first | omega | (simp <;> omega), le_of ⟨rfl, rfl, rfl, rfl, rfl⟩ ⟨(lbox_eq (by omega) (by omega)), (vec_eq (by rw [hsn]; exact rfl))⟩ rfl⟩
        · refine aord_all [4, 6] (by kernel_rfl) rfl ?_
          refine And.intro ?_ ?_
          · refine aord_all [6] (by kernel_rfl) rfl ?_
            refine aord_all [7] (by kernel_rfl) rfl ?_
            refine And.intro (by exact app_le (show (numI 1 (l.take i)).length + 1 ≤ 1000000000 by rw [numI_len, List.length_take]; omega) (by decide)) ?_
            refine aord_light 8 rfl rfl rfl (by kernel_rfl) ?_
            refine aord_light 9 rfl rfl rfl (by kernel_rfl) ?_
            refine aord_all [10] (by kernel_rfl) rfl ?_
            refine aord_done (by kernel_rfl) ?_
            refine acode_region ?_
            refine And.intro (by first | omega | assumption | decide | (simp only [Int.toNat_natCast, dflt_sl, dflt_st, dflt_str, dflt_int, dflt_bool]; omega) | (simp <;> omega)) ?_
            exact ⟨i + 1, by omega, by first | omega | (simp <;> omega), le_of ⟨rfl, rfl, rfl, rfl, rfl⟩ ⟨(lbox_eq (by omega) (by omega)), (vec_eq (by rw [hsn]; exact rfl))⟩ rfl⟩
          · refine aord_all [4] (by kernel_rfl) rfl ?_
            refine aord_all [7] (by kernel_rfl) rfl ?_
            refine And.intro (by exact app_le (show (numI 1 (l.take i)).length + 1 ≤ 1000000000 by rw [numI_len, List.length_take]; omega) (by decide)) ?_
            refine aord_light 8 rfl rfl rfl (by kernel_rfl) ?_
            refine aord_light 9 rfl rfl rfl (by kernel_rfl) ?_
            refine aord_all [10] (by kernel_rfl) rfl ?_
            refine aord_done (by kernel_rfl) ?_
            refine acode_region ?_
            refine And.intro (by first | omega | assumption | decide | (simp only [Int.toNat_natCast, dflt_sl, dflt_st, dflt_str, dflt_int, dflt_bool]; omega) | (simp <;> omega)) ?_
            exact ⟨i + 1, by omega, by first | omega | (simp <;> omega), le_of ⟨rfl, rfl, rfl, rfl, rfl⟩ ⟨(lbox_eq (by omega) (by omega)), (vec_eq (by rw [hsn]; exact rfl))⟩ rfl⟩
    · try simp only [decide_eq_false_iff_not, Int.not_lt] at h23
      try simp only [Int.toNat_natCast, dflt_sl, dflt_st, dflt_str, dflt_int, dflt_bool] at h23
      refine acode_exit ?_
      refine acode_seq ?_
      refine acode_region ?_
      refine acode_ret ?_
      rw [List.take_of_length_le (by omega)]
      exact ⟨rfl, ⟨rfl, rfl⟩, rfl⟩
theorem of_err (s : ByteArray) (hs : s.size ≤ 60000) {at_ n : Int} (hp : parseS s = .inl (at_, n)) : ACall Tryd.prog 35 [is s] (.tup [(false, [.lit (.pointer none)]), (false, [errF at_ n])]) := by
  have hpa := parse_a s hs
  rw [hp] at hpa
  refine acall_of (rs := [2, 3]) Tryd.func35 rfl rfl rfl teOk rfl ?_
  refine acode_seq ?_
  refine acode_region ?_
  refine acode_seq ?_
  refine acode_region ?_
  refine Or.inl ?_
  refine And.intro (rfl) ?_
  refine Exists.intro _ (And.intro (hpa) ?_)
  refine acode_seq ?_
  refine acode_seq ?_
  refine acode_region ?_
  refine acode_cond rfl (fun h16 => ?_) (fun h16 => ?_)
  · skip
    refine acode_seq ?_
    refine acode_region ?_
    refine acode_ret ?_
    rfl
  · try simp only [decide_eq_true_eq, decide_eq_false_iff_not, Bool.and_eq_true, Bool.not_eq_true', Bool.not_eq_false', Bool.or_eq_false_iff, Bool.or_eq_true, Bool.and_eq_false_iff, Int.not_lt, Int.not_le] at h16
    try simp only [Int.toNat_natCast, dflt_sl, dflt_st, dflt_str, dflt_int, dflt_bool] at h16
    cases h16
end Q
end Ab
end Go.Proofs.YtklhlkhlndhepaaDoor
namespace Go.Proofs.YtklhlkhlndhepaaDoor
open Go.RowKit
namespace Ab
set_option maxRecDepth 100000
namespace Q
def itEs (es : List Ent) : List (List A) := (es.filter live).map fun e => [A.agg (toL rEnt e)]
def cntL (es : List Ent) : Nat := (es.filter live).length
theorem cntL_snoc {es : List Ent} {i : Nat} (h : i < es.length) : cntL (es.take (i + 1)) = cntL (es.take i) + if live (es.getD i (((0 : Int), ByteArray.empty, ([] : List Fld)), (0 : Int))) then 1 else 0 := by
  unfold cntL
  rw [← take_snoc (((0 : Int), ByteArray.empty, ([] : List Fld)), (0 : Int)) h, List.filter_append, List.length_append]
  generalize es.getD i (((0 : Int), ByteArray.empty, ([] : List Fld)), (0 : Int)) = x
  cases hk : live x <;> simp [hk]
theorem itEs_at {es : List Ent} {i : Nat} (h : i < es.length) (hl : live (es.getD i (((0 : Int), ByteArray.empty, ([] : List Fld)), (0 : Int))) = true) : ∃ hk : cntL (es.take i) < (itEs es).length, (itEs es)[cntL (es.take i)] = [A.agg (toL rEnt (es.getD i (((0 : Int), ByteArray.empty, ([] : List Fld)), (0 : Int))))] := by
  obtain ⟨h1, h2⟩ := filter_at live (((0 : Int), ByteArray.empty, ([] : List Fld)), (0 : Int)) es i h hl
  have h1' : cntL (es.take i) < (es.filter live).length := h1
  refine ⟨by unfold itEs; rw [List.length_map]; exact h1', ?_⟩
  have h3 : (es.filter live)[cntL (es.take i)]'h1' = es.getD i (((0 : Int), ByteArray.empty, ([] : List Fld)), (0 : Int)) := (getD_get h1' (((0 : Int), ByteArray.empty, ([] : List Fld)), (0 : Int))).trans h2
  exact (List.getElem_map (fun e => [A.agg (toL rEnt e)])).trans (congrArg (fun e => [A.agg (toL rEnt e)]) h3)
theorem all_iter {k : Nat} (es : List Ent) (n m : Int) : AIter Tryd.prog 91 [.one (.ref (.adk k (rLst k) (es, n, m)))] (itEs es) := by
  refine aiter_of Tryd.func91 rfl rfl rfl teOk rfl ?_
  intro l ι Pr J U n0 hU hab hy
  refine acodeY_seq ?_
  refine acodeY_seq ?_
  refine acodeY_seg hab hU rfl ?_
  refine acode_region ?_
  refine ⟨_, _, _, le_refl, ?_⟩
  refine acodeY_cond rfl (fun h6 => ?_) (fun h6 => ?_)
  · simp at h6
  refine acodeY_skip ?_
  refine acodeY_seq ?_
  refine acodeY_seg hab hU rfl ?_
  refine acode_region ?_
  intro hln
  have hln : es.length ≤ 9223372036854775807 := hln
  refine ⟨_, _, _, le_refl, ?_⟩
  refine acodeY_block ?_
  refine acodeY_loop (κ := Nat) (fun i => i ≤ es.length) (fun i => cntL (es.take i)) (fun i => [(0, .one (.lit (.func (.yield l) #[] #[]))), (10, .one (.slk k rEnt es)), (11, ii .i64 es.length), (12, ii .i64 i)]) (fun _ => []) 0 (fun i => es.length - i) 0 (Nat.zero_le _) hab hU (le_of ⟨rfl, rfl, rfl, rfl⟩ trivial rfl) rfl ?_
  intro i hi
  have hi : i ≤ es.length := hi
  refine acodeY_lowQ hab hU ?_
  refine acodeY_seq ?_
  refine acodeY_seg hab hU rfl ?_
  refine acode_region ?_
  refine ⟨_, _, _, le_refl, ?_⟩
  refine acodeY_seq ?_
  refine acodeY_cond rfl (fun h13 => ?_) (fun h13 => ?_)
  · simp only [decide_eq_true_eq] at h13
    have hlt : i < es.length := by omega
    have hsn := cntL_snoc hlt
    refine acodeY_skip ?_
    refine acodeY_seq ?_
    refine acodeY_block ?_
    refine acodeY_seq ?_
    refine acodeY_seg hab hU rfl ?_
    refine acode_region ?_
    refine And.intro (by omega) ?_
    refine ⟨_, _, _, le_refl, ?_⟩
    refine acodeY_seq ?_
    refine acodeY_yieldG (pre := [_, _, _, _, _, _]) (post := [_, _]) _ (live (es.getD i (((0 : Int), ByteArray.empty, ([] : List Fld)), (0 : Int)))) rfl rfl rfl rfl rfl hab hU hy ?_
    refine And.intro (fun _ => trivial) ?_
    refine And.intro (fun _ => trivial) ?_
    refine ⟨_, _, _, le_refl, ⟨_, rfl, rfl⟩, fun hq => ?_, fun hq => ?_⟩
    · obtain ⟨hk, hx⟩ := itEs_at hlt hq
      refine ⟨hk, ⟨⟨hq, trivial⟩, ⟨hq, trivial⟩, trivial⟩, rfl, hx.symm, by rw [hx]; rfl, fun st => ?_⟩
      refine And.intro (fun _ => ⟨⟨rfl, trivial⟩, trivial⟩) ?_
      refine And.intro (fun h => h) ?_
      refine ⟨_, _, _, le_refl, ?_⟩
      refine acodeY_cond rfl (fun h24 => ?_) (fun h24 => ?_)
      · have h24 : (live (es.getD i (((0 : Int), ByteArray.empty, ([] : List Fld)), (0 : Int))) && !!st) = true := h24
        rw [hq, Bool.true_and, Bool.not_not] at h24
        subst h24
        refine acodeY_ret ?_
        exact ⟨_, .inl rfl, .inl rfl, fun e => by cases e⟩
      · have h24 : (live (es.getD i (((0 : Int), ByteArray.empty, ([] : List Fld)), (0 : Int))) && !!st) = false := h24
        rw [hq, Bool.true_and, Bool.not_not] at h24
        subst h24
        refine acodeY_skip ?_
        refine acodeY_seg hab hU rfl ?_
        refine acode_region ?_
        refine And.intro (by omega) ?_
        refine ⟨_, _, _, le_of (tm' := [(0, .one (.lit (.func (.yield l) #[] #[]))), (10, .one (.slk k rEnt es)), (11, ii .i64 es.length), (12, ii .i64 (i + 1 : Nat))]) (ob' := []) (nx' := 1) ⟨rfl, rfl, rfl, ii_eq (by omega)⟩ trivial rfl, 0, .inr rfl, ⟨i + 1, hlt, by omega, rfl, ?_, rfl, rfl, rfl⟩⟩
        rw [hsn, if_pos hq]
    · refine And.intro (fun h => absurd (h.symm.trans hq) (by decide)) ?_
      refine And.intro (fun h => h) ?_
      refine ⟨_, _, _, le_refl, ?_⟩
      refine acodeY_cond rfl (fun h24 => ?_) (fun h24 => ?_)
      · have h24 : (live (es.getD i (((0 : Int), ByteArray.empty, ([] : List Fld)), (0 : Int))) && _) = true := h24
        rw [hq] at h24
        cases h24
      · refine acodeY_skip ?_
        refine acodeY_seg hab hU rfl ?_
        refine acode_region ?_
        refine And.intro (by omega) ?_
        refine ⟨_, _, _, le_of (tm' := [(0, .one (.lit (.func (.yield l) #[] #[]))), (10, .one (.slk k rEnt es)), (11, ii .i64 es.length), (12, ii .i64 (i + 1 : Nat))]) (ob' := []) (nx' := 1) ⟨rfl, rfl, rfl, ii_eq (by omega)⟩ trivial rfl, 0, .inr rfl, ⟨i + 1, hlt, by omega, rfl, ?_, rfl, rfl, rfl⟩⟩
        rw [hsn, if_neg (by rw [hq]; decide)]
        rfl
  · simp only [decide_eq_false_iff_not] at h13
    refine acodeY_exit ?_
    refine ⟨_, .inl rfl, .inr rfl, fun _ => ?_⟩
    rw [List.take_of_length_le (by omega)]
    simp only [itEs, List.length_map, cntL]
theorem allN_iter : AIter Tryd.prog 91 [.one (.ref (.lit (.pointer none)))] [] := by
  refine aiter_of Tryd.func91 rfl rfl rfl teOk rfl ?_
  intro l ι Pr J U n0 hU hab hy
  refine acodeY_seq ?_
  refine acodeY_seq ?_
  refine acodeY_seg hab hU rfl ?_
  refine acode_region ?_
  refine ⟨_, _, _, le_refl, ?_⟩
  refine acodeY_cond rfl (fun h6 => ?_) (fun h6 => ?_)
  · refine acodeY_ret ?_
    exact ⟨.inl rfl, fun _ => rfl⟩
  · simp at h6
theorem all_c {k : Nat} (L : Lst) : ACall Tryd.prog 74 [.one (.adk k (rLst k) L)] (.one (.clo 91 (.ref (.adk k (rLst k) L)))) := by
  refine acall_of (rs := [2]) Tryd.func74 rfl rfl rfl teOk rfl ?_
  refine acode_seq ?_
  refine acode_region ?_
  refine acode_seq ?_
  refine acode_region ?_
  refine acode_frz [0] ?_
  refine acode_ret ?_
  rfl
theorem allN_c : ACall Tryd.prog 74 [.one (.lit (.pointer none))] (.one (.clo 91 (.ref (.lit (.pointer none))))) := by
  refine acall_of (rs := [2]) Tryd.func74 rfl rfl rfl teOk rfl ?_
  refine acode_seq ?_
  refine acode_region ?_
  refine acode_seq ?_
  refine acode_region ?_
  refine acode_frz [0] ?_
  refine acode_ret ?_
  rfl
end Q
end Ab
end Go.Proofs.YtklhlkhlndhepaaDoor
namespace Go.Proofs.YtklhlkhlndhepaaDoor
open Go.RowKit
namespace Ab
set_option maxRecDepth 100000
namespace Q
def recsT (l : List Itm) : List (List Fld) := (l.filter fun x => decide (x.1 = 3)).map (·.2.2)
theorem recsT_app (a b : List Itm) : recsT (a ++ b) = recsT a ++ recsT b := by simp [recsT]
def fldL (a : List Fld) : List ByteArray := a.flatMap fun f => lineB f.1 f.2
/-- The lines of a list's text. -/
def textT : List (List Fld) → List ByteArray
  | [] => []
  | [a] => fldL a
  | a :: b :: r => fldL a ++ (⟨#[]⟩ :: textT (b :: r))
def GoodS (a : List Fld) : Prop := a ≠ [] ∧ a.length ≤ 40 ∧ ∀ f ∈ a, checkF f = 0
theorem texts_run : ∀ (l : List (List Fld)) (p : PSt), l ≠ [] → (∀ a ∈ l, GoodS a) → Idle p → 0 ≤ p.recs → p.recs + l.length ≤ 400 → ∃ q q2, runS p ((textT l).map mkL) = .inr q ∧ endS q = .inr q2 ∧ recsT q2.its = recsT p.its ++ l
  | [], _, h, _, _, _, _ => absurd rfl h
  | [a], p, _, hg, hi, h0, h4 => by
    obtain ⟨g1, g2, g3⟩ := hg a List.mem_cons_self
    simp only [List.length_singleton] at h4
    obtain ⟨q, e1, e2, e3, e4, e5⟩ := fields_run a p [] g3 (ready_idle hi.1 hi.2.2) (by simpa using g2) (by omega) g1
    obtain ⟨r, q2, f1, f2, f3, f4⟩ := end_run e2 (by simpa using g1) e5
    refine ⟨q, q2, e1, f1, ?_⟩
    rw [f3, recsT_app, e3]
    rfl
  | a :: b :: r, p, _, hg, hi, h0, h4 => by
    obtain ⟨g1, g2, g3⟩ := hg a List.mem_cons_self
    simp only [List.length_cons] at h4
    obtain ⟨q, e1, e2, e3, e4, e5⟩ := fields_run a p [] g3 (ready_idle hi.1 hi.2.2) (by simpa using g2) (by omega) g1
    obtain ⟨x, q2, f1, f2, f3, f4⟩ := blank_run e2 (by simpa using g1) e5
    obtain ⟨q3, q4, i1, i2, i3⟩ := texts_run (b :: r) q2 (by simp) (fun c hc => hg c (List.mem_cons_of_mem _ hc)) f2 (by omega) (by rw [List.length_cons]; omega)
    refine ⟨q3, q4, ?_, i2, ?_⟩
    · unfold textT fldL
      rw [List.map_append, run_app _ _ _ _ e1, List.map_cons]
      simp only [runS, f1]
      exact i1
    · rw [i3, f3, recsT_app, e3, List.append_assoc]
      rfl
theorem textT_no : ∀ (l : List (List Fld)), (∀ a ∈ l, GoodS a) → ∀ t ∈ textT l, (10 : UInt8) ∉ ls t
  | [], _, t, ht => by cases ht
  | [a], hg, t, ht => by
    obtain ⟨f, hf, ht⟩ := List.mem_flatMap.1 (show t ∈ a.flatMap fun f => lineB f.1 f.2 from ht)
    exact lines_no (v := f.2.data.toList) (check_ok ((hg a List.mem_cons_self).2.2 f hf)).1 (ls t) (by rw [← lineB_map2]; exact List.mem_map_of_mem ht)
  | a :: b :: r, hg, t, ht => by
    unfold textT at ht
    rcases List.mem_append.1 ht with ht | ht
    · obtain ⟨f, hf, ht⟩ := List.mem_flatMap.1 (show t ∈ a.flatMap fun f => lineB f.1 f.2 from ht)
      exact lines_no (v := f.2.data.toList) (check_ok ((hg a List.mem_cons_self).2.2 f hf)).1 (ls t) (by rw [← lineB_map2]; exact List.mem_map_of_mem ht)
    · rcases List.mem_cons.1 ht with rfl | ht
      · decide
      · exact textT_no (b :: r) (fun c hc => hg c (List.mem_cons_of_mem _ hc)) t ht
theorem textT_join : ∀ (l : List (List Fld)), endL ((textT l).map ls) = Lib.join (l.map foldL) [10]
  | [] => by rfl
  | [a] => by
    rw [List.map_cons, List.map_nil, Lib.join_one]
    exact endL_flat a
  | a :: b :: r => by
    have ih := textT_join (b :: r)
    rw [List.map_cons] at ih
    rw [List.map_cons, List.map_cons, join_two, ← ih]
    show endL (((a.flatMap fun f => lineB f.1 f.2) ++ (⟨#[]⟩ :: textT (b :: r))).map ls) = _
    rw [List.map_append, List.map_cons]
    have hA := endL_flat a
    unfold endL at hA ⊢
    rw [List.flatMap_append, hA, List.flatMap_cons]
    simp [ls]
/-- What is parsed of a list's text. -/
theorem texts_parse {l : List (List Fld)} (hg : ∀ a ∈ l, GoodS a) (h4 : l.length ≤ 400) : ∃ m, parseS (bytes (Lib.join (l.map foldL) [10])) = .inr m ∧ recsT m = l := by
  by_cases h0 : l = []
  · subst h0
    refine ⟨[], ?_, rfl⟩
    decide +kernel
  · obtain ⟨q, q2, h1, h2, h3⟩ := texts_run l pst0 h0 hg ⟨rfl, rfl, rfl⟩ (by decide) (by show (0 : Int) + _ ≤ _; omega)
    have hno := textT_no l hg
    have hl := lines_of (L := (textT l).map mkL) (fun x hx => by
      obtain ⟨t, ht, rfl⟩ := List.mem_map.1 hx
      exact ⟨rfl, hno t ht⟩)
    rw [glue_mk, textT_join] at hl
    refine ⟨q2.its, parse_of hl h1 h2, ?_⟩
    rw [h3]
    rfl
end Q
end Ab
end Go.Proofs.YtklhlkhlndhepaaDoor
namespace Go.Proofs.YtklhlkhlndhepaaDoor
open Go.RowKit
namespace Ab
set_option maxRecDepth 100000
namespace Q
def badAt : Int → List Fld → Int × Int
  | _, [] => (-9, 0)
  | i, f :: r => if checkF f ≠ 0 then (i, checkF f) else badAt (i + 1) r
/-- Where fields aren't a stanza's, an error's number. -/
def chkR (l : List Fld) : Int × Int := if l = [] then (-9, 2) else if 40 < l.length then (-9, 11) else badAt 0 l
def chkA (l : List Fld) : C := if (chkR l).2 = 0 then .lit .nilIface else if (chkR l).1 = -9 then errN (chkR l).2 else errF (chkR l).1 (chkR l).2
theorem badAt_hit : ∀ (l : List Fld) (i : Nat) (k : Int), i < l.length → (∀ f ∈ l.take i, checkF f = 0) → checkF (l.getD i (ByteArray.empty, ByteArray.empty)) ≠ 0 → badAt k l = (k + i, checkF (l.getD i (ByteArray.empty, ByteArray.empty)))
  | [], i, k, h, _, _ => by simp at h
  | f :: r, 0, k, _, _, hb => by
    unfold badAt
    rw [if_pos (by simpa using hb)]
    simp
  | f :: r, i + 1, k, h, ht, hb => by
    unfold badAt
    rw [if_neg (by simpa using ht f (by simp))]
    rw [badAt_hit r i (k + 1) (by simpa using h) (fun g hg => ht g (by simp [hg])) (by simpa using hb)]
    simp only [List.getD_cons_succ]
    congr 1
    omega
theorem badAt_no : ∀ (l : List Fld) (k : Int), (∀ f ∈ l, checkF f = 0) → badAt k l = (-9, 0)
  | [], _, _ => rfl
  | f :: r, k, h => by
    unfold badAt
    rw [if_neg (by simpa using h f (by simp))]
    exact badAt_no r (k + 1) (fun g hg => h g (by simp [hg]))
theorem chkA_nil {l : List Fld} (h : chkR l = (-9, 0)) : chkA l = .lit .nilIface := by unfold chkA; rw [h]; rfl
theorem chkA_no {l : List Fld} {n : Int} (h : chkR l = (-9, n)) (hn : n ≠ 0) : chkA l = errN n := by unfold chkA; rw [h, if_neg hn, if_pos rfl]
theorem chkA_at {l : List Fld} {i n : Int} (h : chkR l = (i, n)) (hn : n ≠ 0) (hi : 0 ≤ i) : chkA l = errF i n := by unfold chkA; rw [h, if_neg hn, if_neg (by show ¬ i = -9; omega)]
theorem pcheck_c (l : List Fld) (hl : FldsOk l) : ACall Tryd.prog 26 [.one (.sl rFld l)] (.one (chkA l)) := by
  have hln := hl.1
  refine acall_of (rs := [2]) Tryd.func26 rfl rfl rfl teOk rfl ?_
  refine acode_seq ?_
  refine acode_region ?_
  refine acode_seq ?_
  refine acode_block ?_
  refine acode_seq ?_
  refine acode_region ?_
  intro l1_1
  try simp only [Int.toNat_natCast, dflt_sl, dflt_st, dflt_str, dflt_int, dflt_bool] at l1_1
  refine acode_cond rfl (fun h6 => ?_) (fun h6 => ?_)
  · try simp only [decide_eq_true_eq] at h6
    try simp only [Int.toNat_natCast, dflt_sl, dflt_st, dflt_str, dflt_int, dflt_bool] at h6
    refine acode_seq ?_
    refine acode_region ?_
    refine acode_ret ?_
    rw [chkA_no (l := l) (n := 2) (by unfold chkR; rw [if_pos (List.eq_nil_of_length_eq_zero (by omega))]) (by decide)]
    rfl
  · try simp only [decide_eq_false_iff_not] at h6
    try simp only [Int.toNat_natCast, dflt_sl, dflt_st, dflt_str, dflt_int, dflt_bool] at h6
    refine acode_seq ?_
    refine acode_region ?_
    intro l3_1
    try simp only [Int.toNat_natCast, dflt_sl, dflt_st, dflt_str, dflt_int, dflt_bool] at l3_1
    refine acode_cond rfl (fun h11 => ?_) (fun h11 => ?_)
    · try simp only [decide_eq_true_eq] at h11
      try simp only [Int.toNat_natCast, dflt_sl, dflt_st, dflt_str, dflt_int, dflt_bool] at h11
      refine acode_seq ?_
      refine acode_region ?_
      refine acode_ret ?_
      rw [chkA_no (l := l) (n := 11) (by unfold chkR; rw [if_neg (fun e => h6 (by rw [e]; rfl)), if_pos (by omega)]) (by decide)]
      rfl
    · try simp only [decide_eq_false_iff_not, Int.not_lt] at h11
      try simp only [Int.toNat_natCast, dflt_sl, dflt_st, dflt_str, dflt_int, dflt_bool] at h11
      refine acode_skip ?_
      refine acode_seq ?_
      refine acode_seq ?_
      refine acode_region ?_
      intro l5_1
      try simp only [Int.toNat_natCast, dflt_sl, dflt_st, dflt_str, dflt_int, dflt_bool] at l5_1
      refine acode_block ?_
      refine acode_loopP (fun (i : Nat) => i ≤ l.length ∧ ∀ f ∈ l.take i, checkF f = 0) (fun (i : Nat) => [(16, .one (.sl rFld l)), (17, ii .i64 l.length), (18, ii .i64 i)]) (fun (i : Nat) => []) 0 (fun (i : Nat) => l.length - i) 0 (⟨Nat.zero_le _, by simp⟩) (le_of ⟨rfl, rfl, rfl⟩ trivial rfl) ?_
      intro i hI1
      obtain ⟨hi, hall⟩ := hI1
      refine acode_seq ?_
      refine acode_region ?_
      refine acode_seq ?_
      refine acode_cond rfl (fun h19 => ?_) (fun h19 => ?_)
      · try simp only [decide_eq_true_eq] at h19
        try simp only [Int.toNat_natCast, dflt_sl, dflt_st, dflt_str, dflt_int, dflt_bool] at h19
        have hlt : i < l.length := (by omega)
        have hm := hl.2 _ (getD_mem hlt (ByteArray.empty, ByteArray.empty))
        have hne : l ≠ [] := (fun e => by rw [e] at hlt; simp at hlt)
        refine acode_skip ?_
        refine acode_seq ?_
        refine acode_block ?_
        refine acode_seq ?_
        refine acode_region ?_
        refine And.intro (by first | omega | assumption | decide | (simp only [Int.toNat_natCast, dflt_sl, dflt_st, dflt_str, dflt_int, dflt_bool]; omega) | (simp <;> omega)) ?_
        refine acode_seq ?_
        rcases check_cases (l.getD i (ByteArray.empty, ByteArray.empty)) with hc|hc|hc
        · refine acode_region ?_
          refine Or.inl ?_
          refine And.intro (rfl) ?_
          refine Exists.intro _ (And.intro (check_v (l.getD i (ByteArray.empty, ByteArray.empty)) _ (by omega) hc) ?_)
          refine acode_seq ?_
          refine acode_region ?_
          refine acode_cond rfl (fun h26 => ?_) (fun h26 => ?_)
          · skip
            refine acode_seq ?_
            refine acode_region ?_
            refine acode_ret ?_
            rw [chkA_at (l := l) (i := i) (n := 5) (by unfold chkR; rw [if_neg hne, if_neg (by omega), badAt_hit l i 0 hlt hall (by rw [hc]; decide), hc]; simp) (by decide) (by omega)]
            rfl
          · try simp only [decide_eq_true_eq, decide_eq_false_iff_not, Bool.and_eq_true, Bool.not_eq_true', Bool.not_eq_false', Bool.or_eq_false_iff, Bool.or_eq_true, Bool.and_eq_false_iff, Int.not_lt, Int.not_le] at h26
            try simp only [Int.toNat_natCast, dflt_sl, dflt_st, dflt_str, dflt_int, dflt_bool] at h26
            cases h26
        · refine acode_region ?_
          refine Or.inl ?_
          refine And.intro (rfl) ?_
          refine Exists.intro _ (And.intro (check_v (l.getD i (ByteArray.empty, ByteArray.empty)) _ (by omega) hc) ?_)
          refine acode_seq ?_
          refine acode_region ?_
          refine acode_cond rfl (fun h26 => ?_) (fun h26 => ?_)
          · skip
            refine acode_seq ?_
            refine acode_region ?_
            refine acode_ret ?_
            rw [chkA_at (l := l) (i := i) (n := 6) (by unfold chkR; rw [if_neg hne, if_neg (by omega), badAt_hit l i 0 hlt hall (by rw [hc]; decide), hc]; simp) (by decide) (by omega)]
            rfl
          · try simp only [decide_eq_true_eq, decide_eq_false_iff_not, Bool.and_eq_true, Bool.not_eq_true', Bool.not_eq_false', Bool.or_eq_false_iff, Bool.or_eq_true, Bool.and_eq_false_iff, Int.not_lt, Int.not_le] at h26
            try simp only [Int.toNat_natCast, dflt_sl, dflt_st, dflt_str, dflt_int, dflt_bool] at h26
            cases h26
        · refine acode_region ?_
          refine Or.inl ?_
          refine And.intro (rfl) ?_
          refine Exists.intro _ (And.intro (check_v (l.getD i (ByteArray.empty, ByteArray.empty)) _ (by omega) hc) ?_)
          refine acode_seq ?_
          refine acode_region ?_
          refine acode_cond rfl (fun h26 => ?_) (fun h26 => ?_)
          · try simp only [Bool.not_eq_true'] at h26
            try simp only [Int.toNat_natCast, dflt_sl, dflt_st, dflt_str, dflt_int, dflt_bool] at h26
            cases h26
          · try simp only [Bool.not_eq_false'] at h26
            try simp only [Int.toNat_natCast, dflt_sl, dflt_st, dflt_str, dflt_int, dflt_bool] at h26
            refine acode_skip ?_
            refine acode_region ?_
            refine And.intro (by first | omega | assumption | decide | (simp only [Int.toNat_natCast, dflt_sl, dflt_st, dflt_str, dflt_int, dflt_bool]; omega) | (simp <;> omega)) ?_
            exact ⟨i + 1, ⟨by omega, by rw [← take_snoc (ByteArray.empty, ByteArray.empty) hlt]; intro f hf; rcases List.mem_append.1 hf with h|h; exact hall f h; rw [List.mem_singleton.1 h]; exact hc⟩, by first | omega | (simp <;> omega), le_of ⟨rfl, rfl, (ii_eq (by omega))⟩ trivial rfl⟩
      · try simp only [decide_eq_false_iff_not, Int.not_lt] at h19
        try simp only [Int.toNat_natCast, dflt_sl, dflt_st, dflt_str, dflt_int, dflt_bool] at h19
        refine acode_exit ?_
        refine acode_seq ?_
        refine acode_region ?_
        refine acode_ret ?_
        rw [List.take_of_length_le (by omega)] at hall
        rw [chkA_nil (by unfold chkR; rw [if_neg (fun e => h6 (by rw [e]; rfl)), if_neg (by omega)]; exact badAt_no l 0 hall)]
        rfl
theorem badAt_zero : ∀ (l : List Fld) (k : Int), (badAt k l).2 = 0 → (∀ f ∈ l, checkF f = 0)
  | [], _, _, f, hf => by cases hf
  | g :: r, k, h, f, hf => by
    unfold badAt at h
    split at h
    · rename_i hg; exact absurd h hg
    · rename_i hg
      rcases List.mem_cons.1 hf with rfl | hf
      · exact Classical.not_not.1 hg
      · exact badAt_zero r (k + 1) h f hf
theorem chk_good {l : List Fld} (h : (chkR l).2 = 0) : GoodS l ∧ badF l = 0 ∧ chkA l = .lit .nilIface := by
  have hA : chkA l = .lit .nilIface := by unfold chkA; rw [if_pos h]
  unfold chkR at h
  split at h
  · cases h
  · rename_i h0
    split at h
    · cases h
    · rename_i h4
      have := badAt_zero l 0 h
      exact ⟨⟨h0, by omega, this⟩, badF_ok this, hA⟩
theorem chk_bad {l : List Fld} (h : (chkR l).2 ≠ 0) : ∃ e, chkA l = e ∧ ((∃ n, n ≠ 0 ∧ e = errN n ∧ chkR l = (-9, n)) ∨ ∃ i n, n ≠ 0 ∧ e = errF i n ∧ chkR l = (i, n)) := by
  refine ⟨_, rfl, ?_⟩
  unfold chkA
  rw [if_neg h]
  by_cases h9 : (chkR l).1 = -9
  · rw [if_pos h9]
    exact .inl ⟨_, h, rfl, Prod.ext h9 rfl⟩
  · rw [if_neg h9]
    exact .inr ⟨_, _, h, rfl, rfl⟩
theorem pstanza_ok {l : List Fld} (hl : FldsOk l) (h : (chkR l).2 = 0) : ACall Tryd.prog 24 [.one (.sl rFld l)] (.tup [(false, [.lit (.string (bytes (foldL l)))]), (false, [.lit .nilIface])]) := by
  obtain ⟨h1, h2, h3⟩ := chk_good h
  have hc := pcheck_c l hl
  rw [h3] at hc
  refine acall_of (rs := [2, 3]) Tryd.func24 rfl rfl rfl teOk rfl ?_
  refine acode_seq ?_
  refine acode_region ?_
  refine acode_seq ?_
  refine acode_seq ?_
  refine acode_region ?_
  refine Or.inl ?_
  refine And.intro (rfl) ?_
  refine Exists.intro _ (And.intro (hc) ?_)
  refine acode_seq ?_
  refine acode_region ?_
  refine acode_cond rfl (fun h8 => ?_) (fun h8 => ?_)
  · try simp only [Bool.not_eq_true'] at h8
    try simp only [Int.toNat_natCast, dflt_sl, dflt_st, dflt_str, dflt_int, dflt_bool] at h8
    cases h8
  · try simp only [Bool.not_eq_false'] at h8
    try simp only [Int.toNat_natCast, dflt_sl, dflt_st, dflt_str, dflt_int, dflt_bool] at h8
    refine acode_skip ?_
    refine acode_seq ?_
    refine acode_region ?_
    refine Or.inl ?_
    refine And.intro (rfl) ?_
    refine Exists.intro _ (And.intro (fold_yes hl h2) ?_)
    refine acode_ret ?_
    rfl
theorem pstanza_err {l : List Fld} (hl : FldsOk l) (h : (chkR l).2 ≠ 0) : ACall Tryd.prog 24 [.one (.sl rFld l)] (.tup [(false, [.lit (.string ⟨#[]⟩)]), (false, [chkA l])]) := by
  have hc := pcheck_c l hl
  obtain ⟨e, he, hs⟩ := chk_bad h
  rw [he] at hc ⊢
  rcases hs with ⟨n, hn, rfl, _⟩ | ⟨i, n, hn, rfl, _⟩
  ·
    refine acall_of (rs := [2, 3]) Tryd.func24 rfl rfl rfl teOk rfl ?_
    refine acode_seq ?_
    refine acode_region ?_
    refine acode_seq ?_
    refine acode_seq ?_
    refine acode_region ?_
    refine Or.inl ?_
    refine And.intro (rfl) ?_
    refine Exists.intro _ (And.intro (hc) ?_)
    refine acode_seq ?_
    refine acode_region ?_
    refine acode_cond rfl (fun h8 => ?_) (fun h8 => ?_)
    · skip
      refine acode_seq ?_
      refine acode_region ?_
      refine acode_ret ?_
      rfl
    · try simp only [decide_eq_true_eq, decide_eq_false_iff_not, Bool.and_eq_true, Bool.not_eq_true', Bool.not_eq_false', Bool.or_eq_false_iff, Bool.or_eq_true, Bool.and_eq_false_iff, Int.not_lt, Int.not_le] at h8
      try simp only [Int.toNat_natCast, dflt_sl, dflt_st, dflt_str, dflt_int, dflt_bool] at h8
      cases h8
  ·
    refine acall_of (rs := [2, 3]) Tryd.func24 rfl rfl rfl teOk rfl ?_
    refine acode_seq ?_
    refine acode_region ?_
    refine acode_seq ?_
    refine acode_seq ?_
    refine acode_region ?_
    refine Or.inl ?_
    refine And.intro (rfl) ?_
    refine Exists.intro _ (And.intro (hc) ?_)
    refine acode_seq ?_
    refine acode_region ?_
    refine acode_cond rfl (fun h8 => ?_) (fun h8 => ?_)
    · skip
      refine acode_seq ?_
      refine acode_region ?_
      refine acode_ret ?_
      rfl
    · try simp only [decide_eq_true_eq, decide_eq_false_iff_not, Bool.and_eq_true, Bool.not_eq_true', Bool.not_eq_false', Bool.or_eq_false_iff, Bool.or_eq_true, Bool.and_eq_false_iff, Int.not_lt, Int.not_le] at h8
      try simp only [Int.toNat_natCast, dflt_sl, dflt_st, dflt_str, dflt_int, dflt_bool] at h8
      cases h8
theorem foldG_len {a : List Fld} (h : GoodS a) : (foldL a).length ≤ 40 * 5000000 :=
  Nat.le_trans (flat_le textL 5000000 a fun f hf => (text_len (h.2.2 f hf)).1) (Nat.mul_le_mul_right _ h.2.1)
theorem map_foldB (l : List (List Fld)) : (l.map fun a => bytes (foldL a)).map (·.data.toList) = l.map foldL := by
  rw [List.map_map]
  exact List.map_congr_left fun a _ => bytes_list _
theorem joinG_len {l : List (List Fld)} (h : ∀ a ∈ l, GoodS a) (hl : l.length ≤ 1000) : (Lib.join ((l.map fun a => bytes (foldL a)).map (·.data.toList)) [10]).length ≤ 140737488355328 := by
  rw [map_foldB]
  refine Nat.le_trans (joinL_len 10 _) ?_
  rw [List.map_map, List.length_map]
  have h1 : ∀ m : List (List Fld), (∀ a ∈ m, GoodS a) → (m.map ((·.length) ∘ foldL)).sum ≤ m.length * 200000000 := by
    intro m
    induction m with
    | nil => intro _; simp
    | cons a r ih =>
      intro hm
      have h2 := ih fun b hb => hm b (List.mem_cons_of_mem _ hb)
      have h3 := foldG_len (hm a List.mem_cons_self)
      simp only [List.map_cons, List.sum_cons, List.length_cons, Function.comp_apply]
      omega
  have := h1 l h
  omega
end Q
end Ab
end Go.Proofs.YtklhlkhlndhepaaDoor
namespace Go.Proofs.YtklhlkhlndhepaaDoor
open Go.RowKit
namespace Ab
set_option maxRecDepth 100000
namespace Q
theorem clone_c {k : Nat} (l : List Fld) (hl : l.length ≤ 1000000) : ACall Tryd.prog 46 [.one (.slk k rFld l)] (.one (.sl rFld l)) := by
  refine acall_of (rs := [2]) Tryd.func46 rfl rfl rfl teOk rfl ?_
  refine acode_seq ?_
  refine acode_region ?_
  refine acode_seq ?_
  refine acode_seq ?_
  refine acode_isnil (q := k) [_] _ (R := rFld) (xs := l) rfl rfl rfl rfl (e := 69) rfl rfl ?_
  refine ⟨rfl, fun b hb => ?_⟩
  refine acode_cond rfl (fun h4 => ?_) (fun h4 => ?_)
  · have hl0 := hb h4
    subst hl0
    refine acode_seq ?_
    refine acode_region ?_
    refine acode_nilvec 2 69 rFld rfl ?_
    refine acode_ret ?_
    rfl
  · refine acode_skip ?_
    refine acode_seq ?_
    refine acode_region ?_
    refine And.intro (by first | exact app_le (show l.length ≤ 1000000000 by omega) (by decide) | exact app_le (show 0 + l.length ≤ 1000000000 by omega) (by decide)) ?_
    refine acode_ret ?_
    rfl
theorem copied_c (x : Itm) (hx : x.2.2.length ≤ 1000000) : ACall Tryd.prog 41 [.agg (toL rItm x)] (.agg (toL rItm x)) := by
  refine acall_ofc (rs := [.cell 2 26]) Tryd.func41 rfl rfl rfl teOk rfl ?_
  refine acode_seq ?_
  refine acode_region ?_
  refine acode_seq ?_
  refine acode_region ?_
  refine Or.inl ?_
  refine And.intro (rfl) ?_
  refine Exists.intro _ (And.intro (clone_c x.2.2 hx) ?_)
  refine acode_seq ?_
  refine acode_region ?_
  refine acode_ret ?_
  rfl
theorem render_c (l m : List Itm) (hm : m.length ≤ 1000000) (hs : szI m ≤ 1000000) (ha : ACall Tryd.prog 9 [.one (.sl rItm l)] (.one (.sl rItm m))) : ACall Tryd.prog 12 [.one (.sl rItm l)] (is (bytes (rawsL m))) := by
  refine acall_of (rs := [2]) Tryd.func12 rfl rfl rfl teOk rfl ?_
  refine acode_seq ?_
  refine acode_region ?_
  refine acode_seq ?_
  refine acode_region ?_
  refine Or.inl ?_
  refine And.intro (rfl) ?_
  refine Exists.intro _ (And.intro (ha) ?_)
  refine Or.inl ?_
  refine And.intro (rfl) ?_
  refine Exists.intro _ (And.intro (joinI_c m hm hs) ?_)
  refine acode_ret ?_
  rfl
theorem apartK_snoc : ∀ (l : List Itm) (k : Int) (x : Itm), apartK k (l ++ [x]) = apartK k l ++ (if lastK k l ≠ 1 ∧ x.1 ≠ 1 then [(1, ⟨#[10]⟩, []), x] else [x])
  | [], k, x => by
    unfold lastK
    rw [List.nil_append]
    unfold apartK
    by_cases h : k ≠ 1 ∧ x.1 ≠ 1
    · rw [if_pos h, if_pos h]; rfl
    · rw [if_neg h, if_neg h]; rfl
  | y :: r, k, x => by
    have ih := apartK_snoc r y.1 x
    rw [List.cons_append]
    unfold apartK lastK
    rw [ih]
    by_cases h : k ≠ 1 ∧ y.1 ≠ 1
    · rw [if_pos h, if_pos h]; rfl
    · rw [if_neg h, if_neg h]; rfl
theorem lastK_take {l : List Itm} {i : Nat} (h : i < l.length) (k : Int) : lastK k (l.take (i + 1)) = (l.getD i ((0 : Int), ByteArray.empty, ([] : List Fld))).1 := by
  rw [List.take_succ_eq_append_getElem h, lastK_app, getD_get h ((0 : Int), ByteArray.empty, ([] : List Fld))]
  rfl
theorem apart_snoc (l : List Itm) (i : Nat) (h : i < l.length) : apartL (l.take (i + 1)) = apartL (l.take i) ++ (if (0 < i ∧ (l.getD (i - 1) ((0 : Int), ByteArray.empty, ([] : List Fld))).1 ≠ 1) ∧ (l.getD i ((0 : Int), ByteArray.empty, ([] : List Fld))).1 ≠ 1 then [(1, ⟨#[10]⟩, []), l.getD i ((0 : Int), ByteArray.empty, ([] : List Fld))] else [l.getD i ((0 : Int), ByteArray.empty, ([] : List Fld))]) := by
  unfold apartL
  rw [List.take_succ_eq_append_getElem h, apartK_snoc, getD_get h ((0 : Int), ByteArray.empty, ([] : List Fld))]
  have e : lastK 1 (l.take i) ≠ 1 ↔ (0 < i ∧ (l.getD (i - 1) ((0 : Int), ByteArray.empty, ([] : List Fld))).1 ≠ 1) := by
    cases i with
    | zero => simp [lastK]
    | succ i => rw [lastK_take (by omega), Nat.add_sub_cancel]; simp
  congr 1
  by_cases hh : lastK 1 (l.take i) ≠ 1 ∧ (l.getD i ((0 : Int), ByteArray.empty, ([] : List Fld))).1 ≠ 1
  · rw [if_pos hh, if_pos ⟨e.1 hh.1, hh.2⟩]
  · rw [if_neg hh, if_neg (fun g => hh ⟨e.2 g.1, g.2⟩)]
theorem apartK_len : ∀ (l : List Itm) (k : Int), (apartK k l).length ≤ 2 * l.length
  | [], _ => by simp [apartK]
  | x :: r, k => by
    have := apartK_len r x.1
    unfold apartK
    split <;> (simp only [List.length_cons]; omega)
theorem apart_c (l : List Itm) (hl : l.length ≤ 1000000) (hf : ∀ x ∈ l, x.2.2.length ≤ 1000000) : ACall Tryd.prog 9 [.one (.sl rItm l)] (.one (.sl rItm (apartL l))) := by
  refine acall_of (rs := [2]) Tryd.func9 rfl rfl rfl teOk rfl ?_
  refine acode_seq ?_
  refine acode_region ?_
  refine acode_seq ?_
  refine acode_region ?_
  refine acode_seq ?_
  refine acode_seq ?_
  refine acode_nilvec 3 26 rItm rfl ?_
  refine acode_region ?_
  intro l2_1
  try simp only [Int.toNat_natCast, dflt_sl, dflt_st, dflt_str, dflt_int, dflt_bool] at l2_1
  refine acode_block ?_
  refine acode_loopP (fun (i : Nat) => i ≤ l.length) (fun (i : Nat) => [(0, .one (.sl rItm l)), (3, .one (.vec 0)), (6, .one (.sl rItm l)), (7, ii .i64 l.length), (8, ii .i64 i)]) (fun (i : Nat) => [(0, .vec 26 rItm (apartL (l.take i)))]) 1 (fun (i : Nat) => l.length - i) 0 (Nat.zero_le _) (le_of ⟨rfl, rfl, rfl, rfl, rfl⟩ rfl rfl) ?_
  intro i hI0
  refine acode_seq ?_
  refine acode_region ?_
  refine acode_seq ?_
  refine acode_cond rfl (fun h9 => ?_) (fun h9 => ?_)
  · try simp only [decide_eq_true_eq] at h9
    try simp only [Int.toNat_natCast, dflt_sl, dflt_st, dflt_str, dflt_int, dflt_bool] at h9
    have hil : i < l.length := (by omega)
    have hsn := apart_snoc l i hil
    have hal := apartK_len (l.take i) 1
    rw [List.length_take] at hal
    have hal : (apartL (l.take i)).length ≤ 2 * min i l.length := hal
    have e1 : ((i : Int) - 1).toNat = i - 1 := (by omega)
    refine acode_skip ?_
    refine acode_seq ?_
    refine acode_block ?_
    refine acode_seq ?_
    refine acode_region ?_
    refine And.intro (by first | omega | assumption | decide | (simp only [Int.toNat_natCast, dflt_sl, dflt_st, dflt_str, dflt_int, dflt_bool]; omega) | (simp <;> omega)) ?_
    refine acode_seq ?_
    refine acode_seq ?_
    refine acode_region ?_
    refine And.intro (fun h => trivial) ?_
    refine And.intro (fun h => ⟨⟨h, trivial⟩, trivial⟩) ?_
    refine And.intro (fun h => ⟨⟨h, trivial⟩, trivial⟩) ?_
    refine And.intro (by exact fun h => h) ?_
    refine And.intro (fun h => trivial) ?_
    refine And.intro (fun h => trivial) ?_
    refine And.intro (fun h => ⟨⟨⟨h, trivial⟩, trivial⟩, by first | omega | decide | (simp only [Int.toNat_natCast, dflt_sl, dflt_st, dflt_str, dflt_int, dflt_bool]; omega) | (have h9 := of_decide_eq_true h; omega) | (simp [gq] at h; omega)⟩) ?_
    refine And.intro (fun h => ⟨⟨⟨h, trivial⟩, ⟨h, trivial⟩, trivial⟩, by first | omega | decide | (simp only [Int.toNat_natCast, dflt_sl, dflt_st, dflt_str, dflt_int, dflt_bool]; omega) | (have h9 := of_decide_eq_true h; omega) | (simp [gq] at h; omega)⟩) ?_
    refine And.intro (fun h => ⟨⟨h, trivial⟩, trivial⟩) ?_
    refine And.intro (fun h => ⟨⟨h, trivial⟩, trivial⟩) ?_
    refine And.intro (fun h => ⟨⟨h, trivial⟩, trivial⟩) ?_
    refine And.intro (by exact fun h => h) ?_
    refine acode_cond rfl (fun h28 => ?_) (fun h28 => ?_)
    · try simp only [decide_eq_true_eq, decide_eq_false_iff_not, Bool.and_eq_true, Bool.not_eq_true'] at h28
      try simp only [Int.toNat_natCast, dflt_sl, dflt_st, dflt_str, dflt_int] at h28
      rw [e1] at h28
      rw [if_pos ⟨⟨by omega, h28.2⟩, h28.1.2⟩] at hsn
      refine acode_region ?_
      refine And.intro (by exact app_le (show (apartL (l.take i)).length + 1 ≤ 1000000000 by omega) (by decide)) ?_
      refine acode_region ?_
      refine Or.inl ?_
      refine And.intro (rfl) ?_
      refine Exists.intro _ (And.intro (copied_c (l.getD i ((0 : Int), ByteArray.empty, ([] : List Fld))) (hf _ (getD_mem hil ((0 : Int), ByteArray.empty, ([] : List Fld))))) ?_)
      refine And.intro (by exact app_le (by rw [List.length_append]; show (apartL (l.take i)).length + 1 + 1 ≤ 1000000000; omega) (by decide)) ?_
      refine acode_region ?_
      refine And.intro (by first | omega | assumption | decide | (simp only [Int.toNat_natCast, dflt_sl, dflt_st, dflt_str, dflt_int, dflt_bool]; omega) | (simp <;> omega)) ?_
      exact ⟨i + 1, by omega, by first | omega | (simp <;> omega), le_of ⟨rfl, rfl, rfl, rfl, (ii_eq (by omega))⟩ (vec_eq (by rw [hsn]; (try rw [List.append_assoc]); (try exact rfl))) rfl⟩
    · try simp only [decide_eq_true_eq, decide_eq_false_iff_not, Bool.not_eq_false', Bool.and_eq_false_iff, Int.not_lt] at h28
      try simp only [Int.toNat_natCast, dflt_sl, dflt_st, dflt_str, dflt_int] at h28
      rw [e1] at h28
      rw [if_neg (fun h => h28.elim (fun g => g.elim (fun g => by omega) (fun g => h.2 g)) (fun g => h.1.2 g))] at hsn
      refine acode_skip ?_
      refine acode_region ?_
      refine Or.inl ?_
      refine And.intro (rfl) ?_
      refine Exists.intro _ (And.intro (copied_c (l.getD i ((0 : Int), ByteArray.empty, ([] : List Fld))) (hf _ (getD_mem hil ((0 : Int), ByteArray.empty, ([] : List Fld))))) ?_)
      refine And.intro (by exact app_le (show (apartL (l.take i)).length + 1 ≤ 1000000000 by omega) (by decide)) ?_
      refine acode_region ?_
      refine And.intro (by first | omega | assumption | decide | (simp only [Int.toNat_natCast, dflt_sl, dflt_st, dflt_str, dflt_int, dflt_bool]; omega) | (simp <;> omega)) ?_
      exact ⟨i + 1, by omega, by first | omega | (simp <;> omega), le_of ⟨rfl, rfl, rfl, rfl, (ii_eq (by omega))⟩ (vec_eq (by rw [hsn]; (try rw [List.append_assoc]); (try exact rfl))) rfl⟩
  · try simp only [decide_eq_false_iff_not, Int.not_lt] at h9
    try simp only [Int.toNat_natCast, dflt_sl, dflt_st, dflt_str, dflt_int, dflt_bool] at h9
    refine acode_exit ?_
    refine acode_seq ?_
    refine acode_region ?_
    refine acode_ret ?_
    rw [List.take_of_length_le (by omega)]
    rfl
def al6 : List (List Fld) := [[(⟨#[65]⟩, ⟨#[49]⟩)], [(⟨#[66]⟩, ⟨#[50]⟩)]]
theorem al6_chk : ∀ a ∈ al6, (chkR a).2 = 0 := by
  intro a ha
  unfold al6 at ha
  simp only [List.mem_cons, List.not_mem_nil, or_false] at ha
  rcases ha with rfl | rfl <;> decide +kernel
theorem al6_text : bytes (Lib.join (al6.map foldL) [10]) = ⟨#[65, 58, 32, 49, 10, 10, 66, 58, 32, 50, 10]⟩ := by decide +kernel
end Q
end Ab
end Go.Proofs.YtklhlkhlndhepaaDoor
namespace Go.Proofs.YtklhlkhlndhepaaDoor
open Go.RowKit
namespace Ab
set_option maxRecDepth 100000
namespace Q
theorem itEs_len (es : List Ent) : (itEs es).length = (es.filter live).length := List.length_map _
theorem itEs_get (es : List Ent) {i : Nat} (h : i < (itEs es).length) : ∃ e ∈ es, (es.filter live).getD i (((0 : Int), ByteArray.empty, ([] : List Fld)), (0 : Int)) = e ∧ i < (es.filter live).length ∧ (itEs es)[i] = [A.agg (toL rEnt e)] := by
  have h1 : i < (es.filter live).length := by rw [← itEs_len]; exact h
  refine ⟨_, (List.mem_filter.1 (getD_mem h1 (((0 : Int), ByteArray.empty, ([] : List Fld)), (0 : Int)))).1, rfl, h1, ?_⟩
  exact (List.getElem_map (fun e => [A.agg (toL rEnt e)])).trans (congrArg (fun e => [A.agg (toL rEnt e)]) (getD_get h1 (((0 : Int), ByteArray.empty, ([] : List Fld)), (0 : Int))))
def stT (es : List Ent) (i : Nat) : List Stz := ((es.filter live).take i).map stzOf
theorem stT_snoc {es : List Ent} {i : Nat} (h : i < (es.filter live).length) : stT es (i + 1) = stT es i ++ [stzOf ((es.filter live).getD i (((0 : Int), ByteArray.empty, ([] : List Fld)), (0 : Int)))] := by
  unfold stT
  rw [← take_snoc (((0 : Int), ByteArray.empty, ([] : List Fld)), (0 : Int)) h, List.map_append]
  rfl
theorem stT_len {es : List Ent} {i : Nat} : (stT es i).length ≤ i := by
  unfold stT
  rw [List.length_map, List.length_take]
  omega
theorem live_len (es : List Ent) : (es.filter live).length ≤ es.length := List.length_filter_le _ _
theorem stanzasL_c {k : Nat} (es : List Ent) (n m : Int) (hl : es.length ≤ 1000000) (hf : ∀ e ∈ es, e.1.2.2.length ≤ 1000000) : ACall Tryd.prog 56 [.one (.adk k (rLst k) (es, n, m))] (.one (.sl rStz (stzL es))) := by
  have hll := live_len es
  refine acall_of (rs := [2]) Tryd.func56 rfl rfl rfl teOk rfl ?_
  refine acode_seq ?_
  refine acode_region ?_
  refine acode_seq ?_
  refine acode_region ?_
  refine acode_seq ?_
  refine acode_seq ?_
  refine acode_region ?_
  refine Or.inl ?_
  refine And.intro (rfl) ?_
  refine Exists.intro _ (And.intro (all_c (es, n, m)) ?_)
  refine acode_block ?_
  refine acode_nilcell 0 0 118 rStz rfl rfl rfl ?_
  refine acode_range (caps := [.one (.ref (.adk k (rLst k) (es, n, m)))]) (xs := itEs es) [(3, .one (.own 0 0)), (6, .one (.clo 91 (.ref (.adk k (rLst k) (es, n, m)))))] 2 (fun st j (i : Nat) => st = false ∧ i = j) (fun i => [(0, .box 111 [.vec 1]), (1, .vec 118 rStz (stT es i))]) (fun _ => .ret) 0 rfl rfl (all_iter es n m) (le_of ⟨rfl, rfl⟩ ⟨rfl, rfl⟩ rfl) ⟨rfl, rfl⟩ (fun j hj => by simp [itEs]) rfl rfl rfl (fun _ _ _ => rfl) rfl ?_ ?_ ?_
  · intro j i hk hp
    obtain ⟨_, rfl⟩ := hp
    obtain ⟨e, he, hg, hi, hx⟩ := itEs_get es hk
    rw [hx]
    have hsn := stT_snoc hi
    rw [hg] at hsn
    have hsl := @stT_len es i
    refine acode_region ?_
    refine acode_block ?_
    refine acode_ord rfl ?_
    refine aord_light 1 rfl rfl rfl (by kernel_rfl) ?_
    refine aord_light 3 rfl rfl rfl (by kernel_rfl) ?_
    refine aord_light 4 rfl rfl rfl (by kernel_rfl) ?_
    refine aord_all [0, 2, 5] (by kernel_rfl) rfl ?_
    refine And.intro ?_ ?_
    · refine aord_all [2, 5] (by kernel_rfl) rfl ?_
      refine And.intro ?_ ?_
      · refine aord_all [5] (by kernel_rfl) rfl ?_
        refine aord_all [6] (by kernel_rfl) rfl ?_
        refine Or.inl ?_
        refine And.intro (rfl) ?_
        refine Exists.intro _ (And.intro (clone_c e.1.2.2 (hf e he)) ?_)
        refine aord_all [7] (by kernel_rfl) rfl ?_
        refine aord_all [8] (by kernel_rfl) rfl ?_
        refine aord_all [9] (by kernel_rfl) rfl ?_
        refine And.intro (by exact app_le (show (stT es i).length + 1 ≤ 1000000000 by omega) (by decide)) ?_
        refine aord_all [10] (by kernel_rfl) rfl ?_
        refine aord_done (by kernel_rfl) ?_
        exact ⟨i + 1, ⟨rfl, rfl⟩, le_of trivial ⟨rfl, vec_eq (by rw [hsn]; exact rfl)⟩ rfl⟩
      · refine aord_all [2, 6] (by kernel_rfl) rfl ?_
        refine And.intro ?_ ?_
        · refine aord_all [6] (by kernel_rfl) rfl ?_
          refine Or.inl ?_
          refine And.intro (rfl) ?_
          refine Exists.intro _ (And.intro (clone_c e.1.2.2 (hf e he)) ?_)
          refine aord_all [7] (by kernel_rfl) rfl ?_
          refine aord_all [8] (by kernel_rfl) rfl ?_
          refine aord_all [9] (by kernel_rfl) rfl ?_
          refine And.intro (by exact app_le (show (stT es i).length + 1 ≤ 1000000000 by omega) (by decide)) ?_
          refine aord_all [10] (by kernel_rfl) rfl ?_
          refine aord_done (by kernel_rfl) ?_
          exact ⟨i + 1, ⟨rfl, rfl⟩, le_of trivial ⟨rfl, vec_eq (by rw [hsn]; exact rfl)⟩ rfl⟩
        · refine Or.inl ?_
          refine And.intro (rfl) ?_
          refine Exists.intro _ (And.intro (clone_c e.1.2.2 (hf e he)) ?_)
          refine aord_all [2] (by kernel_rfl) rfl ?_
          refine aord_all [7] (by kernel_rfl) rfl ?_
          refine aord_all [8] (by kernel_rfl) rfl ?_
          refine aord_all [9] (by kernel_rfl) rfl ?_
          refine And.intro (by exact app_le (show (stT es i).length + 1 ≤ 1000000000 by omega) (by decide)) ?_
          refine aord_all [10] (by kernel_rfl) rfl ?_
          refine aord_done (by kernel_rfl) ?_
          exact ⟨i + 1, ⟨rfl, rfl⟩, le_of trivial ⟨rfl, vec_eq (by rw [hsn]; exact rfl)⟩ rfl⟩
    refine And.intro ?_ ?_
    · refine aord_all [0, 5] (by kernel_rfl) rfl ?_
      refine And.intro ?_ ?_
      · refine aord_all [5] (by kernel_rfl) rfl ?_
        refine aord_all [6] (by kernel_rfl) rfl ?_
        refine Or.inl ?_
        refine And.intro (rfl) ?_
        refine Exists.intro _ (And.intro (clone_c e.1.2.2 (hf e he)) ?_)
        refine aord_all [7] (by kernel_rfl) rfl ?_
        refine aord_all [8] (by kernel_rfl) rfl ?_
        refine aord_all [9] (by kernel_rfl) rfl ?_
        refine And.intro (by exact app_le (show (stT es i).length + 1 ≤ 1000000000 by omega) (by decide)) ?_
        refine aord_all [10] (by kernel_rfl) rfl ?_
        refine aord_done (by kernel_rfl) ?_
        exact ⟨i + 1, ⟨rfl, rfl⟩, le_of trivial ⟨rfl, vec_eq (by rw [hsn]; exact rfl)⟩ rfl⟩
      · refine aord_all [0, 6] (by kernel_rfl) rfl ?_
        refine And.intro ?_ ?_
        · refine aord_all [6] (by kernel_rfl) rfl ?_
          refine Or.inl ?_
          refine And.intro (rfl) ?_
          refine Exists.intro _ (And.intro (clone_c e.1.2.2 (hf e he)) ?_)
          refine aord_all [7] (by kernel_rfl) rfl ?_
          refine aord_all [8] (by kernel_rfl) rfl ?_
          refine aord_all [9] (by kernel_rfl) rfl ?_
          refine And.intro (by exact app_le (show (stT es i).length + 1 ≤ 1000000000 by omega) (by decide)) ?_
          refine aord_all [10] (by kernel_rfl) rfl ?_
          refine aord_done (by kernel_rfl) ?_
          exact ⟨i + 1, ⟨rfl, rfl⟩, le_of trivial ⟨rfl, vec_eq (by rw [hsn]; exact rfl)⟩ rfl⟩
        · refine Or.inl ?_
          refine And.intro (rfl) ?_
          refine Exists.intro _ (And.intro (clone_c e.1.2.2 (hf e he)) ?_)
          refine aord_all [0, 7] (by kernel_rfl) rfl ?_
          refine And.intro ?_ ?_
          · refine aord_all [7] (by kernel_rfl) rfl ?_
            refine aord_all [8] (by kernel_rfl) rfl ?_
            refine aord_all [9] (by kernel_rfl) rfl ?_
            refine And.intro (by exact app_le (show (stT es i).length + 1 ≤ 1000000000 by omega) (by decide)) ?_
            refine aord_all [10] (by kernel_rfl) rfl ?_
            refine aord_done (by kernel_rfl) ?_
            exact ⟨i + 1, ⟨rfl, rfl⟩, le_of trivial ⟨rfl, vec_eq (by rw [hsn]; exact rfl)⟩ rfl⟩
          · refine aord_all [0, 8] (by kernel_rfl) rfl ?_
            refine And.intro ?_ ?_
            · refine aord_all [8] (by kernel_rfl) rfl ?_
              refine aord_all [9] (by kernel_rfl) rfl ?_
              refine And.intro (by exact app_le (show (stT es i).length + 1 ≤ 1000000000 by omega) (by decide)) ?_
              refine aord_all [10] (by kernel_rfl) rfl ?_
              refine aord_done (by kernel_rfl) ?_
              exact ⟨i + 1, ⟨rfl, rfl⟩, le_of trivial ⟨rfl, vec_eq (by rw [hsn]; exact rfl)⟩ rfl⟩
            · refine aord_all [0] (by kernel_rfl) rfl ?_
              refine aord_all [9] (by kernel_rfl) rfl ?_
              refine And.intro (by exact app_le (show (stT es i).length + 1 ≤ 1000000000 by omega) (by decide)) ?_
              refine aord_all [10] (by kernel_rfl) rfl ?_
              refine aord_done (by kernel_rfl) ?_
              exact ⟨i + 1, ⟨rfl, rfl⟩, le_of trivial ⟨rfl, vec_eq (by rw [hsn]; exact rfl)⟩ rfl⟩
    · refine aord_all [0, 2, 6] (by kernel_rfl) rfl ?_
      refine And.intro ?_ ?_
      · refine aord_all [2, 6] (by kernel_rfl) rfl ?_
        refine And.intro ?_ ?_
        · refine aord_all [6] (by kernel_rfl) rfl ?_
          refine Or.inl ?_
          refine And.intro (rfl) ?_
          refine Exists.intro _ (And.intro (clone_c e.1.2.2 (hf e he)) ?_)
          refine aord_all [7] (by kernel_rfl) rfl ?_
          refine aord_all [8] (by kernel_rfl) rfl ?_
          refine aord_all [9] (by kernel_rfl) rfl ?_
          refine And.intro (by exact app_le (show (stT es i).length + 1 ≤ 1000000000 by omega) (by decide)) ?_
          refine aord_all [10] (by kernel_rfl) rfl ?_
          refine aord_done (by kernel_rfl) ?_
          exact ⟨i + 1, ⟨rfl, rfl⟩, le_of trivial ⟨rfl, vec_eq (by rw [hsn]; exact rfl)⟩ rfl⟩
        · refine Or.inl ?_
          refine And.intro (rfl) ?_
          refine Exists.intro _ (And.intro (clone_c e.1.2.2 (hf e he)) ?_)
          refine aord_all [2] (by kernel_rfl) rfl ?_
          refine aord_all [7] (by kernel_rfl) rfl ?_
          refine aord_all [8] (by kernel_rfl) rfl ?_
          refine aord_all [9] (by kernel_rfl) rfl ?_
          refine And.intro (by exact app_le (show (stT es i).length + 1 ≤ 1000000000 by omega) (by decide)) ?_
          refine aord_all [10] (by kernel_rfl) rfl ?_
          refine aord_done (by kernel_rfl) ?_
          exact ⟨i + 1, ⟨rfl, rfl⟩, le_of trivial ⟨rfl, vec_eq (by rw [hsn]; exact rfl)⟩ rfl⟩
      refine And.intro ?_ ?_
      · refine aord_all [0, 6] (by kernel_rfl) rfl ?_
        refine And.intro ?_ ?_
        · refine aord_all [6] (by kernel_rfl) rfl ?_
          refine Or.inl ?_
          refine And.intro (rfl) ?_
          refine Exists.intro _ (And.intro (clone_c e.1.2.2 (hf e he)) ?_)
          refine aord_all [7] (by kernel_rfl) rfl ?_
          refine aord_all [8] (by kernel_rfl) rfl ?_
          refine aord_all [9] (by kernel_rfl) rfl ?_
          refine And.intro (by exact app_le (show (stT es i).length + 1 ≤ 1000000000 by omega) (by decide)) ?_
          refine aord_all [10] (by kernel_rfl) rfl ?_
          refine aord_done (by kernel_rfl) ?_
          exact ⟨i + 1, ⟨rfl, rfl⟩, le_of trivial ⟨rfl, vec_eq (by rw [hsn]; exact rfl)⟩ rfl⟩
        · refine Or.inl ?_
          refine And.intro (rfl) ?_
          refine Exists.intro _ (And.intro (clone_c e.1.2.2 (hf e he)) ?_)
          refine aord_all [0, 7] (by kernel_rfl) rfl ?_
          refine And.intro ?_ ?_
          · refine aord_all [7] (by kernel_rfl) rfl ?_
            refine aord_all [8] (by kernel_rfl) rfl ?_
            refine aord_all [9] (by kernel_rfl) rfl ?_
            refine And.intro (by exact app_le (show (stT es i).length + 1 ≤ 1000000000 by omega) (by decide)) ?_
            refine aord_all [10] (by kernel_rfl) rfl ?_
            refine aord_done (by kernel_rfl) ?_
            exact ⟨i + 1, ⟨rfl, rfl⟩, le_of trivial ⟨rfl, vec_eq (by rw [hsn]; exact rfl)⟩ rfl⟩
          · refine aord_all [0, 8] (by kernel_rfl) rfl ?_
            refine And.intro ?_ ?_
            · refine aord_all [8] (by kernel_rfl) rfl ?_
              refine aord_all [9] (by kernel_rfl) rfl ?_
              refine And.intro (by exact app_le (show (stT es i).length + 1 ≤ 1000000000 by omega) (by decide)) ?_
              refine aord_all [10] (by kernel_rfl) rfl ?_
              refine aord_done (by kernel_rfl) ?_
              exact ⟨i + 1, ⟨rfl, rfl⟩, le_of trivial ⟨rfl, vec_eq (by rw [hsn]; exact rfl)⟩ rfl⟩
            · refine aord_all [0] (by kernel_rfl) rfl ?_
              refine aord_all [9] (by kernel_rfl) rfl ?_
              refine And.intro (by exact app_le (show (stT es i).length + 1 ≤ 1000000000 by omega) (by decide)) ?_
              refine aord_all [10] (by kernel_rfl) rfl ?_
              refine aord_done (by kernel_rfl) ?_
              exact ⟨i + 1, ⟨rfl, rfl⟩, le_of trivial ⟨rfl, vec_eq (by rw [hsn]; exact rfl)⟩ rfl⟩
      · refine Or.inl ?_
        refine And.intro (rfl) ?_
        refine Exists.intro _ (And.intro (clone_c e.1.2.2 (hf e he)) ?_)
        refine aord_all [0, 2] (by kernel_rfl) rfl ?_
        refine And.intro ?_ ?_
        · refine aord_all [2] (by kernel_rfl) rfl ?_
          refine aord_all [7] (by kernel_rfl) rfl ?_
          refine aord_all [8] (by kernel_rfl) rfl ?_
          refine aord_all [9] (by kernel_rfl) rfl ?_
          refine And.intro (by exact app_le (show (stT es i).length + 1 ≤ 1000000000 by omega) (by decide)) ?_
          refine aord_all [10] (by kernel_rfl) rfl ?_
          refine aord_done (by kernel_rfl) ?_
          exact ⟨i + 1, ⟨rfl, rfl⟩, le_of trivial ⟨rfl, vec_eq (by rw [hsn]; exact rfl)⟩ rfl⟩
        · refine aord_all [0, 7] (by kernel_rfl) rfl ?_
          refine And.intro ?_ ?_
          · refine aord_all [7] (by kernel_rfl) rfl ?_
            refine aord_all [8] (by kernel_rfl) rfl ?_
            refine aord_all [9] (by kernel_rfl) rfl ?_
            refine And.intro (by exact app_le (show (stT es i).length + 1 ≤ 1000000000 by omega) (by decide)) ?_
            refine aord_all [10] (by kernel_rfl) rfl ?_
            refine aord_done (by kernel_rfl) ?_
            exact ⟨i + 1, ⟨rfl, rfl⟩, le_of trivial ⟨rfl, vec_eq (by rw [hsn]; exact rfl)⟩ rfl⟩
          · refine aord_all [0, 8] (by kernel_rfl) rfl ?_
            refine And.intro ?_ ?_
            · refine aord_all [8] (by kernel_rfl) rfl ?_
              refine aord_all [9] (by kernel_rfl) rfl ?_
              refine And.intro (by exact app_le (show (stT es i).length + 1 ≤ 1000000000 by omega) (by decide)) ?_
              refine aord_all [10] (by kernel_rfl) rfl ?_
              refine aord_done (by kernel_rfl) ?_
              exact ⟨i + 1, ⟨rfl, rfl⟩, le_of trivial ⟨rfl, vec_eq (by rw [hsn]; exact rfl)⟩ rfl⟩
            · refine aord_all [0] (by kernel_rfl) rfl ?_
              refine aord_all [9] (by kernel_rfl) rfl ?_
              refine And.intro (by exact app_le (show (stT es i).length + 1 ≤ 1000000000 by omega) (by decide)) ?_
              refine aord_all [10] (by kernel_rfl) rfl ?_
              refine aord_done (by kernel_rfl) ?_
              exact ⟨i + 1, ⟨rfl, rfl⟩, le_of trivial ⟨rfl, vec_eq (by rw [hsn]; exact rfl)⟩ rfl⟩
  · intro i hp
    obtain ⟨_, rfl⟩ := hp
    refine acode_seq ?_
    refine acode_region ?_
    refine acode_ret ?_
    rw [show stT es (itEs es).length = stzL es from by unfold stT stzL; rw [itEs_len, List.take_length]]
    exact rfl
  · intro j i hp
    exact absurd hp.1 (by decide)
theorem stanzasN_c : ACall Tryd.prog 56 [.one (.lit (.pointer none))] (.one (.sl rStz [])) := by
  refine acall_of (rs := [2]) Tryd.func56 rfl rfl rfl teOk rfl ?_
  refine acode_seq ?_
  refine acode_region ?_
  refine acode_seq ?_
  refine acode_region ?_
  refine acode_seq ?_
  refine acode_seq ?_
  refine acode_region ?_
  refine Or.inl ?_
  refine And.intro (rfl) ?_
  refine Exists.intro _ (And.intro (allN_c) ?_)
  refine acode_block ?_
  refine acode_nilcell 0 0 118 rStz rfl rfl rfl ?_
  refine acode_range (caps := [.one (.ref (.lit (.pointer none)))]) (xs := []) [(3, .one (.own 0 0)), (6, .one (.clo 91 (.ref (.lit (.pointer none)))))] 2 (fun st j (i : Nat) => st = false ∧ i = j) (fun _ => [(0, .box 111 [.vec 1]), (1, .vec 118 rStz [])]) (fun _ => .ret) 0 rfl rfl allN_iter (le_of ⟨rfl, rfl⟩ ⟨rfl, rfl⟩ rfl) ⟨rfl, rfl⟩ (fun j hj => by cases hj) rfl rfl rfl (fun _ _ _ => rfl) rfl ?_ ?_ ?_
  · intro j i hk hp
    cases hk
  · intro i hp
    obtain ⟨_, rfl⟩ := hp
    refine acode_seq ?_
    refine acode_region ?_
    refine acode_ret ?_
    exact rfl
  · intro j i hp
    exact absurd hp.1 (by decide)
end Q
end Ab
end Go.Proofs.YtklhlkhlndhepaaDoor
namespace Go.Proofs.YtklhlkhlndhepaaDoor
open Go.RowKit
set_option maxRecDepth 100000
namespace Dif
open Rdl

abbrev field : Rd (ByteArray × ByteArray) := pair str str
abbrev fields : Rd (List (ByteArray × ByteArray)) := sl field (by decide)
abbrev rows : Rd (List (List (ByteArray × ByteArray))) := sl fields (by decide)

theorem intAt {ok : Nat → Prop} {w : World} {v : Value} {xs : List Int} (h : Sl int ok w v xs) :
    ∃ a cap, v = .slice a xs.length cap ∧ xs.length ≤ 9223372036854775807 ∧ ∀ i (h : i < xs.length), ∃ b off, a = some ⟨b, off, none⟩ ∧ w.cell? ⟨b, off + i, none⟩ = some (.int .i64 xs[i]) ∧ -9223372036854775808 ≤ xs[i] ∧ xs[i] ≤ 9223372036854775807 := by
  obtain ⟨a, cap, hv, h1, h2, hc⟩ := h
  refine ⟨a, cap, hv, by unfold maxLen at h2; omega, fun i hi => ?_⟩
  obtain ⟨b, off, cs, ha, _, ⟨hcs, hb1, hb2⟩, hcell⟩ := hc i hi
  subst hcs
  have e0 := hcell 0 (by decide)
  refine ⟨b, off, ha, ?_, hb1, hb2⟩
  simpa [int] using e0
/-- What a field of a slice gives. -/
theorem fieldAt {ok : Nat → Prop} {w : World} {v : Value} {xs : List (ByteArray × ByteArray)} (h : Sl field ok w v xs) :
    ∃ a cap, v = .slice a xs.length cap ∧ xs.length ≤ 9223372036854775807 ∧ ∀ i (h : i < xs.length), ∃ b off, a = some ⟨b, off, none⟩ ∧ w.cell? ⟨b, off + i * 2, none⟩ = some (.string xs[i].1) ∧ w.cell? ⟨b, off + i * 2 + 1, none⟩ = some (.string xs[i].2) ∧ xs[i].1.size ≤ maxLen ∧ xs[i].2.size ≤ maxLen := by
  obtain ⟨a, cap, hv, h1, h2, hc⟩ := h
  refine ⟨a, cap, hv, by unfold maxLen at h2; omega, fun i hi => ?_⟩
  obtain ⟨b, off, cs, ha, _, ⟨c, d, hcs, ⟨hc1, hs1⟩, ⟨hd1, hs2⟩⟩, hcell⟩ := hc i hi
  subst hc1; subst hd1; subst hcs
  have e0 := hcell 0 (by decide)
  have e1 := hcell 1 (by decide)
  refine ⟨b, off, ha, ?_, ?_, hs1, hs2⟩
  · simpa [pair, str] using e0
  · simpa [pair, str, Nat.add_assoc] using e1

theorem stood : Tryd.prog.stoodInHeld 69 = false := by kernel_rfl
theorem guardless : Tryd.prog.eqGuardType Tryd.prog.depth 69 = false := by kernel_rfl
/-- Two fields held against each other. -/
def same2 (x y : ByteArray × ByteArray) : Bool := x.1.toList == y.1.toList && x.2.toList == y.2.toList
theorem same2_iff (x y : ByteArray × ByteArray) : same2 x y = decide (x = y) := by
  obtain ⟨a, b⟩ := x
  obtain ⟨c, d⟩ := y
  rw [Bool.eq_iff_iff]
  simp [same2, ByteArray.toList_eq]
  constructor
  · rintro ⟨h1, h2⟩; exact ⟨ByteArray.ext h1, ByteArray.ext h2⟩
  · rintro ⟨rfl, rfl⟩; exact ⟨rfl, rfl⟩
theorem neqField (x y : ByteArray × ByteArray) (w : World) : (binOp .neq 69 (.agg #[.string x.1, .string x.2]) (.agg #[.string y.1, .string y.2])).run Tryd.prog w = .ok (.bool (!(same2 x y))) w := by
  have q1 := stood
  go_simp
  simp only [same2]
  by_cases h1 : x.1.toList = y.1.toList <;> by_cases h2 : x.2.toList = y.2.toList <;> simp [h1, h2]
theorem equal_any (va vb : Value) (xs ys : List (ByteArray × ByteArray)) (w : World) (ha : Sl field all w va xs) (hb : Sl field all w vb ys) :
    Calls Tryd.prog 120 #[va, vb] w fun e w' => e = .returned (.bool (decide (xs = ys))) ∧ ∃ n, w' = w.drewN n := by
  obtain ⟨a, cap, rfl, hla, hca⟩ := fieldAt ha
  obtain ⟨b, cap2, rfl, hlb, hcb⟩ := fieldAt hb
  have HA := Lib.hid hca
  have HB := Lib.hid hcb
  clear hca hcb ha hb
  by_cases hl : xs.length = ys.length
  · have hl1 : ((xs.length : Int) != (ys.length : Int)) = false := by rw [bne_eq_false_iff_eq]; omega
    have hle : xs.length ≤ ys.length := by omega
    have HL := Lib.hid hl
    clear hl
    have q1 := neqField
    have q2 := guardless
    go_enter Tryd.func120, Tryd.ntmps120
    go_wp2
    go_loopw [13] (fun i wr => ∃ (k n : Nat), wr = w.drewN n ∧ k ≤ xs.length ∧ i = .int .i64 k ∧ Hid (xs.take k = ys.take k)) (fun i _ => xs.length - (intOf i).toNat)
    case atStart => exact ⟨0, 0, rfl, by omega, rfl, Lib.hid rfl⟩
    case round =>
      obtain ⟨k, n, rfl, hk, rfl, hT⟩ := hrel
      by_cases hlt : k < xs.length
      · obtain ⟨b1, off1, rfl, c1, c2, _, _⟩ := HA.out k hlt
        obtain ⟨b2, off2, rfl, d1, d2, _, _⟩ := HB.out k (by omega)
        have hi1 : (k : Int) < (xs.length : Int) := by omega
        have hi2 : (k : Int) < (ys.length : Int) := by omega
        go_wp2
        go_quiet (fail)
        go_wp2
        · have hne : ¬ xs[k] = ys[k] := by
            have h9 : (!same2 xs[k] ys[k]) = true := by assumption
            rw [same2_iff] at h9; simpa using h9
          go_ret
          exact ⟨ret_bool (by rw [decide_eq_false (ne_at k hlt (by omega) hne)]), n + nq, by rw [World.drewN_drewN]⟩
        · have heq : xs[k] = ys[k] := by
            have h9 : (!same2 xs[k] ys[k]) = false := by assumption
            rw [same2_iff] at h9; simpa using h9
          go_roundw
          case rel => exact ⟨k + 1, n + nq, rfl, by omega, by go_num, Lib.hid (take_step k hlt (by omega) heq hT.out)⟩
          case measure => simp [intOf]; omega
      · obtain rfl : k = xs.length := by omega
        go_wp2
        go_ret
        exact ⟨ret_bool (by rw [decide_eq_true (take_full HL.out hT.out)]), n, rfl⟩
  · have hl1 : ((xs.length : Int) != (ys.length : Int)) = true := by rw [bne_iff_ne]; omega
    have hne : xs ≠ ys := fun h => hl (by rw [h])
    have HN := Lib.hid hne
    clear hl hne
    go_enter Tryd.func120, Tryd.ntmps120
    go_wp2
    go_ret
    exact ⟨ret_bool (by rw [decide_eq_false HN.out]), 0, rfl⟩


theorem ints_any (va vb : Value) (xs ys : List Int) (w : World) (ha : Sl int all w va xs) (hb : Sl int all w vb ys) :
    Calls Tryd.prog 54 #[va, vb] w fun e w' => e = .returned (.bool (decide (xs = ys))) ∧ ∃ n, w' = w.drewN n := by
  obtain ⟨a, cap, rfl, hla, hca⟩ := intAt ha
  obtain ⟨b, cap2, rfl, hlb, hcb⟩ := intAt hb
  have HA := Lib.hid hca
  have HB := Lib.hid hcb
  clear hca hcb ha hb
  by_cases hl : xs.length = ys.length
  · have hl1 : ((xs.length : Int) != (ys.length : Int)) = false := by rw [bne_eq_false_iff_eq]; omega
    have hle : xs.length ≤ ys.length := by omega
    have HL := Lib.hid hl
    clear hl
    go_enter Tryd.func54, Tryd.ntmps54
    go_wp2
    go_loopw [13] (fun i wr => ∃ (k n : Nat), wr = w.drewN n ∧ k ≤ xs.length ∧ i = .int .i64 k ∧ Hid (xs.take k = ys.take k)) (fun i _ => xs.length - (intOf i).toNat)
    case atStart => exact ⟨0, 0, rfl, by omega, rfl, Lib.hid rfl⟩
    case round =>
      obtain ⟨k, n, rfl, hk, rfl, hT⟩ := hrel
      by_cases hlt : k < xs.length
      · obtain ⟨b1, off1, rfl, c1, _, _⟩ := HA.out k hlt
        obtain ⟨b2, off2, rfl, d1, _, _⟩ := HB.out k (by omega)
        have hi1 : (k : Int) < (xs.length : Int) := by omega
        have hi2 : (k : Int) < (ys.length : Int) := by omega
        go_wp2
        go_quiet (fail)
        go_wp2
        · have hne : ¬ xs[k] = ys[k] := by
            have h9 : (xs[k] != ys[k]) = true := by assumption
            simpa using h9
          go_ret
          exact ⟨ret_bool (by rw [decide_eq_false (ne_at k hlt (by omega) hne)]), n + nq, by rw [World.drewN_drewN]⟩
        · have heq : xs[k] = ys[k] := by
            have h9 : (xs[k] != ys[k]) = false := by assumption
            simpa using h9
          go_roundw
          case rel => exact ⟨k + 1, n + nq, rfl, by omega, by go_num, Lib.hid (take_step k hlt (by omega) heq hT.out)⟩
          case measure => simp [intOf]; omega
      · obtain rfl : k = xs.length := by omega
        go_wp2
        go_ret
        exact ⟨ret_bool (by rw [decide_eq_true (take_full HL.out hT.out)]), n, rfl⟩
  · have hl1 : ((xs.length : Int) != (ys.length : Int)) = true := by rw [bne_iff_ne]; omega
    have hne : xs ≠ ys := fun h => hl (by rw [h])
    have HN := Lib.hid hne
    clear hl hne
    go_enter Tryd.func54, Tryd.ntmps54
    go_wp2
    go_ret
    exact ⟨ret_bool (by rw [decide_eq_false HN.out]), 0, rfl⟩


theorem same_any (va vb : Value) (xs ys : List (ByteArray × ByteArray)) (w : World) (ha : Sl field all w va xs) (hb : Sl field all w vb ys) :
    Calls Tryd.prog 107 #[va, vb] w fun e w' => e = .returned (.bool (decide (xs = ys))) ∧ ∃ n, w' = w.drewN n := by
  have H := Lib.hid (equal_any va vb xs ys w ha hb)
  clear ha hb
  go_enter Tryd.func107, Tryd.ntmps107
  go_wp2_with fail
  refine H.out.mono ?_
  rintro e w' ⟨rfl, n, rfl⟩
  go_wp2
  go_ret
  exact ⟨rfl, n, rfl⟩
end Dif
end Go.Proofs.YtklhlkhlndhepaaDoor
namespace Go.Proofs.YtklhlkhlndhepaaDoor
open Go.RowKit
set_option maxRecDepth 100000
namespace Dif
open Rdl

abbrev Row := List (ByteArray × ByteArray)

/-- What a row of rows gives. -/
theorem rowAt {ok : Nat → Prop} {w : World} {v : Value} {xs : List Row} (h : Sl fields ok w v xs) :
    ∃ a cap, v = .slice a xs.length cap ∧ xs.length ≤ 9223372036854775807 ∧ ∀ i (h : i < xs.length), ∃ b off r, a = some ⟨b, off, none⟩ ∧ w.cell? ⟨b, off + i, none⟩ = some r ∧ Sl field ok w r xs[i] := by
  obtain ⟨a, cap, hv, h1, h2, hc⟩ := h
  refine ⟨a, cap, hv, by unfold maxLen at h2; omega, fun i hi => ?_⟩
  obtain ⟨b, off, cs, ha, _, ⟨r, hcs, hr⟩, hcell⟩ := hc i hi
  subst hcs
  have e0 := hcell 0 (by decide)
  refine ⟨b, off, r, ha, ?_, hr⟩
  simpa [fields, sl] using e0

theorem quiet_add {P : Program} {f : FuncId} {args : Array Value} {w : World} {a n : Nat} {v : Value}
    (h : Calls P f args (w.drewN (a + n)) fun e w' => e = .returned v ∧ ∃ m, w' = (w.drewN (a + n)).drewN m) :
    Calls P f args (w.drewN (a + n)) fun e w'' => e = .returned v ∧ ∃ m, w'' = w.drewN (a + m) :=
  h.mono fun _ _ ⟨he, m, hm⟩ => ⟨he, n + m, by rw [hm, World.drewN_drewN, Nat.add_assoc]⟩

end Dif
end Go.Proofs.YtklhlkhlndhepaaDoor
namespace Go.Proofs.YtklhlkhlndhepaaDoor
open Go.RowKit
set_option maxRecDepth 100000
namespace Dif
open Rdl

/-- The value is n rows of m numbers each, by Z. -/
def Tab (w : World) (cv : Value) (n m : Nat) (Z : Nat → Nat → Nat) : Prop :=
  ∃ a cap, cv = .slice a n cap ∧ n ≤ cap ∧ cap ≤ maxLen ∧ ∀ r, r < n → ∃ b off g gc, a = some ⟨b, off, none⟩ ∧ w.cell? ⟨b, off + r, none⟩ = some (.slice (some ⟨g, 0, none⟩) m gc) ∧ ∀ c, c < m → w.cell? ⟨g, c, none⟩ = some (.int .i64 (Z r c : Int))
/-- The table's block. -/
def TabAt (w : World) (T : Nat) (va vb cv : Value) : Prop := w.heap[T]? = some (.cells #[va, vb, cv] 134 (0, 0))
theorem TabAt.cell {w : World} {T : Nat} {va vb cv : Value} (h : TabAt w T va vb cv) : w.cell? ⟨T, 0, none⟩ = some va ∧ w.cell? ⟨T, 1, none⟩ = some vb ∧ w.cell? ⟨T, 2, none⟩ = some cv := by
  unfold TabAt at h
  refine ⟨?_, ?_, ?_⟩ <;> simp [World.cell?, h]

def eqAt (xs ys : List Row) (i j : Nat) : Bool := decide (xs.getD i [] = ys.getD j [])
/-- What an entry is, of those ahead of it. -/
def leastS (q : Nat → Nat → Bool) (Z : Nat → Nat → Nat) : Nat → Nat → Nat
  | 0, j => j
  | i + 1, 0 => i + 1
  | i + 1, j + 1 => if q i j then Z i j else 1 + min (min (Z i j) (Z i (j + 1))) (Z (i + 1) j)

theorem ret_i64 {a b : Int} (h : a = b) : Ending.returned (.int .i64 a) = .returned (.int .i64 b) := by rw [h]
theorem least_any (T i j n m : Nat) (va vb cv : Value) (xs ys : List Row) (Z : Nat → Nat → Nat) (w : World) (hT : TabAt w T va vb cv) (ha : Sl fields all w va xs) (hb : Sl fields all w vb ys)
    (hM : Tab w cv n m Z) (hi : i ≤ xs.length) (hj : j ≤ ys.length) (hin : i < n) (hjm : j < m) (hm : m ≤ 1000) (hn : n ≤ 1000) (hZ : ∀ r c, r < n → c < m → Z r c ≤ 2000) :
    Calls Tryd.prog 88 #[.pointer (some ⟨T, 0, none⟩), .int .i64 (i : Int), .int .i64 (j : Int)] w fun e w' => e = .returned (.int .i64 (leastS (eqAt xs ys) Z i j : Int)) ∧ ∃ k, w' = w.drewN k := by
  obtain ⟨ca, cb, cc⟩ := hT.cell
  cases i with
  | zero =>
    clear ca cb cc hT ha hb hM hZ
    go_enter Tryd.func88, Tryd.ntmps88
    go_wp2
    go_ret
    exact ⟨rfl, 0, rfl⟩
  | succ i =>
    cases j with
    | zero =>
      clear ca cb cc hT ha hb hM hZ
      have h1 : ((((i + 1 : Nat) : Int)) == 0) = false := by rw [beq_eq_false_iff_ne]; omega
      go_enter Tryd.func88, Tryd.ntmps88
      go_wp2
      go_ret
      exact ⟨rfl, 0, rfl⟩
    | succ j =>
      obtain ⟨a1, cap1, rfl, hl1, hc1⟩ := rowAt ha
      obtain ⟨a2, cap2, rfl, hl2, hc2⟩ := rowAt hb
      obtain ⟨a3, cap3, rfl, hl3, hcap3, hc3⟩ := hM
      obtain ⟨b1, off1, r1, rfl, c1, s1⟩ := hc1 i (by omega)
      obtain ⟨b2, off2, r2, rfl, c2, s2⟩ := hc2 j (by omega)
      obtain ⟨b3, off3, g3, gc3, rfl, c3, s3⟩ := hc3 i (by omega)
      obtain ⟨b4, off4, g4, gc4, h4, c4, s4⟩ := hc3 (i + 1) (by omega)
      simp only [Option.some.injEq, Addr.mk.injEq, and_true] at h4
      obtain ⟨rfl, rfl⟩ := h4
      have H := Lib.hid (fun n => same_any r1 r2 _ _ (w.drewN n) (s1.drewN (by decide) n) (s2.drewN (by decide) n))
      have e1 := s3 j (by omega)
      have e2 := s3 (j + 1) (by omega)
      have e3 := s4 j (by omega)
      have z1 := hZ i j (by omega) (by omega)
      have z2 := hZ i (j + 1) (by omega) (by omega)
      have z3 := hZ (i + 1) j (by omega) (by omega)
      have HE : Hid (eqAt xs ys i j = decide (xs[i] = ys[j])) := Lib.hid (by simp [eqAt, List.getD, show i < xs.length by omega, show j < ys.length by omega])
      clear hT ha hb hc1 hc2 hc3 s1 s2 s3 s4 hZ
      have k1 : (i : Int) < (xs.length : Int) := by omega
      have k2 : (j : Int) < (ys.length : Int) := by omega
      have k3 : (i : Int) < (n : Int) := by omega
      have k4 : (j : Int) < (m : Int) := by omega
      have k5 : (i : Int) + 1 < (n : Int) := by omega
      have k6 : (j : Int) + 1 < (m : Int) := by omega
      by_cases hq : xs[i] = ys[j]
      · have HQ := Lib.hid (decide_eq_true hq)
        clear hq
        go_enter Tryd.func88, Tryd.ntmps88
        go_wp2
        go_quiet ((go_at_call 107; first | exact Calls.quiet_of (H.out _) | exact quiet_add (H.out _)))
        rw [HQ.out]
        go_wp2
        go_ret
        exact ⟨ret_i64 (by rw [leastS, HE.out, HQ.out]; simp), _, rfl⟩
      · have HQ := Lib.hid (decide_eq_false hq)
        clear hq
        go_enter Tryd.func88, Tryd.ntmps88
        go_wp2
        go_quiet ((go_at_call 107; first | exact Calls.quiet_of (H.out _) | exact quiet_add (H.out _)))
        rw [HQ.out]
        go_wp2
        go_quiet (fail)
        go_wp2
        all_goals
          go_ret
          refine ⟨ret_i64 ?_, _, rfl⟩
          rw [leastS, HE.out, HQ.out]
          simp only [Bool.false_eq_true, if_false]
          generalize Z i j = p1 at *
          generalize Z i (j + 1) = p2 at *
          generalize Z (i + 1) j = p3 at *
          clear e1 e2 e3 H HE HQ
          first | omega | (split at * <;> omega) | (split <;> omega)
end Dif
end Go.Proofs.YtklhlkhlndhepaaDoor
namespace Go.Proofs.YtklhlkhlndhepaaDoor
open Go.RowKit
set_option maxRecDepth 100000
namespace Dif
open Rdl

/-! ### What the cheapest ways cost -/
def cstRow (q : Nat → Nat → Bool) (prev : Nat → Nat) (i : Nat) : Nat → Nat
  | 0 => i + 1
  | j + 1 => if q i j then prev j else 1 + min (min (prev j) (prev (j + 1))) (cstRow q prev i j)
def cst (q : Nat → Nat → Bool) : Nat → Nat → Nat
  | 0 => fun j => j
  | i + 1 => cstRow q (cst q i) i
theorem least_cst (q : Nat → Nat → Bool) (Z : Nat → Nat → Nat) (i j : Nat) (h : ∀ r c, (r < i ∨ (r = i ∧ c < j)) → Z r c = cst q r c) : leastS q Z i j = cst q i j := by
  cases i with
  | zero => rfl
  | succ i =>
    cases j with
    | zero => rfl
    | succ j =>
      rw [leastS, cst, cstRow, h i j (by omega), h i (j + 1) (by omega), h (i + 1) j (by omega)]
      rfl
theorem cst_le (q : Nat → Nat → Bool) (i j : Nat) : cst q i j ≤ i + j := by
  induction i generalizing j with
  | zero => show j ≤ 0 + j; omega
  | succ i ih =>
    show cstRow q (cst q i) i j ≤ _
    induction j with
    | zero => show i + 1 ≤ _; omega
    | succ j ihj =>
      rw [cstRow]
      have := ih j
      split <;> omega

/-- The table as it is being made. -/
structure Tbl (w0 wr : World) (B T : Nat) (va vb cv : Value) (gs : List Nat) (m : Nat) (Z : Nat → Nat → Nat) : Prop where
  tab : TabAt wr T va vb cv
  hB : B ≤ T
  own : wr.ownsRow B 102 1 cv gs.length (gs.map fun g => .slice (some ⟨g, 0, none⟩) m m)
  rows : ∀ r (h : r < gs.length), B ≤ gs[r] ∧ wr.rowIs gs[r] 3 m (fun c => .int .i64 (Z r c : Int))
  nd : gs.Nodup
  below : Below B w0 wr

theorem Tbl.reads {w0 wr : World} {B T : Nat} {va vb cv : Value} {gs : List Nat} {m : Nat} {Z : Nat → Nat → Nat} (h : Tbl w0 wr B T va vb cv gs m Z) : Tab wr cv gs.length m Z := by
  rcases h.own.2 with ⟨rfl, h0⟩ | ⟨g, cap, cur, rfl, hbg, hg, hnc, hcm, hcs, htake⟩
  · exact ⟨none, 0, by rw [h0], by omega, by unfold maxLen; omega, fun r hr => by omega⟩
  · refine ⟨some ⟨g, 0, none⟩, cap, rfl, hnc, hcm, fun r hr => ⟨g, 0, gs[r], m, rfl, ?_, fun c hc => (h.rows r hr).2.cell hc⟩⟩
    rw [Nat.zero_add, h.own.cellAt r (by omega)]
    simp [hr]

theorem infoInts : (Tryd.prog.info? 102).map (fun i => (i.zero, i.size, i.bytes)) = some (some (.slice none 0 0), 1, 24) := by kernel_rfl
theorem infoInt : (Tryd.prog.info? 3).map (fun i => (i.zero, i.size, i.bytes)) = some (some (.int .i64 0), 1, 8) := by kernel_rfl
theorem makeInts (n : Nat) (h : n ≤ 900) (w : World) : (Instr.makeSlice 102 (.int .i64 ((n : Int) + 1)) (.int .i64 ((n : Int) + 1))).run Tryd.prog w = .ok (.slice (some ⟨w.heap.size, 0, none⟩) (n + 1) (n + 1)) (w.alloc (.cells (madeCells #[.int .i64 0] (n + 1)) 3)) := by
  have h1 := run_make_row' (P := Tryd.prog) 102 3 (.int .i64 0) 8 Tryd.underlying102 infoInt rfl .i64 .i64 (n + 1) (by omega) (by omega) w
  have ec : ((n + 1 : Nat) : Int) = (n : Int) + 1 := by omega
  rw [ec] at h1
  exact h1
theorem tab_lt {w : World} {T : Nat} {va vb cv : Value} (h : TabAt w T va vb cv) : T < w.heap.size := (Array.getElem?_eq_some_iff.1 h).1
theorem tab_free {w : World} {T : Nat} {va vb cv : Value} (h : TabAt w T va vb cv) : w.frozen? ⟨T, 2, none⟩ = false := by
  unfold TabAt at h
  simp [World.frozen?, h]
theorem tab_grow {wr w1 : World} {T : Nat} {va vb cv : Value} {o1 o2 : Obj} (h : TabAt wr T va vb cv) (hne : cv.ownBlock ≠ some T) (hg : (((wr.alloc o1).alloc o2).drew).grownBy w1 cv.ownBlock) : TabAt w1 T va vb cv := by
  have hlt := tab_lt h
  unfold TabAt at *
  rw [hg.block T (by simp; omega) (fun e => hne e.symm)]
  show ((wr.alloc o1).alloc o2).heap[T]? = _
  rw [Below.heap_alloc _ _ _ (by simp; omega), Below.heap_alloc _ _ _ hlt]
  exact h
theorem Tbl.ne {w0 wr : World} {B T : Nat} {va vb cv : Value} {gs : List Nat} {m : Nat} {Z : Nat → Nat → Nat} (h : Tbl w0 wr B T va vb cv gs m Z) : cv.ownBlock ≠ some T := by
  rcases h.own.2 with ⟨rfl, h0⟩ | ⟨g, cap, cur, rfl, hbg, hg, _⟩
  · simp [Value.ownBlock]
  · intro e
    simp only [Value.ownBlock, Option.some.injEq] at e
    subst e
    have ht := h.tab
    unfold TabAt at ht
    rw [ht] at hg
    simp only [Option.some.injEq, Obj.cells.injEq] at hg
    exact absurd hg.2.1 (by decide)
/-- The rows ahead of k as Z has them, row k up to j, nothing behind. -/
def part2 (Z : Nat → Nat → Nat) (k j : Nat) : Nat → Nat → Nat := fun r c => if r < k then Z r c else if c < j then Z k c else 0
theorem tbl_push {w0 wr w1 : World} {B T : Nat} {va vb cv : Value} {gs : List Nat} {n k gg cap : Nat} {q : Nat → Nat → Nat}
    (h : Tbl w0 wr B T va vb cv gs (n + 1) q) (hk : gs.length = k) (hT1 : TabAt w1 T va vb cv)
    (hown1 : w1.ownsRow B 102 1 (.slice (some ⟨gg, 0, none⟩) (gs.length + 1) cap) (gs.length + 1) ((gs.map fun g => Value.slice (some ⟨g, 0, none⟩) (n + 1) (n + 1)) ++ [.slice (some ⟨wr.heap.size, 0, none⟩) (n + 1) (n + 1)]))
    (hgrow : (((wr.alloc (.cells (madeCells #[.int .i64 0] (n + 1)) 3)).alloc (.cells #[.slice (some ⟨wr.heap.size, 0, none⟩) (n + 1) (n + 1)] 102)).drew).grownBy w1 cv.ownBlock)
    (hat : cv.ownBlock = some gg ∨ gg = wr.heap.size + 2) :
    Tbl w0 (w1.setCell ⟨T, 2, none⟩ (.slice (some ⟨gg, 0, none⟩) (gs.length + 1) cap)) B T va vb (.slice (some ⟨gg, 0, none⟩) (gs.length + 1) cap) (gs ++ [wr.heap.size]) (n + 1) (part2 q k 0) := by
  have hlT := tab_lt h.tab
  have hB := h.hB
  have hrl : ∀ r (hr : r < gs.length), gs[r] < wr.heap.size := fun r hr => (h.rows r hr).2.lt
  have hneT : gg ≠ T := by
    intro e
    subst e
    rcases hown1.2 with ⟨h0, _⟩ | ⟨g, c, cur, hv, _, hg, _⟩
    · cases h0
    · simp only [Value.slice.injEq, Option.some.injEq, Addr.mk.injEq, and_true, true_and] at hv
      obtain ⟨rfl, rfl⟩ := hv
      unfold TabAt at hT1
      rw [hT1] at hg
      simp only [Option.some.injEq, Obj.cells.injEq] at hg
      exact absurd hg.2.1 (by decide)
  have hpast : ∀ b, b < wr.heap.size → some b ≠ cv.ownBlock → w1.heap[b]? = wr.heap[b]? := by
    intro b hb hne
    rw [hgrow.block b (by simp; omega) hne]
    show ((wr.alloc _).alloc _).heap[b]? = _
    rw [Below.heap_alloc _ _ _ (by simp; omega), Below.heap_alloc _ _ _ hb]
  have hnew : w1.rowIs wr.heap.size 3 (n + 1) (fun _ => .int .i64 0) := by
    have h0 := World.rowIs_made wr (.int .i64 0) (n + 1) 3
    refine h0.of_block ?_
    have hne : some wr.heap.size ≠ cv.ownBlock := by
      intro e
      have := (h.own.lt _ e.symm).2
      omega
    rw [hgrow.block _ (by simp; omega) hne]
    show ((wr.alloc _).alloc _).heap[_]? = _
    rw [Below.heap_alloc _ _ _ (by simp)]
  have hTn : T ≠ wr.heap.size := by omega
  have hown2 := hown1
  refine ⟨?_, hB, ?_, ?_, ?_, ?_⟩
  · unfold TabAt at *
    simp [World.setCell, Array.getElem?_modify, hT1]
  · refine World.ownsRow.kept (w := w1) (row := some T) ?_ ⟨rfl, rfl, rfl, by simp [World.setCell], fun b _ hb => Below.heap_setCell _ _ _ _ (fun e => hb (by simp [e]))⟩ (Or.inr (by simpa [Value.ownBlock] using hneT))
    simpa using hown2
  · intro r hr
    by_cases hr2 : r < gs.length
    · have := h.rows r hr2
      rw [List.getElem_append_left hr2]
      have hne : some gs[r] ≠ cv.ownBlock := by
        intro e
        rcases h.own.2 with ⟨rfl, _⟩ | ⟨g, c, cur, rfl, _, hg, _⟩
        · cases e
        · simp only [Value.ownBlock, Option.some.injEq] at e
          obtain ⟨c2, hb2, _⟩ := this.2
          rw [e, hg] at hb2
          simp only [Option.some.injEq, Obj.cells.injEq] at hb2
          exact absurd hb2.2.1 (by decide)
      have hneT2 : gs[r] ≠ T := by
        intro e
        obtain ⟨c2, hb2, _⟩ := this.2
        have ht := h.tab
        unfold TabAt at ht
        rw [e, ht] at hb2
        simp only [Option.some.injEq, Obj.cells.injEq] at hb2
        exact absurd hb2.2.1 (by decide)
      refine ⟨this.1, ((this.2.of_block (hpast _ (hrl r hr2) hne)).setOther (by simpa using hneT2) _).congr ?_⟩
      intro c _
      simp [part2, show r < k by omega]
    · have hr3 : r = gs.length := by simp at hr; omega
      subst hr3
      have e : (gs ++ [wr.heap.size])[gs.length] = wr.heap.size := by simp
      rw [e]
      refine ⟨by omega, (hnew.setOther (by simpa using (Ne.symm hTn)) _).congr ?_⟩
      intro c _
      simp [part2, hk]
  · rw [List.nodup_append]
    refine ⟨h.nd, by simp, ?_⟩
    intro a ha b hb
    simp only [List.mem_singleton] at hb
    subst hb
    obtain ⟨r, hr, rfl⟩ := List.mem_iff_getElem.1 ha
    exact Nat.ne_of_lt (hrl r hr)
  · have h1 : Below B w0 (((wr.alloc (.cells (madeCells #[.int .i64 0] (n + 1)) 3)).alloc (.cells #[.slice (some ⟨wr.heap.size, 0, none⟩) (n + 1) (n + 1)] 102)).drew) := ((h.below.alloc (by omega) _).alloc (by simp; omega) _).drew
    exact (h1.grown hgrow (by simp; omega) (fun b hb => (h.own.lt b hb).1)).setCell hB _
theorem part2_le (q : Nat → Nat → Bool) (k j n m : Nat) (hn : n ≤ 1000) (hm : m ≤ 1000) : ∀ r c, r < n → c < m → part2 (cst q) k j r c ≤ 2000 := by
  intro r c hr hc
  unfold part2
  have h1 := cst_le q r c
  by_cases hk : r < k
  · rw [if_pos hk]; omega
  · rw [if_neg hk]
    split
    · have h2 := cst_le q k c
      omega
    · omega
theorem part2_eq (q : Nat → Nat → Bool) (k j : Nat) : ∀ r c, (r < k ∨ (r = k ∧ c < j)) → part2 (cst q) k j r c = cst q r c := by
  intro r c h
  unfold part2
  rcases h with h | ⟨rfl, h⟩
  · rw [if_pos h]
  · rw [if_neg (by omega), if_pos h]
theorem tbl_cell {w0 wr : World} {B T : Nat} {va vb cv : Value} {gs : List Nat} {m : Nat} {Z : Nat → Nat → Nat} (h : Tbl w0 wr B T va vb cv gs m Z) (k : Nat) (hk : gs.length = k + 1) :
    ∃ gc cap, cv = .slice (some ⟨gc, 0, none⟩) (k + 1) cap ∧ wr.cell? ⟨gc, k, none⟩ = some (.slice (some ⟨gs[k]'(by omega), 0, none⟩) m m) := by
  rcases h.own.2 with ⟨rfl, h0⟩ | ⟨g, cap, cur, rfl, hbg, hg, hnc, hcm, hcs, htake⟩
  · omega
  · refine ⟨g, cap, by rw [hk], ?_⟩
    rw [h.own.cellAt k (by omega)]
    simp [show k < gs.length by omega]
theorem Tbl.drewN {w0 wr : World} {B T : Nat} {va vb cv : Value} {gs : List Nat} {m : Nat} {Z : Nat → Nat → Nat} (h : Tbl w0 wr B T va vb cv gs m Z) (n : Nat) : Tbl w0 (wr.drewN n) B T va vb cv gs m Z :=
  ⟨h.tab, h.hB, h.own, h.rows, h.nd, below_drewN h.below n⟩
theorem Tbl.full {w0 wr : World} {B T : Nat} {va vb cv : Value} {gs : List Nat} {m k : Nat} {Z : Nat → Nat → Nat} (h : Tbl w0 wr B T va vb cv gs m (part2 Z k m)) (hk : gs.length = k + 1) : Tbl w0 wr B T va vb cv gs m Z :=
  ⟨h.tab, h.hB, h.own, fun r hr => ⟨(h.rows r hr).1, (h.rows r hr).2.congr fun c hc => by
    unfold part2
    by_cases h1 : r < k
    · rw [if_pos h1]
    · rw [if_neg h1, if_pos hc, show r = k by omega]⟩, h.nd, h.below⟩
theorem tbl_store {w0 wr : World} {B T k j : Nat} {va vb cv : Value} {gs : List Nat} {m : Nat} {Z : Nat → Nat → Nat} (h : Tbl w0 wr B T va vb cv gs m (part2 Z k j)) (hk : gs.length = k + 1) :
    Tbl w0 (wr.setCell ⟨gs[k]'(by omega), j, none⟩ (.int .i64 (Z k j : Int))) B T va vb cv gs m (part2 Z k (j + 1)) := by
  have hrow := h.rows k (by omega)
  obtain ⟨c0, hb0, _⟩ := hrow.2
  have hneT : gs[k]'(by omega) ≠ T := by
    intro e
    have ht := h.tab
    unfold TabAt at ht
    rw [e, ht] at hb0
    simp only [Option.some.injEq, Obj.cells.injEq] at hb0
    exact absurd hb0.2.1 (by decide)
  have hneO : cv.ownBlock = none ∨ cv.ownBlock ≠ some (gs[k]'(by omega)) := by
    rcases h.own.2 with ⟨rfl, h0⟩ | ⟨g, cap, cur, rfl, hbg, hg, _⟩
    · exact Or.inl rfl
    · right
      intro e
      simp only [Value.ownBlock, Option.some.injEq] at e
      rw [← e, hg] at hb0
      simp only [Option.some.injEq, Obj.cells.injEq] at hb0
      exact absurd hb0.2.1 (by decide)
  refine ⟨?_, h.hB, h.own.kept (row := some (gs[k]'(by omega))) ⟨rfl, rfl, rfl, by simp [World.setCell], fun b _ hb => Below.heap_setCell _ _ _ _ (fun e => hb (by simp [e]))⟩ hneO, ?_, h.nd, h.below.setCell hrow.1 _⟩
  · have ht := h.tab
    unfold TabAt at *
    rw [Below.heap_setCell _ _ _ _ (fun e => hneT e.symm)]
    exact ht
  · intro r hr
    have hr1 := h.rows r hr
    by_cases hrk : r = k
    · subst hrk
      refine ⟨hr1.1, (hr1.2.set j _).congr ?_⟩
      intro c hc
      by_cases hcj : c = j
      · subst hcj; simp [part2]
      · have e : part2 Z r j r c = part2 Z r (j + 1) r c := by
          unfold part2
          simp only [Nat.lt_irrefl, if_false]
          by_cases h1 : c < j
          · rw [if_pos h1, if_pos (by omega)]
          · rw [if_neg h1, if_neg (by omega)]
        simp only [if_neg hcj]
        rw [e]
    · have hne : gs[r] ≠ gs[k]'(by omega) := by
        exact (List.pairwise_iff_getElem.1 h.nd) r k hr (by omega) (by omega)
      refine ⟨hr1.1, (hr1.2.setOther (by simpa using hne) _).congr ?_⟩
      intro c hc
      unfold part2
      rw [if_pos (show r < k by omega), if_pos (show r < k by omega)]
theorem tbl_apart {w0 wr : World} {B T gc n cap : Nat} {va vb : Value} {gs : List Nat} {m : Nat} {Z : Nat → Nat → Nat} (h : Tbl w0 wr B T va vb (.slice (some ⟨gc, 0, none⟩) n cap) gs m Z) (k : Nat) (hk : k < gs.length) : gs[k] ≠ T ∧ gs[k] ≠ gc := by
  obtain ⟨c0, hb0, _⟩ := (h.rows k hk).2
  constructor
  · intro e
    have ht := h.tab
    unfold TabAt at ht
    rw [e, ht] at hb0
    simp only [Option.some.injEq, Obj.cells.injEq] at hb0
    exact absurd hb0.2.1 (by decide)
  · intro e
    rcases h.own.2 with ⟨h1, h0⟩ | ⟨g, cap, cur, h1, hbg, hg, _⟩
    · omega
    · simp only [Value.slice.injEq, Option.some.injEq, Addr.mk.injEq, and_true, true_and] at h1
      obtain ⟨rfl, _⟩ := h1
      rw [e, hg] at hb0
      simp only [Option.some.injEq, Obj.cells.injEq] at hb0
      exact absurd hb0.2.1 (by decide)
theorem keep_store {w : World} {T gc gk k j : Nat} {v1 v2 u : Value} (h1 : gk ≠ T) (h2 : gk ≠ gc) (c1 : w.cell? ⟨T, 2, none⟩ = some v1) (c2 : w.cell? ⟨gc, k, none⟩ = some v2) :
    (w.setCell ⟨gk, j, none⟩ u).cell? ⟨T, 2, none⟩ = some v1 ∧ (w.setCell ⟨gk, j, none⟩ u).cell? ⟨gc, k, none⟩ = some v2 := by
  refine ⟨?_, ?_⟩
  · rw [World.cell?_setCell_far _ _ _ _ h1]; exact c1
  · rw [World.cell?_setCell_far _ _ _ _ h2]; exact c2
theorem news1 (w : World) (o : Obj) (x : Value) (t : TypeId) : ∀ j u, [x][j]? = some u → (((w.alloc o).alloc (.cells #[x] t)).drew).cell? ((⟨w.heap.size + 1, 0, none⟩ : Addr).add j) = some u := by
  intro j u hj
  rw [Go.WideShapes.add_plain, Nat.zero_add]
  show ((w.alloc o).alloc (.cells #[x] t)).cell? _ = _
  rw [World.cell?_alloc_at _ _ _ _ (by simp)]
  simpa using hj
theorem tabled_any (va vb : Value) (xs ys : List Row) (w : World) (ha : Sl fields all w va xs) (hb : Sl fields all w vb ys) (hx : xs.length ≤ 900) (hy : ys.length ≤ 900) :
    Calls Tryd.prog 72 #[va, vb] w fun e w' => ∃ T cv, e = .returned (.pointer (some ⟨T, 0, none⟩)) ∧ TabAt w' T va vb cv ∧ Tab w' cv (xs.length + 1) (ys.length + 1) (cst (eqAt xs ys)) ∧ Below w.heap.size w w' := by
  obtain ⟨a1, cap1, hva, hl1, hc1⟩ := rowAt ha
  obtain ⟨a2, cap2, hvb, hl2, hc2⟩ := rowAt hb
  subst hva
  subst hvb
  have HA := Lib.hid ha
  have HB := Lib.hid hb
  clear ha hb hc1 hc2
  go_enter Tryd.func72, Tryd.ntmps72
  go_wp2
  have hst : Tbl w (w.alloc (.cells #[.slice a1 xs.length cap1, .slice a2 ys.length cap2, .slice none 0 0] 134)) w.heap.size w.heap.size (.slice a1 xs.length cap1) (.slice a2 ys.length cap2) (.slice none 0 0) [] (ys.length + 1) (cst (eqAt xs ys)) :=
    ⟨by unfold TabAt; exact heap_alloc_new w _, Nat.le_refl _, World.ownsRow_nil _ _ _ _, fun r h => absurd h (by simp), List.nodup_nil, (Below.refl _ _).alloc (Nat.le_refl _) _⟩
  go_loopw [15] (fun i wr => ∃ (k : Nat) (cv : Value) (gs : List Nat), k ≤ xs.length + 1 ∧ i = .int .i64 k ∧ gs.length = k ∧ Tbl w wr w.heap.size w.heap.size (.slice a1 xs.length cap1) (.slice a2 ys.length cap2) cv gs (ys.length + 1) (cst (eqAt xs ys))) (fun i _ => xs.length + 1 - (intOf i).toNat)
  case atStart => exact ⟨0, _, [], by omega, rfl, rfl, hst⟩
  case round =>
    obtain ⟨k, cv, gs, hk, rfl, hgl, hst⟩ := hrel
    obtain ⟨i0, hi0, hz0, hz1, hz2⟩ := info_parts infoInts
    by_cases hlt : k < xs.length + 1
    · have hmk := makeInts ys.length (by omega)
      obtain ⟨c0, c1, c2⟩ := hst.tab.cell
      have hlT := tab_lt hst.tab
      have hfr := tab_free hst.tab
      have hown := hst.own
      have HS := Lib.hid hst
      clear hst
      generalize hB : w.heap.size = T at *
      have hbT := HS.out.below.size
      have hw1 : IntKind.i64.wrap ((ys.length : Int) + 1) = (ys.length : Int) + 1 := IntWalk.i64_in _ (by omega)
      have hd : decide ((k : Int) < (xs.length : Int) + 1) = true := by simp; omega
      go_upto_region 5 with (fail)
      go_cut [] from 18 to 31 (fun wx => ∃ cv', Tbl w wx T T (.slice a1 xs.length cap1) (.slice a2 ys.length cap2) cv' (gs ++ [wr.heap.size]) (ys.length + 1) (part2 (cst (eqAt xs ys)) k 0))
      case first =>
        go_region_law (refine step_append_lies _ (by rfl) _ _ _ (by rfl) T 102 i0 _ 1 24 Tryd.underlying132 hi0 hz0 hz1 hz2 rfl (by omega) cv gs.length (gs.map fun g => .slice (some ⟨g, 0, none⟩) (ys.length + 1) (ys.length + 1)) (by rfl) (((hown.alloc _).alloc _).drew) ⟨wr.heap.size + 1, 0, none⟩ 1 1 [.slice (some ⟨wr.heap.size, 0, none⟩) (ys.length + 1) (ys.length + 1)] (by rfl) (by rfl) (news1 _ _ _ _) (by simp [Value.oneCell']) (by omega) (by unfold maxLen; omega) (by omega) (by simp; omega) (wr.heap.size + 2) (by simp) ?_; intro gg cap w1 hown1 hgrow hat hlt1; have hT1 := tab_grow HS.out.tab HS.out.ne hgrow; have d2 := hT1.cell.2.2; have f2 := tab_free hT1)
        all_goals
          go_wp2_with fail
          go_meet
          subst hgl
          exact ⟨_, tbl_push HS.out rfl hT1 hown1 hgrow hat⟩
      case rest =>
      clear c0 c1 c2 hmk hd hw1 hfr hown HS
      obtain ⟨cv', hst⟩ := hcut
      have HG := Lib.hid (show (gs ++ [wr.heap.size]).length = k + 1 by simp [hgl])
      clear hgl
      generalize gs ++ [wr.heap.size] = gs' at *
      go_wp2
      go_loopw [34] (fun i wi => ∃ j : Nat, j ≤ ys.length + 1 ∧ i = .int .i64 j ∧ Tbl w wi T T (.slice a1 xs.length cap1) (.slice a2 ys.length cap2) cv' gs' (ys.length + 1) (part2 (cst (eqAt xs ys)) k j)) (fun i _ => ys.length + 1 - (intOf i).toNat)
      case atStart => exact ⟨0, by omega, rfl, hst⟩
      case round =>
        clear hst
        obtain ⟨j, hj, rfl, hst⟩ := hrel
        by_cases hjl : j < ys.length + 1
        · have hgl := HG.out
          have hlk : k < gs'.length := by omega
          obtain ⟨gc, cap3, rfl, hk3⟩ : ∃ gc cap3, cv' = .slice (some ⟨gc, 0, none⟩) (k + 1) cap3 ∧ wr.cell? ⟨gc, k, none⟩ = some (.slice (some ⟨gs'[k]'hlk, 0, none⟩) (ys.length + 1) (ys.length + 1)) := by
            exact tbl_cell hst k hgl
          have c2 := hst.tab.cell.2.2
          have hrow := (hst.rows k hlk).2
          have d1 := hrow.cell (i := j) hjl
          have d2 := hrow.frozen j
          have HL := Lib.hid (fun nd => least_any T k j gs'.length (ys.length + 1) (.slice a1 xs.length cap1) (.slice a2 ys.length cap2) (.slice (some ⟨gc, 0, none⟩) (k + 1) cap3) xs ys (part2 (cst (eqAt xs ys)) k j) (wr.drewN nd) hst.tab
            (((HA.out.below (by decide) (hB ▸ hst.below : Below w.heap.size w wr))).drewN (by decide) nd) (((HB.out.below (by decide) (hB ▸ hst.below : Below w.heap.size w wr))).drewN (by decide) nd) (hgl ▸ hst.reads) (by omega) (by omega) (by omega) (by omega) (by omega) (by omega) (part2_le (eqAt xs ys) k j gs'.length (ys.length + 1) (by omega) (by omega)))
          have HZ : Hid (leastS (eqAt xs ys) (part2 (cst (eqAt xs ys)) k j) k j = cst (eqAt xs ys) k j) := Lib.hid (least_cst _ _ _ _ (part2_eq (eqAt xs ys) k j))
          obtain ⟨hn1, hn2⟩ := tbl_apart hst k hlk
          have HS := Lib.hid hst
          clear hst hrow
          generalize hgk : gs'[k]'hlk = gk at *
          have HGK := Lib.hid hgk
          clear hgk hgl
          have hd : decide ((j : Int) < (ys.length : Int) + 1) = true := by simp; omega
          go_wp2
          have hI1 : (k : Int) < (k : Int) + 1 := by omega
          have hI2 : (j : Int) < (ys.length : Int) + 1 := by omega
          have hI3 : (0 : Int) ≤ (k : Int) := by omega
          have hI4 : (0 : Int) ≤ (j : Int) := by omega
          go_region_held3 (fun w' => w'.cell? ⟨T, 2, none⟩ = some (.slice (some ⟨gc, 0, none⟩) (k + 1) cap3) ∧ w'.cell? ⟨gc, k, none⟩ = some (.slice (some ⟨gk, 0, none⟩) (ys.length + 1) (ys.length + 1))) (first | go_keep | (refine keep_store hn1 hn2 ?_ ?_ <;> assumption)) (first | (go_at_call 88; refine (HL.out 1).mono ?_; rintro e w' ⟨rfl, nn, rfl⟩))
          all_goals
            rw [HZ.out]
            go_wp2
            go_roundw
            case rel => exact ⟨j + 1, by omega, by go_num, by have h9 := tbl_store HS.out HG.out; rw [HGK.out] at h9; exact h9.drewN _⟩
            case measure => simp [intOf]; omega
        · obtain rfl : j = ys.length + 1 := by omega
          have hgl := HG.out
          go_wp2
          go_roundw
          case rel => exact ⟨k + 1, cv', gs', by omega, by go_num, hgl, hst.full hgl⟩
          case measure => simp [intOf]; omega
    · obtain rfl : k = xs.length + 1 := by omega
      go_wp2
      go_ret
      exact ⟨w.heap.size, cv, rfl, hst.tab, hgl ▸ hst.reads, hst.below⟩

theorem Distance_any (va vb : Value) (xs ys : List Row) (w : World) (ha : Sl fields all w va xs) (hb : Sl fields all w vb ys) (hx : xs.length ≤ 900) (hy : ys.length ≤ 900) :
    Calls Tryd.prog 53 #[va, vb] w fun e w' => e = .returned (.int .i64 (cst (eqAt xs ys) xs.length ys.length : Int)) ∧ Below w.heap.size w w' := by
  have H := Lib.hid (tabled_any va vb xs ys w ha hb hx hy)
  obtain ⟨a1, cap1, rfl, hl1, hc1⟩ := rowAt ha
  obtain ⟨a2, cap2, rfl, hl2, hc2⟩ := rowAt hb
  clear ha hb hc1 hc2
  go_enter Tryd.func53, Tryd.ntmps53
  go_wp2_with fail
  refine H.out.mono ?_
  rintro e w1 ⟨T, cv, rfl, hT, hM, hb1⟩
  obtain ⟨c0, c1, c2⟩ := hT.cell
  obtain ⟨a3, cap3, rfl, hl3, hcap3, hc3⟩ := hM
  obtain ⟨b3, off3, g3, gc3, rfl, c3, s3⟩ := hc3 xs.length (by omega)
  have e1 := s3 ys.length (by omega)
  have k1 : (xs.length : Int) < (xs.length : Int) + 1 := by omega
  have k2 : (ys.length : Int) < (ys.length : Int) + 1 := by omega
  clear hT hc3 s3
  go_wp2
  go_ret
  exact ⟨rfl, hb1⟩
end Dif
end Go.Proofs.YtklhlkhlndhepaaDoor
namespace Go.Proofs.YtklhlkhlndhepaaDoor
open Go.RowKit
set_option maxRecDepth 100000
namespace Dif
open Rdl

/-- The last step of the way that counts. -/
def lastS (q : Nat → Nat → Bool) (Z : Nat → Nat → Nat) : Nat → Nat → Nat
  | 0, _ => 4
  | i + 1, 0 => if Z i 0 + 1 = Z (i + 1) 0 then 3 else 4
  | i + 1, j + 1 => if q i j = true ∧ Z i j = Z (i + 1) (j + 1) then 1 else if Z i j + 1 = Z (i + 1) (j + 1) then 2 else if Z i (j + 1) + 1 = Z (i + 1) (j + 1) then 3 else 4

set_option maxHeartbeats 2000000 in
theorem last_any (T i j n m : Nat) (va vb cv : Value) (xs ys : List Row) (Z : Nat → Nat → Nat) (w : World) (hT : TabAt w T va vb cv) (ha : Sl fields all w va xs) (hb : Sl fields all w vb ys)
    (hM : Tab w cv n m Z) (hi : i ≤ xs.length) (hj : j ≤ ys.length) (hin : i < n) (hjm : j < m) (hm : m ≤ 1000) (hn : n ≤ 1000) (hZ : ∀ r c, r < n → c < m → Z r c ≤ 2000) :
    Calls Tryd.prog 89 #[.pointer (some ⟨T, 0, none⟩), .int .i64 (i : Int), .int .i64 (j : Int)] w fun e w' => e = .returned (.int .i64 (lastS (eqAt xs ys) Z i j : Int)) ∧ ∃ k, w' = w.drewN k := by
  obtain ⟨ca, cb, cc⟩ := hT.cell
  obtain ⟨a1, cap1, rfl, hl1, hc1⟩ := rowAt ha
  obtain ⟨a2, cap2, rfl, hl2, hc2⟩ := rowAt hb
  obtain ⟨a3, cap3, rfl, hl3, hcap3, hc3⟩ := hM
  have k7 : (i : Int) < (n : Int) := by omega
  have k8 : (j : Int) < (m : Int) := by omega
  cases i with
  | zero =>
    obtain ⟨b4, off4, g4, gc4, rfl, c4, s4⟩ := hc3 0 (by omega)
    have e4 := s4 j (by omega)
    have z4 := hZ 0 j (by omega) (by omega)
    generalize Z 0 j = h at *
    simp only [Nat.add_zero] at c4
    clear ca cb hT ha hb hc3 hc1 hc2 s4 hZ
    go_enter Tryd.func89, Tryd.ntmps89
    go_wp2
    go_quiet (fail)
    go_wp2
    go_ret
    exact ⟨rfl, _, rfl⟩
  | succ i =>
    obtain ⟨b3, off3, g3, gc3, rfl, c3, s3⟩ := hc3 i (by omega)
    obtain ⟨b4, off4, g4, gc4, h4, c4, s4⟩ := hc3 (i + 1) (by omega)
    simp only [Option.some.injEq, Addr.mk.injEq, and_true] at h4
    obtain ⟨rfl, rfl⟩ := h4
    have k3 : (i : Int) < (n : Int) := by omega
    have k5 : (i : Int) + 1 < (n : Int) := by omega
    have g1 : decide ((0 : Int) < (i : Int) + 1) = true := by simp
    cases j with
    | zero =>
      have e4 := s4 0 (by omega)
      have e3 := s3 0 (by omega)
      have z4 := hZ (i + 1) 0 (by omega) (by omega)
      have z3 := hZ i 0 (by omega) (by omega)
      have HL : Hid (lastS (eqAt xs ys) Z (i + 1) 0 = if Z i 0 + 1 = Z (i + 1) 0 then 3 else 4) := Lib.hid rfl
      generalize Z (i + 1) 0 = h at *
      generalize Z i 0 = u at *
      clear ca cb hT ha hb hc3 hc1 hc2 s4 s3 hZ
      by_cases hu : u + 1 = h
      · have HR := Lib.hid (HL.out.trans (if_pos hu))
        subst hu
        go_enter Tryd.func89, Tryd.ntmps89
        go_wp2
        go_quiet (fail)
        go_wp2
        go_ret
        exact ⟨ret_i64 (by rw [HR.out]; rfl), _, rfl⟩
      · have HR := Lib.hid (HL.out.trans (if_neg hu))
        have hu2 : ((u : Int) == (h : Int) - 1) = false := by rw [beq_eq_false_iff_ne]; omega
        clear hu
        go_enter Tryd.func89, Tryd.ntmps89
        go_wp2
        go_quiet (fail)
        go_wp2
        go_ret
        exact ⟨ret_i64 (by rw [HR.out]; rfl), _, rfl⟩
    | succ j =>
      obtain ⟨b1, off1, r1, rfl, c1, s1⟩ := hc1 i (by omega)
      obtain ⟨b2, off2, r2, rfl, c2, s2⟩ := hc2 j (by omega)
      have H0 := fun n => same_any r1 r2 _ _ (w.drewN n) (s1.drewN (by decide) n) (s2.drewN (by decide) n)
      have k1 : (i : Int) < (xs.length : Int) := by omega
      have k2 : (j : Int) < (ys.length : Int) := by omega
      have k4 : (j : Int) < (m : Int) := by omega
      have k6 : (j : Int) + 1 < (m : Int) := by omega
      have g2 : decide ((0 : Int) < (j : Int) + 1) = true := by simp
      have e1 := s3 j (by omega)
      have e2 := s3 (j + 1) (by omega)
      have e4 := s4 (j + 1) (by omega)
      have z1 := hZ i j (by omega) (by omega)
      have z2 := hZ i (j + 1) (by omega) (by omega)
      have z4 := hZ (i + 1) (j + 1) (by omega) (by omega)
      have HE : Hid (eqAt xs ys i j = decide (xs[i] = ys[j])) := Lib.hid (by simp [eqAt, List.getD, show i < xs.length by omega, show j < ys.length by omega])
      have HL : Hid (lastS (eqAt xs ys) Z (i + 1) (j + 1) = if eqAt xs ys i j = true ∧ Z i j = Z (i + 1) (j + 1) then 1 else if Z i j + 1 = Z (i + 1) (j + 1) then 2 else if Z i (j + 1) + 1 = Z (i + 1) (j + 1) then 3 else 4) := Lib.hid rfl
      generalize Z (i + 1) (j + 1) = h at *
      generalize Z i (j + 1) = u at *
      generalize Z i j = p at *
      clear hT ha hb hc1 hc2 hc3 s1 s2 s3 s4 hZ
      by_cases hq : xs[i] = ys[j] ∧ p = h
      · obtain ⟨hq, rfl⟩ := hq
        have HR := Lib.hid (HL.out.trans (if_pos ⟨by rw [HE.out]; exact decide_eq_true hq, rfl⟩))
        rw [decide_eq_true hq] at H0
        have H := Lib.hid H0
        clear hq H0
        go_enter Tryd.func89, Tryd.ntmps89
        go_wp2
        go_quiet ((go_at_call 107; first | exact Calls.quiet_of (H.out _) | exact quiet_add (H.out _)))
        go_wp2
        go_ret
        exact ⟨ret_i64 (by rw [HR.out]; rfl), _, rfl⟩
      · have hnq : ¬ (eqAt xs ys i j = true ∧ p = h) := fun hh => hq ⟨by have h1 := hh.1; rw [HE.out] at h1; exact of_decide_eq_true h1, hh.2⟩
        have HL := Lib.hid (HL.out.trans (if_neg hnq))
        have hf : Hid (xs[i] = ys[j] → ((p : Int) == (h : Int)) = false) := Lib.hid (fun hx => by rw [beq_eq_false_iff_ne]; intro he; exact hq ⟨hx, by omega⟩)
        clear hnq hq
        by_cases h2 : p + 1 = h
        · have HR := Lib.hid (HL.out.trans (if_pos h2))
          subst h2
          by_cases hx : xs[i] = ys[j]
          · rw [decide_eq_true hx] at H0
            have H := Lib.hid H0
            have hf := hf.out hx
            clear hx H0
            go_enter Tryd.func89, Tryd.ntmps89
            go_wp2
            go_quiet ((go_at_call 107; first | exact Calls.quiet_of (H.out _) | exact quiet_add (H.out _)))
            go_wp2
            go_ret
            exact ⟨ret_i64 (by rw [HR.out]; rfl), _, rfl⟩
          · rw [decide_eq_false hx] at H0
            have H := Lib.hid H0
            clear hx H0 hf
            go_enter Tryd.func89, Tryd.ntmps89
            go_wp2
            go_quiet ((go_at_call 107; first | exact Calls.quiet_of (H.out _) | exact quiet_add (H.out _)))
            go_wp2
            go_ret
            exact ⟨ret_i64 (by rw [HR.out]; rfl), _, rfl⟩
        · have HL := Lib.hid (HL.out.trans (if_neg h2))
          have h2 : ((p : Int) == (h : Int) - 1) = false := by rw [beq_eq_false_iff_ne]; omega
          by_cases h3 : u + 1 = h
          · have HR := Lib.hid (HL.out.trans (if_pos h3))
            subst h3
            by_cases hx : xs[i] = ys[j]
            · rw [decide_eq_true hx] at H0
              have H := Lib.hid H0
              have hf := hf.out hx
              clear hx H0
              go_enter Tryd.func89, Tryd.ntmps89
              go_wp2
              go_quiet ((go_at_call 107; first | exact Calls.quiet_of (H.out _) | exact quiet_add (H.out _)))
              go_wp2
              go_ret
              exact ⟨ret_i64 (by rw [HR.out]; rfl), _, rfl⟩
            · rw [decide_eq_false hx] at H0
              have H := Lib.hid H0
              clear hx H0 hf
              go_enter Tryd.func89, Tryd.ntmps89
              go_wp2
              go_quiet ((go_at_call 107; first | exact Calls.quiet_of (H.out _) | exact quiet_add (H.out _)))
              go_wp2
              go_ret
              exact ⟨ret_i64 (by rw [HR.out]; rfl), _, rfl⟩
          · have HR := Lib.hid (HL.out.trans (if_neg h3))
            have h3 : ((u : Int) == (h : Int) - 1) = false := by rw [beq_eq_false_iff_ne]; omega
            by_cases hx : xs[i] = ys[j]
            · rw [decide_eq_true hx] at H0
              have H := Lib.hid H0
              have hf := hf.out hx
              clear hx H0
              go_enter Tryd.func89, Tryd.ntmps89
              go_wp2
              go_quiet ((go_at_call 107; first | exact Calls.quiet_of (H.out _) | exact quiet_add (H.out _)))
              go_wp2
              go_ret
              exact ⟨ret_i64 (by rw [HR.out]; rfl), _, rfl⟩
            · rw [decide_eq_false hx] at H0
              have H := Lib.hid H0
              clear hx H0 hf
              go_enter Tryd.func89, Tryd.ntmps89
              go_wp2
              go_quiet ((go_at_call 107; first | exact Calls.quiet_of (H.out _) | exact quiet_add (H.out _)))
              go_wp2
              go_ret
              exact ⟨ret_i64 (by rw [HR.out]; rfl), _, rfl⟩
end Dif
end Go.Proofs.YtklhlkhlndhepaaDoor
namespace Go.Proofs.YtklhlkhlndhepaaDoor
open Go.RowKit
set_option maxRecDepth 100000
namespace Dif
open Rdl

/-- The steps of the way that counts, from behind. -/
def wayU (q : Nat → Nat → Bool) (Z : Nat → Nat → Nat) : Nat → Nat → Nat → List Nat
  | 0, _, _ => []
  | f + 1, i, j => if i = 0 ∧ j = 0 then [] else lastS q Z i j :: wayU q Z f (if lastS q Z i j = 4 then i else i - 1) (if lastS q Z i j = 3 then j else j - 1)
theorem wayU_zero (q : Nat → Nat → Bool) (Z : Nat → Nat → Nat) : ∀ f, wayU q Z f 0 0 = []
  | 0 => rfl
  | f + 1 => by rw [wayU]; simp
theorem lastS_range (q : Nat → Nat → Bool) (Z : Nat → Nat → Nat) (hZ : ∀ i, Z (i + 1) 0 = Z i 0 + 1) (i j : Nat) (h : 0 < i ∨ 0 < j) :
    (lastS q Z i j = 4 ∧ 0 < j) ∨ (lastS q Z i j = 3 ∧ 0 < i) ∨ ((lastS q Z i j = 1 ∨ lastS q Z i j = 2) ∧ 0 < i ∧ 0 < j) := by
  cases i with
  | zero =>
    left
    rw [lastS]
    exact ⟨rfl, by omega⟩
  | succ i =>
    cases j with
    | zero =>
      right; left
      rw [lastS, if_pos (hZ i).symm]
      exact ⟨rfl, by omega⟩
    | succ j =>
      rw [lastS]
      split
      · right; right; exact ⟨Or.inl rfl, by omega, by omega⟩
      · split
        · right; right; exact ⟨Or.inr rfl, by omega, by omega⟩
        · split
          · right; left; exact ⟨rfl, by omega⟩
          · left; exact ⟨rfl, by omega⟩
theorem tabAt_below {w w' : World} {T : Nat} {va vb cv : Value} (h : TabAt w T va vb cv) (hb : Below w.heap.size w w') : TabAt w' T va vb cv := by
  have hlt := tab_lt h
  unfold TabAt at *
  rw [hb.block _ hlt]
  exact h
theorem tab_below {w w' : World} {cv : Value} {n m : Nat} {Z : Nat → Nat → Nat} (hm : 0 < m) (h : Tab w cv n m Z) (hb : Below w.heap.size w w') : Tab w' cv n m Z := by
  obtain ⟨a, cap, hv, h1, h2, hc⟩ := h
  refine ⟨a, cap, hv, h1, h2, fun r hr => ?_⟩
  obtain ⟨b, off, g, gc, ha, hcell, hz⟩ := hc r hr
  refine ⟨b, off, g, gc, ha, cell_later hb hcell, fun c hcm => cell_later hb (hz c hcm)⟩

theorem below_setCells {B g : Nat} {w0 : World} (hg : B ≤ g) : ∀ (vs : List Value) (o : Nat) (w : World), Below B w0 w → Below B w0 (w.setCells g o vs)
  | [], _, _, h => h
  | v :: r, o, w, h => by
    rw [World.setCells]
    exact below_setCells hg r (o + 1) _ (h.setCell hg v)
theorem own_cells {w : World} {B g cap : Nat} {xs : List Int} (h : Rdl.Own int all w B 3 (.slice (some ⟨g, 0, none⟩) xs.length cap) xs) : ∀ j, j < xs.length → w.cell? ⟨g, 0 + j, none⟩ = some (.int .i64 (xs.getD j 0)) := by
  intro j hj
  obtain ⟨css, hl, hr, hown⟩ := h
  obtain ⟨e, hb⟩ := hr j hj
  rw [Nat.zero_add, hown.cellAt j (by show j < xs.length * 1; omega)]
  have := flatten_at (n := 1) css j 0 (Rdl.Own.lens hl hr) (by omega) (by omega)
  rw [Nat.mul_one, Nat.add_zero] at this
  rw [this, e]
  simp [List.getD, hj]
/-- The slice of the call's own, its numbers the other way round. -/
theorem own_rev {w : World} {B g q cap : Nat} {xs : List Int} (h : Rdl.Own int all w B 3 (.slice (some ⟨g, 0, none⟩) xs.length cap) xs) :
    Sl int all ((w.drewN q).setCells g 0 ((xs.take xs.length).reverse.map (Value.int .i64))) (.slice (some ⟨g, 0, none⟩) xs.length cap) xs.reverse ∧ Below B w ((w.drewN q).setCells g 0 ((xs.take xs.length).reverse.map (Value.int .i64))) := by
  have hbase := h.base g rfl
  obtain ⟨css, hl, hr, hown⟩ := h
  have hlens := Rdl.Own.lens hl hr
  have hcell : ∀ j (hj : j < xs.length), w.cell? ⟨g, 0 + j, none⟩ = some (.int .i64 xs[j]) ∧ (-9223372036854775808 ≤ xs[j] ∧ xs[j] ≤ 9223372036854775807) := by
    intro j hj
    have h1 := hr j hj
    obtain ⟨e, hb⟩ := h1
    refine ⟨?_, hb⟩
    rw [Nat.zero_add, hown.cellAt j (by show j < xs.length * 1; omega)]
    have := flatten_at (n := 1) css j 0 hlens (by omega) (by omega)
    rw [Nat.mul_one, Nat.add_zero] at this
    rw [this, e]
    rfl
  rw [List.take_length]
  have hlen2 : (xs.reverse.map (Value.int .i64)).length = xs.length := by simp
  refine ⟨⟨some ⟨g, 0, none⟩, cap, by simp, ?_, ?_, fun i hi => ?_⟩, ?_⟩
  · rcases hown.2 with ⟨h0, _⟩ | ⟨g', cap', cur, h1, _, _, hnc, _⟩
    · cases h0
    · simp only [Value.slice.injEq, Option.some.injEq, Addr.mk.injEq, and_true, true_and] at h1
      obtain ⟨_, rfl⟩ := h1
      simpa using hnc
  · rcases hown.2 with ⟨h0, _⟩ | ⟨g', cap', cur, h1, _, _, _, hcm, _⟩
    · cases h0
    · simp only [Value.slice.injEq, Option.some.injEq, Addr.mk.injEq, and_true, true_and] at h1
      obtain ⟨_, rfl⟩ := h1
      exact hcm
  · have hi' : i < xs.length := by simpa using hi
    refine ⟨g, 0, [.int .i64 xs.reverse[i]], rfl, trivial, ⟨rfl, ?_⟩, fun j hj => ?_⟩
    · rw [List.getElem_reverse]
      exact (hcell _ (by omega)).2
    · have hj0 : j = 0 := by change j < 1 at hj; omega
      subst hj0
      have := World.cell?_setCells_in g (xs.reverse.map (Value.int .i64)) 0 (w.drewN q) (fun j hj => by
        rw [hlen2] at hj
        rw [World.cell?_drewN, (hcell j hj).1]; rfl) i (by simpa using hi')
      show World.cell? _ ⟨g, 0 + (i * 1 + 0), none⟩ = _
      rw [Nat.mul_one, Nat.add_zero, this]
      simp
  · exact below_setCells hbase _ _ _ (below_drewN (Below.refl _ _) q)
set_option maxHeartbeats 1000000 in
theorem way_any (T n m : Nat) (va vb cv : Value) (xs ys : List Row) (Z : Nat → Nat → Nat) (w : World) (hT : TabAt w T va vb cv) (ha : Sl fields all w va xs) (hb : Sl fields all w vb ys)
    (hM : Tab w cv n m Z) (hin : xs.length < n) (hjm : ys.length < m) (hm : m ≤ 1000) (hn : n ≤ 1000) (hZ : ∀ r c, r < n → c < m → Z r c ≤ 2000) (hZ0 : ∀ i, Z (i + 1) 0 = Z i 0 + 1) :
    Calls Tryd.prog 73 #[.pointer (some ⟨T, 0, none⟩)] w fun e w' => ∃ v, e = .returned v ∧ Sl int all w' v (((wayU (eqAt xs ys) Z (xs.length + ys.length) xs.length ys.length).map Int.ofNat).reverse) ∧ Below w.heap.size w w' := by
  have HL := Lib.hid (fun (w' : World) (hbw : Below w.heap.size w w') (i j : Nat) (hi : i ≤ xs.length) (hj : j ≤ ys.length) => last_any T i j n m va vb cv xs ys Z w' (tabAt_below hT hbw) (ha.below (by decide) hbw) (hb.below (by decide) hbw) (tab_below (by omega) hM hbw) hi hj (by omega) (by omega) hm hn hZ)
  have HR := Lib.hid (lastS_range (eqAt xs ys) Z hZ0)
  obtain ⟨c0, c1, c2⟩ := hT.cell
  obtain ⟨a1, cap1, rfl, hl1, hc1⟩ := rowAt ha
  obtain ⟨a2, cap2, rfl, hl2, hc2⟩ := rowAt hb
  clear hc1 hc2 ha hb hT hM hZ hZ0
  go_enter Tryd.func73, Tryd.ntmps73
  go_wp2
  go_quiet (fail)
  go_wp2
  go_loopw [3, 4, 5] (fun v si sj wr => ∃ (i j f : Nat) (out : List Nat), i ≤ xs.length ∧ j ≤ ys.length ∧ i + j ≤ f ∧ si = .int .i64 i ∧ sj = .int .i64 j ∧ Rdl.Own int all wr w.heap.size 3 v (out.map Int.ofNat) ∧ Below w.heap.size w wr ∧ out.length + (i + j) ≤ 2000 ∧ out ++ wayU (eqAt xs ys) Z f i j = wayU (eqAt xs ys) Z (xs.length + ys.length) xs.length ys.length) (fun _ si sj _ => (intOf si).toNat + (intOf sj).toNat)
  case atStart => exact ⟨xs.length, ys.length, xs.length + ys.length, [], Nat.le_refl _, Nat.le_refl _, Nat.le_refl _, rfl, rfl, Rdl.Own.nil, below_drewN (Below.refl _ _) _, by simp; omega, rfl⟩
  case round =>
    obtain ⟨i, j, f, out, hi, hj, hf, rfl, rfl, hown, hbr, hlen, hout⟩ := hrel
    by_cases hz : i = 0 ∧ j = 0
    · obtain ⟨rfl, rfl⟩ := hz
      rw [wayU_zero, List.append_nil] at hout
      have hzl : (out.map Int.ofNat).length ≤ 2000 := by simp; omega
      have HOUT := Lib.hid (congrArg (List.map Int.ofNat) hout.symm)
      clear hout hlen
      generalize out.map Int.ofNat = zs at *
      have hown2 := hown
      obtain ⟨css, hl, hr, hrow⟩ := hown2
      rcases hrow.2 with ⟨rfl, h0⟩ | ⟨g, cap, cur, rfl, hbg, hg, hnc, hcm, hcs, htake⟩
      · obtain rfl : zs = [] := by simpa using h0
        have hrv := Lib.hid (Tryd.slices_Reverse_int_empty none 0 wr)
        clear hrow hr hown
        go_wp2_with fail
        refine hrv.out.mono ?_
        rintro e w1 ⟨rfl, rfl⟩
        go_wp2
        go_ret
        refine ⟨_, rfl, ?_, hbr⟩
        rw [HOUT.out]
        exact Sl.nil
      · have hrv := Lib.hid (Tryd.slices_Reverse_int_cells g 0 zs.length cap zs wr (Nat.le_refl _) (by omega) (own_cells hown) (fun j _ => by rw [Nat.zero_add]; exact hrow.frozenAt j))
        have hfin := Lib.hid (fun q => own_rev (q := q) hown)
        clear hrow hr hown hg htake hcs
        go_wp2_with fail
        refine hrv.out.mono ?_
        rintro e w1 ⟨rfl, q, rfl⟩
        have h9 := hfin.out q
        go_wp2
        go_ret
        simp only [List.take_length, List.map_reverse] at h9
        refine ⟨_, rfl, ?_, hbr.trans h9.2⟩
        rw [HOUT.out]
        exact h9.1
    · have hc := Lib.hid (HL.out wr hbr i j hi hj)
      have hr := HR.out i j (by omega)
      obtain ⟨f, rfl⟩ : ∃ g, f = g + 1 := ⟨f - 1, by omega⟩
      rw [wayU, if_neg hz] at hout
      generalize lastS (eqAt xs ys) Z i j = s at *
      have HO := Lib.hid hout
      clear hout
      have hw1 : IntKind.i64.wrap ((i : Int) - 1) = (i : Int) - 1 := IntWalk.i64_in _ (by omega)
      have hw2 : IntKind.i64.wrap ((j : Int) - 1) = (j : Int) - 1 := IntWalk.i64_in _ (by omega)
      have hb : -9223372036854775808 ≤ (s : Int) ∧ (s : Int) ≤ 9223372036854775807 := by omega
      have hsp : decide (0 < i) = true ∨ (decide (0 < i) = false ∧ decide (0 < j) = true) := by
        simp; omega
      have hcases : (((s : Int) != 4) = false ∧ ((s : Int) != 3) = true ∧ s = 4 ∧ 0 < j) ∨ (((s : Int) != 4) = true ∧ ((s : Int) != 3) = false ∧ s = 3 ∧ 0 < i) ∨ (((s : Int) != 4) = true ∧ ((s : Int) != 3) = true ∧ (s = 1 ∨ s = 2) ∧ 0 < i ∧ 0 < j) := by
        rcases hr with ⟨rfl, h⟩ | ⟨rfl, h⟩ | ⟨h, h'⟩
        · exact Or.inl ⟨rfl, rfl, rfl, h⟩
        · exact Or.inr (Or.inl ⟨rfl, rfl, rfl, h⟩)
        · refine Or.inr (Or.inr ⟨?_, ?_, h, h'⟩) <;> (rcases h with rfl | rfl <;> rfl)
      have HCS := Lib.hid hcases
      clear hr hcases hz
      rcases hsp with hd | ⟨hd, hd2⟩
      all_goals
        go_wp2_with fail
        refine hc.out.mono ?_
        rintro e w1 ⟨rfl, nd, rfl⟩
        have hown := hown.drewN nd
        have hbr := below_drewN hbr nd
        go_wp2_with (at_builtin; refine wpList_push (P := Tryd.prog) int _ rfl _ _ 102 rfl w.heap.size 3 (.int .i64 0) 8 Tryd.underlying102 infoInt rfl (by decide) all _ _ rfl hown _ (s : Int) ⟨rfl, hb⟩ 1 rfl (by simp [Value.oneCell']) (by simp; omega) (by simp [maxLen]; omega) hbr.size ?_)
        intro v' w' hown' hgrow
        have hb2 := hbr.grown hgrow hbr.size (fun b hb => (hown.base b hb))
        rcases HCS.out with ⟨h4, h3, rfl, hp⟩ | ⟨h4, h3, rfl, hp⟩ | ⟨h4, h3, h12, hp, hp'⟩
        · go_wp2
          go_roundw
          case rel =>
            refine ⟨i, j - 1, f, out ++ [4], hi, by omega, by omega, rfl, by congr 1; omega, by simpa using hown', hb2, by simp; omega, ?_⟩
            have h9 := HO.out
            rw [if_pos rfl, if_neg (by decide)] at h9
            rw [List.append_assoc, List.singleton_append]
            exact h9
          case measure => simp [intOf]; omega
        · go_wp2
          go_roundw
          case rel =>
            refine ⟨i - 1, j, f, out ++ [3], by omega, hj, by omega, by congr 1; omega, rfl, by simpa using hown', hb2, by simp; omega, ?_⟩
            have h9 := HO.out
            rw [if_pos rfl, if_neg (by decide)] at h9
            rw [List.append_assoc, List.singleton_append]
            exact h9
          case measure => simp [intOf]; omega
        · go_wp2
          go_roundw
          case rel =>
            refine ⟨i - 1, j - 1, f, out ++ [s], by omega, by omega, by omega, by congr 1; omega, by congr 1; omega, by simpa using hown', hb2, by simp; omega, ?_⟩
            have h9 := HO.out
            rw [if_neg (by omega), if_neg (by omega)] at h9
            rw [List.append_assoc, List.singleton_append]
            exact h9
          case measure => simp [intOf]; omega
theorem cst_zero (q : Nat → Nat → Bool) : ∀ i, cst q i 0 = i
  | 0 => rfl
  | i + 1 => rfl
set_option maxHeartbeats 1000000 in
theorem Way_any (va vb : Value) (xs ys : List Row) (w : World) (ha : Sl fields all w va xs) (hb : Sl fields all w vb ys) (hx : xs.length ≤ 900) (hy : ys.length ≤ 900) :
    Calls Tryd.prog 55 #[va, vb] w fun e w' => ∃ v, e = .returned v ∧ Sl int all w' v (((wayU (eqAt xs ys) (cst (eqAt xs ys)) (xs.length + ys.length) xs.length ys.length).map Int.ofNat).reverse) ∧ Below w.heap.size w w' := by
  have H := Lib.hid (tabled_any va vb xs ys w ha hb hx hy)
  have HW := Lib.hid (fun w1 T cv (hb1 : Below w.heap.size w w1) (hT : TabAt w1 T va vb cv) (hM : Tab w1 cv (xs.length + 1) (ys.length + 1) (cst (eqAt xs ys))) =>
    way_any T (xs.length + 1) (ys.length + 1) va vb cv xs ys (cst (eqAt xs ys)) w1 hT (ha.below (by decide) hb1) (hb.below (by decide) hb1) hM (by omega) (by omega) (by omega) (by omega)
      (fun r c hr hc => by have := cst_le (eqAt xs ys) r c; omega) (fun i => by rw [cst_zero, cst_zero]))
  clear ha hb
  go_enter Tryd.func55, Tryd.ntmps55
  go_wp2_with fail
  refine H.out.mono ?_
  rintro e w1 ⟨T, cv, rfl, hT, hM, hb1⟩
  have HW1 := Lib.hid (HW.out w1 T cv hb1 hT hM)
  clear hT hM
  go_wp2_with fail
  refine HW1.out.mono ?_
  rintro e w2 ⟨v, rfl, hs, hb2⟩
  obtain ⟨a, n, cap, hv⟩ : ∃ a n cap, v = .slice a n cap := by
    obtain ⟨a, cap, h, _⟩ := hs
    exact ⟨a, _, cap, h⟩
  subst hv
  go_wp2
  go_ret
  exact ⟨_, rfl, hs, hb1.trans (hb2.mono hb1.size)⟩
end Dif
end Go.Proofs.YtklhlkhlndhepaaDoor
namespace Go.Proofs.YtklhlkhlndhepaaDoor
open Go.RowKit
set_option maxRecDepth 100000
namespace Dif
open Rdl

def wt (x : ByteArray × ByteArray) : Nat := min x.1.size 10000 + min x.2.size 10000
def muchGo : Nat → Nat → Row → Bool
  | _, _, [] => false
  | i, n, x :: r => if 60 < i ∨ 6000 < n + wt x then true else muchGo (i + 1) (n + wt x) r
/-- More than is looked at. -/
def muchB (xs : Row) : Bool := muchGo 0 0 xs

theorem Much_any (v : Value) (xs : Row) (w : World) (hv : Sl field all w v xs) :
    Calls Tryd.prog 8 #[v] w fun e w' => e = .returned (.bool (muchB xs)) ∧ Below w.heap.size w w' := by
  obtain ⟨a, cap, rfl, hla, hca⟩ := fieldAt hv
  have HA := Lib.hid hca
  clear hca hv
  go_enter Tryd.func8, Tryd.ntmps8
  go_wp2
  go_loopw [3, 8] (fun n i wr => ∃ (k m : Nat), k ≤ xs.length ∧ k ≤ 61 ∧ m ≤ 6000 ∧ i = .int .i64 k ∧ n = .int .i64 m ∧ Hid (muchB xs = muchGo k m (xs.drop k)) ∧ Below w.heap.size w wr) (fun _ i _ => xs.length - (intOf i).toNat)
  case atStart => exact ⟨0, 0, by omega, by omega, by omega, rfl, rfl, Lib.hid rfl, Below.refl _ _⟩
  case round =>
    obtain ⟨k, m, hk, hk6, hm, rfl, rfl, hT, hb⟩ := hrel
    by_cases hlt : k < xs.length
    · obtain ⟨b1, off1, rfl, c1, c2, s1, s2⟩ := HA.out k hlt
      have d1 := cell_later hb c1
      have d2 := cell_later hb c2
      have HS : Hid (muchB xs = if 60 < k ∨ 6000 < m + wt xs[k] then true else muchGo (k + 1) (m + wt xs[k]) (xs.drop (k + 1))) := Lib.hid (by
        rw [hT.out, List.drop_eq_getElem_cons hlt]; rfl)
      have HW : Hid (wt xs[k] = min xs[k].1.size 10000 + min xs[k].2.size 10000) := Lib.hid rfl
      clear c1 c2 hT
      unfold maxLen at s1 s2
      generalize xs[k] = x at *
      have m1 : (if (10000 : Int) < (x.1.size : Int) then (10000 : Int) else (x.1.size : Int)) = ((min x.1.size 10000 : Nat) : Int) := by split <;> omega
      have m2 : (if (10000 : Int) < (x.2.size : Int) then (10000 : Int) else (x.2.size : Int)) = ((min x.2.size 10000 : Nat) : Int) := by split <;> omega
      have l1 : min x.1.size 10000 ≤ 10000 := by omega
      have l2 : min x.2.size 10000 ≤ 10000 := by omega
      generalize min x.1.size 10000 = q1 at *
      generalize min x.2.size 10000 = q2 at *
      have hb2 : Below w.heap.size w (wr.alloc (Obj.cells #[Value.string x.1, Value.string x.2] 69)) := hb.alloc hb.size _
      by_cases hbig : 60 < k ∨ 6000 < m + wt x
      · have HR : Hid (muchB xs = true) := Lib.hid (by rw [HS.out, if_pos hbig])
        have hbig2 : 60 < k ∨ (k ≤ 60 ∧ 6000 < m + (q1 + q2)) := by rw [HW.out] at hbig; omega
        clear hbig
        rcases hbig2 with hk60 | ⟨hk60, hm60⟩
        · go_wp2
          go_ret
          exact ⟨ret_bool HR.out.symm, hb2⟩
        · go_wp2
          go_ret
          exact ⟨ret_bool HR.out.symm, hb2⟩
      · have HR : Hid (muchB xs = muchGo (k + 1) (m + wt x) (xs.drop (k + 1))) := Lib.hid (by rw [HS.out, if_neg hbig])
        have hbig2 : k ≤ 60 ∧ m + (q1 + q2) ≤ 6000 := by rw [← HW.out]; omega
        obtain ⟨hb3, hb4⟩ := hbig2
        clear hbig
        go_wp2
        go_roundw
        case rel => exact ⟨k + 1, m + (q1 + q2), by omega, by omega, by omega, by go_num, by go_num, Lib.hid (by rw [HR.out, HW.out]), hb2⟩
        case measure => simp [intOf]; omega
    · obtain rfl : k = xs.length := by omega
      go_wp2
      go_ret
      exact ⟨ret_bool (by rw [hT.out, List.drop_length]; rfl), hb⟩
end Dif
end Go.Proofs.YtklhlkhlndhepaaDoor
namespace Go.Proofs.YtklhlkhlndhepaaDoor
open Go.RowKit
set_option maxRecDepth 100000
namespace Dif
open Rdl

abbrev lists : Rd (List (List Row)) := sl rows (by decide)

theorem listAt {ok : Nat → Prop} {w : World} {v : Value} {xs : List (List Row)} (h : Sl rows ok w v xs) :
    ∃ a cap, v = .slice a xs.length cap ∧ xs.length ≤ 9223372036854775807 ∧ ∀ i (h : i < xs.length), ∃ b off r, a = some ⟨b, off, none⟩ ∧ w.cell? ⟨b, off + i, none⟩ = some r ∧ Sl fields ok w r xs[i] := by
  obtain ⟨a, cap, hv, h1, h2, hc⟩ := h
  refine ⟨a, cap, hv, by unfold maxLen at h2; omega, fun i hi => ?_⟩
  obtain ⟨b, off, cs, ha, _, ⟨r, hcs, hr⟩, hcell⟩ := hc i hi
  subst hcs
  have e0 := hcell 0 (by decide)
  refine ⟨b, off, r, ha, ?_, hr⟩
  simpa [rows, sl] using e0

def muchL (l : List Row) : Bool := decide (14 < l.length) || l.any muchB
def muchAll (ls : List (List Row)) : Bool := ls.any muchL

theorem any_step {α : Type} (p : α → Bool) (xs : List α) (k : Nat) (h : k < xs.length) (ht : xs.any p = (xs.drop k).any p) (hf : p xs[k] = false) : xs.any p = (xs.drop (k + 1)).any p := by
  rw [ht, List.drop_eq_getElem_cons h, List.any_cons, hf, Bool.false_or]
theorem any_hit {α : Type} (p : α → Bool) (xs : List α) (k : Nat) (h : k < xs.length) (hf : p xs[k] = true) : xs.any p = true := List.any_eq_true.2 ⟨xs[k], List.getElem_mem h, hf⟩
theorem any_end {α : Type} (p : α → Bool) (xs : List α) (ht : xs.any p = (xs.drop xs.length).any p) : xs.any p = false := by rw [ht, List.drop_length]; rfl

theorem much_any (v : Value) (ls : List (List Row)) (w : World) (hv : Sl rows all w v ls) :
    Calls Tryd.prog 34 #[v] w fun e w' => e = .returned (.bool (muchAll ls)) ∧ Below w.heap.size w w' := by
  obtain ⟨a, cap, rfl, hla, hca⟩ := listAt hv
  have HA := Lib.hid hca
  clear hca hv
  go_enter Tryd.func34, Tryd.ntmps34
  go_wp2
  go_loopw [9] (fun i wr => ∃ (k : Nat), k ≤ ls.length ∧ i = .int .i64 k ∧ Hid (muchAll ls = (ls.drop k).any muchL) ∧ Below w.heap.size w wr) (fun i _ => ls.length - (intOf i).toNat)
  case atStart => exact ⟨0, by omega, rfl, Lib.hid rfl, Below.refl _ _⟩
  case round =>
    obtain ⟨k, hk, rfl, hT, hb⟩ := hrel
    by_cases hlt : k < ls.length
    · obtain ⟨b1, off1, r, rfl, c1, s1⟩ := HA.out k hlt
      have d1 := cell_later hb c1
      have HS := Lib.hid s1
      obtain ⟨a2, cap2, hr2, hla2, hca2⟩ := rowAt (s1.below (by decide) hb)
      subst hr2
      have HC := Lib.hid hca2
      have HY : Hid (muchL ls[k] = true → muchAll ls = true) := Lib.hid (any_hit muchL ls k hlt)
      have HN : Hid (muchL ls[k] = false → muchAll ls = (ls.drop (k + 1)).any muchL) := Lib.hid (any_step muchL ls k hlt hT.out)
      clear hca2 s1 c1
      generalize ls[k] = l at *
      by_cases hbig : 14 < l.length
      · have HR : Hid (muchAll ls = true) := Lib.hid (HY.out (by simp [muchL, hbig]))
        go_wp2
        go_ret
        exact ⟨ret_bool HR.out.symm, hb⟩
      · have HB : Hid (muchL l = l.any muchB) := Lib.hid (by simp [muchL, hbig])
        obtain ⟨wo, hwo⟩ : ∃ wo : World, wo = wr := ⟨_, rfl⟩
        subst hwo
        go_wp2
        go_loopw [18] (fun i wi => ∃ (j : Nat), j ≤ l.length ∧ i = .int .i64 j ∧ Hid (l.any muchB = (l.drop j).any muchB) ∧ Below wo.heap.size wo wi) (fun i _ => l.length - (intOf i).toNat)
        case atStart => exact ⟨0, by omega, rfl, Lib.hid rfl, Below.refl _ _⟩
        case round =>
          obtain ⟨j, hj, rfl, hT2, hbi⟩ := hrel
          by_cases hjl : j < l.length
          · obtain ⟨b3, off3, r3, rfl, c3, s3⟩ := HC.out j hjl
            have d3 := cell_later hbi c3
            have HM := Lib.hid (fun wx (h : Below wo.heap.size wo wx) => Much_any r3 _ wx (s3.below (by decide) h))
            have HY2 : Hid (muchB l[j] = true → l.any muchB = true) := Lib.hid (any_hit muchB l j hjl)
            have HN2 : Hid (muchB l[j] = false → l.any muchB = (l.drop (j + 1)).any muchB) := Lib.hid (any_step muchB l j hjl hT2.out)
            clear s3 c3
            generalize l[j] = f at *
            go_wp2_with fail
            refine (HM.out _ hbi).mono ?_
            rintro e w2 ⟨rfl, hb2⟩
            have hb3 : Below wo.heap.size wo w2 := hbi.trans (hb2.mono hbi.size)
            cases hmf : muchB f with
            | true =>
              have HR : Hid (muchAll ls = true) := Lib.hid (HY.out (by rw [HB.out]; exact HY2.out hmf))
              clear hmf
              go_wp2
              go_ret
              exact ⟨ret_bool HR.out.symm, hb.trans (hb3.mono hb.size)⟩
            | false =>
              have HR := Lib.hid (HN2.out hmf)
              clear hmf
              go_wp2
              go_roundw
              case rel => exact ⟨j + 1, by omega, by go_num, HR, hb3⟩
              case measure => simp [intOf]; omega
          · obtain rfl : j = l.length := by omega
            have HR := Lib.hid (HN.out (by rw [HB.out]; exact any_end muchB l hT2.out))
            go_wp2
            go_roundw
            case rel => exact ⟨k + 1, by omega, by go_num, HR, hb.trans (hbi.mono hb.size)⟩
            case measure => simp [intOf]; omega
    · obtain rfl : k = ls.length := by omega
      go_wp2
      go_ret
      exact ⟨ret_bool (any_end muchL ls hT.out).symm, hb⟩
end Dif
end Go.Proofs.YtklhlkhlndhepaaDoor
namespace Go.Proofs.YtklhlkhlndhepaaDoor
open Go.RowKit
set_option maxRecDepth 100000
namespace Dif
open Rdl

theorem opens_field : Opens Tryd.prog 69 field :=
  opens_two Tryd.underlying69 (by kernel_rfl) rfl rfl (opens_str Tryd.underlying9 (by kernel_rfl)) (opens_str Tryd.underlying9 (by kernel_rfl))
theorem opens_fields : Opens Tryd.prog 24 fields := opens_sl (by decide) Tryd.underlying24 (by kernel_rfl) opens_field
theorem opens_rows : Opens Tryd.prog 37 rows := opens_sl (by decide) Tryd.underlying37 (by kernel_rfl) opens_fields
theorem open_rows {H : Type} {enc : TypeId × Value → H} {W : World} {base : Nat} {v : Value} {d : DataW H} {p : List MemPlace} (hv : Value.okWide Tryd.prog W .any base 37 v)
    (h : DataW.Trod enc Tryd.prog W 0 (fun _ => true) true 37 v d p) : ∃ xs : List Row, Sl fields all W v xs := by
  obtain ⟨a0, len, cap, rfl⟩ := Go.WideShapes.okWide_slice Tryd.underlying37 hv
  obtain ⟨fuel, hf⟩ := h
  obtain ⟨xs, v, hc, hs⟩ := opens_rows.2 enc W _ _ _ _ _ _ hf
  simp only [Value.cells, List.cons.injEq, and_true] at hc
  subst hc
  exact ⟨xs, hs⟩

/-- A new array of one-cell elements. -/
theorem sl_new {α : Type} {R : Rd α} {w : World} {t : TypeId} (vs : Array Value) (xs : List α) (hn : R.n = 1) (hl : vs.size = xs.length) (hm : xs.length ≤ maxLen)
    (h : ∀ i (h : i < xs.length), ∃ u, vs[i]? = some u ∧ R.rd all (w.alloc (.cells vs t)) [u] xs[i]) : Sl R all (w.alloc (.cells vs t)) (.slice (some ⟨w.heap.size, 0, none⟩) xs.length xs.length) xs := by
  refine ⟨_, xs.length, rfl, Nat.le_refl _, hm, fun i hi => ?_⟩
  obtain ⟨u, hu, hr⟩ := h i hi
  refine ⟨w.heap.size, 0, [u], rfl, trivial, hr, fun j hj => ?_⟩
  have hj0 : j = 0 := by omega
  subst hj0
  rw [World.cell?_alloc_at _ _ _ _ rfl]
  simp [hn, hu]
theorem one_any (s : ByteArray) (hs : s.size ≤ maxLen) (w : World) :
    Calls Tryd.prog 52 #[.string s] w fun e w' => ∃ b, e = .returned (.slice (some ⟨b, 0, none⟩) 1 1) ∧ Sl field all w' (.slice (some ⟨b, 0, none⟩) 1 1) [(⟨#[65]⟩, s)] ∧ Below w.heap.size w w' := by
  go_enter Tryd.func52, Tryd.ntmps52
  go_wp2
  go_ret
  refine ⟨_, rfl, ⟨_, 1, rfl, Nat.le_refl _, by unfold maxLen; omega, fun i hi => ?_⟩, (Below.refl _ _).alloc (Nat.le_refl _) _⟩
  obtain rfl : i = 0 := by simpa using hi
  refine ⟨_, 0, [.string ⟨#[65]⟩, .string s], rfl, trivial, ⟨[.string ⟨#[65]⟩], [.string s], rfl, ⟨rfl, by show 1 ≤ maxLen; decide⟩, ⟨rfl, hs⟩⟩, fun j hj => ?_⟩
  rw [World.cell?_alloc_at _ _ _ _ rfl]
  match j, hj with
  | 0, _ => rfl
  | 1, _ => rfl
def by1 (c : UInt8) : ByteArray := ⟨#[c]⟩
def rowOf (c : UInt8) : Row := [(⟨#[65]⟩, ⟨#[c]⟩)]
abbrev aliveA : List Row := [rowOf 97, rowOf 98, rowOf 99]
abbrev aliveB : List Row := [rowOf 97, rowOf 120, rowOf 99, rowOf 100]
theorem alive_cst : cst (eqAt aliveA aliveB) aliveA.length aliveB.length = 2 := by decide +kernel
theorem alive_way : ((wayU (eqAt aliveA aliveB) (cst (eqAt aliveA aliveB)) (aliveA.length + aliveB.length) aliveA.length aliveB.length).map Int.ofNat).reverse = [1, 2, 1, 4] := by decide +kernel
theorem alive_any (w : World) : Calls Tryd.prog 33 #[] w fun e w' => e = .returned (.bool true) ∧ Below w.heap.size w w' := by
  have H := Lib.hid (fun (c : UInt8) (w : World) => one_any ⟨#[c]⟩ (by show 1 ≤ maxLen; decide) w)
  go_enter Tryd.func33, Tryd.ntmps33
  go_wp2_with fail
  refine (H.out _ _).mono ?_
  rintro e w1 ⟨b1, rfl, s1, hb1⟩
  go_wp2_with fail
  refine (H.out _ _).mono ?_
  rintro e w2 ⟨b2, rfl, s2, hb2⟩
  go_wp2_with fail
  refine (H.out _ _).mono ?_
  rintro e w3 ⟨b3, rfl, s3, hb3⟩
  have hA := sl_new (R := fields) (w := w3) (t := 24) #[.slice (some ⟨b1, 0, none⟩) 1 1, .slice (some ⟨b2, 0, none⟩) 1 1, .slice (some ⟨b3, 0, none⟩) 1 1] aliveA rfl rfl (by decide) (fun i hi => by
    have hal : Below w3.heap.size w3 (w3.alloc (.cells #[.slice (some ⟨b1, 0, none⟩) 1 1, .slice (some ⟨b2, 0, none⟩) 1 1, .slice (some ⟨b3, 0, none⟩) 1 1] 24)) := (Below.refl _ _).alloc (Nat.le_refl _) _
    match i, hi with
    | 0, _ => exact ⟨_, rfl, _, rfl, ((s1.below (by decide) hb2).below (by decide) hb3).below (by decide) hal⟩
    | 1, _ => exact ⟨_, rfl, _, rfl, (s2.below (by decide) hb3).below (by decide) hal⟩
    | 2, _ => exact ⟨_, rfl, _, rfl, s3.below (by decide) hal⟩)
  have hbA := ((hb1.trans (hb2.mono hb1.size)).trans (hb3.mono (Nat.le_trans hb1.size hb2.size))).alloc (Nat.le_trans hb1.size (Nat.le_trans hb2.size hb3.size)) (.cells #[.slice (some ⟨b1, 0, none⟩) 1 1, .slice (some ⟨b2, 0, none⟩) 1 1, .slice (some ⟨b3, 0, none⟩) 1 1] 24)
  clear s1 s2 s3 hb1 hb2 hb3
  have KA := Lib.hid hA
  clear hA
  go_wp2_with fail
  refine (H.out _ _).mono ?_
  rintro e w4 ⟨b4, rfl, s4, hb4⟩
  go_wp2_with fail
  refine (H.out _ _).mono ?_
  rintro e w5 ⟨b5, rfl, s5, hb5⟩
  go_wp2_with fail
  refine (H.out _ _).mono ?_
  rintro e w6 ⟨b6, rfl, s6, hb6⟩
  go_wp2_with fail
  refine (H.out _ _).mono ?_
  rintro e w7 ⟨b7, rfl, s7, hb7⟩
  have hB := sl_new (R := fields) (w := w7) (t := 24) #[.slice (some ⟨b4, 0, none⟩) 1 1, .slice (some ⟨b5, 0, none⟩) 1 1, .slice (some ⟨b6, 0, none⟩) 1 1, .slice (some ⟨b7, 0, none⟩) 1 1] aliveB rfl rfl (by decide) (fun i hi => by
    have hal : Below w7.heap.size w7 (w7.alloc (.cells #[.slice (some ⟨b4, 0, none⟩) 1 1, .slice (some ⟨b5, 0, none⟩) 1 1, .slice (some ⟨b6, 0, none⟩) 1 1, .slice (some ⟨b7, 0, none⟩) 1 1] 24)) := (Below.refl _ _).alloc (Nat.le_refl _) _
    match i, hi with
    | 0, _ => exact ⟨_, rfl, _, rfl, (((s4.below (by decide) hb5).below (by decide) hb6).below (by decide) hb7).below (by decide) hal⟩
    | 1, _ => exact ⟨_, rfl, _, rfl, ((s5.below (by decide) hb6).below (by decide) hb7).below (by decide) hal⟩
    | 2, _ => exact ⟨_, rfl, _, rfl, (s6.below (by decide) hb7).below (by decide) hal⟩
    | 3, _ => exact ⟨_, rfl, _, rfl, s7.below (by decide) hal⟩)
  have hb47 := (((hb4.trans (hb5.mono hb4.size)).trans (hb6.mono (Nat.le_trans hb4.size hb5.size))).trans (hb7.mono (Nat.le_trans hb4.size (Nat.le_trans hb5.size hb6.size)))).alloc (Nat.le_trans hb4.size (Nat.le_trans hb5.size (Nat.le_trans hb6.size hb7.size))) (.cells #[.slice (some ⟨b4, 0, none⟩) 1 1, .slice (some ⟨b5, 0, none⟩) 1 1, .slice (some ⟨b6, 0, none⟩) 1 1, .slice (some ⟨b7, 0, none⟩) 1 1] 24)
  have hA := KA.out.below (by decide) hb47
  have hb9 := hbA.trans (hb47.mono hbA.size)
  clear s4 s5 s6 s7 hb4 hb5 hb6 hb7 KA hbA hb47
  have HD := Lib.hid (Distance_any _ _ _ _ _ hA hB (by decide) (by decide))
  rw [alive_cst] at HD
  have HW := Lib.hid (fun w' (hb : Below _ _ w') => Way_any _ _ _ _ w' (hA.below (by decide) hb) (hB.below (by decide) hb) (by decide) (by decide))
  rw [alive_way] at HW
  clear hA hB
  go_wp2_with fail
  generalize w7.alloc (.cells #[.slice (some ⟨b4, 0, none⟩) 1 1, .slice (some ⟨b5, 0, none⟩) 1 1, .slice (some ⟨b6, 0, none⟩) 1 1, .slice (some ⟨b7, 0, none⟩) 1 1] 24) = w9 at *
  refine HD.out.mono ?_
  rintro e w10 ⟨rfl, hb10⟩
  have HW := Lib.hid (HW.out w10 hb10)
  go_wp2_with fail
  refine HW.out.mono ?_
  rintro e w11 ⟨v, rfl, hs, hb11⟩
  obtain ⟨a, cap, rfl, h1, h2, hcc⟩ := id hs
  have hal : Below w11.heap.size w11 (w11.alloc (.cells #[.int .i64 1, .int .i64 2, .int .i64 1, .int .i64 4] 3)) := (Below.refl _ _).alloc (Nat.le_refl _) _
  have hC := sl_new (R := int) (w := w11) (t := 3) #[.int .i64 1, .int .i64 2, .int .i64 1, .int .i64 4] [1, 2, 1, 4] rfl rfl (by decide) (fun i hi => by
    match i, hi with
    | 0, _ => exact ⟨_, rfl, rfl, by simp, by simp⟩
    | 1, _ => exact ⟨_, rfl, rfl, by simp, by simp⟩
    | 2, _ => exact ⟨_, rfl, rfl, by simp, by simp⟩
    | 3, _ => exact ⟨_, rfl, rfl, by simp, by simp⟩)
  have HI := Lib.hid (ints_any _ _ _ _ _ (hs.below (by decide) hal) hC)
  clear hs hcc hC
  go_wp2_with fail
  refine HI.out.mono ?_
  rintro e w12 ⟨rfl, n, rfl⟩
  go_wp2
  go_ret
  exact ⟨rfl, below_drewN (((hb9.trans (hb10.mono hb9.size)).trans (hb11.mono (Nat.le_trans hb9.size hb10.size))).trans (hal.mono (Nat.le_trans hb9.size (Nat.le_trans hb10.size hb11.size)))) n⟩
end Dif
end Go.Proofs.YtklhlkhlndhepaaDoor
namespace Go.Proofs.YtklhlkhlndhepaaDoor
open Go.RowKit
namespace Ab
set_option maxRecDepth 100000
namespace Q
theorem dalive_c : ACall Tryd.prog 33 [] (ib true) := by
  refine ⟨⟨_, Tryd.func33, rfl, rfl⟩, fun ok w vs _ hvs => ?_⟩
  rw [show vs = [] from hvs]
  exact (Dif.alive_any w).mono fun e w' ⟨he, hb⟩ => ⟨_, he, hb, rfl⟩
theorem isNone_c : ACall Tryd.prog 38 [.one (errN 7), ii .i64 7] (ib true) := by
  refine acall_of (rs := [4]) Tryd.func38 rfl rfl rfl teOk rfl ?_
  refine acode_seq ?_
  refine acode_region ?_
  refine acode_seq ?_
  refine acode_region ?_
  refine Or.inl ?_
  refine And.intro (rfl) ?_
  refine Exists.intro _ (And.intro (num_errno 7 (by decide)) ?_)
  refine acode_ret ?_
  rfl
def muchR (l : List (List Fld)) : Bool := decide (14 < l.length) || l.any muchB
theorem any_take {α : Type} (p : α → Bool) (l : List α) (d : α) (i : Nat) (h : i < l.length) : (l.take (i + 1)).any p = ((l.take i).any p || p (l.getD i d)) := by
  rw [← take_snoc d h, List.any_append]
  simp
theorem any_pre {α : Type} {p : α → Bool} {l : List α} (n : Nat) (h : (l.take n).any p = true) : l.any p = true := by
  obtain ⟨x, hx, hp⟩ := List.any_eq_true.1 h
  exact List.any_eq_true.2 ⟨x, List.mem_of_mem_take hx, hp⟩
theorem dmuch_c (ls : List (List (List Fld))) : ACall Tryd.prog 34 [.one (.sl (.sl (.sl rFld)) ls)] (ib (ls.any muchR)) := by
  refine acall_of (rs := [2]) Tryd.func34 rfl rfl rfl teOk rfl ?_
  refine acode_seq ?_
  refine acode_region ?_
  refine acode_seq ?_
  refine acode_seq ?_
  refine acode_region ?_
  intro l1_1
  try simp only [Int.toNat_natCast, dflt_sl, dflt_st, dflt_str, dflt_int, dflt_bool] at l1_1
  refine acode_block ?_
  refine acode_loopP (fun (i : Nat) => i ≤ ls.length ∧ (ls.take i).any muchR = false) (fun (i : Nat) => [(7, .one (.sl (.sl (.sl rFld)) ls)), (8, ii .i64 ls.length), (9, ii .i64 i)]) (fun (i : Nat) => []) 0 (fun (i : Nat) => ls.length - i) 0 (⟨Nat.zero_le _, rfl⟩) (le_of ⟨rfl, rfl, rfl⟩ trivial rfl) ?_
  intro i hI0
  obtain ⟨hi, hn⟩ := hI0
  refine acode_seq ?_
  refine acode_region ?_
  refine acode_seq ?_
  refine acode_cond rfl (fun h10 => ?_) (fun h10 => ?_)
  · try simp only [decide_eq_true_eq] at h10
    try simp only [Int.toNat_natCast, dflt_sl, dflt_st, dflt_str, dflt_int, dflt_bool] at h10
    have hil : i < ls.length := (by omega)
    have hsn := any_take muchR ls [] i hil
    rw [hn, Bool.false_or] at hsn
    refine acode_skip ?_
    refine acode_seq ?_
    refine acode_block ?_
    refine acode_seq ?_
    refine acode_region ?_
    refine And.intro (by first | omega | assumption | decide | (simp only [Int.toNat_natCast, dflt_sl, dflt_st, dflt_str, dflt_int, dflt_bool]; omega) | (simp <;> omega)) ?_
    refine acode_seq ?_
    refine acode_seq ?_
    refine acode_region ?_
    intro l4_1
    try simp only [Int.toNat_natCast, dflt_sl] at l4_1
    refine acode_cond rfl (fun h15 => ?_) (fun h15 => ?_)
    · try simp only [decide_eq_true_eq] at h15
      try simp only [Int.toNat_natCast, dflt_sl] at h15
      refine acode_seq ?_
      refine acode_region ?_
      refine acode_ret ?_
      rw [any_pre (p := muchR) (i + 1) (by rw [hsn]; unfold muchR; rw [decide_eq_true (by omega)]; rfl)]
      exact rfl
    · try simp only [decide_eq_false_iff_not, Int.not_lt] at h15
      try simp only [Int.toNat_natCast, dflt_sl] at h15
      refine acode_skip ?_
      refine acode_seq ?_
      refine acode_region ?_
      intro l6_1
      try simp only [Int.toNat_natCast, dflt_sl] at l6_1
      refine acode_block ?_
      refine acode_loopP (fun (j : Nat) => j ≤ (ls.getD i []).length ∧ ((ls.getD i []).take j).any muchB = false) (fun (j : Nat) => [(7, .one (.sl (.sl (.sl rFld)) ls)), (8, ii .i64 ls.length), (9, ii .i64 i), (16, .one (.sl (.sl rFld) (ls.getD i []))), (17, ii .i64 (ls.getD i []).length), (18, ii .i64 j)]) (fun (j : Nat) => []) 0 (fun (j : Nat) => (ls.getD i []).length - j) 0 (⟨Nat.zero_le _, rfl⟩) (le_of ⟨rfl, rfl, rfl, rfl, rfl, rfl⟩ trivial rfl) ?_
      intro j hI2
      obtain ⟨hj, hm⟩ := hI2
      refine acode_seq ?_
      refine acode_region ?_
      refine acode_seq ?_
      refine acode_cond rfl (fun h19 => ?_) (fun h19 => ?_)
      · try simp only [decide_eq_true_eq] at h19
        try simp only [Int.toNat_natCast, dflt_sl, dflt_st, dflt_str, dflt_int, dflt_bool] at h19
        have hjl : j < (ls.getD i []).length := (by omega)
        have hsm := any_take muchB (ls.getD i []) [] j hjl
        rw [hm, Bool.false_or] at hsm
        refine acode_skip ?_
        refine acode_seq ?_
        refine acode_block ?_
        refine acode_seq ?_
        refine acode_region ?_
        refine And.intro (by first | omega | assumption | decide | (simp only [Int.toNat_natCast, dflt_sl, dflt_st, dflt_str, dflt_int, dflt_bool]; omega) | (simp <;> omega)) ?_
        refine acode_seq ?_
        refine acode_region ?_
        refine Or.inl ?_
        refine And.intro (rfl) ?_
        refine Exists.intro _ (And.intro (much_c _) ?_)
        refine acode_cond rfl (fun h23 => ?_) (fun h23 => ?_)
        · try simp only [decide_eq_true_eq, decide_eq_false_iff_not, Bool.and_eq_true, Bool.not_eq_true', Bool.not_eq_false', Bool.or_eq_false_iff, Bool.or_eq_true, Bool.and_eq_false_iff, Int.not_lt, Int.not_le] at h23
          try simp only [Int.toNat_natCast, dflt_sl] at h23
          refine acode_seq ?_
          refine acode_region ?_
          refine acode_ret ?_
          rw [any_pre (p := muchR) (i + 1) (by rw [hsn]; unfold muchR; rw [any_pre (p := muchB) (j + 1) (by rw [hsm]; exact h23), Bool.or_true])]
          exact rfl
        · try simp only [decide_eq_true_eq, decide_eq_false_iff_not, Bool.and_eq_true, Bool.not_eq_true', Bool.not_eq_false', Bool.or_eq_false_iff, Bool.or_eq_true, Bool.and_eq_false_iff, Int.not_lt, Int.not_le] at h23
          try simp only [Int.toNat_natCast, dflt_sl] at h23
          refine acode_skip ?_
          refine acode_region ?_
          refine And.intro (by first | omega | assumption | decide | (simp only [Int.toNat_natCast, dflt_sl, dflt_st, dflt_str, dflt_int, dflt_bool]; omega) | (simp <;> omega)) ?_
          exact ⟨j + 1, ⟨by omega, by rw [hsm]; exact h23⟩, by first | omega | (simp <;> omega), le_of ⟨rfl, rfl, rfl, rfl, rfl, rfl⟩ trivial rfl⟩
      · try simp only [decide_eq_false_iff_not, Int.not_lt] at h19
        try simp only [Int.toNat_natCast, dflt_sl, dflt_st, dflt_str, dflt_int, dflt_bool] at h19
        refine acode_exit ?_
        refine acode_region ?_
        refine And.intro (by first | omega | assumption | decide | (simp only [Int.toNat_natCast, dflt_sl, dflt_st, dflt_str, dflt_int, dflt_bool]; omega) | (simp <;> omega)) ?_
        exact ⟨i + 1, ⟨by omega, by rw [hsn]; unfold muchR; rw [List.take_of_length_le (by omega)] at hm; rw [hm, Bool.or_false]; exact decide_eq_false (by omega)⟩, by first | omega | (simp <;> omega), le_of ⟨rfl, rfl, rfl⟩ trivial rfl⟩
  · try simp only [decide_eq_false_iff_not, Int.not_lt] at h10
    try simp only [Int.toNat_natCast, dflt_sl, dflt_st, dflt_str, dflt_int, dflt_bool] at h10
    refine acode_exit ?_
    refine acode_seq ?_
    refine acode_region ?_
    refine acode_ret ?_
    rw [List.take_of_length_le (by omega)] at hn
    rw [hn]
    exact rfl
theorem rowsL_c {k : Nat} (es : List Ent) (n m : Int) (hl : es.length ≤ 1000000) (hf : ∀ e ∈ es, e.1.2.2.length ≤ 1000000) : ACall Tryd.prog 39 [.one (.adk k (rLst k) (es, n, m))] (.one (.sl (.sl rFld) (rowsL es))) := by
  have hsl : (stzL es).length ≤ es.length := by unfold stzL; rw [List.length_map]; exact live_len es
  refine acall_of (rs := [2]) Tryd.func39 rfl rfl rfl teOk rfl ?_
  refine acode_seq ?_
  refine acode_region ?_
  refine acode_seq ?_
  refine acode_region ?_
  refine acode_seq ?_
  refine acode_seq ?_
  refine acode_nilvec 3 24 (.sl rFld) rfl ?_
  refine acode_region ?_
  refine Or.inl ?_
  refine And.intro (rfl) ?_
  refine Exists.intro _ (And.intro (stanzasL_c es n m hl hf) ?_)
  intro l2_2
  try simp only [Int.toNat_natCast, dflt_sl, dflt_st, dflt_str, dflt_int, dflt_bool] at l2_2
  refine acode_block ?_
  refine acode_loopP (fun (i : Nat) => i ≤ (stzL es).length) (fun (i : Nat) => [(3, .one (.vec 0)), (7, .one (.sl rStz (stzL es))), (8, ii .i64 (stzL es).length), (9, ii .i64 i)]) (fun (i : Nat) => [(0, .vec 24 (.sl rFld) (((stzL es).take i).map (·.2)))]) 1 (fun (i : Nat) => (stzL es).length - i) 0 (Nat.zero_le _) (le_of ⟨rfl, rfl, rfl, rfl⟩ rfl rfl) ?_
  intro i hI0
  refine acode_seq ?_
  refine acode_region ?_
  refine acode_seq ?_
  refine acode_cond rfl (fun h10 => ?_) (fun h10 => ?_)
  · try simp only [decide_eq_true_eq] at h10
    try simp only [Int.toNat_natCast, dflt_sl, dflt_st, dflt_str, dflt_int, dflt_bool] at h10
    have hil : i < (stzL es).length := (by omega)
    refine acode_skip ?_
    refine acode_seq ?_
    refine acode_block ?_
    refine acode_seq ?_
    refine acode_region ?_
    refine And.intro (by first | omega | assumption | decide | (simp only [Int.toNat_natCast, dflt_sl, dflt_st, dflt_str, dflt_int, dflt_bool]; omega) | (simp <;> omega)) ?_
    refine acode_region ?_
    refine And.intro (by exact app_le (show (((stzL es).take i).map (·.2)).length + 1 ≤ 1000000000 by rw [List.length_map, List.length_take]; omega) (by decide)) ?_
    refine acode_region ?_
    refine And.intro (by first | omega | assumption | decide | (simp only [Int.toNat_natCast, dflt_sl, dflt_st, dflt_str, dflt_int, dflt_bool]; omega) | (simp <;> omega)) ?_
    exact ⟨i + 1, by omega, by first | omega | (simp <;> omega), le_of ⟨rfl, rfl, rfl, (ii_eq (by omega))⟩ (vec_eq (by rw [← take_snoc ((0 : Int), ([] : List Fld)) hil, List.map_append]; exact rfl)) rfl⟩
  · try simp only [decide_eq_false_iff_not, Int.not_lt] at h10
    try simp only [Int.toNat_natCast, dflt_sl, dflt_st, dflt_str, dflt_int, dflt_bool] at h10
    refine acode_exit ?_
    refine acode_seq ?_
    refine acode_region ?_
    refine acode_ret ?_
    rw [List.take_of_length_le (by omega)]
    exact rfl
theorem rowsN_c : ACall Tryd.prog 39 [.one (.lit (.pointer none))] (.one (.sl (.sl rFld) [])) := by
  refine acall_of (rs := [2]) Tryd.func39 rfl rfl rfl teOk rfl ?_
  refine acode_seq ?_
  refine acode_region ?_
  refine acode_seq ?_
  refine acode_region ?_
  refine acode_seq ?_
  refine acode_seq ?_
  refine acode_nilvec 3 24 (.sl rFld) rfl ?_
  refine acode_region ?_
  refine Or.inl ?_
  refine And.intro (rfl) ?_
  refine Exists.intro _ (And.intro (stanzasN_c) ?_)
  intro l2_2
  try simp only [Int.toNat_natCast, dflt_sl, dflt_st, dflt_str, dflt_int, dflt_bool] at l2_2
  refine acode_block ?_
  refine acode_loopP (fun (i : Nat) => i = 0) (fun (i : Nat) => [(3, .one (.vec 0)), (7, .one (.sl rStz [])), (8, ii .i64 0), (9, ii .i64 0)]) (fun (i : Nat) => [(0, .vec 24 (.sl rFld) [])]) 1 (fun (i : Nat) => 0) 0 (rfl) (le_of ⟨rfl, rfl, rfl, rfl⟩ rfl rfl) ?_
  intro i hI0
  refine acode_seq ?_
  refine acode_region ?_
  refine acode_seq ?_
  refine acode_cond rfl (fun h10 => ?_) (fun h10 => ?_)
  · try simp only [decide_eq_true_eq] at h10
    try simp only [Int.toNat_natCast, dflt_sl, dflt_st, dflt_str, dflt_int, dflt_bool] at h10
    simp at h10
  · try simp only [decide_eq_false_iff_not, Int.not_lt] at h10
    try simp only [Int.toNat_natCast, dflt_sl, dflt_st, dflt_str, dflt_int, dflt_bool] at h10
    refine acode_exit ?_
    refine acode_seq ?_
    refine acode_region ?_
    refine acode_ret ?_
    exact rfl
theorem editsN_c (rows : List (List Fld)) : ACall Tryd.prog 36 [.one (.lit (.pointer none)), .one (.sl (.sl rFld) rows)] (.tup [(false, [.lit (.slice none 0 0)]), (false, [errN 7])]) := by
  refine acall_of (rs := [4, 5]) Tryd.func36 rfl rfl rfl teOk rfl ?_
  refine acode_seq ?_
  refine acode_region ?_
  refine acode_seq ?_
  refine acode_seq ?_
  refine acode_region ?_
  refine acode_cond rfl (fun h10 => ?_) (fun h10 => ?_)
  · try simp only [Bool.not_eq_true'] at h10
    try simp only [Int.toNat_natCast, dflt_sl, dflt_st, dflt_str, dflt_int, dflt_bool] at h10
    refine acode_seq ?_
    refine acode_region ?_
    refine acode_ret ?_
    rfl
  · try simp only [Bool.not_eq_false'] at h10
    try simp only [Int.toNat_natCast, dflt_sl, dflt_st, dflt_str, dflt_int, dflt_bool] at h10
    simp at h10
theorem listsN_c {k : Nat} (es : List Ent) (n m : Int) (hl : es.length ≤ 1000000) (hf : ∀ e ∈ es, e.1.2.2.length ≤ 1000000) : ACall Tryd.prog 37 [.one (.lit (.pointer none)), .one (.adk k (rLst k) (es, n, m))] (.tup [(false, [.lit (.slice none 0 0)]), (false, [errN 7])]) := by
  refine acall_of (rs := [4, 5]) Tryd.func37 rfl rfl rfl teOk rfl ?_
  refine acode_seq ?_
  refine acode_region ?_
  refine acode_seq ?_
  refine acode_seq ?_
  refine acode_region ?_
  refine acode_cond rfl (fun h7 => ?_) (fun h7 => ?_)
  · try simp only [decide_eq_true_eq, decide_eq_false_iff_not, Bool.and_eq_true, Bool.not_eq_true', Bool.not_eq_false', Bool.or_eq_false_iff, Bool.or_eq_true, Bool.and_eq_false_iff, Int.not_lt, Int.not_le] at h7
    try simp only [Int.toNat_natCast, dflt_sl, dflt_st, dflt_str, dflt_int, dflt_bool] at h7
    simp at h7
  · skip
    refine acode_skip ?_
    refine acode_seq ?_
    refine acode_region ?_
    refine Or.inl ?_
    refine And.intro (rfl) ?_
    refine Exists.intro _ (And.intro (rowsL_c es n m hl hf) ?_)
    refine Or.inl ?_
    refine And.intro (rfl) ?_
    refine Exists.intro _ (And.intro (editsN_c _) ?_)
    refine acode_ret ?_
    rfl
theorem lists2_c {k : Nat} (es : List Ent) (n m : Int) : ACall Tryd.prog 37 [.one (.adk k (rLst k) (es, n, m)), .one (.lit (.pointer none))] (.tup [(false, [.lit (.slice none 0 0)]), (false, [errN 7])]) := by
  refine acall_of (rs := [4, 5]) Tryd.func37 rfl rfl rfl teOk rfl ?_
  refine acode_seq ?_
  refine acode_region ?_
  refine acode_seq ?_
  refine acode_seq ?_
  refine acode_region ?_
  refine acode_cond rfl (fun h7 => ?_) (fun h7 => ?_)
  · try simp only [Bool.not_eq_true'] at h7
    try simp only [Int.toNat_natCast, dflt_sl, dflt_st, dflt_str, dflt_int, dflt_bool] at h7
    refine acode_seq ?_
    refine acode_region ?_
    refine acode_ret ?_
    rfl
  · try simp only [Bool.not_eq_false'] at h7
    try simp only [Int.toNat_natCast, dflt_sl, dflt_st, dflt_str, dflt_int, dflt_bool] at h7
    simp at h7
end Q
end Ab
end Go.Proofs.YtklhlkhlndhepaaDoor
namespace Go.Proofs.YtklhlkhlndhepaaDoor
open Go.RowKit
namespace Ab
set_option maxRecDepth 100000
namespace Q
theorem a1_parse : parseS ⟨#[65, 58, 32, 49, 10]⟩ = .inr [(3, ⟨#[65, 58, 32, 49, 10]⟩, [(⟨#[65]⟩, ⟨#[49]⟩)])] := by decide +kernel
theorem DiffNone_c (rows : List (List Fld)) : ACall Tryd.prog 6 [.one (.sl (.sl rFld) rows)] (ib true) := by
  obtain ⟨es, hes⟩ : ∃ es, es = numI 1 [(3, ⟨#[65, 58, 32, 49, 10]⟩, [(⟨#[65]⟩, ⟨#[49]⟩)])] := ⟨_, rfl⟩
  have hl : es.length ≤ 1000000 := by rw [hes]; decide
  have hf : ∀ e ∈ es, e.1.2.2.length ≤ 1000000 := by rw [hes]; decide
  have hof := of_ok ⟨#[65, 58, 32, 49, 10]⟩ (by decide) a1_parse
  rw [show ofT [(3, ⟨#[65, 58, 32, 49, 10]⟩, [(⟨#[65]⟩, ⟨#[49]⟩)])] = (es, 2, 1) from by rw [hes]; rfl] at hof
  refine acall_of (rs := [2]) Tryd.func6 rfl rfl rfl teOk rfl ?_
  refine acode_seq ?_
  refine acode_region ?_
  refine acode_seq ?_
  refine acode_seq ?_
  refine acode_region ?_
  refine Or.inl ?_
  refine And.intro (rfl) ?_
  refine Exists.intro _ (And.intro (dalive_c) ?_)
  refine acode_cond rfl (fun h12 => ?_) (fun h12 => ?_)
  · try simp only [Bool.not_eq_true'] at h12
    try simp only [Int.toNat_natCast, dflt_sl, dflt_st, dflt_str, dflt_int, dflt_bool] at h12
    cases h12
  · try simp only [Bool.not_eq_false'] at h12
    try simp only [Int.toNat_natCast, dflt_sl, dflt_st, dflt_str, dflt_int, dflt_bool] at h12
    refine acode_skip ?_
    refine acode_seq ?_
    refine acode_seq ?_
    refine acode_region ?_
    refine Or.inl ?_
    refine And.intro (rfl) ?_
    refine Exists.intro _ (And.intro (dmuch_c [rows]) ?_)
    refine acode_cond rfl (fun h15 => ?_) (fun h15 => ?_)
    · try simp only [decide_eq_true_eq, decide_eq_false_iff_not, Bool.and_eq_true, Bool.not_eq_true', Bool.not_eq_false', Bool.or_eq_false_iff, Bool.or_eq_true, Bool.and_eq_false_iff, Int.not_lt, Int.not_le] at h15
      try simp only [Int.toNat_natCast, dflt_sl, dflt_st, dflt_str, dflt_int, dflt_bool] at h15
      refine acode_seq ?_
      refine acode_region ?_
      refine acode_ret ?_
      rfl
    · try simp only [decide_eq_true_eq, decide_eq_false_iff_not, Bool.and_eq_true, Bool.not_eq_true', Bool.not_eq_false', Bool.or_eq_false_iff, Bool.or_eq_true, Bool.and_eq_false_iff, Int.not_lt, Int.not_le] at h15
      try simp only [Int.toNat_natCast, dflt_sl, dflt_st, dflt_str, dflt_int, dflt_bool] at h15
      refine acode_skip ?_
      refine acode_seq ?_
      refine acode_region ?_
      refine Or.inr (Or.inl (Exists.intro [] (Exists.intro [] (Exists.intro _ (Exists.intro _ (Exists.intro _ (Exists.intro _ (Exists.intro _ (And.intro (hof) (And.intro rfl (And.intro True.intro (And.intro rfl ?_))))))))))))
      refine acode_seq ?_
      refine acode_seq ?_
      refine acode_region ?_
      refine acode_cond rfl (fun h21 => ?_) (fun h21 => ?_)
      · try simp only [Bool.not_eq_true'] at h21
        try simp only [Int.toNat_natCast, dflt_sl, dflt_st, dflt_str, dflt_int, dflt_bool] at h21
        cases h21
      · try simp only [Bool.not_eq_false'] at h21
        try simp only [Int.toNat_natCast, dflt_sl, dflt_st, dflt_str, dflt_int, dflt_bool] at h21
        refine acode_skip ?_
        refine acode_seq ?_
        refine acode_region ?_
        refine Or.inl ?_
        refine And.intro (rfl) ?_
        refine Exists.intro _ (And.intro (editsN_c rows) ?_)
        refine acode_seq ?_
        refine acode_region ?_
        refine Or.inr (Or.inr (Or.inl ?_))
        refine And.intro rfl ?_
        refine Exists.intro _ (And.intro (listsN_c es 2 1 hl hf) ?_)
        refine acode_seq ?_
        refine acode_region ?_
        refine Or.inr (Or.inr (Or.inl ?_))
        refine And.intro rfl ?_
        refine Exists.intro _ (And.intro (lists2_c es 2 1) ?_)
        refine acode_seq ?_
        refine acode_region ?_
        refine Or.inl ?_
        refine And.intro (rfl) ?_
        refine Exists.intro _ (And.intro (isNone_c) ?_)
        refine And.intro (fun h => trivial) ?_
        refine And.intro (rfl) ?_
        refine Exists.intro _ (And.intro (fun h => ⟨⟨⟨h, trivial⟩, trivial⟩, isNone_c⟩) ?_)
        refine And.intro (by exact fun h => h) ?_
        refine And.intro (fun h => trivial) ?_
        refine And.intro (rfl) ?_
        refine Exists.intro _ (And.intro (fun h => ⟨⟨⟨h, trivial⟩, trivial⟩, isNone_c⟩) ?_)
        refine And.intro (by exact fun h => h) ?_
        refine And.intro (rfl) ?_
        refine Exists.intro _ (And.intro (fun h => ⟨trivial, rowsN_c⟩) ?_)
        refine And.intro (fun h => ⟨⟨h, trivial⟩, trivial⟩) ?_
        refine And.intro (fun h => ⟨⟨h, trivial⟩, trivial⟩) ?_
        refine And.intro (by exact fun h => h) ?_
        refine acode_ret ?_
        rfl
end Q
end Ab
end Go.Proofs.YtklhlkhlndhepaaDoor
namespace Go.Proofs.YtklhlkhlndhepaaDoor
open Go.RowKit
namespace Ab
set_option maxRecDepth 100000
theorem o_str : Opens Tryd.prog 9 .str := opens_str Tryd.underlying9 (by kernel_rfl)
theorem o_int : Opens Tryd.prog 3 (.int .i64) := opens_int Tryd.underlying3 (by kernel_rfl)
theorem o_bool : Opens Tryd.prog 4 .bool := opens_bool Tryd.underlying4 (by kernel_rfl)
theorem o_field : Opens Tryd.prog 69 (.st .str .str) := opens_st Tryd.underlying69 (by kernel_rfl) (.cons rfl o_str (.one rfl o_str))
theorem o_fields : Opens Tryd.prog 24 (.sl (.st .str .str)) := opens_sl (by decide) Tryd.underlying24 (by kernel_rfl) o_field
theorem open_fields {H : Type} {enc : TypeId × Value → H} {W : World} {base : Nat} {v : Value} {d : DataW H} {p : List MemPlace} (hv : Value.okWide Tryd.prog W .any base 24 v) (h : DataW.Trod enc Tryd.prog W 0 (fun _ => true) true 24 v d p) :
    ∃ xs, (C.sl (.st .str .str) xs).rep AllOk noNames W v := open_sl Tryd.underlying24 o_fields hv h
/-- The library's variable holds some number. -/
theorem globAt {W : World} (h : W.ShapedOpen Tryd.prog) : GlobAt AllOk W := by
  have hc : GlobCell W := cell_of_shapedOpen_int (g := 0) (t := 3) (zero := #[.int .i64 0]) h (of_decide_eq_true (by kernel_rfl)) (by kernel_rfl) rfl (by kernel_rfl) (by kernel_rfl) Tryd.underlying3
  refine ⟨trivial, ?_, hc⟩
  obtain ⟨m, hm⟩ := hc
  rcases Nat.lt_or_ge 0 W.heap.size with h1 | h1
  · exact h1
  · exfalso
    simp only [World.cell?, Array.getElem?_eq_none h1] at hm
    cases hm
end Ab
end Go.Proofs.YtklhlkhlndhepaaDoor
namespace Go.Proofs.YtklhlkhlndhepaaDoor
open Go.RowKit
namespace Ab
set_option maxRecDepth 100000
theorem open_agg {P : Program} {α : Type} {R : Rd α} {t : TypeId} {fs : Array Field} (hu : P.underlying t = some (.struct fs)) (ho : Opens P t R) {H : Type} {enc : TypeId × Value → H} {W : World} {base : Nat} {v : Value} {d : DataW H} {p : List MemPlace} (hv : Value.okWide P W .any base t v)
    (h : DataW.Trod enc P W 0 (fun _ => true) true t v d p) : ∃ x : α, (A.agg (toL R x)).rep AllOk noNames W v := by
  obtain ⟨cs, rfl, _⟩ := Go.WideShapes.okWide_struct hu hv
  obtain ⟨fuel, hf⟩ := h
  obtain ⟨x, hx⟩ := ho.2 enc W _ _ _ _ _ _ hf
  exact ⟨x, cs.toList, by simp, toL_rep R hx⟩
theorem open_field {H : Type} {enc : TypeId × Value → H} {W : World} {base : Nat} {v : Value} {d : DataW H} {p : List MemPlace} (hv : Value.okWide Tryd.prog W .any base 69 v) (h : DataW.Trod enc Tryd.prog W 0 (fun _ => true) true 69 v d p) :
    ∃ x, (A.agg (toL (.st .str .str) x)).rep AllOk noNames W v := open_agg Tryd.underlying69 o_field hv h
theorem o_strs : Opens Tryd.prog 87 (.sl .str) := opens_sl (by decide) Tryd.underlying87 (by kernel_rfl) o_str
theorem open_strs {H : Type} {enc : TypeId × Value → H} {W : World} {base : Nat} {v : Value} {d : DataW H} {p : List MemPlace} (hv : Value.okWide Tryd.prog W .any base 87 v) (h : DataW.Trod enc Tryd.prog W 0 (fun _ => true) true 87 v d p) :
    ∃ xs, (C.sl .str xs).rep AllOk noNames W v := open_sl Tryd.underlying87 o_strs hv h
theorem o_rows : Opens Tryd.prog 37 (.sl (.sl (.st .str .str))) := opens_sl (by decide) Tryd.underlying37 (by kernel_rfl) o_fields
theorem open_rows {H : Type} {enc : TypeId × Value → H} {W : World} {base : Nat} {v : Value} {d : DataW H} {p : List MemPlace} (hv : Value.okWide Tryd.prog W .any base 37 v) (h : DataW.Trod enc Tryd.prog W 0 (fun _ => true) true 37 v d p) :
    ∃ xs, (C.sl (.sl (.st .str .str)) xs).rep AllOk noNames W v := open_sl Tryd.underlying37 o_rows hv h
theorem o_item : Opens Tryd.prog 26 (.st (.int .i64) (.st .str (.sl (.st .str .str)))) := opens_st Tryd.underlying26 (by kernel_rfl) (.cons rfl o_int (.cons rfl o_str (.one rfl o_fields)))
theorem o_items : Opens Tryd.prog 22 (.sl (.st (.int .i64) (.st .str (.sl (.st .str .str))))) := opens_sl (by decide) Tryd.underlying22 (by kernel_rfl) o_item
theorem open_items {H : Type} {enc : TypeId × Value → H} {W : World} {base : Nat} {v : Value} {d : DataW H} {p : List MemPlace} (hv : Value.okWide Tryd.prog W .any base 22 v) (h : DataW.Trod enc Tryd.prog W 0 (fun _ => true) true 22 v d p) :
    ∃ xs, (C.sl (.st (.int .i64) (.st .str (.sl (.st .str .str)))) xs).rep AllOk noNames W v := open_sl Tryd.underlying22 o_items hv h
end Ab
end Go.Proofs.YtklhlkhlndhepaaDoor
