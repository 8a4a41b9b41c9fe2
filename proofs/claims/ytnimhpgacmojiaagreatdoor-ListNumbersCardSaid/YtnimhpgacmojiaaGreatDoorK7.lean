/-
  The texts of this proof, joined: abstract values, the library, the functions of the program and what they compute (part 7). No condition.
-/
import Derived.Shelf.Vars
import Derived.KernelRfl
import Derived.Test.YtnimhpgacmojiaaGreatDoorK1
import Derived.Test.YtnimhpgacmojiaaGreatDoorK2
import Derived.Test.YtnimhpgacmojiaaGreatDoorK3
import Derived.Test.YtnimhpgacmojiaaGreatDoorK4
import Derived.Test.YtnimhpgacmojiaaGreatDoorK5
import Derived.Test.YtnimhpgacmojiaaGreatDoorK6
namespace Go.Proofs.YtnimhpgacmojiaaGreatDoor
open Go.RowKit
namespace Ab
set_option maxRecDepth 100000
namespace Q
theorem acallo_arg {P : Program} {f : FuncId} {xs ys : List A} {ob ob' : Obs} {m m' : Nat} {r : A} (h : ∀ ok ρ w vs, RepAs ok ρ w xs vs → RepAs ok ρ w ys vs) (hc : ACallO P f ys ob m r ob' m') : ACallO P f xs ob m r ob' m' :=
  ⟨hc.1, fun cx ρ w vs h1 h2 h3 h4 h5 => hc.2 cx ρ w vs h1 h2 h3 h4 (h _ _ _ _ h5)⟩
theorem chk_shape {f : List Fld} (h : (chkR f).2 ≠ 0) : (∃ k9, chkA f = errN k9 ∧ k9 ≠ 0 ∧ (-9 : Int) = (chkR f).1 ∧ k9 = (chkR f).2) ∨ ∃ a9 k9, chkA f = errF a9 k9 ∧ k9 ≠ 0 ∧ a9 = (chkR f).1 ∧ k9 = (chkR f).2 := by
  obtain ⟨e, he, hs⟩ := chk_bad h
  rcases hs with ⟨n, hn, rfl, hr⟩ | ⟨i, n, hn, rfl, hr⟩
  · exact .inl ⟨n, he, hn, by rw [hr], by rw [hr]⟩
  · exact .inr ⟨i, n, he, hn, by rw [hr], by rw [hr]⟩
theorem doB_true {a b c d e f : Int} (h1 : a = d) (h2 : b = e) (h3 : c = f) : doB a b c d e f = true := by
  subst h1 h2 h3
  simp [doB]
/-- An edit by both: the program's list is then as doL says, the document's as refDo says; they answer alike if the lists were alike. -/
theorem do_ref {c : Nat} (L : Lst) (M : RLs) (e : Edt) (h : LOk c L) (hc : c ≤ 200000) (hf : FldsOk e.2.2) (hml : M.1.length ≤ 1000000) (hmn : 0 ≤ M.2 ∧ M.2 ≤ 1000000000) :
    ∃ b, ACallO Tryz.prog 36 [.one (.own 0 0), .agg (toL rRL M), .agg (toL rEdt e)] (lsO L) 2 (.tup [(true, toL rRL (refDo M e)), (false, [.lit (.bool b)])]) (lsO (doL L e)) 2 ∧ (M = (L.1, L.2.1) → b = true) := by
  obtain ⟨es, n, m⟩ := L
  obtain ⟨ms, mn⟩ := M
  obtain ⟨k, id, f⟩ := e
  have hmany := h.many
  have hnx := h.next
  have hln := h.len
  have hids := ids_len es
  have hil := List.length_filter_le live es
  simp only at hmany hnx hln hf hml hmn
  unfold doL refDo
  simp only
  by_cases h1 : k = 1
  · subst h1
    simp only [if_pos]
    by_cases h0 : atE es id < 0
    · simp only [if_pos h0]
      exact ⟨_, doRep_no es n m id f ms mn hf hml h0, fun e => by cases e; exact doB_true (by simp [refRep, h0]) (by simp [refRep, h0]) rfl⟩
    · simp only [if_neg h0]
      by_cases hck : (chkR f).2 ≠ 0
      · simp only [if_pos hck]
        rcases chk_shape hck with ⟨k9, g1, g2, g3, g4⟩ | ⟨a9, k9, g1, g2, g3, g4⟩
        · exact ⟨_, doRep_chk_n es n m id f ms mn hf hml (by omega) hck k9 g1 g2, fun e => by cases e; exact doB_true (by simp [refRep, h0, hck, g4]) (by simp [refRep, h0, hck, g3]) rfl⟩
        · exact ⟨_, doRep_chk_f es n m id f ms mn hf hml (by omega) hck a9 k9 g1 g2, fun e => by cases e; exact doB_true (by simp [refRep, h0, hck, g4]) (by simp [refRep, h0, hck, g3]) rfl⟩
      · simp only [if_neg hck]
        have hck : (chkR f).2 = 0 := Classical.not_not.1 hck
        obtain ⟨i, hi, he, _, _⟩ := at_lt h0
        rw [he, Int.toNat_natCast]
        exact ⟨_, doRep_ok es n m id f ms mn hf hml i hi he hck, fun e => by cases e; exact doB_true (by simp [refRep, h0, hck]) (by simp [refRep, h0, hck]) rfl⟩
  · by_cases h2 : k = 2
    · subst h2
      simp only [if_neg h1, if_pos]
      by_cases h0 : atE es id < 0
      · simp only [if_pos h0]
        exact ⟨_, doDel_no es n m id f ms mn hf hml h0, fun e => by cases e; exact doB_true (by simp [refDel, h0]) rfl rfl⟩
      · simp only [if_neg h0]
        obtain ⟨i, hi, he, _, _⟩ := at_lt h0
        rw [he, Int.toNat_natCast]
        exact ⟨_, doDel_ok es n m id f ms mn hf hml i hi he (by omega) (by omega), fun e => by cases e; exact doB_true (by simp [refDel, h0]) rfl rfl⟩
    · simp only [if_neg h1, if_neg h2]
      by_cases h0 : atE es id < 0 ∧ id ≠ 0
      · simp only [if_pos h0]
        exact ⟨_, doIns_no es n m id f ms mn hf hml k h1 h2 hmn h0.1 h0.2, fun e => by cases e; exact doB_true (by simp only [refIns, if_pos h0]) (by simp only [refIns, if_pos h0]) (by simp only [refIns, if_pos h0])⟩
      · simp only [if_neg h0]
        by_cases hck : (chkR f).2 ≠ 0
        · simp only [if_pos hck]
          rcases chk_shape hck with ⟨k9, g1, g2, g3, g4⟩ | ⟨a9, k9, g1, g2, g3, g4⟩
          · exact ⟨_, doIns_chk_n es n m id f ms mn hf hml k h1 h2 hmn h0 hck k9 g1 g2, fun e => by cases e; exact doB_true (by simp only [refIns, if_neg h0, if_pos hck, g4]) (by simp only [refIns, if_neg h0, if_pos hck, g3]) (by simp only [refIns, if_neg h0, if_pos hck])⟩
          · exact ⟨_, doIns_chk_f es n m id f ms mn hf hml k h1 h2 hmn h0 hck a9 k9 g1 g2, fun e => by cases e; exact doB_true (by simp only [refIns, if_neg h0, if_pos hck, g4]) (by simp only [refIns, if_neg h0, if_pos hck, g3]) (by simp only [refIns, if_neg h0, if_pos hck])⟩
        · simp only [if_neg hck]
          have hck' : (chkR f).2 = 0 := Classical.not_not.1 hck
          by_cases h4 : 400 ≤ m
          · simp only [if_pos h4]
            have h5 : 400 ≤ ((es.filter live).length : Int) := by omega
            exact ⟨_, doIns_full es n m id f ms mn hf hml k h1 h2 hmn h0 hck' h4, fun e => by cases e; exact doB_true (by simp only [refIns, if_neg h0, if_neg hck, if_pos h5]) (by simp only [refIns, if_neg h0, if_neg hck, if_pos h5]) (by simp only [refIns, if_neg h0, if_neg hck, if_pos h5])⟩
          · simp only [if_neg h4]
            have h5 : ¬ 400 ≤ ((es.filter live).length : Int) := by omega
            obtain ⟨j, hj, hje⟩ : ∃ j : Nat, j ≤ es.length ∧ atE es id + 1 = (j : Int) := by
              rcases at_cases es id with ⟨h1, _⟩ | ⟨i, h1, h2, _⟩
              · exact ⟨0, Nat.zero_le _, by omega⟩
              · exact ⟨i + 1, by omega, by omega⟩
            rw [hje, Int.toNat_natCast]
            exact ⟨_, doIns_ok es n m id f ms mn hf hml k h1 h2 hmn j hj h0 hje hck' (by omega) (by omega) (by omega), fun e => by cases e; exact doB_true (by simp only [refIns, if_neg h0, if_neg hck, if_neg h5]) (by simp only [refIns, if_neg h0, if_neg hck, if_neg h5]) (by simp only [refIns, if_neg h0, if_neg hck, if_neg h5])⟩
theorem do_any {c : Nat} (L : Lst) (e : Edt) (h : LOk c L) (hc : c ≤ 200000) (hf : FldsOk e.2.2) :
    ∃ b, ACallO Tryz.prog 36 [.one (.own 0 0), .agg zRL, .agg (toL rEdt e)] (lsO L) 2 (.tup [(true, toL rRL (refDo (([] : List Ent), (0 : Int)) e)), (false, [.lit (.bool b)])]) (lsO (doL L e)) 2 := by
  obtain ⟨b, hb, _⟩ := do_ref L (([] : List Ent), (0 : Int)) e h hc hf (by decide) (by decide)
  refine ⟨b, acallo_arg (fun ok ρ w vs hv => ?_) hb⟩
  obtain ⟨v, t, rfl, h0, v1, t1, rfl, h1, h3⟩ := hv
  obtain ⟨us, he, x, r2, rfl, hx, hr2⟩ := h1
  exact ⟨v, _, rfl, h0, v1, t1, rfl, ⟨_, he, x, r2, rfl, by rw [show x = _ from hx]; exact slOk_nil, hr2⟩, h3⟩
/-- A stanza put in. -/
theorem ins_cases {κ c : Nat} {L : Lst} (h : LOk c L) (hc : c ≤ 200000) (k id : Int) (f : List Fld) (hf : FldsOk f) (hk1 : k ≠ 1) (hk2 : k ≠ 2) :
    (∃ k9, doL L (k, id, f) = L ∧ ACallO Tryz.prog 43 [.one (.own 0 0), ii .i64 id, .one (.slk κ rFld f)] (lsO L) 2 (.tup [(false, [.lit (.int .i64 0)]), (false, [errN k9])]) (lsO L) 2) ∨
    (∃ a9 k9, doL L (k, id, f) = L ∧ ACallO Tryz.prog 43 [.one (.own 0 0), ii .i64 id, .one (.slk κ rFld f)] (lsO L) 2 (.tup [(false, [.lit (.int .i64 0)]), (false, [errF a9 k9])]) (lsO L) 2) ∨
    ((doL L (k, id, f)).2.1 = L.2.1 + 1 ∧ ACallO Tryz.prog 43 [.one (.own 0 0), ii .i64 id, .one (.slk κ rFld f)] (lsO L) 2 (.tup [(false, [.lit (.int .i64 L.2.1)]), (false, [.lit .nilIface])]) (lsO (doL L (k, id, f))) 2) := by
  obtain ⟨es, n, m⟩ := L
  have hmany := h.many
  have hnx := h.next
  have hln := h.len
  have hids := ids_len es
  have hil := List.length_filter_le live es
  simp only at hmany hnx hln
  unfold doL
  simp only [if_neg hk1, if_neg hk2]
  by_cases h0 : atE es id < 0 ∧ id ≠ 0
  · simp only [if_pos h0]
    exact .inl ⟨7, trivial, lIns_no es n m id f h0.1 h0.2⟩
  · simp only [if_neg h0]
    by_cases hck : (chkR f).2 ≠ 0
    · simp only [if_pos hck]
      have hb := lIns_bad (κ := κ) es n m id f h0 hf hck
      rcases chk_shape hck with ⟨k9, g1, _⟩ | ⟨a9, k9, g1, _⟩
      · rw [g1] at hb
        exact .inl ⟨k9, trivial, hb⟩
      · rw [g1] at hb
        exact .inr (.inl ⟨a9, k9, trivial, hb⟩)
    · simp only [if_neg hck]
      have hck' : (chkR f).2 = 0 := Classical.not_not.1 hck
      by_cases h4 : 400 ≤ m
      · simp only [if_pos h4]
        exact .inl ⟨11, trivial, lIns_full es n m id f h0 hf hck' h4⟩
      · simp only [if_neg h4]
        obtain ⟨j, hj, hje⟩ : ∃ j : Nat, j ≤ es.length ∧ atE es id + 1 = (j : Int) := by
          rcases at_cases es id with ⟨h1, _⟩ | ⟨i, h1, h2, _⟩
          · exact ⟨0, Nat.zero_le _, by omega⟩
          · exact ⟨i + 1, by omega, by omega⟩
        rw [hje, Int.toNat_natCast]
        exact .inr (.inr ⟨trivial, lIns_ok es n m id f j hj h0 hje hf hck' (by omega) (by omega) (by omega)⟩)
/-- A list behind the first i edits. -/
def plays (L : Lst) (s : List Edt) (i : Nat) : Lst := (s.take i).foldl doL L
theorem plays_snoc (L : Lst) {s : List Edt} {i : Nat} (h : i < s.length) : plays L s (i + 1) = doL (plays L s i) (s.getD i ((0 : Int), (0 : Int), ([] : List Fld))) := by
  unfold plays
  rw [← take_snoc ((0 : Int), (0 : Int), ([] : List Fld)) h, List.foldl_append]
  rfl
theorem plays_ok {c : Nat} {L : Lst} {s : List Edt} (h : LOk c L) (hf : ∀ e ∈ s, FldsOk e.2.2) : ∀ i, i ≤ s.length → LOk (c + i) (plays L s i)
  | 0, _ => by simpa [plays] using h
  | i + 1, hi => by
    rw [plays_snoc L (by omega)]
    exact doL_ok (plays_ok h hf i (by omega)) (hf _ (getD_mem (by omega) ((0 : Int), (0 : Int), ([] : List Fld))))
theorem heavy_ok {s : List Edt} (h : heavyB s = false) : s.length ≤ 51 ∧ ∀ e ∈ s, muchB e.2.2 = false := by
  unfold heavyB at h
  simp only [Bool.or_eq_false_iff, decide_eq_false_iff_not] at h
  exact ⟨by omega, fun e he => by simpa using List.any_eq_false.1 h.2 e he⟩
/-- How many items a text has, at most. -/
theorem items_len {s : ByteArray} {l : List Itm} (hp : parseS s = .inr l) : l.length ≤ 2 * s.size + 1 := by
  have h0 := parse_ref s
  rw [hp] at h0
  obtain ⟨h1, _⟩ := linesT_len s
  have key : ∀ (L : List Lne) (t : RSt) (bh : Bool) (l : List Itm), runR bh t L = .inr l → l.length ≤ t.out.length + 1 + 2 * L.length := by
    intro L
    induction L with
    | nil =>
      intro t bh l h
      unfold runR at h
      cases h
      split <;> simp
    | cons a r ih =>
      intro t bh l h
      unfold runR at h
      split at h
      · cases h
      · have i1 := ih _ _ _ h
        have so : (stepR t a r).out.length ≤ t.out.length + 2 := by
          unfold stepR
          split
          · simp only; split <;> simp
          · split <;> simp
        rw [List.length_cons]; omega
  have k1 := key _ _ _ _ h0.symm
  simp only [rst0, List.length_nil] at k1
  omega
theorem of_lok {s : ByteArray} {l : List Itm} (hs : s.size ≤ 4000) (hp : parseS s = .inr l) : LOk 9000 (ofT l) := by
  have h1 := items_len hp
  exact ofT_ok (by omega) fun x hx => fldsOk_of (items_small hp x hx).1 (items_small hp x hx).2
theorem LOk.f1 {c : Nat} {L : Lst} (h : LOk c L) : ∀ e ∈ L.1, e.1.2.2.length ≤ 1000000 := fun e he => Nat.le_trans (h.flds e he).1 (by decide)
end Q
end Ab
end Go.Proofs.YtnimhpgacmojiaaGreatDoor
namespace Go.Proofs.YtnimhpgacmojiaaGreatDoor
open Go.RowKit
namespace Ab
set_option maxRecDepth 100000
namespace Q
theorem a1_parse7 : parseS ⟨#[65, 58, 32, 49, 10]⟩ = .inr [(3, ⟨#[65, 58, 32, 49, 10]⟩, [(⟨#[65]⟩, ⟨#[49]⟩)])] := by decide +kernel
def al0 : List Ent := [((3, ⟨#[65, 58, 32, 49, 10]⟩, [(⟨#[65]⟩, ⟨#[49]⟩)]), 1)]
def alF : List Fld := [(⟨#[66]⟩, ⟨#[50]⟩)]
def al1 : List Ent := insE al0 0 (itmOf alF, 2)
theorem alive7_c : ACall Tryz.prog 32 [] (ib true) := by
  have hof := of_ok ⟨#[65, 58, 32, 49, 10]⟩ (by decide) a1_parse7
  rw [show ofT [(3, ⟨#[65, 58, 32, 49, 10]⟩, [(⟨#[65]⟩, ⟨#[49]⟩)])] = (al0, 2, 1) from rfl] at hof
  have hins := (lIns_ok (κ := 1) al0 2 1 0 alF 0 (by decide) (by decide) (by decide) ⟨by decide, by decide⟩ (by decide +kernel) ⟨by decide, by decide⟩ ⟨by decide, by decide⟩ (by decide)).x
  have htx := textL_c (k := 1) al1 3 2 (by decide) (by decide) (by decide +kernel)
  rw [show bytes (txtL al1) = ⟨#[66, 58, 32, 50, 10, 10, 65, 58, 32, 49, 10]⟩ from by decide +kernel] at htx
  refine acall_of (rs := [0]) Tryz.func32 rfl rfl rfl teOk rfl ?_
  refine acode_seq ?_
  refine acode_region ?_
  refine acode_seq ?_
  refine acode_region ?_
  refine Or.inr (Or.inl (Exists.intro [] (Exists.intro [] (Exists.intro _ (Exists.intro _ (Exists.intro _ (Exists.intro _ (Exists.intro _ (And.intro (hof) (And.intro rfl (And.intro True.intro (And.intro rfl ?_))))))))))))
  refine acode_seq ?_
  refine acode_seq ?_
  refine acode_region ?_
  refine And.intro (fun h => trivial) ?_
  refine And.intro (fun h => ⟨⟨h, trivial⟩, trivial⟩) ?_
  refine And.intro (by first | (intro h; rw [h]; rfl) | (intro h; cases h)) ?_
  refine acode_cond rfl (fun h13 => ?_) (fun h13 => ?_)
  · try simp only [Bool.not_eq_true', Bool.or_eq_true] at h13
    try simp only [Int.toNat_natCast, dflt_sl, dflt_st, dflt_str, dflt_int, dflt_bool] at h13
    simp at h13
  · try simp only [Bool.not_eq_false', Bool.or_eq_false_iff] at h13
    try simp only [Int.toNat_natCast, dflt_sl, dflt_st, dflt_str, dflt_int, dflt_bool] at h13
    refine acode_skip ?_
    refine acode_seq ?_
    refine acode_region ?_
    refine Or.inr (Or.inr (Or.inr (Exists.intro [0, 1] (Exists.intro [] (Exists.intro _ (Exists.intro _ (Exists.intro _ (Exists.intro _ (Exists.intro _ (And.intro (hins) (And.intro rfl (And.intro (And.intro (And.intro rfl rfl) (And.intro (And.intro rfl rfl) True.intro)) (And.intro rfl ?_)))))))))))))
    refine acode_seq ?_
    refine acode_region ?_
    refine And.intro (fun h => trivial) ?_
    refine And.intro (fun h => ⟨⟨h, trivial⟩, trivial⟩) ?_
    refine And.intro (by exact fun h => h) ?_
    refine And.intro (fun h => trivial) ?_
    refine And.intro (rfl) ?_
    refine Exists.intro _ (And.intro (fun h => ⟨⟨⟨h, trivial⟩, trivial⟩, htx⟩) ?_)
    refine And.intro (fun h => ⟨⟨h, trivial⟩, trivial⟩) ?_
    refine And.intro (by exact fun h => h) ?_
    refine And.intro (fun h => trivial) ?_
    refine And.intro (rfl) ?_
    refine Exists.intro _ (And.intro (fun h => ⟨⟨⟨h, trivial⟩, trivial⟩, len_c al1 3 2⟩) ?_)
    refine And.intro (fun h => ⟨⟨h, trivial⟩, trivial⟩) ?_
    refine And.intro (by exact fun h => h) ?_
    refine acode_ret ?_
    rfl
end Q
end Ab
end Go.Proofs.YtnimhpgacmojiaaGreatDoor
namespace Go.Proofs.YtnimhpgacmojiaaGreatDoor
open Go.RowKit
namespace Ab
set_option maxRecDepth 100000
namespace Q
theorem stz_len (es : List Ent) : (stzL es).length = (es.filter live).length := List.length_map _
theorem stz_at {es : List Ent} {i : Nat} (h : i < (stzL es).length) : (stzL es).getD i ((0 : Int), ([] : List Fld)) = stzOf ((es.filter live).getD i (((0 : Int), ByteArray.empty, ([] : List Fld)), (0 : Int))) := by
  have h1 : i < (es.filter live).length := by rw [← stz_len]; exact h
  rw [← getD_get h ((0 : Int), ([] : List Fld)), ← getD_get h1 (((0 : Int), ByteArray.empty, ([] : List Fld)), (0 : Int))]
  exact List.getElem_map stzOf
theorem ids_at {es : List Ent} {i : Nat} (h : i < (stzL es).length) : ∃ h1 : i < (idsL es).length, ((stzL es).getD i ((0 : Int), ([] : List Fld))).1 = (idsL es)[i] := by
  have h1 : i < (es.filter live).length := by rw [← stz_len]; exact h
  refine ⟨by rw [ids_len]; exact h1, ?_⟩
  rw [stz_at h]
  simp only [← ids_eq, List.getElem_map]
  rw [← getD_get h1 (((0 : Int), ByteArray.empty, ([] : List Fld)), (0 : Int))]
  rfl
theorem stz_ids {es : List Ent} {n : Int} (hi : ∀ e ∈ es, 0 ≤ e.2 ∧ e.2 < n) {i : Nat} (h : i < (stzL es).length) : 0 < ((stzL es).getD i ((0 : Int), ([] : List Fld))).1 ∧ ((stzL es).getD i ((0 : Int), ([] : List Fld))).1 < n := by
  have h1 : i < (es.filter live).length := by rw [← stz_len]; exact h
  have h2 := List.mem_filter.1 (getD_mem h1 (((0 : Int), ByteArray.empty, ([] : List Fld)), (0 : Int)))
  rw [stz_at h]
  exact ⟨of_decide_eq_true h2.2, (hi _ h2.1).2⟩
theorem plc_at {es : List Ent} (hnd : (idsL es).Nodup) {i : Nat} (h : i < (stzL es).length) : plcL es ((stzL es).getD i ((0 : Int), ([] : List Fld))).1 = i := by
  have h1 : i < (es.filter live).length := by rw [← stz_len]; exact h
  unfold plcL
  refine ixOf_at (((0 : Int), ByteArray.empty, ([] : List Fld)), (0 : Int)) h1 ?_ ?_
  · refine List.any_eq_false.2 fun e he => ?_
    obtain ⟨j, hj, rfl⟩ := List.mem_take_iff_getElem.1 he
    have hj1 : j < i := by omega
    obtain ⟨g1, g2⟩ := ids_at h
    obtain ⟨g3, g4⟩ := ids_at (es := es) (i := j) (by omega)
    have g5 : ((stzL es).getD j ((0 : Int), ([] : List Fld))).1 = ((es.filter live)[j]).2 := by
      rw [stz_at (by omega), ← getD_get (by omega) (((0 : Int), ByteArray.empty, ([] : List Fld)), (0 : Int))]; rfl
    simp only [hasId, decide_eq_true_eq]
    rw [← g5, g4, g2]
    exact List.pairwise_iff_getElem.1 hnd j i _ _ hj1
  · rw [stz_at h]
    exact decide_eq_true rfl
theorem ids_ne {es : List Ent} (hnd : (idsL es).Nodup) {i j : Nat} (h : i < (stzL es).length) (hj : j < i) : ((stzL es).getD j ((0 : Int), ([] : List Fld))).1 ≠ ((stzL es).getD i ((0 : Int), ([] : List Fld))).1 := by
  obtain ⟨g1, g2⟩ := ids_at h
  obtain ⟨g3, g4⟩ := ids_at (es := es) (i := j) (by omega)
  rw [g2, g4]
  exact List.pairwise_iff_getElem.1 hnd j i _ _ hj
theorem rep_get (k j : Nat) : (List.replicate k false).getD j false = false := by
  rw [List.getD_eq_getElem?_getD, List.getElem?_replicate]
  split <;> rfl
/-- Which numbers were seen. -/
structure SeenI (es : List Ent) (n : Int) (i : Nat) (sn : List Bool) : Prop where
  le : i ≤ (stzL es).length
  len : sn.length = n.toNat
  seen : ∀ k : Nat, sn.getD k false = true → ∃ j, j < i ∧ ((stzL es).getD j ((0 : Int), ([] : List Fld))).1 = k
theorem SeenI.not {es : List Ent} {n : Int} {i : Nat} {sn : List Bool} (h : SeenI es n i sn) (hnd : (idsL es).Nodup) (hi : i < (stzL es).length) (hp : 0 < ((stzL es).getD i ((0 : Int), ([] : List Fld))).1) : sn.getD (((stzL es).getD i ((0 : Int), ([] : List Fld))).1).toNat false = false := by
  cases e : sn.getD (((stzL es).getD i ((0 : Int), ([] : List Fld))).1).toNat false with
  | false => rfl
  | true =>
    obtain ⟨j, hj, h2⟩ := h.seen _ e
    exact absurd (by rw [h2]; omega) (ids_ne hnd hi hj)
theorem SeenI.next {es : List Ent} {n : Int} {i : Nat} {sn : List Bool} (h : SeenI es n i sn) (hi : i < (stzL es).length) (hp : 0 < ((stzL es).getD i ((0 : Int), ([] : List Fld))).1) : SeenI es n (i + 1) (sn.set (((stzL es).getD i ((0 : Int), ([] : List Fld))).1).toNat true) := by
  refine ⟨hi, by rw [List.length_set]; exact h.len, fun k hk => ?_⟩
  by_cases e : (((stzL es).getD i ((0 : Int), ([] : List Fld))).1).toNat = k
  · exact ⟨i, Nat.lt_succ_self _, by omega⟩
  · rw [List.getD_eq_getElem?_getD, List.getElem?_set_ne e, ← List.getD_eq_getElem?_getD] at hk
    obtain ⟨j, hj, h2⟩ := h.seen k hk
    exact ⟨j, by omega, h2⟩
theorem lsbox_eq {L M : Lst} (h : M = L) : some (Ob.box 125 [.vec 1, .lit (.int .i64 L.2.1), .lit (.int .i64 L.2.2)]) = some (Ob.box 125 [.vec 1, .lit (.int .i64 M.2.1), .lit (.int .i64 M.2.2)]) := by rw [h]
theorem lsvec_eq {L M : Lst} (h : M = L) : some (Ob.vec 127 rEnt L.1) = some (Ob.vec 127 rEnt M.1) := by rw [h]
theorem doL_n (L : Lst) (e : Edt) (h : e.1 = 1 ∨ e.1 = 2) : (doL L e).2.1 = L.2.1 := by
  unfold doL
  rcases h with h | h
  · rw [if_pos h]
    repeat' (first | rfl | split)
  · rw [if_neg (by omega), if_pos h]
    repeat' (first | rfl | split)
theorem ListNumbers_c (s : ByteArray) (sc : List Edt) : ACall Tryz.prog 8 [is s, .one (.sl rEdt sc)] (ib true) := by
  refine acall_of (rs := [4]) Tryz.func8 rfl rfl rfl teOk rfl ?_
  refine acode_seq ?_
  refine acode_region ?_
  refine acode_seq ?_
  refine acode_seq ?_
  refine acode_region ?_
  refine Or.inl ?_
  refine And.intro (rfl) ?_
  refine Exists.intro _ (And.intro (alive7_c) ?_)
  refine acode_cond rfl (fun h16 => ?_) (fun h16 => ?_)
  · try simp only [Bool.not_eq_true'] at h16
    try simp only [Int.toNat_natCast, dflt_sl, dflt_st, dflt_str, dflt_int, dflt_bool] at h16
    simp at h16
  · try simp only [Bool.not_eq_false'] at h16
    try simp only [Int.toNat_natCast, dflt_sl, dflt_st, dflt_str, dflt_int, dflt_bool] at h16
    refine acode_skip ?_
    refine acode_seq ?_
    refine acode_seq ?_
    refine acode_region ?_
    refine And.intro (fun h => trivial) ?_
    refine And.intro (rfl) ?_
    refine Exists.intro _ (And.intro (fun h => ⟨⟨⟨h, trivial⟩, trivial⟩, heavy_c sc⟩) ?_)
    refine And.intro (by first | (intro h; rw [h]; rfl) | (intro h; cases h)) ?_
    refine acode_cond rfl (fun h23 => ?_) (fun h23 => ?_)
    · try simp only [decide_eq_true_eq, Bool.or_eq_true] at h23
      try simp only [Int.toNat_natCast, dflt_sl, dflt_st, dflt_str, dflt_int, dflt_bool] at h23
      refine acode_seq ?_
      refine acode_region ?_
      refine acode_ret ?_
      first | rfl | exact ib_eq (decide_eq_true (by omega))
    · try simp only [decide_eq_false_iff_not, Bool.or_eq_false_iff, Int.not_lt] at h23
      try simp only [Int.toNat_natCast, dflt_sl, dflt_st, dflt_str, dflt_int, dflt_bool] at h23
      obtain ⟨hs3, hhv⟩ := h23
      obtain ⟨hsc, hmu⟩ := heavy_ok hhv
      have hfo : ∀ e ∈ sc, FldsOk e.2.2 := (fun e he => much_ok (hmu e he))
      refine acode_skip ?_
      refine acode_seq ?_
      rcases hra : parseS s with e | l
      · refine acode_region ?_
        refine Or.inl ?_
        refine And.intro (rfl) ?_
        refine Exists.intro _ (And.intro (of_err s (by omega) (at_ := e.1) (n := e.2) hra) ?_)
        refine acode_seq ?_
        refine acode_seq ?_
        refine acode_region ?_
        refine acode_cond rfl (fun h30 => ?_) (fun h30 => ?_)
        · skip
          refine acode_seq ?_
          refine acode_region ?_
          refine acode_ret ?_
          first | rfl | exact ib_eq (decide_eq_true (by omega))
        · try simp only [decide_eq_true_eq, decide_eq_false_iff_not, Bool.and_eq_true, Bool.not_eq_true', Bool.not_eq_false', Bool.or_eq_false_iff, Bool.or_eq_true, Bool.and_eq_false_iff, Int.not_lt, Int.not_le] at h30
          try simp only [Int.toNat_natCast, dflt_sl, dflt_st, dflt_str, dflt_int, dflt_bool] at h30
          simp at h30
      · refine acode_region ?_
        refine Or.inr (Or.inl (Exists.intro [] (Exists.intro [] (Exists.intro _ (Exists.intro _ (Exists.intro _ (Exists.intro _ (Exists.intro _ (And.intro (of_ok s (by omega) hra) (And.intro rfl (And.intro True.intro (And.intro rfl ?_))))))))))))
        refine acode_seq ?_
        refine acode_seq ?_
        refine acode_region ?_
        refine acode_cond rfl (fun h30 => ?_) (fun h30 => ?_)
        · try simp only [Bool.not_eq_true'] at h30
          try simp only [Int.toNat_natCast, dflt_sl, dflt_st, dflt_str, dflt_int, dflt_bool] at h30
          simp at h30
        · try simp only [Bool.not_eq_false'] at h30
          try simp only [Int.toNat_natCast, dflt_sl, dflt_st, dflt_str, dflt_int, dflt_bool] at h30
          have hlk := of_lok (by omega) hra
          obtain ⟨L0, hL0⟩ : ∃ L0, ofT l = L0 := ⟨_, rfl⟩
          have hnm : L0.2.1 - 1 = L0.2.2 := (by rw [← hL0]; show 1 + (cntR l : Int) - 1 = _; rw [show (ofT l).2.2 = (cntR l : Int) from rfl]; omega)
          rw [hL0] at hlk ⊢
          have hlk1 := hlk.next
          refine acode_skip ?_
          refine acode_seq ?_
          refine acode_region ?_
          refine Or.inr (Or.inr (Or.inl ?_))
          refine And.intro rfl ?_
          refine Exists.intro _ (And.intro (next_c L0.1 L0.2.1 L0.2.2) ?_)
          refine And.intro (by first | omega | assumption | decide | (simp only [Int.toNat_natCast, dflt_sl, dflt_st, dflt_str, dflt_int, dflt_bool]; omega) | (simp <;> omega)) ?_
          refine acode_seq ?_
          refine acode_seq ?_
          refine acode_region ?_
          refine Or.inr (Or.inr (Or.inl ?_))
          refine And.intro rfl ?_
          refine Exists.intro _ (And.intro (len_c L0.1 L0.2.1 L0.2.2) ?_)
          refine acode_cond rfl (fun h37 => ?_) (fun h37 => ?_)
          · try simp only [decide_eq_false_iff_not, Bool.not_eq_true'] at h37
            try simp only [Int.toNat_natCast, dflt_sl, dflt_st, dflt_str, dflt_int, dflt_bool] at h37
            exact absurd hnm h37
          · try simp only [decide_eq_true_eq, Bool.not_eq_false'] at h37
            try simp only [Int.toNat_natCast, dflt_sl, dflt_st, dflt_str, dflt_int, dflt_bool] at h37
            refine acode_skip ?_
            refine acode_seq ?_
            refine acode_seq ?_
            refine acode_region ?_
            intro l11_1
            try simp only [Int.toNat_natCast, dflt_sl, dflt_st, dflt_str, dflt_int, dflt_bool] at l11_1
            refine acode_block ?_
            refine acode_loopP (fun (i : Nat) => i ≤ sc.length) (fun (i : Nat) => [(5, .one (.own 0 0)), (7, ii .i64 ((plays L0 sc i).2.1 - 1)), (38, .one (.sl rEdt sc)), (39, ii .i64 sc.length), (40, ii .i64 i)]) (fun (i : Nat) => [(0, .box 125 [.vec 1, .lit (.int .i64 (plays L0 sc i).2.1), .lit (.int .i64 (plays L0 sc i).2.2)]), (1, .vec 127 rEnt (plays L0 sc i).1)]) 2 (fun (i : Nat) => sc.length - i) 0 (Nat.zero_le _) (le_of ⟨rfl, rfl, rfl, rfl, rfl⟩ ⟨rfl, rfl⟩ rfl) ?_
            intro i hI0
            have hLi := plays_ok hlk hfo i hI0
            have hLn := hLi.next
            refine acode_seq ?_
            refine acode_region ?_
            refine acode_seq ?_
            refine acode_cond rfl (fun h41 => ?_) (fun h41 => ?_)
            · try simp only [decide_eq_true_eq] at h41
              try simp only [Int.toNat_natCast, dflt_sl, dflt_st, dflt_str, dflt_int, dflt_bool] at h41
              have hil : i < sc.length := (by omega)
              have hsn := plays_snoc L0 hil
              have hfe := hfo _ (getD_mem hil ((0 : Int), (0 : Int), ([] : List Fld)))
              have hLd := (doL_ok hLi hfe).next
              obtain ⟨b, hdo⟩ := do_any (plays L0 sc i) (sc.getD i ((0 : Int), (0 : Int), ([] : List Fld))) hLi (by omega) hfe
              refine acode_skip ?_
              refine acode_seq ?_
              refine acode_block ?_
              refine acode_seq ?_
              refine acode_region ?_
              refine And.intro (by first | omega | assumption | decide | (simp only [Int.toNat_natCast, dflt_sl, dflt_st, dflt_str, dflt_int, dflt_bool]; omega) | (simp <;> omega)) ?_
              refine acode_seq ?_
              refine acode_seq ?_
              refine acode_region ?_
              refine And.intro (fun h => trivial) ?_
              refine And.intro (fun h => ⟨⟨h, trivial⟩, trivial⟩) ?_
              refine And.intro (fun h => ⟨⟨h, trivial⟩, trivial⟩) ?_
              refine And.intro (by exact fun h => h) ?_
              refine acode_cond rfl (fun h51 => ?_) (fun h51 => ?_)
              · try simp only [decide_eq_false_iff_not, Bool.and_eq_true, Bool.not_eq_true'] at h51
                try simp only [Int.toNat_natCast, dflt_sl, dflt_st, dflt_int] at h51
                have hic := ins_cases (κ := 0) hLi (by omega) (sc.getD i ((0 : Int), (0 : Int), ([] : List Fld))).1 (sc.getD i ((0 : Int), (0 : Int), ([] : List Fld))).2.1 (sc.getD i ((0 : Int), (0 : Int), ([] : List Fld))).2.2 hfe h51.1 h51.2
                refine acode_seq ?_
                rcases hic with ⟨k9, hd, hin⟩ | ⟨a9, k9, hd, hin⟩ | ⟨hd, hin⟩
                · refine acode_region ?_
                  refine Or.inr (Or.inl (Exists.intro [] (Exists.intro [0, 1] (Exists.intro _ (Exists.intro _ (Exists.intro _ (Exists.intro _ (Exists.intro _ (And.intro (hin) (And.intro rfl (And.intro (And.intro (And.intro rfl rfl) (And.intro (And.intro rfl rfl) True.intro)) (And.intro rfl ?_))))))))))))
                  refine acode_seq ?_
                  refine acode_seq ?_
                  refine acode_region ?_
                  refine And.intro (fun h => trivial) ?_
                  refine And.intro (fun h => trivial) ?_
                  refine And.intro (fun h => ⟨⟨⟨h, trivial⟩, trivial⟩, by first | omega | decide | (simp only [Int.toNat_natCast, dflt_sl, dflt_st, dflt_str, dflt_int, dflt_bool]; omega) | (have h9 := of_decide_eq_true h; omega) | (simp [gq] at h; omega)⟩) ?_
                  refine And.intro (fun h => ⟨⟨h, trivial⟩, ⟨h, trivial⟩, trivial⟩) ?_
                  refine And.intro (by exact fun h => h) ?_
                  refine And.intro (fun h => trivial) ?_
                  refine And.intro (fun h => ⟨⟨h, trivial⟩, trivial⟩) ?_
                  refine And.intro (fun h => ⟨⟨h, trivial⟩, trivial⟩) ?_
                  refine And.intro (fun h => trivial) ?_
                  refine And.intro (fun h => ⟨⟨h, trivial⟩, trivial⟩) ?_
                  refine And.intro (fun h => ⟨⟨⟨h, trivial⟩, trivial⟩, by first | exact fun h2 => h2 | (intro h2; rw [h, h2]; rfl) | (intro h2; cases h2) | (intro h2; simp_all [gq])⟩) ?_
                  refine And.intro (by first | (intro h; rw [h]; rfl) | (intro h; cases h)) ?_
                  refine acode_cond rfl (fun h76 => ?_) (fun h76 => ?_)
                  · try simp only [decide_eq_false_iff_not, Bool.and_eq_true, Bool.not_eq_true', Bool.or_eq_true] at h76
                    try simp only [Int.toNat_natCast, dflt_sl, dflt_st, dflt_str, dflt_int, dflt_bool] at h76
                    simp at h76
                  · try simp only [decide_eq_true_eq, Bool.not_eq_false', Bool.or_eq_false_iff, Bool.and_eq_false_iff] at h76
                    try simp only [Int.toNat_natCast, dflt_sl, dflt_st, dflt_str, dflt_int, dflt_bool] at h76
                    refine acode_skip ?_
                    refine acode_seq ?_
                    refine acode_seq ?_
                    refine acode_region ?_
                    refine acode_cond rfl (fun h78 => ?_) (fun h78 => ?_)
                    · try simp only [decide_eq_true_eq, decide_eq_false_iff_not, Bool.and_eq_true, Bool.not_eq_true', Bool.not_eq_false', Bool.or_eq_false_iff, Bool.or_eq_true, Bool.and_eq_false_iff, Int.not_lt, Int.not_le] at h78
                      try simp only [Int.toNat_natCast, dflt_sl, dflt_st, dflt_str, dflt_int, dflt_bool] at h78
                      simp at h78
                    · skip
                      refine acode_skip ?_
                      refine acode_exit ?_
                      refine acode_region ?_
                      refine And.intro (by first | omega | assumption | decide | (simp only [Int.toNat_natCast, dflt_sl, dflt_st, dflt_str, dflt_int, dflt_bool]; omega) | (simp <;> omega)) ?_
                      exact ⟨i + 1, by omega, by first | omega | (simp <;> omega), le_of ⟨rfl, (ii_eq (by rw [hsn, show doL (plays L0 sc i) (sc.getD i ((0 : Int), (0 : Int), ([] : List Fld))) = plays L0 sc i from hd])), rfl, rfl, (ii_eq (by omega))⟩ ⟨(lsbox_eq (hsn.trans hd)), (lsvec_eq (hsn.trans hd))⟩ rfl⟩
                · refine acode_region ?_
                  refine Or.inr (Or.inl (Exists.intro [] (Exists.intro [0, 1] (Exists.intro _ (Exists.intro _ (Exists.intro _ (Exists.intro _ (Exists.intro _ (And.intro (hin) (And.intro rfl (And.intro (And.intro (And.intro rfl rfl) (And.intro (And.intro rfl rfl) True.intro)) (And.intro rfl ?_))))))))))))
                  refine acode_seq ?_
                  refine acode_seq ?_
                  refine acode_region ?_
                  refine And.intro (fun h => trivial) ?_
                  refine And.intro (fun h => trivial) ?_
                  refine And.intro (fun h => ⟨⟨⟨h, trivial⟩, trivial⟩, by first | omega | decide | (simp only [Int.toNat_natCast, dflt_sl, dflt_st, dflt_str, dflt_int, dflt_bool]; omega) | (have h9 := of_decide_eq_true h; omega) | (simp [gq] at h; omega)⟩) ?_
                  refine And.intro (fun h => ⟨⟨h, trivial⟩, ⟨h, trivial⟩, trivial⟩) ?_
                  refine And.intro (by exact fun h => h) ?_
                  refine And.intro (fun h => trivial) ?_
                  refine And.intro (fun h => ⟨⟨h, trivial⟩, trivial⟩) ?_
                  refine And.intro (fun h => ⟨⟨h, trivial⟩, trivial⟩) ?_
                  refine And.intro (fun h => trivial) ?_
                  refine And.intro (fun h => ⟨⟨h, trivial⟩, trivial⟩) ?_
                  refine And.intro (fun h => ⟨⟨⟨h, trivial⟩, trivial⟩, by first | exact fun h2 => h2 | (intro h2; rw [h, h2]; rfl) | (intro h2; cases h2) | (intro h2; simp_all [gq])⟩) ?_
                  refine And.intro (by first | (intro h; rw [h]; rfl) | (intro h; cases h)) ?_
                  refine acode_cond rfl (fun h76 => ?_) (fun h76 => ?_)
                  · try simp only [decide_eq_false_iff_not, Bool.and_eq_true, Bool.not_eq_true', Bool.or_eq_true] at h76
                    try simp only [Int.toNat_natCast, dflt_sl, dflt_st, dflt_str, dflt_int, dflt_bool] at h76
                    simp at h76
                  · try simp only [decide_eq_true_eq, Bool.not_eq_false', Bool.or_eq_false_iff, Bool.and_eq_false_iff] at h76
                    try simp only [Int.toNat_natCast, dflt_sl, dflt_st, dflt_str, dflt_int, dflt_bool] at h76
                    refine acode_skip ?_
                    refine acode_seq ?_
                    refine acode_seq ?_
                    refine acode_region ?_
                    refine acode_cond rfl (fun h78 => ?_) (fun h78 => ?_)
                    · try simp only [decide_eq_true_eq, decide_eq_false_iff_not, Bool.and_eq_true, Bool.not_eq_true', Bool.not_eq_false', Bool.or_eq_false_iff, Bool.or_eq_true, Bool.and_eq_false_iff, Int.not_lt, Int.not_le] at h78
                      try simp only [Int.toNat_natCast, dflt_sl, dflt_st, dflt_str, dflt_int, dflt_bool] at h78
                      simp at h78
                    · skip
                      refine acode_skip ?_
                      refine acode_exit ?_
                      refine acode_region ?_
                      refine And.intro (by first | omega | assumption | decide | (simp only [Int.toNat_natCast, dflt_sl, dflt_st, dflt_str, dflt_int, dflt_bool]; omega) | (simp <;> omega)) ?_
                      exact ⟨i + 1, by omega, by first | omega | (simp <;> omega), le_of ⟨rfl, (ii_eq (by rw [hsn, show doL (plays L0 sc i) (sc.getD i ((0 : Int), (0 : Int), ([] : List Fld))) = plays L0 sc i from hd])), rfl, rfl, (ii_eq (by omega))⟩ ⟨(lsbox_eq (hsn.trans hd)), (lsvec_eq (hsn.trans hd))⟩ rfl⟩
                · refine acode_region ?_
                  refine Or.inr (Or.inl (Exists.intro [] (Exists.intro [0, 1] (Exists.intro _ (Exists.intro _ (Exists.intro _ (Exists.intro _ (Exists.intro _ (And.intro (hin) (And.intro rfl (And.intro (And.intro (And.intro rfl rfl) (And.intro (And.intro rfl rfl) True.intro)) (And.intro rfl ?_))))))))))))
                  refine acode_seq ?_
                  refine acode_seq ?_
                  refine acode_region ?_
                  refine And.intro (fun h => trivial) ?_
                  refine And.intro (fun h => trivial) ?_
                  refine And.intro (fun h => ⟨⟨⟨h, trivial⟩, trivial⟩, by first | omega | decide | (simp only [Int.toNat_natCast, dflt_sl, dflt_st, dflt_str, dflt_int, dflt_bool]; omega) | (have h9 := of_decide_eq_true h; omega) | (simp [gq] at h; omega)⟩) ?_
                  refine And.intro (fun h => ⟨⟨h, trivial⟩, ⟨h, trivial⟩, trivial⟩) ?_
                  refine And.intro (by exact fun h => h) ?_
                  refine And.intro (fun h => trivial) ?_
                  refine And.intro (fun h => ⟨⟨h, trivial⟩, trivial⟩) ?_
                  refine And.intro (fun h => ⟨⟨h, trivial⟩, trivial⟩) ?_
                  refine And.intro (fun h => trivial) ?_
                  refine And.intro (fun h => ⟨⟨h, trivial⟩, trivial⟩) ?_
                  refine And.intro (fun h => ⟨⟨⟨h, trivial⟩, trivial⟩, by first | exact fun h2 => h2 | (intro h2; rw [h, h2]; rfl) | (intro h2; cases h2) | (intro h2; simp_all [gq])⟩) ?_
                  refine And.intro (by first | (intro h; rw [h]; rfl) | (intro h; cases h)) ?_
                  refine acode_cond rfl (fun h76 => ?_) (fun h76 => ?_)
                  · try simp only [decide_eq_false_iff_not, Bool.and_eq_true, Bool.not_eq_true', Bool.or_eq_true] at h76
                    try simp only [Int.toNat_natCast, dflt_sl, dflt_st, dflt_str, dflt_int, dflt_bool] at h76
                    first | (simp at h76; done) | (simp at h76; omega)
                  · try simp only [decide_eq_true_eq, Bool.not_eq_false', Bool.or_eq_false_iff, Bool.and_eq_false_iff] at h76
                    try simp only [Int.toNat_natCast, dflt_sl, dflt_st, dflt_str, dflt_int, dflt_bool] at h76
                    refine acode_skip ?_
                    refine acode_seq ?_
                    refine acode_seq ?_
                    refine acode_region ?_
                    refine acode_cond rfl (fun h78 => ?_) (fun h78 => ?_)
                    · try simp only [Bool.not_eq_true'] at h78
                      try simp only [Int.toNat_natCast, dflt_sl, dflt_st, dflt_str, dflt_int, dflt_bool] at h78
                      refine acode_region ?_
                      refine And.intro (by first | omega | assumption | decide | (simp only [Int.toNat_natCast, dflt_sl, dflt_st, dflt_str, dflt_int, dflt_bool]; omega) | (simp <;> omega)) ?_
                      refine acode_exit ?_
                      refine acode_region ?_
                      refine And.intro (by first | omega | assumption | decide | (simp only [Int.toNat_natCast, dflt_sl, dflt_st, dflt_str, dflt_int, dflt_bool]; omega) | (simp <;> omega)) ?_
                      exact ⟨i + 1, by omega, by first | omega | (simp <;> omega), le_of ⟨rfl, (ii_eq (by rw [hsn]; have hd : (doL (plays L0 sc i) (sc.getD i ((0 : Int), (0 : Int), ([] : List Fld)))).2.1 = _ := hd; omega)), rfl, rfl, (ii_eq (by omega))⟩ ⟨(lsbox_eq hsn), (lsvec_eq hsn)⟩ rfl⟩
                    · try simp only [Bool.not_eq_false'] at h78
                      try simp only [Int.toNat_natCast, dflt_sl, dflt_st, dflt_str, dflt_int, dflt_bool] at h78
                      simp at h78
              · try simp only [decide_eq_true_eq, Bool.not_eq_false', Bool.and_eq_false_iff] at h51
                try simp only [Int.toNat_natCast, dflt_sl, dflt_st, dflt_int] at h51
                refine acode_skip ?_
                refine acode_region ?_
                refine Or.inr (Or.inl (Exists.intro [] (Exists.intro [0, 1] (Exists.intro _ (Exists.intro _ (Exists.intro _ (Exists.intro _ (Exists.intro _ (And.intro (hdo) (And.intro rfl (And.intro (And.intro (And.intro rfl rfl) (And.intro (And.intro rfl rfl) True.intro)) (And.intro rfl ?_))))))))))))
                refine acode_region ?_
                refine And.intro (by first | omega | assumption | decide | (simp only [Int.toNat_natCast, dflt_sl, dflt_st, dflt_str, dflt_int, dflt_bool]; omega) | (simp <;> omega)) ?_
                exact ⟨i + 1, by omega, by first | omega | (simp <;> omega), le_of ⟨rfl, (ii_eq (by rw [hsn, doL_n _ _ h51])), rfl, rfl, (ii_eq (by omega))⟩ ⟨(lsbox_eq hsn), (lsvec_eq hsn)⟩ rfl⟩
            · try simp only [decide_eq_false_iff_not, Int.not_lt] at h41
              try simp only [Int.toNat_natCast, dflt_sl, dflt_st, dflt_str, dflt_int, dflt_bool] at h41
              refine acode_exit ?_
              obtain ⟨M, hM⟩ : ∃ M, plays L0 sc i = M := ⟨_, rfl⟩
              rw [hM] at hLi hLn ⊢
              have hMl := hLi.len
              have hMi := hLi.ids
              have hMd := hLi.nd
              have hsl := stz_len M.1
              have hll := live_len M.1
              refine acode_seq ?_
              refine acode_region ?_
              refine And.intro (by first | omega | assumption | decide | (simp only [Int.toNat_natCast, dflt_sl, dflt_st, dflt_str, dflt_int, dflt_bool]; omega) | (simp <;> omega)) ?_
              refine And.intro (by exact ⟨by omega, rfl, by omega⟩) ?_
              refine acode_seq ?_
              refine acode_seq ?_
              refine acode_region ?_
              refine Or.inr (Or.inr (Or.inl ?_))
              refine And.intro rfl ?_
              refine Exists.intro _ (And.intro (stanzasL_c M.1 M.2.1 M.2.2 (by omega) hLi.f1) ?_)
              intro l23_2
              try simp only [Int.toNat_natCast, dflt_sl, dflt_st, dflt_str, dflt_int, dflt_bool] at l23_2
              refine acode_block ?_
              refine acode_loopP (fun (x : Nat × List Bool) => SeenI M.1 M.2.1 x.1 x.2) (fun (x : Nat × List Bool) => [(5, .one (.own 0 0)), (7, ii .i64 (M.2.1 - 1)), (12, .one (.vec 2)), (93, .one (.sl rStz (stzL M.1))), (94, ii .i64 (stzL M.1).length), (95, ii .i64 x.1)]) (fun (x : Nat × List Bool) => [(0, .box 125 [.vec 1, .lit (.int .i64 M.2.1), .lit (.int .i64 M.2.2)]), (1, .vec 127 rEnt M.1), (2, .vec 4 .bool x.2)]) 3 (fun (x : Nat × List Bool) => (stzL M.1).length - x.1) (0, List.replicate (M.2.1 - 1 + 1).toNat false) (⟨Nat.zero_le _, by simp, fun k hk => by rw [rep_get] at hk; cases hk⟩) (le_of ⟨rfl, rfl, rfl, rfl, rfl, rfl⟩ ⟨rfl, rfl, rfl⟩ rfl) ?_
              intro ⟨j, sn⟩ hI2
              simp only at hI2 ⊢
              have hjl := hI2.le
              have hsnl := hI2.len
              refine acode_seq ?_
              refine acode_region ?_
              refine acode_seq ?_
              refine acode_cond rfl (fun h96 => ?_) (fun h96 => ?_)
              · try simp only [decide_eq_true_eq] at h96
                try simp only [Int.toNat_natCast, dflt_sl, dflt_st, dflt_str, dflt_int, dflt_bool] at h96
                have hjl : j < (stzL M.1).length := (by omega)
                have hid := stz_ids hMi hjl
                have hns := hI2.not hMd hjl hid.1
                have hpl := plc_at hMd hjl
                have hnx := hI2.next hjl hid.1
                refine acode_skip ?_
                refine acode_seq ?_
                refine acode_block ?_
                refine acode_seq ?_
                refine acode_region ?_
                refine And.intro (by first | omega | assumption | decide | (simp only [Int.toNat_natCast, dflt_sl, dflt_st, dflt_str, dflt_int, dflt_bool]; omega) | (simp <;> omega)) ?_
                refine acode_seq ?_
                refine acode_seq ?_
                refine acode_region ?_
                refine And.intro (fun h => trivial) ?_
                refine And.intro (fun h => ⟨⟨h, trivial⟩, trivial⟩) ?_
                refine And.intro (fun h => trivial) ?_
                refine And.intro (fun h => ⟨⟨h, trivial⟩, ⟨h, trivial⟩, trivial⟩) ?_
                refine And.intro (by first | (intro h; rw [h]; rfl) | (intro h; cases h)) ?_
                refine And.intro (fun h => trivial) ?_
                refine And.intro (fun h => trivial) ?_
                refine And.intro (fun h => ⟨⟨h, trivial⟩, trivial⟩) ?_
                refine And.intro (fun h => ⟨⟨⟨h, trivial⟩, ⟨h, trivial⟩, trivial⟩, by (simp only [Int.toNat_natCast, dflt_sl, dflt_st, dflt_int]; omega)⟩) ?_
                refine And.intro (fun h => ⟨⟨⟨h, trivial⟩, trivial⟩, by first | (simp only [Int.toNat_natCast, dflt_sl, dflt_st, dflt_int]; omega) | (simp only [Int.toNat_natCast, dflt_sl, dflt_st, dflt_str, dflt_int, dflt_bool]; rw [hsnl]; omega)⟩) ?_
                refine And.intro (by first | (intro h; rw [h]; rfl) | (intro h; cases h)) ?_
                refine And.intro (fun h => trivial) ?_
                refine And.intro (fun h => trivial) ?_
                refine And.intro (fun h => ⟨⟨h, trivial⟩, trivial⟩) ?_
                refine And.intro (rfl) ?_
                refine Exists.intro _ (And.intro (fun h => ⟨⟨⟨h, trivial⟩, ⟨h, trivial⟩, trivial⟩, placeL_c M.1 M.2.1 M.2.2 _ (by omega)⟩) ?_)
                refine And.intro (fun h => trivial) ?_
                refine And.intro (fun h => ⟨⟨h, trivial⟩, ⟨h, trivial⟩, trivial⟩) ?_
                refine And.intro (by first | (intro h; rw [h]; rfl) | (intro h; cases h)) ?_
                refine acode_cond rfl (fun h123 => ?_) (fun h123 => ?_)
                · try simp only [decide_eq_true_eq, decide_eq_false_iff_not, Bool.not_eq_true', Bool.or_eq_true] at h123
                  try simp only [Int.toNat_natCast, dflt_sl, dflt_st, dflt_int, dflt_bool] at h123
                  rcases h123 with ((h | h) | h) | h
                  · omega
                  · omega
                  · rw [hns] at h; cases h
                  · exact absurd hpl h
                · try simp only [decide_eq_true_eq, decide_eq_false_iff_not, Bool.not_eq_false', Bool.or_eq_false_iff, Int.not_lt] at h123
                  try simp only [Int.toNat_natCast, dflt_sl, dflt_st, dflt_int, dflt_bool] at h123
                  refine acode_skip ?_
                  refine acode_region ?_
                  refine And.intro (by (simp only [Int.toNat_natCast, dflt_sl, dflt_st, dflt_int]; omega)) ?_
                  refine And.intro (by first | (simp only [Int.toNat_natCast, dflt_sl, dflt_st, dflt_int]; omega) | (simp only [Int.toNat_natCast, dflt_sl, dflt_st, dflt_str, dflt_int, dflt_bool]; rw [hsnl]; omega)) ?_
                  refine acode_region ?_
                  refine And.intro (by first | omega | assumption | decide | (simp only [Int.toNat_natCast, dflt_sl, dflt_st, dflt_str, dflt_int, dflt_bool]; omega) | (simp <;> omega)) ?_
                  exact ⟨(j + 1, sn.set (((stzL M.1).getD j ((0 : Int), ([] : List Fld))).1).toNat true), hnx, by first | omega | (simp <;> omega), le_of ⟨rfl, rfl, rfl, rfl, rfl, (ii_eq (by simp only; omega))⟩ ⟨rfl, rfl, rfl⟩ rfl⟩
              · try simp only [decide_eq_false_iff_not, Int.not_lt] at h96
                try simp only [Int.toNat_natCast, dflt_sl, dflt_st, dflt_str, dflt_int, dflt_bool] at h96
                refine acode_exit ?_
                refine acode_seq ?_
                refine acode_region ?_
                refine Or.inr (Or.inr (Or.inl ?_))
                refine And.intro rfl ?_
                refine Exists.intro _ (And.intro (next_c M.1 M.2.1 M.2.2) ?_)
                refine And.intro (by first | omega | assumption | decide | (simp only [Int.toNat_natCast, dflt_sl, dflt_st, dflt_str, dflt_int, dflt_bool]; omega) | (simp <;> omega)) ?_
                refine acode_ret ?_
                first | rfl | exact ib_eq (decide_eq_true (by omega))
end Q
end Ab
end Go.Proofs.YtnimhpgacmojiaaGreatDoor
namespace Go.Proofs.YtnimhpgacmojiaaGreatDoor
open Go.RowKit
namespace Ab
set_option maxRecDepth 100000
theorem o_str : Opens Tryz.prog 9 .str := opens_str Tryz.underlying9 (by kernel_rfl)
theorem o_int : Opens Tryz.prog 3 (.int .i64) := opens_int Tryz.underlying3 (by kernel_rfl)
theorem o_field : Opens Tryz.prog 91 (.st .str .str) := opens_st Tryz.underlying91 (by kernel_rfl) (.cons rfl o_str (.one rfl o_str))
theorem o_fields : Opens Tryz.prog 25 (.sl (.st .str .str)) := opens_sl (by decide) Tryz.underlying25 (by kernel_rfl) o_field
/-- The library's variable holds some number. -/
theorem globAt {W : World} (h : W.ShapedOpen Tryz.prog) : GlobAt AllOk W := by
  have hc : GlobCell W := cell_of_shapedOpen_int (g := 0) (t := 3) (zero := #[.int .i64 0]) h (of_decide_eq_true (by kernel_rfl)) (by kernel_rfl) rfl (by kernel_rfl) (by kernel_rfl) Tryz.underlying3
  refine ⟨trivial, ?_, hc⟩
  obtain ⟨m, hm⟩ := hc
  rcases Nat.lt_or_ge 0 W.heap.size with h1 | h1
  · exact h1
  · exfalso
    simp only [World.cell?, Array.getElem?_eq_none h1] at hm
    cases hm
end Ab
end Go.Proofs.YtnimhpgacmojiaaGreatDoor
namespace Go.Proofs.YtnimhpgacmojiaaGreatDoor
open Go.RowKit
namespace Ab
set_option maxRecDepth 100000
theorem o_edit : Opens Tryz.prog 60 (.st (.int .i64) (.st (.int .i64) (.sl (.st .str .str)))) := opens_st Tryz.underlying60 (by kernel_rfl) (.cons rfl o_int (.cons rfl o_int (.one rfl o_fields)))
theorem o_edits : Opens Tryz.prog 55 (.sl (.st (.int .i64) (.st (.int .i64) (.sl (.st .str .str))))) := opens_sl (by decide) Tryz.underlying55 (by kernel_rfl) o_edit
theorem open_edits {H : Type} {enc : TypeId × Value → H} {W : World} {base : Nat} {v : Value} {d : DataW H} {p : List MemPlace} (hv : Value.okWide Tryz.prog W .any base 55 v) (h : DataW.Trod enc Tryz.prog W 0 (fun _ => true) true 55 v d p) :
    ∃ xs, (C.sl (.st (.int .i64) (.st (.int .i64) (.sl (.st .str .str)))) xs).rep AllOk noNames W v := open_sl Tryz.underlying55 o_edits hv h
end Ab
end Go.Proofs.YtnimhpgacmojiaaGreatDoor
