/-
  A selector's line: what the program reads of one.
-/
import Derived.Test.YthlfbpmbkcoclaaDoorQLine
namespace Go.Proofs.YthlfbpmbkcoclaaDoor
open Go.RowKit
namespace Ab
set_option maxRecDepth 100000
namespace Q
theorem print_yes {s : List (List Term)} (hs : TxtsOk s) (hg : goodS s = true) : ACall Tryd.prog 18 [.one (.sl (.sl rTerm) s)] (.tup [(false, [.lit (.string (bytes (selL s)))]), (false, [.lit .nilIface])]) := by
  have := print_c s hs; unfold printA at this; rw [if_pos hg] at this; exact this
theorem print_no {s : List (List Term)} (hs : TxtsOk s) (hg : goodS s = false) : ACall Tryd.prog 18 [.one (.sl (.sl rTerm) s)] (.tup [(false, [.lit (.string ⟨#[]⟩)]), (false, [errForm])]) := by
  have := print_c s hs; unfold printA at this; rw [if_neg (by rw [hg]; decide)] at this; exact this
theorem unesc_len : ∀ (n : Nat) (l : List UInt8), l.length ≤ n → (unescL l).length ≤ l.length
  | _, [], _ => Nat.le_refl _
  | 0, _ :: _, h => by simp at h
  | n + 1, c :: r, h => by
    simp only [List.length_cons] at h
    by_cases hc : c = 92
    · subst hc
      cases r with
      | nil => exact Nat.le_refl _
      | cons d r =>
        rw [unescL_slash]
        simp only [List.length_cons] at h ⊢
        have := unesc_len n r (by omega); omega
    · rw [unescL_other hc]
      simp only [List.length_cons]
      have := unesc_len n r (by omega); omega
theorem termP_len {w : List UInt8} {t : Term} (h : termP w = some t) : t.2.1.size ≤ w.length ∧ t.2.2.2.size ≤ w.length := by
  unfold termP at h
  split at h
  · cases h
  · cases h
    have hr : (restOf w).length ≤ w.length := trim_len _ _
    refine ⟨?_, ?_⟩
    · rw [bytes_size]
      refine Nat.le_trans (unesc_len _ _ (Nat.le_refl _)) ?_
      rw [List.length_take]; omega
    · rw [bytes_size]
      refine Nat.le_trans (unesc_len _ _ (Nat.le_refl _)) ?_
      rw [List.length_drop]; omega
theorem rdAll_mem {α : Type} {f : List UInt8 → Option α} : ∀ {l : List (List UInt8)} {a : List α}, rdAll f l = some a → ∀ t ∈ a, ∃ w ∈ l, f w = some t
  | [], a, h, t, ht => by cases h; cases ht
  | v :: l, a, h, t, ht => by
    unfold rdAll at h
    split at h
    · rename_i x b h1 h2
      cases h
      rcases List.mem_cons.1 ht with rfl | ht
      · exact ⟨v, by simp, h1⟩
      · obtain ⟨w, h3, h4⟩ := rdAll_mem h2 t ht
        exact ⟨w, by simp [h3], h4⟩
    · cases h
theorem split_mem {s sep w : List UInt8} (h : w ∈ Lib.split s sep) : w.length ≤ s.length := by
  have : Lib.split s sep = (Lib.splitB (bytes sep) 0 (Lib.countB (bytes s) (bytes sep)) (bytes s)).map ls := by rw [split_ls]; unfold ls; rw [bytes_list, bytes_list]
  rw [this] at h
  obtain ⟨x, hx, rfl⟩ := List.mem_map.1 h
  have := split_size _ _ _ x hx
  rw [bytes_size, size_list] at this
  exact this
theorem rowP_len {l : List UInt8} {r : List Term} (h : rowP l = some r) : ∀ t ∈ r, t.2.1.size ≤ l.length ∧ t.2.2.2.size ≤ l.length := by
  intro t ht
  unfold rowP at h
  split at h
  · cases h; cases ht
  · obtain ⟨w, hw, h2⟩ := rdAll_mem h t ht
    have := split_mem hw
    have := termP_len h2
    omega
theorem selP_len {l : List UInt8} {s : List (List Term)} (h : selP l = some s) : ∀ r ∈ s, ∀ t ∈ r, t.2.1.size ≤ l.length ∧ t.2.2.2.size ≤ l.length := by
  intro r hr t ht
  unfold selP at h
  split at h
  · cases h; cases hr
  · obtain ⟨w, hw, h2⟩ := rdAll_mem h r hr
    have := split_mem hw
    have := rowP_len h2 t ht
    omega
def parseL (l : List UInt8) : Option (List (List Term)) := match selP l with
  | some s => if goodS s && decide (selL s = l) then some s else none
  | none => none
def parseA (o : Option (List (List Term))) : A := match o with
  | some s => .tup [(false, [.sl (.sl rTerm) s]), (false, [.lit .nilIface])]
  | none => .tup [(false, [.sl (.sl rTerm) []]), (false, [errForm])]
theorem parseA_eq {o o' : Option (List (List Term))} (h : o = o') : parseA o = parseA o' := by rw [h]
theorem parse_c (line : ByteArray) (hl : line.size ≤ 900000) : ACall Tryd.prog 23 [is line] (parseA (parseL line.data.toList)) := by
  have hz := size_list line
  obtain ⟨ws, hws⟩ : ∃ ws, Lib.splitB ⟨#[32, 124, 32]⟩ 0 (Lib.countB line ⟨#[32, 124, 32]⟩) line = ws := ⟨_, rfl⟩
  have hsz : ∀ x ∈ ws, x.size ≤ 900000 := fun x hx => Nat.le_trans (split_size _ _ _ x (hws ▸ hx)) (by omega)
  have hlen : ws.length ≤ line.size + 1 := by rw [← hws]; exact split_len _ _ (by decide)
  have hsp : ws.map ls = Lib.split (ls line) [32, 124, 32] := by rw [← hws]; exact split_ls _ _
  refine acall_of (rs := [2, 3]) Tryd.func23 rfl rfl rfl teOk rfl ?_
  refine acode_seq ?_
  refine acode_region ?_
  refine acode_seq ?_
  refine acode_region ?_
  refine acode_seq ?_
  refine acode_seq ?_
  refine acode_region ?_
  refine acode_cond rfl (fun h12 => ?_) (fun h12 => ?_)
  · try simp only [decide_eq_true_eq] at h12
    try simp only [Int.toNat_natCast, dflt_sl, dflt_st, dflt_str, dflt_int, dflt_bool] at h12
    refine acode_seq ?_
    refine acode_region ?_
    refine acode_nilvec 2 44 (.sl rTerm) rfl ?_
    refine acode_ret ?_
    exact parseA_eq (o := some []) (by rw [h12]; rfl)
  · try simp only [decide_eq_false_iff_not] at h12
    try simp only [Int.toNat_natCast, dflt_sl, dflt_st, dflt_str, dflt_int, dflt_bool] at h12
    refine acode_skip ?_
    refine acode_seq ?_
    refine acode_seq ?_
    refine acode_nilvec 4 44 (.sl rTerm) rfl ?_
    refine acode_region ?_
    refine Or.inl ?_
    refine And.intro (rfl) ?_
    refine Exists.intro _ (And.intro (split_v line _ ws hws (by omega) (by decide)) ?_)
    intro l4_2
    try simp only [Int.toNat_natCast, dflt_sl, dflt_st, dflt_str, dflt_int, dflt_bool] at l4_2
    refine acode_block ?_
    refine acode_loopP (fun (x : Nat × List (List Term)) => x.1 ≤ ws.length ∧ x.2.length = x.1 ∧ rdAll rowP ((ws.take x.1).map ls) = some x.2) (fun (x : Nat × List (List Term)) => [(0, is line), (4, .one (.vec 0)), (14, .one (.sl .str ws)), (15, ii .i64 ws.length), (16, ii .i64 x.1)]) (fun (x : Nat × List (List Term)) => [(0, .vec 44 (.sl rTerm) x.2)]) 1 (fun (x : Nat × List (List Term)) => ws.length - x.1) (0, []) (⟨Nat.zero_le _, rfl, rfl⟩) (le_of ⟨rfl, rfl, rfl, rfl, rfl⟩ rfl rfl) ?_
    intro ⟨i, o⟩ hI0
    simp only at hI0 ⊢
    obtain ⟨hi, ho, hn⟩ := hI0
    refine acode_seq ?_
    refine acode_region ?_
    refine acode_seq ?_
    refine acode_cond rfl (fun h17 => ?_) (fun h17 => ?_)
    · try simp only [decide_eq_true_eq] at h17
      try simp only [Int.toNat_natCast, dflt_sl, dflt_st, dflt_str, dflt_int, dflt_bool] at h17
      refine acode_skip ?_
      refine acode_seq ?_
      refine acode_block ?_
      refine acode_seq ?_
      refine acode_region ?_
      refine And.intro (by first | omega | assumption | decide | (simp only [Int.toNat_natCast, dflt_sl, dflt_st, dflt_str, dflt_int, dflt_bool]; omega) | (simp; omega)) ?_
      refine acode_seq ?_
      refine acode_region ?_
      refine Or.inl ?_
      refine And.intro (rfl) ?_
      refine Exists.intro _ (And.intro (row_c _ (hsz _ (getD_mem (show i < ws.length by omega) _))) ?_)
      refine acode_seq ?_
      refine acode_seq ?_
      refine acode_region ?_
      refine acode_cond rfl (fun h26 => ?_) (fun h26 => ?_)
      · try simp only [Bool.not_eq_true'] at h26
        try simp only [Int.toNat_natCast, dflt_str] at h26
        have hno : rowP (ls (ws.getD i ByteArray.empty)) = none := by cases e : rowP (ls (ws.getD i ByteArray.empty)); rfl; rw [e] at h26; cases h26
        refine acode_seq ?_
        refine acode_region ?_
        refine acode_nilvec 2 44 (.sl rTerm) rfl ?_
        refine acode_ret ?_
        exact parseA_eq (o := none) (by unfold parseL; rw [show selP line.data.toList = none from by unfold selP; rw [if_neg (fun e => h12 (ls_inj e)), ← show ws.map ls = _ from hsp]; exact rdAll_none (List.mem_map.2 ⟨_, getD_mem (show i < ws.length by omega) _, rfl⟩) hno])
      · try simp only [Bool.not_eq_false'] at h26
        try simp only [Int.toNat_natCast, dflt_str] at h26
        obtain ⟨t, ht⟩ : ∃ t, rowP (ls (ws.getD i ByteArray.empty)) = some t := Option.isSome_iff_exists.1 h26
        refine acode_skip ?_
        refine acode_region ?_
        refine And.intro (by show (_ + 1) * 24 ≤ 140737488355328; omega) ?_
        refine acode_region ?_
        refine And.intro (by first | omega | assumption | decide | (simp only [Int.toNat_natCast, dflt_sl, dflt_st, dflt_str, dflt_int, dflt_bool]; omega) | (simp; omega)) ?_
        exact ⟨(i + 1, o ++ [(rowP (ls (ws.getD i ByteArray.empty))).getD []]), ⟨by simp only; omega, by simp; omega, by simp only; rw [map_take_succ ls ws ByteArray.empty i (by omega), rdAll_snoc hn, ht]; rfl⟩, by first | omega | (simp; omega), le_of ⟨rfl, rfl, rfl, rfl, (ii_eq (by simp only; omega))⟩ (vec_eq rfl) rfl⟩
    · try simp only [decide_eq_false_iff_not, Int.not_lt] at h17
      try simp only [Int.toNat_natCast, dflt_sl, dflt_st, dflt_str, dflt_int, dflt_bool] at h17
      have hiw : i = ws.length := by omega
      rw [hiw, List.take_length, hsp] at hn
      have hsel : selP (ls line) = some o := by unfold selP; rw [if_neg (fun e => h12 (ls_inj e))]; exact hn
      have hT : TxtsOk o := fun r hr t ht => by have := selP_len hsel r hr t ht; unfold TxtOk; unfold ls at this; omega
      refine acode_exit ?_
      refine acode_seq ?_
      refine acode_seq ?_
      cases hg : goodS o
      · refine acode_region ?_
        refine Or.inl ?_
        refine And.intro (rfl) ?_
        refine Exists.intro _ (And.intro (print_no hT hg) ?_)
        refine acode_seq ?_
        refine acode_region ?_
        refine And.intro (fun h => trivial) ?_
        refine And.intro (fun h => trivial) ?_
        refine And.intro (fun h => ⟨⟨h, trivial⟩, ⟨h, trivial⟩, trivial⟩) ?_
        refine And.intro (by first | (intro h; rw [h]; rfl) | (intro h; cases h)) ?_
        refine acode_cond rfl (fun h44 => ?_) (fun h44 => ?_)
        · try simp only [decide_eq_false_iff_not, Bool.not_eq_true', Bool.or_eq_true] at h44
          try simp only [Int.toNat_natCast, dflt_sl, dflt_st, dflt_str, dflt_int, dflt_bool] at h44
          refine acode_seq ?_
          refine acode_region ?_
          refine acode_nilvec 2 44 (.sl rTerm) rfl ?_
          refine acode_ret ?_
          exact parseA_eq (o := none) (by unfold parseL; rw [show selP line.data.toList = _ from hsel]; simp only [hg]; rfl)
        · try simp only [decide_eq_true_eq, Bool.not_eq_false', Bool.or_eq_false_iff] at h44
          try simp only [Int.toNat_natCast, dflt_sl, dflt_st, dflt_str, dflt_int, dflt_bool] at h44
          refine acode_skip ?_
          refine acode_seq ?_
          refine acode_region ?_
          refine acode_ret ?_
          exact absurd h44.1 (by decide)
      · refine acode_region ?_
        refine Or.inl ?_
        refine And.intro (rfl) ?_
        refine Exists.intro _ (And.intro (print_yes hT hg) ?_)
        refine acode_seq ?_
        refine acode_region ?_
        refine And.intro (fun h => trivial) ?_
        refine And.intro (fun h => trivial) ?_
        refine And.intro (fun h => ⟨⟨h, trivial⟩, ⟨h, trivial⟩, trivial⟩) ?_
        refine And.intro (by first | (intro h; rw [h]; rfl) | (intro h; cases h)) ?_
        refine acode_cond rfl (fun h44 => ?_) (fun h44 => ?_)
        · try simp only [decide_eq_false_iff_not, Bool.not_eq_true', Bool.or_eq_true] at h44
          try simp only [Int.toNat_natCast, dflt_sl, dflt_st, dflt_str, dflt_int, dflt_bool] at h44
          refine acode_seq ?_
          refine acode_region ?_
          refine acode_nilvec 2 44 (.sl rTerm) rfl ?_
          refine acode_ret ?_
          exact parseA_eq (o := none) (by unfold parseL; rw [show selP line.data.toList = _ from hsel]; simp only [hg]; rw [decide_eq_false (fun e => h44.elim (fun e => by cases e) (fun e2 => e2 (by rw [e]; exact bytes_ls line)))]; rfl)
        · try simp only [decide_eq_true_eq, Bool.not_eq_false', Bool.or_eq_false_iff] at h44
          try simp only [Int.toNat_natCast, dflt_sl, dflt_st, dflt_str, dflt_int, dflt_bool] at h44
          refine acode_skip ?_
          refine acode_seq ?_
          refine acode_region ?_
          refine acode_ret ?_
          exact parseA_eq (o := some o) (by unfold parseL; rw [show selP line.data.toList = _ from hsel]; simp only [hg]; rw [decide_eq_true (by rw [← h44.2, bytes_list])]; rfl)
end Q
end Ab
end Go.Proofs.YthlfbpmbkcoclaaDoor
