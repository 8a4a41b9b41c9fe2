/-
  A selector's line, read by the document: what its functions compute, and that a good selector's line is read to it. No program in sight; no condition.
-/
import Derived.Test.YthlfbpmbkcoclaaDoorQRefLine
namespace Go.Proofs.YthlfbpmbkcoclaaDoor
open Go.RowKit
namespace Ab
set_option maxRecDepth 100000

namespace Q
/-- The text of what was written; none if it is none's. -/
def readL : List UInt8 → Option (List UInt8)
  | [] => some []
  | 92 :: r => match r with
    | [] => none
    | c :: r => (readL r).map (unc c :: ·)
  | c :: r => (readL r).map (c :: ·)
theorem readL_slash {c : UInt8} {r : List UInt8} : readL (92 :: c :: r) = (readL r).map (unc c :: ·) := rfl
theorem readL_other {c : UInt8} {r : List UInt8} (h : c ≠ 92) : readL (c :: r) = (readL r).map (c :: ·) := by
  rw [readL.eq_def]
  split
  · rename_i h1; cases h1
  · rename_i h1; cases h1; exact absurd rfl h
  · rename_i h1; cases h1; rfl
theorem read_esc (k : Bool) : ∀ l : List UInt8, readL (escL (moreOf k) l) = some l
  | [] => rfl
  | c :: l => by
    rw [escL_cons]
    rcases esc_cases k c with ⟨e, h, _⟩ | ⟨x, e, h, _⟩
    · rw [e, List.singleton_append, readL_other h, read_esc k l]; rfl
    · rw [e, List.cons_append, List.singleton_append, readL_slash, h, read_esc k l]; rfl
theorem readL_len : ∀ (n : Nat) (l : List UInt8), l.length ≤ n → ∀ o, readL l = some o → o.length ≤ l.length
  | _, [], _, o, h => by cases h; exact Nat.le_refl _
  | 0, _ :: _, h, _, _ => by simp at h
  | n + 1, c :: r, h, o, ho => by
    simp only [List.length_cons] at h
    by_cases hc : c = 92
    · subst hc
      cases r with
      | nil => cases ho
      | cons d r =>
        rw [readL_slash] at ho
        simp only [List.length_cons] at h ⊢
        cases e : readL r with
        | none => rw [e] at ho; cases ho
        | some p => rw [e] at ho; cases ho; have := readL_len n r (by omega) p e; simp only [List.length_cons]; omega
    · rw [readL_other hc] at ho
      cases e : readL r with
      | none => rw [e] at ho; cases ho
      | some p => rw [e] at ho; cases ho; have := readL_len n r (by omega) p e; simp only [List.length_cons]; omega
theorem readD_len (l : List UInt8) : ((readL l).getD []).length ≤ l.length := by
  cases e : readL l with
  | none => exact Nat.zero_le _
  | some o => exact readL_len _ l (Nat.le_refl _) o e
/-- A word's term, and whether it is one. -/
def wordV (w : List UInt8) : Term × Bool :=
  if signL (restOf w) 0 < 0 then (((false, ByteArray.empty, 0, ByteArray.empty) : Term), false) else
    ((Lib.hasPrefix w [33], bytes ((readL ((restOf w).take (signL (restOf w) 0).toNat)).getD []), Lib.indexByte SG ((restOf w).getD (signL (restOf w) 0).toNat 0) + 1, bytes ((readL ((restOf w).drop ((signL (restOf w) 0).toNat + 1))).getD [])),
     (readL ((restOf w).take (signL (restOf w) 0).toNat)).isSome && (readL ((restOf w).drop ((signL (restOf w) 0).toNat + 1))).isSome)
theorem word_read (t : Term) (h : RelOk t) : wordV (termL t) = (t, true) := by
  obtain ⟨h1, h2⟩ := rest_term t h
  have hs := signOf_facts h
  unfold wordV
  rw [h1, h2, sign_esc hs.1 hs.2.1, Int.zero_add, if_neg (by omega)]
  rw [Int.toNat_natCast, List.take_left, read_esc, List.getD_eq_getElem?_getD, List.getElem?_append_right (Nat.le_refl _), Nat.sub_self]
  rw [show List.drop ((escL (moreOf true) (ls t.2.1)).length + 1) (escL (moreOf true) (ls t.2.1) ++ signOf t.2.2.1 :: escL (moreOf false) (ls t.2.2.2)) = escL (moreOf false) (ls t.2.2.2) from by
    rw [← List.drop_drop, List.drop_left]; rfl]
  rw [read_esc]
  simp only [List.getElem?_cons_zero, Option.getD_some]
  rw [hs.2.2.2.1, bytes_ls, bytes_ls]; rfl
theorem wordV_len (w : List UInt8) : (wordV w).1.2.1.size ≤ w.length ∧ (wordV w).1.2.2.2.size ≤ w.length := by
  have hr : (restOf w).length ≤ w.length := trim_len _ _
  unfold wordV
  split
  · exact ⟨Nat.zero_le _, Nat.zero_le _⟩
  · refine ⟨?_, ?_⟩
    · rw [bytes_size]; refine Nat.le_trans (readD_len _) ?_; rw [List.length_take]; omega
    · rw [bytes_size]; refine Nat.le_trans (readD_len _) ?_; rw [List.length_drop]; omega

/-- A word more. -/
def stepW (s : List (List Term)) (w : List UInt8) : Option (List (List Term)) :=
  if w = [124] then some (s ++ [[]]) else if w = [97, 108, 108] then some s else if (wordV w).2 then some (s.set (s.length - 1) (s.getD (s.length - 1) [] ++ [(wordV w).1])) else none
def runP (s : List (List Term)) (w : List UInt8) : List UInt8 → Option (List (List Term))
  | [] => stepW s w
  | c :: r => if c = 32 then (match stepW s w with | some s' => runP s' [] r | none => none) else runP s (w ++ [c]) r
def refParse (l : List UInt8) : Option (List (List Term)) := if l = [110, 111, 110, 101] then some [] else match runP [[]] [] l with
  | some s => if goodS s && decide (selL s = l) then some s else none
  | none => none

theorem run_word : ∀ (v : List UInt8) (s : List (List Term)) (w : List UInt8), 32 ∉ v → runP s w v = stepW s (w ++ v)
  | [], s, w, _ => by rw [List.append_nil]; rfl
  | c :: v, s, w, h => by
    simp only [List.mem_cons, not_or] at h
    rw [runP, if_neg (fun e => h.1 e.symm), run_word v s (w ++ [c]) h.2]; simp
theorem run_step : ∀ (v : List UInt8) (s : List (List Term)) (w r : List UInt8), 32 ∉ v → runP s w (v ++ 32 :: r) = match stepW s (w ++ v) with | some s' => runP s' [] r | none => none
  | [], s, w, r, _ => by rw [List.append_nil]; rfl
  | c :: v, s, w, r, h => by
    simp only [List.mem_cons, not_or] at h
    rw [List.cons_append, runP, if_neg (fun e => h.1 e.symm), run_step v s (w ++ [c]) r h.2]; simp
def foldT (s : List (List Term)) : List (List UInt8) → Option (List (List Term))
  | [] => some s
  | w :: r => match stepW s w with
    | some s' => foldT s' r
    | none => none
theorem run_join : ∀ (ws : List (List UInt8)) (s : List (List Term)), ws ≠ [] → (∀ w ∈ ws, 32 ∉ w) → runP s [] (Lib.join ws [32]) = foldT s ws
  | [], _, h, _ => absurd rfl h
  | [w], s, _, h => by
    rw [Lib.join_one, run_word w s [] (h w (by simp))]
    show _ = foldT s [w]
    unfold foldT foldT
    rw [List.nil_append]; cases stepW s w <;> rfl
  | w :: v :: ws, s, _, h => by
    rw [join_two, List.append_assoc, List.singleton_append, run_step w s [] _ (h w (by simp)), foldT, List.nil_append]
    cases stepW s w with
    | none => rfl
    | some s' => exact run_join (v :: ws) s' (by simp) fun w hw => h w (by simp [List.mem_cons.1 hw])
theorem foldT_app : ∀ (a b : List (List UInt8)) (s : List (List Term)), foldT s (a ++ b) = match foldT s a with | some s' => foldT s' b | none => none
  | [], b, s => rfl
  | w :: a, b, s => by
    rw [List.cons_append, foldT, foldT]
    cases stepW s w with
    | none => rfl
    | some s' => exact foldT_app a b s'
def tokR (r : List Term) : List (List UInt8) := if r.isEmpty then [[97, 108, 108]] else r.map termL
def toks : List (List Term) → List (List UInt8)
  | [] => []
  | r :: s => match s with
    | [] => tokR r
    | _ :: _ => tokR r ++ [124] :: toks s
theorem tokR_ne (r : List Term) : tokR r ≠ [] := by
  unfold tokR; cases r <;> simp
theorem rowL_toks (r : List Term) : rowL r = Lib.join (tokR r) [32] := by
  unfold rowL tokR; cases r
  · rfl
  · rfl
theorem join_app (sep : List UInt8) (b : List (List UInt8)) (hb : b ≠ []) : ∀ a : List (List UInt8), a ≠ [] → Lib.join (a ++ b) sep = Lib.join a sep ++ sep ++ Lib.join b sep
  | [], h => absurd rfl h
  | [w], _ => by
    cases b with
    | nil => exact absurd rfl hb
    | cons v b => rw [List.singleton_append, join_two, Lib.join_one]
  | w :: v :: a, _ => by
    have ih := join_app sep b hb (v :: a) (by simp)
    rw [List.cons_append, List.cons_append, join_two, join_two, ← List.cons_append, ih]; simp
theorem toks_ne {s : List (List Term)} (h : s ≠ []) : toks s ≠ [] := by
  cases s with
  | nil => exact absurd rfl h
  | cons r s => cases s with
    | nil => exact tokR_ne r
    | cons q s => unfold toks; simp
theorem selL_toks : ∀ s : List (List Term), s ≠ [] → Lib.join (s.map rowL) [32, 124, 32] = Lib.join (toks s) [32]
  | [], h => absurd rfl h
  | [r], _ => by
    show Lib.join [rowL r] _ = Lib.join (tokR r) _
    rw [Lib.join_one, rowL_toks]
  | r :: q :: s, _ => by
    have ih := selL_toks (q :: s) (by simp)
    rw [List.map_cons, List.map_cons, join_two, ← List.map_cons (f := rowL), ih]
    show _ = Lib.join (tokR r ++ [124] :: toks (q :: s)) [32]
    rw [join_app [32] _ (by simp) _ (tokR_ne r), rowL_toks r]
    obtain ⟨v, b, e⟩ : ∃ v b, toks (q :: s) = v :: b := by
      cases e : toks (q :: s) with
      | nil => exact absurd e (toks_ne (by simp))
      | cons v b => exact ⟨v, b, rfl⟩
    rw [e, join_two]; simp
theorem term_step (s0 : List (List Term)) (r0 : List Term) (t : Term) (h : RelOk t) : stepW (s0 ++ [r0]) (termL t) = some (s0 ++ [r0 ++ [t]]) := by
  have hs : ∃ c ∈ termL t, sgn c = true := ⟨_, term_sgn t h, (signOf_facts h).1⟩
  unfold stepW
  rw [if_neg (fun e => by
      obtain ⟨c, h1, h2⟩ := hs
      rw [e] at h1
      simp only [List.mem_cons, List.not_mem_nil, or_false] at h1
      subst h1; revert h2; decide), if_neg (fun e => by
      obtain ⟨c, h1, h2⟩ := hs
      rw [e] at h1
      simp only [List.mem_cons, List.not_mem_nil, or_false] at h1
      rcases h1 with rfl | rfl | rfl <;> revert h2 <;> decide), word_read t h, if_pos rfl]
  have hl : (s0 ++ [r0]).length - 1 = s0.length := by simp
  rw [hl]
  simp [List.getD_eq_getElem?_getD]
theorem row_fold (s0 : List (List Term)) : ∀ (r r0 : List Term), (∀ t ∈ r, RelOk t) → foldT (s0 ++ [r0]) (r.map termL) = some (s0 ++ [r0 ++ r])
  | [], r0, _ => by rw [List.append_nil]; rfl
  | t :: r, r0, h => by
    rw [List.map_cons, foldT, term_step s0 r0 t (h t (by simp))]
    show foldT (s0 ++ [r0 ++ [t]]) _ = _
    rw [row_fold s0 r (r0 ++ [t]) fun t ht => h t (by simp [ht])]; simp
theorem tok_fold (s0 : List (List Term)) (r : List Term) (h : ∀ t ∈ r, RelOk t) : foldT (s0 ++ [[]]) (tokR r) = some (s0 ++ [r]) := by
  unfold tokR
  cases r with
  | nil => rfl
  | cons t r => exact row_fold s0 (t :: r) [] h
theorem toks_fold : ∀ (s s0 : List (List Term)), s ≠ [] → (∀ r ∈ s, ∀ t ∈ r, RelOk t) → foldT (s0 ++ [[]]) (toks s) = some (s0 ++ s)
  | [], _, h, _ => absurd rfl h
  | [r], s0, _, h => tok_fold s0 r (h r (by simp))
  | r :: q :: s, s0, _, h => by
    show foldT (s0 ++ [[]]) (tokR r ++ [124] :: toks (q :: s)) = _
    rw [foldT_app, tok_fold s0 r (h r (by simp))]
    show foldT (s0 ++ [r]) ([124] :: toks (q :: s)) = _
    rw [foldT]
    show foldT ((s0 ++ [r]) ++ [[]]) _ = _
    rw [toks_fold (q :: s) (s0 ++ [r]) (by simp) fun r hr => h r (by simp [List.mem_cons.1 hr])]; simp
theorem toks_no : ∀ s : List (List Term), (∀ r ∈ s, ∀ t ∈ r, RelOk t) → ∀ w ∈ toks s, 32 ∉ w
  | [], _, w, hw => by cases hw
  | r :: s, h, w, hw => by
    have h1 : ∀ w ∈ tokR r, 32 ∉ w := by
      intro w hw
      unfold tokR at hw
      split at hw
      · rw [List.mem_singleton.1 hw]; decide
      · obtain ⟨t, ht, rfl⟩ := List.mem_map.1 hw
        exact (term_no t (h r (by simp) t ht)).1
    cases s with
    | nil => exact h1 w hw
    | cons q s =>
      rcases List.mem_append.1 (show w ∈ tokR r ++ [124] :: toks (q :: s) from hw) with hw | hw
      · exact h1 w hw
      · rcases List.mem_cons.1 hw with rfl | hw
        · decide
        · exact toks_no (q :: s) (fun r hr => h r (by simp [List.mem_cons.1 hr])) w hw
theorem selL_none {s : List (List Term)} (h : ∀ r ∈ s, ∀ t ∈ r, RelOk t) (h0 : s ≠ []) : selL s ≠ [110, 111, 110, 101] := by
  intro e
  have := sel_read h
  unfold selP at this
  rw [if_pos e] at this
  cases this; exact h0 rfl
/-- A good selector's line is read to it. -/
theorem ref_read {s : List (List Term)} (hg : goodS s = true) (h : ∀ r ∈ s, ∀ t ∈ r, RelOk t) : refParse (selL s) = some s := by
  by_cases h0 : s = []
  · subst h0; rfl
  · unfold refParse
    rw [if_neg (selL_none h h0)]
    have : runP [[]] [] (selL s) = some s := by
      unfold selL
      rw [if_neg (by simpa using h0), selL_toks s h0, run_join _ _ (toks_ne h0) (toks_no s h)]
      exact toks_fold s [] h0 h
    rw [this]
    simp only [hg, decide_true, Bool.and_self, if_true]
theorem prog_read {s : List (List Term)} (hg : goodS s = true) (h : ∀ r ∈ s, ∀ t ∈ r, RelOk t) : parseL (selL s) = some s := by
  unfold parseL
  rw [sel_read h]
  simp only [hg, decide_true, Bool.and_self, if_true]
theorem good_rel {s : List (List Term)} (hg : goodS s = true) : ∀ r ∈ s, ∀ t ∈ r, RelOk t := by
  intro r hr t ht
  unfold goodS at hg
  simp only [Bool.and_eq_true, decide_eq_true_eq] at hg
  have h := List.all_eq_true.1 hg.2 r hr
  unfold goodR at h
  simp only [Bool.and_eq_true, decide_eq_true_eq] at h
  have h2 := goodT_iff.1 (List.all_eq_true.1 h.2 t ht)
  exact ⟨h2.1.1.2, h2.1.2⟩
theorem parseL_spec {l : List UInt8} {s : List (List Term)} (h : parseL l = some s) : goodS s = true ∧ selL s = l := by
  unfold parseL at h
  split at h
  · split at h
    · rename_i h1; cases h; simpa using h1
    · cases h
  · cases h
theorem refParse_spec {l : List UInt8} {s : List (List Term)} (h : refParse l = some s) : goodS s = true ∧ selL s = l := by
  unfold refParse at h
  split at h
  · rename_i e; cases h; exact ⟨rfl, e.symm⟩
  · split at h
    · split at h
      · rename_i h1; cases h; simpa using h1
      · cases h
    · cases h
/-- The program and the document read the same of every line. -/
theorem parse_same (l : List UInt8) : parseL l = refParse l := by
  cases hp : parseL l with
  | some s =>
    obtain ⟨h1, h2⟩ := parseL_spec hp
    rw [← h2, ref_read h1 (good_rel h1)]
  | none =>
    cases hr : refParse l with
    | none => rfl
    | some s =>
      obtain ⟨h1, h2⟩ := refParse_spec hr
      rw [← h2, prog_read h1 (good_rel h1)] at hp
      cases hp
end Q
end Ab
end Go.Proofs.YthlfbpmbkcoclaaDoor
