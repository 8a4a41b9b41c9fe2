/-
  A selector's line: what it is, and that it is read to the selector again. No program in sight; no condition.
-/
import Derived.Test.YthlfbpmbkcoclaaDoorQRead
import Derived.Lib.SplitLaws
import Derived.Lib.Join
namespace Go.Proofs.YthlfbpmbkcoclaaDoor
open Go.RowKit
namespace Ab
set_option maxRecDepth 100000
namespace Q
/-- What an escaped byte stands for. -/
def unc (c : UInt8) : UInt8 := if 0 ≤ Lib.indexByte [92, 115, 110, 98] c then [92, 32, 10, 124].getD (Lib.indexByte [92, 115, 110, 98] c).toNat 0 else c
def unescL : List UInt8 → List UInt8
  | [] => []
  | 92 :: r => match r with
    | [] => [92]
    | c :: r => unc c :: unescL r
  | c :: r => c :: unescL r
theorem unescL_slash {c : UInt8} {r : List UInt8} : unescL (92 :: c :: r) = unc c :: unescL r := rfl
theorem unescL_other {c : UInt8} {r : List UInt8} (h : c ≠ 92) : unescL (c :: r) = c :: unescL r := by
  rw [unescL.eq_def]
  split
  · rename_i h1; cases h1
  · rename_i h1; cases h1; exact absurd rfl h
  · rename_i h1; cases h1; rfl
def escC (more : List UInt8) (c : UInt8) : List UInt8 :=
  if 0 ≤ Lib.indexByte [92, 32, 10, 124] c then [92, [92, 115, 110, 98].getD (Lib.indexByte [92, 32, 10, 124] c).toNat 0]
  else if 0 ≤ Lib.indexByte more c then [92, c] else [c]
def escL (more l : List UInt8) : List UInt8 := l.flatMap (escC more)
def SG : List UInt8 := [63, 61, 94, 126, 60]
def moreOf (k : Bool) : List UInt8 := if k then [63, 61, 94, 126, 60, 33] else []

theorem all_u8 {p : UInt8 → Bool} (h : ∀ n, n < 256 → p (UInt8.ofNat n) = true) (c : UInt8) : p c = true := by
  have := h c.toNat c.toNat_lt
  simpa using this
/-- How each byte is written: by itself (then no sign that would be read), or behind a backslash. -/
def fine (k : Bool) (c : UInt8) : Bool := match escC (moreOf k) c with
  | [x] => decide (x = c) && !decide (x = 92) && !decide (x = 32) && !decide (x = 124) && (!k || (!sgn x && !decide (x = 33)))
  | [a, x] => decide (a = 92) && decide (unc x = c) && !decide (x = 32) && !decide (x = 124)
  | _ => false
theorem fine_all (k : Bool) : ∀ c, fine k c = true := by
  cases k <;> exact all_u8 (by decide +kernel)
theorem esc_cases (k : Bool) (c : UInt8) : (escC (moreOf k) c = [c] ∧ c ≠ 92 ∧ c ≠ 32 ∧ c ≠ 124 ∧ (k = true → sgn c = false ∧ c ≠ 33)) ∨ ∃ x, escC (moreOf k) c = [92, x] ∧ unc x = c ∧ x ≠ 32 ∧ x ≠ 124 := by
  have h := fine_all k c
  unfold fine at h
  split at h
  · rename_i x e
    simp only [Bool.and_eq_true, decide_eq_true_eq, Bool.not_eq_true', decide_eq_false_iff_not, Bool.or_eq_true] at h
    obtain ⟨⟨⟨⟨rfl, h1⟩, h2⟩, h3⟩, h4⟩ := h
    exact .inl ⟨e, h1, h2, h3, fun hk => by rcases h4 with h4 | h4; · rw [hk] at h4; cases h4
                                            · exact h4⟩
  · rename_i a x e
    simp only [Bool.and_eq_true, decide_eq_true_eq, Bool.not_eq_true', decide_eq_false_iff_not] at h
    obtain ⟨⟨⟨rfl, h1⟩, h2⟩, h3⟩ := h
    exact .inr ⟨x, e, h1, h2, h3⟩
  · cases h
theorem escL_cons (m : List UInt8) (c : UInt8) (l : List UInt8) : escL m (c :: l) = escC m c ++ escL m l := rfl

theorem unesc_esc (k : Bool) : ∀ l : List UInt8, unescL (escL (moreOf k) l) = l
  | [] => rfl
  | c :: l => by
    rw [escL_cons]
    rcases esc_cases k c with ⟨e, h, _⟩ | ⟨x, e, h, _⟩
    · rw [e, List.singleton_append, unescL_other h, unesc_esc k l]
    · rw [e, List.cons_append, List.singleton_append, unescL_slash, h, unesc_esc k l]
theorem esc_no (k : Bool) : ∀ l : List UInt8, 32 ∉ escL (moreOf k) l ∧ 124 ∉ escL (moreOf k) l
  | [] => ⟨by simp [escL], by simp [escL]⟩
  | c :: l => by
    have ih := esc_no k l
    rw [escL_cons]
    rcases esc_cases k c with ⟨e, _, h2, h3, _⟩ | ⟨x, e, _, h2, h3⟩
    · rw [e]; simp [ih.1, ih.2, Ne.symm h2, Ne.symm h3]
    · rw [e]; simp [ih.1, ih.2, Ne.symm h2, Ne.symm h3]
theorem sign_esc {c : UInt8} {r : List UInt8} (hc : sgn c = true) (h92 : c ≠ 92) : ∀ (l : List UInt8) (n : Int), signL (escL (moreOf true) l ++ c :: r) n = n + (escL (moreOf true) l).length
  | [], n => by
    show signL (c :: r) n = _
    rw [signL_other h92, if_pos hc]; simp [escL]
  | d :: l, n => by
    rw [escL_cons, List.append_assoc]
    rcases esc_cases true d with ⟨e, h, _, _, h4⟩ | ⟨x, e, h, _⟩
    · rw [e, List.singleton_append, signL_other h, if_neg (by simp [(h4 rfl).1]), sign_esc hc h92 l, List.length_append, List.length_singleton]; omega
    · rw [e, List.cons_append, signL_slash, List.singleton_append, List.drop_succ_cons, List.drop_zero, sign_esc hc h92 l, List.length_append]
      simp only [List.length_cons, List.length_nil]; omega
/-- The first byte that is written of a key, or the sign behind it, is no turn. -/
theorem esc_head {c : UInt8} {r : List UInt8} (h33 : c ≠ 33) (l : List UInt8) : ∃ d t, escL (moreOf true) l ++ c :: r = d :: t ∧ d ≠ 33 := by
  cases l with
  | nil => exact ⟨c, r, rfl, h33⟩
  | cons d l =>
    rw [escL_cons, List.append_assoc]
    rcases esc_cases true d with ⟨e, _, _, _, h4⟩ | ⟨x, e, _⟩
    · exact ⟨d, escL (moreOf true) l ++ c :: r, by rw [e]; rfl, (h4 rfl).2⟩
    · exact ⟨92, x :: (escL (moreOf true) l ++ c :: r), by rw [e]; rfl, by decide⟩

abbrev ls (s : ByteArray) : List UInt8 := s.data.toList
def signOf (rel : Int) : UInt8 := SG.getD (rel - 1).toNat 0
def termL (t : Term) : List UInt8 := (if t.1 then [33] else []) ++ escL (moreOf true) (ls t.2.1) ++ signOf t.2.2.1 :: escL (moreOf false) (ls t.2.2.2)
def rowL (r : List Term) : List UInt8 := if r.isEmpty then [97, 108, 108] else Lib.join (r.map termL) [32]
def selL (s : List (List Term)) : List UInt8 := if s.isEmpty then [110, 111, 110, 101] else Lib.join (s.map rowL) [32, 124, 32]
/-- A word's term; none if it is none's. -/
def restOf (w : List UInt8) : List UInt8 := Lib.trimPrefix w [33]
def bytes (l : List UInt8) : ByteArray := ⟨l.toArray⟩
theorem bytes_list (l : List UInt8) : (bytes l).data.toList = l := by simp [bytes]
theorem bytes_ls (s : ByteArray) : bytes (ls s) = s := by cases s; rfl
def termP (w : List UInt8) : Option Term :=
  if signL (restOf w) 0 < 0 then none else some (Lib.hasPrefix w [33], bytes (unescL ((restOf w).take (signL (restOf w) 0).toNat)), Lib.indexByte SG ((restOf w).getD (signL (restOf w) 0).toNat 0) + 1, bytes (unescL ((restOf w).drop ((signL (restOf w) 0).toNat + 1))))
def RelOk (t : Term) : Prop := 1 ≤ t.2.2.1 ∧ t.2.2.1 ≤ 5
theorem signOf_facts {r : Int} (h : 1 ≤ r ∧ r ≤ 5) : sgn (signOf r) = true ∧ signOf r ≠ 92 ∧ signOf r ≠ 33 ∧ Lib.indexByte SG (signOf r) + 1 = r ∧ signOf r ≠ 32 ∧ signOf r ≠ 124 := by
  have : r = 1 ∨ r = 2 ∨ r = 3 ∨ r = 4 ∨ r = 5 := by omega
  rcases this with rfl | rfl | rfl | rfl | rfl <;> decide
theorem rest_term (t : Term) (h : RelOk t) : restOf (termL t) = escL (moreOf true) (ls t.2.1) ++ signOf t.2.2.1 :: escL (moreOf false) (ls t.2.2.2) ∧ Lib.hasPrefix (termL t) [33] = t.1 := by
  obtain ⟨d, r, e, hd⟩ := esc_head (r := escL (moreOf false) (ls t.2.2.2)) (signOf_facts h).2.2.1 (ls t.2.1)
  unfold restOf termL Lib.trimPrefix Lib.hasPrefix
  rw [List.append_assoc, e]
  cases t.1
  · simp [List.isPrefixOf, Ne.symm hd]
  · simp [List.isPrefixOf]
theorem term_read (t : Term) (h : RelOk t) : termP (termL t) = some t := by
  obtain ⟨h1, h2⟩ := rest_term t h
  have hs := signOf_facts h
  unfold termP
  rw [h1, h2, sign_esc hs.1 hs.2.1, Int.zero_add, if_neg (by omega)]
  rw [Int.toNat_natCast, List.take_left, unesc_esc, List.getD_eq_getElem?_getD, List.getElem?_append_right (Nat.le_refl _), Nat.sub_self]
  rw [show List.drop ((escL (moreOf true) (ls t.2.1)).length + 1) (escL (moreOf true) (ls t.2.1) ++ signOf t.2.2.1 :: escL (moreOf false) (ls t.2.2.2)) = escL (moreOf false) (ls t.2.2.2) from by
    rw [← List.drop_drop, List.drop_left]; rfl]
  rw [unesc_esc, bytes_ls, bytes_ls]
  simp only [List.getElem?_cons_zero, Option.getD_some]
  rw [hs.2.2.2.1]

theorem esc_len (m : List UInt8) : ∀ l : List UInt8, (escL m l).length ≤ 2 * l.length
  | [] => Nat.le_refl _
  | c :: l => by
    have ih := esc_len m l
    rw [escL_cons, List.length_append, List.length_cons]
    have : (escC m c).length ≤ 2 := by unfold escC; split <;> (try split) <;> simp
    omega
theorem term_no (t : Term) (h : RelOk t) : 32 ∉ termL t ∧ 124 ∉ termL t := by
  have h1 := esc_no true (ls t.2.1)
  have h2 := esc_no false (ls t.2.2.2)
  obtain ⟨_, _, _, _, h3, h4⟩ := signOf_facts h
  unfold termL
  cases t.1 <;> simp [h1.1, h1.2, h2.1, h2.2, Ne.symm h3, Ne.symm h4]
theorem term_sgn (t : Term) (_h : RelOk t) : signOf t.2.2.1 ∈ termL t := by unfold termL; simp

def Clean (sep p : List UInt8) : Prop := (∀ r j, j < p.length → Lib.occAt (p ++ sep ++ r) sep j = false) ∧ ∀ j, j ≤ p.length → Lib.occAt p sep j = false
theorem clean_one {c : UInt8} {p : List UInt8} (h : c ∉ p) : Clean [c] p := by
  refine ⟨fun r j hj => ?_, fun j _ => ?_⟩
  · refine Bool.eq_false_iff.2 fun e => ?_
    have := Lib.occAt_head rfl e
    rw [List.append_assoc, List.getElem?_append_left hj] at this
    exact h (List.mem_of_getElem? this)
  · refine Bool.eq_false_iff.2 fun e => ?_
    exact h (List.mem_of_getElem? (Lib.occAt_head rfl e))
theorem occAt_tail {s t : List UInt8} {a : UInt8} {j : Nat} (h : Lib.occAt s (a :: t) j = true) : Lib.occAt s t (j + 1) = true := by
  unfold Lib.occAt at *
  rw [← List.drop_drop]
  cases e : s.drop j with
  | nil => rw [e] at h; simp [List.isPrefixOf] at h
  | cons b r => rw [e] at h; simp only [List.isPrefixOf, Bool.and_eq_true] at h; exact h.2
theorem clean_bar {p : List UInt8} (h : 124 ∉ p) : Clean [32, 124, 32] p := by
  refine ⟨fun r j hj => ?_, fun j _ => ?_⟩
  · refine Bool.eq_false_iff.2 fun e => ?_
    have := Lib.occAt_head rfl (occAt_tail e)
    rw [List.append_assoc] at this
    rcases Nat.lt_or_ge (j + 1) p.length with h1 | h1
    · rw [List.getElem?_append_left h1] at this
      exact h (List.mem_of_getElem? this)
    · rw [List.getElem?_append_right h1, show j + 1 - p.length = 0 by omega] at this
      simp at this
  · refine Bool.eq_false_iff.2 fun e => ?_
    exact h (List.mem_of_getElem? (Lib.occAt_head rfl (occAt_tail e)))
theorem join_two (p q : List UInt8) (ps : List (List UInt8)) (sep : List UInt8) : Lib.join (p :: q :: ps) sep = p ++ sep ++ Lib.join (q :: ps) sep := by
  rw [Lib.join_cons, Lib.join_cons]; simp [Lib.joinTail]
theorem split_join {sep : List UInt8} (hs : sep ≠ []) : ∀ ps : List (List UInt8), ps ≠ [] → (∀ p ∈ ps, Clean sep p) → Lib.split (Lib.join ps sep) sep = ps
  | [], h, _ => absurd rfl h
  | [p], _, hc => by
    unfold Lib.split
    rw [Lib.join_one, Lib.count_miss (Lib.index_none (hc p (by simp)).2)]
    rfl
  | p :: q :: ps, _, hc => by
    have hi : Lib.index (Lib.join (p :: q :: ps) sep) sep = p.length := by
      rw [join_two]
      exact Lib.index_first (by simp) (by unfold Lib.occAt; rw [List.append_assoc, List.drop_left]; exact List.isPrefixOf_iff_prefix.2 ⟨_, rfl⟩) ((hc p (by simp)).1 _)
    have hd : (Lib.join (p :: q :: ps) sep).drop (p.length + sep.length) = Lib.join (q :: ps) sep := by
      rw [join_two, ← List.length_append, List.drop_left]
    have ht : (Lib.join (p :: q :: ps) sep).take (p.length + 0) = p := by
      rw [join_two, List.append_assoc, Nat.add_zero, List.take_left]
    have ih := split_join hs (q :: ps) (by simp) fun p hp => hc p (by simp [hp])
    unfold Lib.split at *
    rw [Lib.count_hit hs hi, hd, Nat.add_comm, Lib.splitK, hi, if_neg (by intro e; have := beq_iff_eq.1 e; omega), Int.toNat_natCast, ht, hd, ih]

/-- All that is read of texts; none if one of them is none's. -/
def rdAll {α : Type} (f : List UInt8 → Option α) : List (List UInt8) → Option (List α)
  | [] => some []
  | w :: r => match f w, rdAll f r with
    | some t, some l => some (t :: l)
    | _, _ => none
theorem rdAll_map {α : Type} {f : List UInt8 → Option α} {g : α → List UInt8} : ∀ {l : List α}, (∀ t ∈ l, f (g t) = some t) → rdAll f (l.map g) = some l
  | [], _ => rfl
  | t :: l, h => by
    rw [List.map_cons, rdAll, h t (by simp), rdAll_map (fun t ht => h t (by simp [ht]))]
def rowP (l : List UInt8) : Option (List Term) := if l = [97, 108, 108] then some [] else rdAll termP (Lib.split l [32])
def selP (l : List UInt8) : Option (List (List Term)) := if l = [110, 111, 110, 101] then some [] else rdAll rowP (Lib.split l [32, 124, 32])
theorem mem_join {c : UInt8} {sep : List UInt8} : ∀ {ps : List (List UInt8)}, c ∈ Lib.join ps sep → (∃ p ∈ ps, c ∈ p) ∨ c ∈ sep
  | [], h => by rw [Lib.join_nil] at h; cases h
  | [p], h => by rw [Lib.join_one] at h; exact .inl ⟨p, by simp, h⟩
  | p :: q :: ps, h => by
    rw [join_two, List.mem_append, List.mem_append] at h
    rcases h with (h | h) | h
    · exact .inl ⟨p, by simp, h⟩
    · exact .inr h
    · rcases mem_join h with ⟨r, h1, h2⟩ | h
      · exact .inl ⟨r, by simp [List.mem_cons.1 h1], h2⟩
      · exact .inr h
theorem row_sgn {r : List Term} (h : ∀ t ∈ r, RelOk t) (h0 : r ≠ []) : ∃ c ∈ rowL r, sgn c = true := by
  cases r with
  | nil => exact absurd rfl h0
  | cons t r =>
    refine ⟨signOf t.2.2.1, ?_, (signOf_facts (h t (by simp))).1⟩
    show _ ∈ Lib.join (termL t :: r.map termL) [32]
    rw [Lib.join_cons]
    exact List.mem_append_left _ (term_sgn t (h t (by simp)))
theorem row_no {r : List Term} (h : ∀ t ∈ r, RelOk t) : 124 ∉ rowL r := by
  unfold rowL
  split
  · decide
  · intro hm
    rcases mem_join hm with ⟨p, h1, h2⟩ | h1
    · obtain ⟨t, ht, rfl⟩ := List.mem_map.1 h1
      exact (term_no t (h t ht)).2 h2
    · revert h1; decide
theorem row_read {r : List Term} (h : ∀ t ∈ r, RelOk t) : rowP (rowL r) = some r := by
  by_cases h0 : r = []
  · subst h0; rfl
  · unfold rowP
    rw [if_neg (fun e => by
      obtain ⟨c, h1, h2⟩ := row_sgn h h0
      rw [e] at h1
      simp only [List.mem_cons, List.not_mem_nil, or_false] at h1
      rcases h1 with rfl | rfl | rfl <;> revert h2 <;> decide)]
    unfold rowL
    rw [if_neg (by simpa using h0), split_join (by simp) _ (by simpa using h0) (fun p hp => by
      obtain ⟨t, ht, rfl⟩ := List.mem_map.1 hp
      exact clean_one (term_no t (h t ht)).1)]
    exact rdAll_map fun t ht => term_read t (h t ht)
theorem sel_read {s : List (List Term)} (h : ∀ r ∈ s, ∀ t ∈ r, RelOk t) : selP (selL s) = some s := by
  by_cases h0 : s = []
  · subst h0; rfl
  · have hne : selL s ≠ [110, 111, 110, 101] := by
      cases s with
      | nil => exact absurd rfl h0
      | cons r s =>
        show Lib.join (rowL r :: s.map rowL) [32, 124, 32] ≠ _
        rw [Lib.join_cons]
        by_cases hr : r = []
        · subst hr; intro e; cases e
        · intro e
          obtain ⟨c, h1, h2⟩ := row_sgn (h r (by simp)) hr
          have : c ∈ ([110, 111, 110, 101] : List UInt8) := by rw [← e]; exact List.mem_append_left _ h1
          simp only [List.mem_cons, List.not_mem_nil, or_false] at this
          rcases this with rfl | rfl | rfl | rfl <;> revert h2 <;> decide
    unfold selP
    rw [if_neg hne]
    unfold selL
    rw [if_neg (by simpa using h0), split_join (by simp) _ (by simpa using h0) (fun p hp => by
      obtain ⟨r, hr, rfl⟩ := List.mem_map.1 hp
      exact clean_bar (row_no (h r hr)))]
    exact rdAll_map fun r hr => row_read (h r hr)
end Q
end Ab
end Go.Proofs.YthlfbpmbkcoclaaDoor
