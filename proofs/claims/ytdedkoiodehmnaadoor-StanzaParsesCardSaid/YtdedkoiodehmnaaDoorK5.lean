/-
  The texts of this proof, joined: abstract values, the library, the functions of the program and what they compute (part 5). No condition.
-/
import Derived.Shelf.Vars
import Derived.KernelRfl
import Derived.Test.YtdedkoiodehmnaaDoorK1
import Derived.Test.YtdedkoiodehmnaaDoorK2
import Derived.Test.YtdedkoiodehmnaaDoorK3
import Derived.Test.YtdedkoiodehmnaaDoorK4
namespace Go.Proofs.YtdedkoiodehmnaaDoor
open Go.RowKit
namespace Ab
set_option maxRecDepth 100000
namespace Q
def szI (l : List Itm) : Nat := (l.map (·.2.1.size)).sum
def szB (l : List ByteArray) : Nat := (l.map (fun b => b.size + 1)).sum
def rawN (p : PSt) : Nat := szI p.its + szB p.blk
def Idle (p : PSt) : Prop := p.lns = [] ∧ p.blk = [] ∧ p.flds = []
theorem szI_app (a b : List Itm) : szI (a ++ b) = szI a + szI b := by simp [szI]
theorem szB_app (a b : List ByteArray) : szB (a ++ b) = szB a + szB b := by simp [szB]
theorem join_eq (c : UInt8) : ∀ (l : List ByteArray), l ≠ [] → (Lib.join (l.map (·.data.toList)) [c]).length + 1 = szB l
  | [], h => absurd rfl h
  | [a], _ => by
    rw [List.map_cons, List.map_nil, show Lib.join [a.data.toList] [c] = a.data.toList from by simp [Lib.join]]
    rw [← size_list]
    simp [szB]
  | a :: b :: r, _ => by
    have := join_eq c (b :: r) (by simp)
    rw [List.map_cons] at this
    rw [List.map_cons, List.map_cons, join_two]
    simp only [List.length_append, List.length_cons, List.length_nil, szB, List.map_cons, List.sum_cons, ← size_list] at this ⊢
    omega
theorem rawB_size {l : List ByteArray} (h : l ≠ []) : (rawB l).size = szB l := by
  have := join_eq 10 l h
  unfold rawB
  rw [ByteArray.size_append, bytes_size]
  exact this
theorem flush_same {p q : PSt} (h : flushS p = .inr q) : q.its = p.its ∧ q.blk = p.blk := by
  unfold flushS at h
  split at h
  · cases h; exact ⟨rfl, rfl⟩
  · split at h
    · cases h
    · split at h
      · cases h
      · cases h; exact ⟨rfl, rfl⟩
theorem close_took (p : PSt) : (∃ X, (closeS p).its = p.its ++ X ∧ ∀ x ∈ X, x.1 ≠ 1) ∧ rawN (closeS p) = rawN p ∧ (closeS p).blk = [] ∧ (closeS p).flds = [] ∧ (closeS p).lns = p.lns := by
  unfold closeS
  split
  · rename_i h
    exact ⟨⟨[], by simp, by simp⟩, by simp [rawN, h], rfl, rfl, rfl⟩
  · rename_i h
    refine ⟨⟨_, rfl, fun x hx => ?_⟩, ?_, rfl, rfl, rfl⟩
    · rw [List.mem_singleton.1 hx]
      simp only
      split <;> decide
    · simp only [rawN, szI_app]
      simp only [szI, List.map_cons, List.map_nil, List.sum_cons, List.sum_nil, rawB_size h]
      simp [szB]
theorem end_took {p q : PSt} (h : endS p = .inr q) : (∃ X, q.its = p.its ++ X ∧ ∀ x ∈ X, x.1 ≠ 1) ∧ rawN q = rawN p ∧ Idle q := by
  unfold endS at h
  cases e : flushS p with
  | inl x => rw [e] at h; cases h
  | inr r =>
    rw [e] at h
    cases h
    obtain ⟨h1, h2⟩ := flush_same e
    obtain ⟨h3, h4, h5, h6, h7⟩ := close_took r
    rw [h1] at h3
    refine ⟨h3, ?_, h7.trans (flush_lns e), h5, h6⟩
    rw [h4]
    unfold rawN
    rw [h1, h2]
theorem ahead_took {p q : PSt} {l : Lne} {k : Int} (h : aheadS p l k = .inr q) : (∃ X, q.its = p.its ++ X ∧ ∀ x ∈ X, x.1 ≠ 1) ∧ rawN q = rawN p ∧ (k = 1 → Idle q) := by
  unfold aheadS at h
  split at h
  · rename_i hk
    subst hk
    split at h
    · cases h
    · split at h
      · cases h
        exact ⟨⟨[], by simp, by simp⟩, rfl, fun e => by cases e⟩
      · obtain ⟨h1, h2⟩ := flush_same h
        exact ⟨⟨[], by simp [h1], by simp⟩, by unfold rawN; rw [h1, h2], fun e => by cases e⟩
  · split at h
    · obtain ⟨h1, h2, h3⟩ := end_took h
      exact ⟨h1, h2, fun _ => h3⟩
    · rename_i hk
      obtain ⟨h1, h2⟩ := flush_same h
      exact ⟨⟨[], by simp [h1], by simp⟩, by unfold rawN; rw [h1, h2], fun e => absurd e hk⟩
theorem take_took {p q : PSt} {l : Lne} (h : takeS p l = .inr q) : l.2.2.2 = true ∧ rawN q = rawN p + (l.2.2.1.size + 1) ∧ ∃ X Y, q.its = p.its ++ X ++ Y ∧ (∀ x ∈ X, x.1 ≠ 1) ∧ (Y = [] ∨ (∃ b, Y = [b]) ∧ Idle q) := by
  unfold takeS at h
  cases e : aheadS p l (kindL (ls l.2.2.1)) with
  | inl x => rw [e] at h; cases h
  | inr r =>
    rw [e] at h
    obtain ⟨⟨X, h1, h2⟩, h3, h4⟩ := ahead_took e
    simp only at h
    unfold lineS at h
    split at h
    · cases h
    · rename_i g0
      have he : l.2.2.2 = true := by
        cases e : l.2.2.2
        · exact absurd (.inr e) g0
        · rfl
      refine ⟨he, ?_⟩
      split at h
      · rename_i g1
        cases h
        obtain ⟨i1, i2, i3⟩ := h4 g1
        refine ⟨?_, X, [(1, l.2.2.1 ++ ⟨#[10]⟩, [])], by simp only [h1], h2, .inr ⟨⟨_, rfl⟩, i1, i2, i3⟩⟩
        rw [← h3]
        simp only [rawN, szI_app]
        simp only [szI, List.map_cons, List.map_nil, List.sum_cons, List.sum_nil, ByteArray.size_append]
        rw [show ByteArray.size ⟨#[10]⟩ = 1 from rfl]
        omega
      · split at h
        · cases h
          refine ⟨?_, X, [], by simp [beginS, h1], h2, .inl rfl⟩
          rw [← h3]
          simp only [rawN, szB_app, beginS]
          simp only [szB, List.map_cons, List.map_nil, List.sum_cons, List.sum_nil]
          omega
        · cases h
          refine ⟨?_, X, [], by simp [h1], h2, .inl rfl⟩
          rw [← h3]
          simp only [rawN, szB_app]
          simp only [szB, List.map_cons, List.map_nil, List.sum_cons, List.sum_nil]
          omega
def szL (L : List Lne) : Nat := (L.map (fun l => l.2.2.1.size + 1)).sum
theorem run_took : ∀ (L : List Lne) (p q : PSt), runS p L = .inr q → (∀ l ∈ L, l.2.2.2 = true) ∧ rawN q = rawN p + szL L ∧ ∃ X, q.its = p.its ++ X
  | [], p, q, h => by cases h; exact ⟨by simp, by simp [szL], [], by simp⟩
  | l :: r, p, q, h => by
    simp only [runS] at h
    cases e : takeS p l with
    | inl x => rw [e] at h; cases h
    | inr p1 =>
      rw [e] at h
      obtain ⟨h1, h2, X, Y, h3, _⟩ := take_took e
      obtain ⟨i1, i2, Z, i3⟩ := run_took r p1 q h
      refine ⟨fun x hx => ?_, ?_, X ++ Y ++ Z, by rw [i3, h3]; simp⟩
      · rcases List.mem_cons.1 hx with rfl | hx
        · exact h1
        · exact i1 x hx
      · rw [i2, h2]
        simp only [szL, List.map_cons, List.sum_cons]
        omega
theorem run_app : ∀ (L M : List Lne) (p q : PSt), runS p L = .inr q → runS p (L ++ M) = runS q M
  | [], M, p, q, h => by cases h; rfl
  | l :: r, M, p, q, h => by
    simp only [runS, List.cons_append] at h ⊢
    cases e : takeS p l with
    | inl x => rw [e] at h; cases h
    | inr p1 =>
      rw [e] at h
      exact run_app r M p1 q h
/-- Where a blank item was put, the lines part. -/
theorem run_blank : ∀ (L : List Lne) (p q : PSt), runS p L = .inr q → ∀ (i : Nat) (hi : i < q.its.length), p.its.length ≤ i → (q.its[i]).1 = 1 → ∃ L1 L2 q1, L = L1 ++ L2 ∧ runS p L1 = .inr q1 ∧ Idle q1 ∧ q1.its = q.its.take (i + 1)
  | [], p, q, h, i, hi, hp, _ => by cases h; omega
  | l :: r, p, q, h, i, hi, hp, hb => by
    simp only [runS] at h
    cases e : takeS p l with
    | inl x => rw [e] at h; cases h
    | inr p1 =>
      rw [e] at h
      rcases Nat.lt_or_ge i p1.its.length with hlt | hge
      · obtain ⟨_, _, Z, i3⟩ := run_took r p1 q h
        obtain ⟨_, _, X, Y, h3, h4, h5⟩ := take_took e
        have hq : q.its[i] = p1.its[i] := by
          simp only [i3]
          exact List.getElem_append_left hlt
        rw [hq] at hb
        have hlen : p1.its.length = p.its.length + X.length + Y.length := by rw [h3]; simp [Nat.add_assoc]
        rcases h5 with h5 | ⟨⟨b, h5⟩, h6⟩
        · subst h5
          exfalso
          have : p1.its[i] ∈ X := by
            simp only [h3, List.append_nil]
            rw [List.getElem_append_right hp]
            exact List.getElem_mem _
          exact h4 _ this hb
        · subst h5
          rw [List.length_singleton] at hlen
          rcases Nat.lt_or_ge i (p.its.length + X.length) with hx | hx
          · exfalso
            have : p1.its[i] ∈ X := by
              simp only [h3]
              rw [List.getElem_append_left (by rw [List.length_append]; exact hx), List.getElem_append_right hp]
              exact List.getElem_mem _
            exact h4 _ this hb
          · have hi1 : i + 1 = p1.its.length := by omega
            refine ⟨[l], r, p1, rfl, by simp only [runS, e], h6, ?_⟩
            rw [i3, hi1, List.take_left' rfl]
      · obtain ⟨L1, L2, q1, e1, e2, e3, e4⟩ := run_blank r p1 q h i hi hge hb
        exact ⟨l :: L1, L2, q1, by rw [e1]; rfl, by simp only [runS, e]; exact e2, e3, e4⟩
theorem glue_app (a b : List (ByteArray × Bool)) : glue (a ++ b) = glue a ++ glue b := by
  induction a with
  | nil => rfl
  | cons x r ih => simp [glue, ih]
theorem glue_len : ∀ (L : List Lne), (∀ l ∈ L, l.2.2.2 = true) → (glue (L.map (·.2.2))).length = szL L
  | [], _ => rfl
  | l :: r, h => by
    have := glue_len r (fun x hx => h x (List.mem_cons_of_mem _ hx))
    rw [List.map_cons]
    simp only [glue, h l List.mem_cons_self, if_true, List.length_append, this, szL, List.map_cons, List.sum_cons]
    rw [size_list]
    simp [ls]
    omega
theorem run_B : ∀ (L : List Lne) (p q : PSt) (B : Nat), PB p B → runS p L = .inr q → ∃ B', PB q B'
  | [], p, q, B, hB, h => by cases h; exact ⟨B, hB⟩
  | l :: r, p, q, B, hB, h => by
    simp only [runS] at h
    cases e : takeS p l with
    | inl x => rw [e] at h; cases h
    | inr p1 =>
      rw [e] at h
      exact run_B r p1 q _ (takeS_B hB e) h
theorem pst0_B : PB pst0 0 := ⟨Nat.le_refl _, Nat.le_refl _, Nat.le_refl _, Nat.le_refl _, Nat.le_refl _, Nat.le_refl _, Int.le_refl _, Int.le_refl _⟩
theorem rel_self {p : PSt} (I : List Itm) (h : Idle p) (hI : p.its = I) (h0 : 0 ≤ p.recs) (h4 : p.recs ≤ 400) : Rel I p.recs p pst0 :=
  ⟨h.1, (fun e => by cases e), by rw [hI]; simp [pst0], h.2.1, h.2.2, by simp [pst0], h0, h4, fun e => absurd h.2.2 e, fun e => absurd h.1 e⟩
theorem rel_0 : Rel [] 0 pst0 pst0 := ⟨rfl, id, rfl, rfl, rfl, rfl, by decide, by decide, fun e => absurd rfl e, fun e => absurd rfl e⟩
theorem parse_of {s : ByteArray} {L : List Lne} {q q2 : PSt} (hL : (linesT s).map (·.2.2) = L.map (·.2.2)) (hr : runS pst0 L = .inr q) (he : endS q = .inr q2) : parseS s = .inr q2.its := by
  obtain ⟨q', h1, h2⟩ := run_rel L (linesT s) pst0 pst0 q hL.symm rel_0 hr
  obtain ⟨q3, h3, h4⟩ := end_rel h2 he
  unfold parseS
  rw [h1]
  simp only [h3]
  rw [h4.its]
  rfl
theorem lines_text (s : ByteArray) : (linesT s).map (·.2.2) = linesB s.size (ls s) := texts_linesR _ _ _ _
theorem lines_of {L : List Lne} (h : ∀ l ∈ L, l.2.2.2 = true ∧ (10 : UInt8) ∉ ls l.2.2.1) : (linesT (bytes (glue (L.map (·.2.2))))).map (·.2.2) = L.map (·.2.2) := by
  rw [lines_text, show ls (bytes (glue (L.map (·.2.2)))) = glue (L.map (·.2.2)) from bytes_list _]
  refine lines_glue _ _ (fun x hx => ?_) (by rw [bytes_size]; exact Nat.le_refl _)
  obtain ⟨l, hl, rfl⟩ := List.mem_map.1 hx
  exact h l hl
theorem parse_cuts {s : ByteArray} {l : List Itm} (hp : parseS s = .inr l) {i : Nat} (hi : i < l.length) (hb : (l[i]).1 = 1) : szI (l.take (i + 1)) ≤ s.size ∧ parseS (bytes ((ls s).take (szI (l.take (i + 1))))) = .inr (l.take (i + 1)) ∧ parseS (bytes ((ls s).drop (szI (l.take (i + 1))))) = .inr (l.drop (i + 1)) := by
  unfold parseS at hp
  cases e : runS pst0 (linesT s) with
  | inl x => rw [e] at hp; cases hp
  | inr p =>
    rw [e] at hp
    simp only at hp
    cases e2 : endS p with
    | inl x => rw [e2] at hp; cases hp
    | inr q =>
      rw [e2] at hp
      cases hp
      obtain ⟨⟨X, hX, hX1⟩, hraw, hidle⟩ := end_took e2
      have hip : i < p.its.length := by
        rcases Nat.lt_or_ge i p.its.length with h | h
        · exact h
        · exfalso
          have : q.its[i] ∈ X := by
            simp only [hX]
            rw [List.getElem_append_right h]
            exact List.getElem_mem _
          exact hX1 _ this hb
      have hbp : (p.its[i]).1 = 1 := by
        have : q.its[i] = p.its[i] := by simp only [hX]; exact List.getElem_append_left hip
        rw [← this]; exact hb
      obtain ⟨L1, L2, q1, hL, hr1, hid, hits⟩ := run_blank _ _ _ e i hip (Nat.zero_le _) hbp
      have htake : q.its.take (i + 1) = p.its.take (i + 1) := by rw [hX, List.take_append_of_le_length (by omega)]
      obtain ⟨hall, _, _⟩ := run_took _ _ _ e
      obtain ⟨_, hraw1, _⟩ := run_took _ _ _ hr1
      have hsz : szI (q.its.take (i + 1)) = szL L1 := by
        rw [htake, ← hits]
        have : rawN q1 = szI q1.its := by unfold rawN; rw [hid.2.1]; rfl
        rw [← this, hraw1]
        simp [rawN, pst0, szI, szB]
      have hno : ∀ l ∈ linesT s, l.2.2.2 = true ∧ (10 : UInt8) ∉ ls l.2.2.1 := fun l hl =>
        ⟨hall l hl, linesB_no s.size (ls s) l.2.2 (by rw [← lines_text]; exact List.mem_map_of_mem hl)⟩
      have hls : ls s = glue (L1.map (·.2.2)) ++ glue (L2.map (·.2.2)) := by
        rw [← glue_app, ← List.map_append, ← hL, lines_text, glue_lines _ _ (by rw [show (ls s).length = s.size from (size_list s).symm]; exact Nat.le_refl _)]
      have hg1 : (glue (L1.map (·.2.2))).length = szL L1 := glue_len _ (fun l hl => (hno l (by rw [hL]; exact List.mem_append_left _ hl)).1)
      have hn1 : ∀ l ∈ L1, l.2.2.2 = true ∧ (10 : UInt8) ∉ ls l.2.2.1 := fun l hl => hno l (by rw [hL]; exact List.mem_append_left _ hl)
      have hn2 : ∀ l ∈ L2, l.2.2.2 = true ∧ (10 : UInt8) ∉ ls l.2.2.1 := fun l hl => hno l (by rw [hL]; exact List.mem_append_right _ hl)
      have hsize : s.size = (ls s).length := size_list s
      rw [hsz]
      refine ⟨by rw [hsize, hls, List.length_append]; omega, ?_, ?_⟩
      · rw [hls, ← hg1, List.take_left' rfl]
        have he1 : endS q1 = .inr (closeS q1) := by unfold endS flushS; rw [if_pos hid.1]
        rw [parse_of (lines_of hn1) hr1 he1]
        unfold closeS
        rw [if_pos hid.2.1]
        simp only
        rw [hits, htake]
      · rw [hls, ← hg1, List.drop_left' rfl]
        rw [hL, run_app _ _ _ _ hr1] at e
        have hrel : Rel (q.its.take (i + 1)) q1.recs q1 pst0 := rel_self _ hid (by rw [hits, htake]) ?_ ?_
        · obtain ⟨q2, h1, h2⟩ := run_rel L2 L2 q1 pst0 p rfl hrel e
          obtain ⟨q3, h3, h4⟩ := end_rel h2 e2
          rw [parse_of (lines_of hn2) h1 h3]
          have := h4.its
          congr 1
          have h5 : q.its.drop (i + 1) = (q.its.take (i + 1) ++ q3.its).drop (i + 1) := by rw [← this]
          rw [h5, List.drop_left' (by rw [List.length_take]; omega)]
        · exact (run_B L1 pst0 q1 0 pst0_B hr1).choose_spec.rec0
        · exact (run_rel L1 L1 pst0 pst0 q1 rfl rel_0 hr1).choose_spec.2.r4
end Q
end Ab
end Go.Proofs.YtdedkoiodehmnaaDoor
namespace Go.Proofs.YtdedkoiodehmnaaDoor
open Go.RowKit
namespace Ab
set_option maxRecDepth 100000
namespace Q
def more (l : Lne) : Bool := decide (kindL (ls l.2.2.1) = 3)
/-- The lines of the field that begins with the first of these. -/
def saidL (l : Lne) (r : List Lne) : List ByteArray := l.2.2.1 :: (r.takeWhile more).map (·.2.2.1)
/-- What is wrong at a line. -/
def wrongL (bh : Bool) (l : Lne) (r : List Lne) (fields recs : Int) : Int :=
  if kindL (ls l.2.2.1) = 5 ∨ (kindL (ls l.2.2.1) = 3 ∧ bh = false) ∨ l.2.2.2 = false then 2
  else if kindL (ls l.2.2.1) ≠ 4 then 0
  else if (unfoldL ((saidL l r).map ls)).2 ≠ 0 then (unfoldL ((saidL l r).map ls)).2
  else if 40 ≤ fields ∨ (fields = 0 ∧ 400 ≤ recs) then 11
  else 0
structure RSt where
  kind : Int
  raw : ByteArray
  flds : List Fld
  out : List Itm
  recs : Int
def fldOf (L : List ByteArray) : Fld := (bytes (unfoldL (L.map ls)).1.1, bytes (unfoldL (L.map ls)).1.2)
def stepR (t : RSt) (l : Lne) (r : List Lne) : RSt :=
  if kindL (ls l.2.2.1) = 1 then ⟨2, ByteArray.empty, [], (if t.raw = ByteArray.empty then t.out else t.out ++ [(t.kind, t.raw, t.flds)]) ++ [(1, l.2.2.1 ++ ⟨#[10]⟩, [])], t.recs⟩
  else if kindL (ls l.2.2.1) = 4 then ⟨3, t.raw ++ l.2.2.1 ++ ⟨#[10]⟩, t.flds ++ [fldOf (saidL l r)], t.out, if t.kind = 2 then t.recs + 1 else t.recs⟩
  else { t with raw := t.raw ++ l.2.2.1 ++ ⟨#[10]⟩ }
/-- A text's items, where it is wrong. -/
def runR (bh : Bool) (t : RSt) : List Lne → (Int × Int) ⊕ List Itm
  | [] => .inr (if t.raw = ByteArray.empty then t.out else t.out ++ [(t.kind, t.raw, t.flds)])
  | l :: r => if wrongL bh l r t.flds.length t.recs ≠ 0 then .inl (l.1, wrongL bh l r t.flds.length t.recs)
    else runR (decide (kindL (ls l.2.2.1) = 4) || decide (kindL (ls l.2.2.1) = 3)) (stepR t l r) r
def rst0 : RSt := ⟨2, ByteArray.empty, [], [], 0⟩
/-- What the parser comes to. -/
def outP (p : PSt) (L : List Lne) : (Int × Int) ⊕ List Itm := match runS p L with
  | .inl e => .inl e
  | .inr q => match endS q with
    | .inl e => .inl e
    | .inr q => .inr q.its
theorem outP_cons (p : PSt) (l : Lne) (r : List Lne) : outP p (l :: r) = match takeS p l with
    | .inl e => .inl e
    | .inr q => outP q r := by
  unfold outP
  simp only [runS]
  cases takeS p l <;> rfl
theorem parse_out (s : ByteArray) : parseS s = outP pst0 (linesT s) := rfl
/-- Only the last line may be without an end. -/
def Ends : List Lne → Prop
  | [] => True
  | l :: r => (l.2.2.2 = false → r = []) ∧ Ends r
theorem ends_linesR : ∀ (f : Nat) (tot no : Int) (s : List UInt8), Ends (linesR f tot no s)
  | 0, _, _, _ => trivial
  | f + 1, _, _, [] => trivial
  | f + 1, tot, no, a :: r => by
    rw [linesR_cons]
    refine ⟨fun h => ?_, ends_linesR f _ _ _⟩
    rcases cut_cases (a := a) (s := r) (c := 10) with ⟨x, b, e, _, hc⟩ | ⟨_, hc⟩
    · rw [hc] at h; cases h
    · rw [hc]; cases f <;> rfl
theorem not_more {l : Lne} (h : kindL (ls l.2.2.1) ≠ 3) (r : List Lne) : (l :: r).takeWhile more = [] := by
  rw [List.takeWhile_cons_of_neg (by unfold more; simp [h])]
theorem is_more {l : Lne} (h : kindL (ls l.2.2.1) = 3) (r : List Lne) : (l :: r).takeWhile more = l :: r.takeWhile more := by
  rw [List.takeWhile_cons_of_pos (by unfold more; simp [h])]
/-- A field that is wrong is told of once it ends. -/
theorem pend_err : ∀ (r : List Lne) (p : PSt) (at_ n : Int), Ends r → p.lns ≠ [] → (∀ q : PSt, q.lns = p.lns ++ (r.takeWhile more).map (·.2.2.1) → q.full = p.full → q.frm = p.frm → flushS q = .inl (at_, n)) → outP p r = .inl (at_, n)
  | [], p, at_, n, _, h0, hf => by
    have := hf p (by simp) rfl rfl
    unfold outP
    simp only [runS, endS, this]
  | l :: r, p, at_, n, hE, h0, hf => by
    rw [outP_cons]
    by_cases hm : kindL (ls l.2.2.1) = 3
    · rw [is_more hm] at hf
      by_cases he : l.2.2.2 = true
      · have ht : takeS p l = .inr { p with lns := p.lns ++ [l.2.2.1], blk := p.blk ++ [l.2.2.1] } := by
          unfold takeS
          simp only [hm]
          simp [aheadS, lineS, h0, he]
        rw [ht]
        exact pend_err r _ at_ n hE.2 (by simp) (fun q h1 h2 h3 => hf q (by rw [h1]; simp) h2 h3)
      · obtain rfl := hE.1 (by simpa using he)
        have hfp := hf { p with lns := p.lns ++ [l.2.2.1] } (by simp) rfl rfl
        have ht : takeS p l = .inl (at_, n) := by
          unfold takeS aheadS
          rw [if_pos hm, if_neg h0, if_neg he, hfp]
        rw [ht]
    · rw [not_more hm] at hf
      have hfp := hf p (by simp) rfl rfl
      have ht : takeS p l = .inl (at_, n) := by
        unfold takeS aheadS
        rw [if_neg hm]
        unfold endS
        rw [hfp]
        simp
      rw [ht]
def rawC (b : List ByteArray) : ByteArray := bytes (endL (b.map ls))
theorem rawC_snoc (b : List ByteArray) (x : ByteArray) : rawC (b ++ [x]) = rawC b ++ x ++ ⟨#[10]⟩ := by
  unfold rawC endL
  rw [List.map_append, List.flatMap_append, bytes_app, ByteArray.append_assoc]
  congr 1
  simp only [List.map_cons, List.map_nil, List.flatMap_cons, List.flatMap_nil, List.append_nil]
  rw [bytes_app, bytes_ls]
  rfl
theorem join_endL (c : UInt8) : ∀ (l : List (List UInt8)), l ≠ [] → Lib.join l [c] ++ [c] = l.flatMap fun s => s ++ [c]
  | [], h => absurd rfl h
  | [a], _ => by rw [Lib.join_one]; simp
  | a :: b :: r, _ => by
    have := join_endL c (b :: r) (by simp)
    rw [join_two, List.flatMap_cons, ← this]
    simp
theorem rawB_C {b : List ByteArray} (h : b ≠ []) : rawB b = rawC b := by
  unfold rawB rawC endL
  rw [show b.map ls = b.map (·.data.toList) from rfl, ← join_endL 10 (b.map (·.data.toList)) (by simpa using h), bytes_app]
  rfl
theorem rawC_nil {b : List ByteArray} : rawC b = ByteArray.empty ↔ b = [] := by
  refine ⟨fun h => ?_, fun h => by rw [h]; rfl⟩
  cases b with
  | nil => rfl
  | cons x r =>
    have := congrArg ByteArray.size h
    unfold rawC endL at this
    rw [bytes_size] at this
    simp at this
/-- What the document's answer and the parser have in common ahead of these lines. -/
structure Alike (p : PSt) (t : RSt) (bh : Bool) (L : List Lne) : Prop where
  its : t.out = p.its
  raw : t.raw = rawC p.blk
  bh : bh = true ↔ p.lns ≠ []
  flds : t.flds = p.flds ++ (if p.lns = [] then [] else [fldOf (p.lns ++ (L.takeWhile more).map (·.2.2.1))])
  kind : t.kind = if t.flds = [] then 2 else 3
  recs : t.recs = p.recs + (if t.flds = [] then 0 else 1)
  pend : p.lns ≠ [] → p.full = false ∧ (unfoldL ((p.lns ++ (L.takeWhile more).map (·.2.2.1)).map ls)).2 = 0
  blk0 : p.blk = [] → t.flds = []
  r4 : p.recs ≤ 400
  rf : t.flds ≠ [] → p.recs < 400
  f40 : t.flds.length ≤ 40
section
variable {p : PSt} {t : RSt} {bh : Bool} {L : List Lne}
theorem alike_flush (h : Alike p t bh L) (hL : L.takeWhile more = []) : ∃ q, flushS p = .inr q ∧ q.lns = [] ∧ q.flds = t.flds ∧ q.its = p.its ∧ q.blk = p.blk ∧ q.recs = p.recs := by
  by_cases h0 : p.lns = []
  · refine ⟨p, by unfold flushS; rw [if_pos h0], h0, ?_, rfl, rfl, rfl⟩
    rw [h.flds, if_pos h0, List.append_nil]
  · obtain ⟨h1, h2⟩ := h.pend h0
    rw [hL, List.map_nil, List.append_nil] at h2
    refine ⟨{ p with flds := p.flds ++ [(bytes (unfoldL (p.lns.map ls)).1.1, bytes (unfoldL (p.lns.map ls)).1.2)], lns := [] }, ?_, rfl, ?_, rfl, rfl, rfl⟩
    · unfold flushS
      rw [if_neg h0, if_neg (by rw [h2]; simp), if_neg (by rw [h1]; simp)]
    · rw [h.flds, if_neg h0, hL]
      simp [fldOf]
theorem alike_end (h : Alike p t bh L) (hL : L.takeWhile more = []) : ∃ q, endS p = .inr q ∧ q.lns = [] ∧ q.flds = [] ∧ q.blk = [] ∧ q.its = (if t.raw = ByteArray.empty then t.out else t.out ++ [(t.kind, t.raw, t.flds)]) ∧ q.recs = t.recs := by
  obtain ⟨q, f1, f2, f3, f4, f5, f6⟩ := alike_flush h hL
  refine ⟨closeS q, by unfold endS; rw [f1], ?_⟩
  unfold closeS
  by_cases hb : p.blk = []
  · have hraw : t.raw = ByteArray.empty := by rw [h.raw]; exact rawC_nil.2 hb
    rw [if_pos (f5.trans hb), if_pos hraw]
    refine ⟨f2, rfl, rfl, by rw [h.its]; exact f4, ?_⟩
    rw [h.recs, if_pos (h.blk0 hb), Int.add_zero]
    exact f6
  · have hraw : ¬ t.raw = ByteArray.empty := fun e => hb (rawC_nil.1 (by rw [← h.raw]; exact e))
    rw [if_neg (by rw [f5]; exact hb), if_neg hraw]
    refine ⟨f2, rfl, rfl, ?_, ?_⟩
    · simp only [h.its, h.kind, h.raw, rawB_C hb, f3, f4, f5]
    · simp only [f3, f6]
      rw [h.recs]
      by_cases hf : t.flds = []
      · simp [hf]
      · simp [hf]
end
theorem run_eq : ∀ (L : List Lne) (p : PSt) (t : RSt) (bh : Bool), Ends L → Alike p t bh L → outP p L = runR bh t L
  | [], p, t, bh, _, h => by
    obtain ⟨q, e, _, _, _, h1, _⟩ := alike_end h rfl
    unfold outP
    simp only [runS, e, h1]
    rfl
  | l :: r, p, t, bh, hE, h => by
    rw [outP_cons]
    unfold runR
    by_cases h3 : kindL (ls l.2.2.1) = 3
    · by_cases hb : p.lns = []
      · have hbh : bh = false := by
          cases bh
          · rfl
          · exact absurd hb (h.bh.1 rfl)
        have hw : wrongL bh l r t.flds.length t.recs = 2 := by
          unfold wrongL
          rw [if_pos (.inr (.inl ⟨h3, hbh⟩))]
        have ht : takeS p l = .inl (l.1, 2) := by
          unfold takeS aheadS
          rw [if_pos h3, if_pos hb]
        rw [hw, ht]
        rfl
      · have hbh : bh = true := h.bh.2 hb
        obtain ⟨h5, h6⟩ := h.pend hb
        rw [is_more h3] at h6
        by_cases he : l.2.2.2 = true
        · have hw : wrongL bh l r t.flds.length t.recs = 0 := by
            unfold wrongL
            rw [if_neg (by simp [h3, hbh, he]), if_pos (by rw [h3]; decide)]
          have ht : takeS p l = .inr { p with lns := p.lns ++ [l.2.2.1], blk := p.blk ++ [l.2.2.1] } := by
            unfold takeS
            simp only [h3]
            simp [aheadS, lineS, hb, he]
          rw [hw, ht, if_neg (by decide)]
          refine run_eq r _ _ _ hE.2 ?_
          have hfl := h.flds
          rw [if_neg hb, is_more h3] at hfl
          have hne : t.flds ≠ [] := by rw [hfl]; simp
          unfold stepR
          rw [if_neg (by rw [h3]; decide), if_neg (by rw [h3]; decide)]
          exact ⟨h.its, by simp only [h.raw, rawC_snoc], by simp [h3], by simp only; rw [hfl, if_neg (by simp)]; simp, h.kind, h.recs, fun _ => ⟨h5, by simpa using h6⟩, fun e => by simp at e, h.r4, h.rf, h.f40⟩
        · have he' : l.2.2.2 = false := by simpa using he
          obtain rfl := hE.1 he'
          have hw : wrongL bh l [] t.flds.length t.recs = 2 := by
            unfold wrongL
            rw [if_pos (.inr (.inr he'))]
          have ht : takeS p l = .inl (l.1, 2) := by
            have : aheadS p l 3 = .inr { p with flds := p.flds ++ [(bytes (unfoldL ((p.lns ++ [l.2.2.1]).map ls)).1.1, bytes (unfoldL ((p.lns ++ [l.2.2.1]).map ls)).1.2)], lns := [] } := by
              unfold aheadS
              rw [if_pos rfl, if_neg hb, if_neg he]
              unfold flushS
              simp only [List.takeWhile_nil, List.map_cons, List.map_nil] at h6
              rw [if_neg (by simp), if_neg (by simp only [ne_eq, h6]; simp), if_neg (by simp [h5])]
            unfold takeS
            rw [h3, this]
            simp [lineS, he']
          rw [hw, ht]
          rfl
    · have hno := not_more h3 r
      by_cases h1 : kindL (ls l.2.2.1) = 1
      · obtain ⟨q, e, e1, e2, e3, e4, e5⟩ := alike_end h hno
        by_cases he : l.2.2.2 = true
        · have hw : wrongL bh l r t.flds.length t.recs = 0 := by
            unfold wrongL
            rw [if_neg (by simp [h1, he]), if_pos (by rw [h1]; decide)]
          have ht : takeS p l = .inr { q with its := q.its ++ [(1, l.2.2.1 ++ ⟨#[10]⟩, [])] } := by
            unfold takeS aheadS
            rw [if_neg h3, if_pos h1, e]
            simp [lineS, h1, he]
          rw [hw, ht, if_neg (by decide)]
          refine run_eq r _ _ _ hE.2 ?_
          unfold stepR
          rw [if_pos h1]
          refine ⟨by simp only [e4], by rw [e3]; rfl, by simp [h1, e1], by simp [e1, e2], rfl, by simp [e5], fun h => absurd e1 h, fun _ => rfl, ?_, fun e => absurd rfl e, by simp⟩
          simp only [e5, h.recs]
          split
          · have := h.r4; omega
          · rename_i hf; have := h.rf hf; omega
        · have he' : l.2.2.2 = false := by simpa using he
          have hw : wrongL bh l r t.flds.length t.recs = 2 := by
            unfold wrongL
            rw [if_pos (.inr (.inr he'))]
          have ht : takeS p l = .inl (l.1, 2) := by
            unfold takeS aheadS
            rw [if_neg h3, if_pos h1, e]
            simp [lineS, he']
          rw [hw, ht]
          rfl
      · obtain ⟨q, f1, f2, f3, f4, f5, f6⟩ := alike_flush h hno
        have hah : aheadS p l (kindL (ls l.2.2.1)) = .inr q := by
          unfold aheadS
          rw [if_neg h3, if_neg h1, f1]
        by_cases hbad : kindL (ls l.2.2.1) = 5 ∨ l.2.2.2 = false
        · have hw : wrongL bh l r t.flds.length t.recs = 2 := by
            unfold wrongL
            rw [if_pos (hbad.elim .inl (fun h => .inr (.inr h)))]
          have ht : takeS p l = .inl (l.1, 2) := by
            unfold takeS lineS
            rw [hah]
            simp only
            rw [if_pos hbad]
          rw [hw, ht]
          rfl
        · have hb5 : kindL (ls l.2.2.1) ≠ 5 := fun e => hbad (.inl e)
          have he : l.2.2.2 = true := by
            cases e : l.2.2.2
            · exact absurd (.inr e) hbad
            · rfl
          by_cases h4 : kindL (ls l.2.2.1) = 4
          · have ht : takeS p l = .inr { beginS q l with blk := q.blk ++ [l.2.2.1] } := by
              unfold takeS lineS
              rw [hah]
              simp only
              rw [if_neg hbad, if_neg h1, if_pos h4]
            have hfull : ((decide ((q.flds.length : Int) = 40) || (decide ((q.flds.length : Int) = 0) && decide (q.recs = 400))) = true) ↔ (40 ≤ (t.flds.length : Int) ∨ ((t.flds.length : Int) = 0 ∧ 400 ≤ t.recs)) := by
              have g1 := h.f40
              have g2 := h.r4
              have g3 := h.recs
              rw [f3, f6]
              simp only [Bool.or_eq_true, Bool.and_eq_true, decide_eq_true_eq]
              constructor
              · rintro (g | ⟨g, g'⟩)
                · exact .inl (by omega)
                · refine .inr ⟨g, ?_⟩
                  rw [if_pos (List.eq_nil_of_length_eq_zero (by omega))] at g3
                  omega
              · rintro (g | ⟨g, g'⟩)
                · exact .inl (by omega)
                · refine .inr ⟨g, ?_⟩
                  rw [if_pos (List.eq_nil_of_length_eq_zero (by omega))] at g3
                  omega
            rw [ht]
            by_cases hu : (unfoldL ((saidL l r).map ls)).2 = 0
            · by_cases hfu : 40 ≤ (t.flds.length : Int) ∨ ((t.flds.length : Int) = 0 ∧ 400 ≤ t.recs)
              · have hw : wrongL bh l r t.flds.length t.recs = 11 := by
                  unfold wrongL
                  rw [if_neg (by simp [h4, he]), if_neg (by simp [h4]), if_neg (by simp [hu]), if_pos hfu]
                rw [hw, if_pos (by decide)]
                refine pend_err r _ l.1 11 hE.2 (by simp [beginS]) (fun q' g1 g2 g3 => ?_)
                have g1' : q'.lns = saidL l r := g1
                have g2' : q'.full = true := g2.trans (hfull.2 hfu)
                have g3' : q'.frm = l.1 := g3
                unfold flushS
                rw [g1', if_neg (by unfold saidL; simp), if_neg (by simp [hu]), if_pos g2', g3']
              · have hw : wrongL bh l r t.flds.length t.recs = 0 := by
                  unfold wrongL
                  rw [if_neg (by simp [h4, he]), if_neg (by simp [h4]), if_neg (by simp [hu]), if_neg hfu]
                rw [hw, if_neg (by decide)]
                refine run_eq r _ _ _ hE.2 ?_
                have hff : (decide ((q.flds.length : Int) = 40) || (decide ((q.flds.length : Int) = 0) && decide (q.recs = 400))) = false := by
                  cases e : (decide ((q.flds.length : Int) = 40) || (decide ((q.flds.length : Int) = 0) && decide (q.recs = 400)))
                  · rfl
                  · exact absurd (hfull.1 e) hfu
                unfold stepR
                rw [if_neg h1, if_pos h4]
                refine ⟨by simp only [beginS, h.its, f4], by simp only [h.raw, rawC_snoc, f5], by simp [h4, beginS], ?_, by simp, ?_, fun _ => ⟨hff, hu⟩, fun e => by simp at e, ?_, fun _ => ?_, ?_⟩
                · simp only [beginS, f3]
                  rw [if_neg (by simp)]
                  rfl
                · simp only [beginS, f6]
                  have g3 := h.recs
                  have g4 := h.kind
                  by_cases hf : t.flds = []
                  · rw [if_pos hf] at g3 g4
                    rw [if_pos g4, if_neg (by simp), g3]
                    omega
                  · rw [if_neg hf] at g3 g4
                    rw [if_neg (by rw [g4]; decide), if_neg (by simp), g3]
                · simp only [beginS, f6]; exact h.r4
                · simp only [beginS, f6]
                  by_cases hf : t.flds = []
                  · have g3 := h.recs
                    rw [if_pos hf] at g3
                    have : ¬ 400 ≤ t.recs := fun e => hfu (.inr ⟨by rw [hf]; rfl, e⟩)
                    omega
                  · exact h.rf hf
                · rw [List.length_append, List.length_singleton]
                  have : ¬ 40 ≤ (t.flds.length : Int) := fun e => hfu (.inl e)
                  omega
            · have hw : wrongL bh l r t.flds.length t.recs = (unfoldL ((saidL l r).map ls)).2 := by
                unfold wrongL
                rw [if_neg (by simp [h4, he]), if_neg (by simp [h4]), if_pos hu]
              rw [hw, if_pos hu]
              refine pend_err r _ l.1 _ hE.2 (by simp [beginS]) (fun q' g1 g2 g3 => ?_)
              have g1' : q'.lns = saidL l r := g1
              have g3' : q'.frm = l.1 := g3
              unfold flushS
              rw [g1', if_neg (by unfold saidL; simp), if_pos hu, g3']
          · have hw : wrongL bh l r t.flds.length t.recs = 0 := by
              unfold wrongL
              rw [if_neg (by simp [h3, hb5, he]), if_pos h4]
            have ht : takeS p l = .inr { q with blk := q.blk ++ [l.2.2.1] } := by
              unfold takeS lineS
              rw [hah]
              simp only
              rw [if_neg hbad, if_neg h1, if_neg h4]
            rw [hw, ht, if_neg (by decide)]
            refine run_eq r _ _ _ hE.2 ?_
            unfold stepR
            rw [if_neg h1, if_neg h4]
            exact ⟨by simp only [h.its, f4], by simp only [h.raw, rawC_snoc, f5], by simp [h3, h4, f2], by simp [f2, f3], h.kind, by simp only [f6]; exact h.recs, fun e => absurd f2 e, fun e => by simp at e, by simp only [f6]; exact h.r4, by simp only [f6]; exact h.rf, h.f40⟩
theorem parse_ref (s : ByteArray) : parseS s = runR false rst0 (linesT s) := by
  rw [parse_out]
  exact run_eq _ _ _ _ (ends_linesR _ _ _ _) ⟨rfl, rfl, by simp [pst0], by simp [rst0, pst0], rfl, rfl, fun e => absurd rfl e, fun _ => rfl, by decide, fun e => absurd rfl e, by simp [rst0]⟩
end Q
end Ab
end Go.Proofs.YtdedkoiodehmnaaDoor
namespace Go.Proofs.YtdedkoiodehmnaaDoor
open Go.RowKit
namespace Ab
set_option maxRecDepth 100000
namespace Q
def mkL (t : ByteArray) : Lne := (0, 0, t, true)
theorem lineB_map2 (k v : ByteArray) : (lineB k v).map ls = linesL k.data.toList v.data.toList := by
  unfold lineB
  rw [List.map_map]
  conv => rhs; rw [← List.map_id (linesL k.data.toList v.data.toList)]
  exact List.map_congr_left fun s _ => bytes_list s
/-- A field's lines: the first one, and those behind it. -/
theorem lineB_cut {f : Fld} (h : checkF f = 0) : ∃ a r, lineB f.1 f.2 = a :: r ∧ kindL (ls a) = 4 ∧ (∀ x ∈ r, kindL (ls x) = 3) ∧ unfoldL ((a :: r).map ls) = ((f.1.data.toList, f.2.data.toList), 0) := by
  obtain ⟨h1, h2, h3⟩ := check_ok h
  rw [size_list] at h2
  have hno := parts_no f.2.data.toList
  have h0 : (10 : UInt8) ∉ (partsL f.2.data.toList).headD [] := by
    cases e : partsL f.2.data.toList with
    | nil => exact absurd e (split_ne f.2.data.toList [10])
    | cons p ps => rw [e] at hno; exact hno p (by simp)
  have hu := unfold_lines h1 h2
  rw [← lineB_map2] at hu
  refine ⟨bytes (firstL f.1.data.toList ((partsL f.2.data.toList).headD [])), ((partsL f.2.data.toList).drop 1).map (fun s => bytes (32 :: stuffL s)), ?_, ?_, ?_, ?_⟩
  · unfold lineB linesL
    rw [List.map_cons, List.map_map]
    rfl
  · rw [show ls (bytes (firstL f.1.data.toList ((partsL f.2.data.toList).headD []))) = _ from bytes_list _]
    exact (first_kind h1 h0).1
  · intro x hx
    obtain ⟨s, hs, rfl⟩ := List.mem_map.1 hx
    rw [show ls (bytes (32 :: stuffL s)) = _ from bytes_list _]
    exact more_kind (hno s (List.mem_of_mem_drop hs))
  · rw [← hu]
    refine congrArg (fun x : List ByteArray => unfoldL (x.map ls)) ?_
    unfold lineB linesL
    rw [List.map_cons, List.map_map]
    rfl
/-- What a parser comes to once its field is ended. -/
def Ready (p : PSt) (F : List Fld) : Prop := ∃ q, flushS p = .inr q ∧ q.lns = [] ∧ q.flds = F ∧ q.its = p.its ∧ q.recs = p.recs ∧ q.blk = p.blk
theorem more_run : ∀ (r : List ByteArray) (p : PSt), (∀ x ∈ r, kindL (ls x) = 3) → p.lns ≠ [] → runS p (r.map mkL) = .inr { p with lns := p.lns ++ r, blk := p.blk ++ r }
  | [], p, _, _ => by simp [runS]
  | x :: r, p, h, h0 => by
    have hk := h x List.mem_cons_self
    have ht : takeS p (mkL x) = .inr { p with lns := p.lns ++ [x], blk := p.blk ++ [x] } := by
      unfold takeS mkL
      simp only [hk]
      simp [aheadS, lineS, h0]
    rw [List.map_cons]
    simp only [runS, ht]
    rw [more_run r _ (fun y hy => h y (List.mem_cons_of_mem _ hy)) (by simp)]
    simp
theorem field_run {f : Fld} (h : checkF f = 0) {p : PSt} {F : List Fld} (hr : Ready p F) (hF : F.length < 40) (hrec : p.recs ≠ 400) : ∃ q, runS p ((lineB f.1 f.2).map mkL) = .inr q ∧ Ready q (F ++ [f]) ∧ q.its = p.its ∧ q.recs = p.recs ∧ q.blk ≠ [] := by
  obtain ⟨a, r, e, hk4, hk3, hu⟩ := lineB_cut h
  obtain ⟨q, f1, f2, f3, f4, f5, f6⟩ := hr
  have hfull : (decide ((q.flds.length : Int) = 40) || (decide ((q.flds.length : Int) = 0) && decide (q.recs = 400))) = false := by
    rw [f3, f5]
    have h1 : ¬ (F.length : Int) = 40 := by omega
    simp [h1, hrec]
  have ht : takeS p (mkL a) = .inr ⟨[a], 0, false, q.its, q.blk ++ [a], q.flds, q.recs⟩ := by
    unfold takeS mkL
    simp only [hk4]
    have : aheadS p (0, 0, a, true) 4 = .inr q := by unfold aheadS; rw [if_neg (by decide), if_neg (by decide)]; exact f1
    rw [this]
    simp only [lineS, beginS, hfull]
    simp
  rw [e, List.map_cons]
  simp only [runS, ht]
  rw [more_run r _ hk3 (by simp)]
  refine ⟨_, rfl, ?_, f4, f5, by simp⟩
  refine ⟨⟨[], 0, false, q.its, q.blk ++ [a] ++ r, q.flds ++ [f], q.recs⟩, ?_, rfl, by simp only [f3], rfl, rfl, rfl⟩
  unfold flushS
  have e2 : ([a] ++ r).map ls = (a :: r).map ls := rfl
  rw [if_neg (by simp)]
  simp only [e2, hu]
  rw [bytes_ls f.1, bytes_ls f.2]
  rfl
theorem fields_run : ∀ (fs : List Fld) (p : PSt) (F : List Fld), (∀ f ∈ fs, checkF f = 0) → Ready p F → F.length + fs.length ≤ 40 → p.recs ≠ 400 → fs ≠ [] → ∃ q, runS p ((fs.flatMap fun f => lineB f.1 f.2).map mkL) = .inr q ∧ Ready q (F ++ fs) ∧ q.its = p.its ∧ q.recs = p.recs ∧ q.blk ≠ []
  | [], _, _, _, _, _, _, h => absurd rfl h
  | f :: r, p, F, h, hr, hF, hrec, _ => by
    rw [List.length_cons] at hF
    obtain ⟨q, e1, e2, e3, e4, e5⟩ := field_run (h f List.mem_cons_self) hr (by omega) hrec
    rw [List.flatMap_cons, List.map_append, run_app _ _ _ _ e1]
    by_cases h0 : r = []
    · subst h0
      exact ⟨q, rfl, e2, e3, e4, e5⟩
    · obtain ⟨q2, i1, i2, i3, i4, i5⟩ := fields_run r q (F ++ [f]) (fun g hg => h g (List.mem_cons_of_mem _ hg)) e2 (by rw [List.length_append, List.length_singleton]; omega) (by rw [e4]; exact hrec) h0
      exact ⟨q2, i1, by rw [List.append_assoc] at i2; exact i2, i3.trans e3, i4.trans e4, i5⟩
theorem kind_note {n : List UInt8} (h : (10 : UInt8) ∉ n) : kindL (35 :: n) = 2 := by
  unfold kindL
  rw [if_neg (by simp [h])]
  rw [if_neg (by simp [blankC])]
  rw [if_pos (by simp [Lib.hasPrefix])]
theorem note_run {p : PSt} {F : List Fld} {n : List UInt8} (h : (10 : UInt8) ∉ n) (hr : Ready p F) : ∃ q, takeS p (mkL (bytes (35 :: n))) = .inr q ∧ q.lns = [] ∧ q.flds = F ∧ q.its = p.its ∧ q.recs = p.recs ∧ q.blk ≠ [] := by
  obtain ⟨q, f1, f2, f3, f4, f5, f6⟩ := hr
  refine ⟨{ q with blk := q.blk ++ [bytes (35 :: n)] }, ?_, f2, f3, f4, f5, by simp⟩
  unfold takeS mkL
  simp only [show ls (bytes (35 :: n)) = 35 :: n from bytes_list _, kind_note h]
  have : aheadS p (0, 0, bytes (35 :: n), true) 2 = .inr q := by unfold aheadS; rw [if_neg (by decide), if_neg (by decide)]; exact f1
  rw [this]
  simp [lineS]
theorem ready_idle {p : PSt} {F : List Fld} (h : p.lns = []) (hF : p.flds = F) : Ready p F := ⟨p, by unfold flushS; rw [if_pos h], h, hF, rfl, rfl, rfl⟩
theorem end_run {p : PSt} {F : List Fld} (hr : Ready p F) (h0 : F ≠ []) (hb : p.blk ≠ []) : ∃ r q, endS p = .inr q ∧ Idle q ∧ q.its = p.its ++ [(3, r, F)] ∧ q.recs = p.recs + 1 := by
  obtain ⟨q, f1, f2, f3, f4, f5, f6⟩ := hr
  refine ⟨rawB q.blk, closeS q, ?_, ?_⟩
  · unfold endS
    rw [f1]
  · unfold closeS
    rw [if_neg (by rw [f6]; exact hb), f3]
    simp only [if_neg h0]
    exact ⟨⟨f2, rfl, rfl⟩, by rw [f4], by rw [f5]⟩
theorem blank_run {p : PSt} {F : List Fld} (hr : Ready p F) (h0 : F ≠ []) (hb : p.blk ≠ []) : ∃ r q, takeS p (mkL ⟨#[]⟩) = .inr q ∧ Idle q ∧ q.its = p.its ++ [(3, r, F), (1, ⟨#[10]⟩, [])] ∧ q.recs = p.recs + 1 := by
  obtain ⟨r, q, e1, e2, e3, e4⟩ := end_run hr h0 hb
  refine ⟨r, { q with its := q.its ++ [(1, (⟨#[]⟩ : ByteArray) ++ ⟨#[10]⟩, [])] }, ?_, e2, by simp only [e3, List.append_assoc]; rfl, e4⟩
  unfold takeS mkL
  simp only [kind_E]
  have : aheadS p (0, 0, ⟨#[]⟩, true) 1 = .inr q := by unfold aheadS; rw [if_neg (by decide), if_pos rfl]; exact e1
  rw [this]
  simp [lineS]
def foldsL (a b : List Fld) (n : List UInt8) : List ByteArray := bytes (35 :: n) :: ((a.flatMap fun f => lineB f.1 f.2) ++ (⟨#[]⟩ :: ((b.flatMap fun f => lineB f.1 f.2) ++ [bytes (35 :: n)])))
theorem folds_run {a b : List Fld} {n : List UInt8} (ha : ∀ f ∈ a, checkF f = 0) (hb : ∀ f ∈ b, checkF f = 0) (ha0 : a ≠ []) (hb0 : b ≠ []) (ha4 : a.length ≤ 40) (hb4 : b.length ≤ 40) (hn : (10 : UInt8) ∉ n) :
    ∃ q q2 r1 r2, runS pst0 ((foldsL a b n).map mkL) = .inr q ∧ endS q = .inr q2 ∧ q2.its = [(3, r1, a), (1, ⟨#[10]⟩, []), (3, r2, b)] := by
  obtain ⟨p1, t1, a1, a2, a3, a4, a5⟩ := note_run (F := []) hn (ready_idle (p := pst0) rfl rfl)
  obtain ⟨p2, t2, b1, b2, b3, b4⟩ := fields_run a p1 [] ha (ready_idle a1 a2) (by simpa using ha4) (by rw [a4]; decide) ha0
  obtain ⟨r1, p3, t3, c1, c2, c3⟩ := blank_run b1 (by simpa using ha0) b4
  obtain ⟨p4, t4, d1, d2, d3, d4⟩ := fields_run b p3 [] hb (ready_idle c1.1 c1.2.2) (by simpa using hb4) (by rw [c3, b3, a4]; decide) hb0
  obtain ⟨p5, t5, g1, g2, g3, g4, g5⟩ := note_run hn d1
  obtain ⟨r2, p6, t6, h1, h2, h3⟩ := end_run (ready_idle g1 g2) (by simpa using hb0) g5
  refine ⟨p5, p6, r1, r2, ?_, t6, ?_⟩
  · unfold foldsL
    rw [List.map_cons]
    simp only [runS, t1]
    rw [List.map_append, run_app _ _ _ _ t2, List.map_cons]
    simp only [runS, t3]
    rw [List.map_append, run_app _ _ _ _ t4]
    simp only [List.map_cons, List.map_nil, runS, t5]
  · rw [h2, g3, d2, c2, b2, a3]
    rfl
theorem foldsL_no {a b : List Fld} {n : List UInt8} (ha : ∀ f ∈ a, checkF f = 0) (hb : ∀ f ∈ b, checkF f = 0) (hn : (10 : UInt8) ∉ n) : ∀ t ∈ foldsL a b n, (10 : UInt8) ∉ ls t := by
  have hl : ∀ (c : List Fld), (∀ f ∈ c, checkF f = 0) → ∀ t ∈ (c.flatMap fun f => lineB f.1 f.2), (10 : UInt8) ∉ ls t := by
    intro c hc t ht
    obtain ⟨f, hf, ht⟩ := List.mem_flatMap.1 ht
    have := lines_no (v := f.2.data.toList) (check_ok (hc f hf)).1 (ls t) (by rw [← lineB_map2]; exact List.mem_map_of_mem ht)
    exact this
  intro t ht
  unfold foldsL at ht
  simp only [List.mem_cons, List.mem_append, List.not_mem_nil, or_false] at ht
  have h1 : (10 : UInt8) ∉ ls (bytes (35 :: n)) := by rw [show ls (bytes (35 :: n)) = 35 :: n from bytes_list _]; simp [hn]
  rcases ht with rfl | ht | rfl | ht | rfl
  · exact h1
  · exact hl a ha t ht
  · decide
  · exact hl b hb t ht
  · exact h1
theorem glue_mk : ∀ (T : List ByteArray), glue ((T.map mkL).map (·.2.2)) = endL (T.map ls)
  | [] => rfl
  | t :: r => by
    rw [List.map_cons, List.map_cons]
    simp only [glue, glue_mk r, mkL, if_true]
    simp [endL]
theorem endL_flat (c : List Fld) : endL ((c.flatMap fun f => lineB f.1 f.2).map ls) = foldL c := by
  induction c with
  | nil => rfl
  | cons f r ih =>
    rw [List.flatMap_cons, List.map_append]
    unfold endL foldL at *
    rw [List.flatMap_append, ih, List.flatMap_cons, lineB_map2]
    rfl
/-- What is parsed of the text. -/
theorem folds_parse {a b : List Fld} {n : List UInt8} (ha : ∀ f ∈ a, checkF f = 0) (hb : ∀ f ∈ b, checkF f = 0) (ha0 : a ≠ []) (hb0 : b ≠ []) (ha4 : a.length ≤ 40) (hb4 : b.length ≤ 40) (hn : (10 : UInt8) ∉ n) :
    ∃ r1 r2, parseS (bytes ((35 :: n) ++ [10] ++ foldL a ++ [10] ++ foldL b ++ [35] ++ n ++ [10])) = .inr [(3, r1, a), (1, ⟨#[10]⟩, []), (3, r2, b)] := by
  obtain ⟨q, q2, r1, r2, h1, h2, h3⟩ := folds_run ha hb ha0 hb0 ha4 hb4 hn
  have hno := foldsL_no ha hb hn
  have hl := lines_of (L := (foldsL a b n).map mkL) (fun l hl => by
    obtain ⟨t, ht, rfl⟩ := List.mem_map.1 hl
    exact ⟨rfl, hno t ht⟩)
  have ht : glue (((foldsL a b n).map mkL).map (·.2.2)) = (35 :: n) ++ [10] ++ foldL a ++ [10] ++ foldL b ++ [35] ++ n ++ [10] := by
    rw [glue_mk]
    unfold foldsL
    rw [List.map_cons, List.map_append, List.map_cons, List.map_append, List.map_cons, List.map_nil]
    have e : ls (bytes (35 :: n)) = 35 :: n := bytes_list _
    have hA := endL_flat a
    have hB := endL_flat b
    unfold endL at hA hB ⊢
    simp only [List.flatMap_cons, List.flatMap_append, List.flatMap_nil, hA, hB, e]
    simp [ls]
  rw [ht] at hl
  refine ⟨r1, r2, ?_⟩
  rw [parse_of hl h1 h2, h3]
end Q
end Ab
end Go.Proofs.YtdedkoiodehmnaaDoor
namespace Go.Proofs.YtdedkoiodehmnaaDoor
open Go.RowKit
namespace Ab
set_option maxRecDepth 100000
namespace Q
theorem at_fault (at_ n : Int) : ACall Tryd.prog 45 [.one (errF at_ n)] (ii .i64 at_) := by
  refine acall_of (rs := [2]) Tryd.func45 rfl rfl rfl teOk rfl ?_
  refine acode_seq ?_
  refine acode_region ?_
  refine acode_seq ?_
  refine acode_seq ?_
  refine acode_region ?_
  refine acode_seq ?_
  refine acode_region ?_
  refine And.intro (fun h => trivial) ?_
  refine And.intro (fun h => ⟨⟨h, trivial⟩, trivial⟩) ?_
  refine And.intro (by exact fun h => h) ?_
  refine acode_cond rfl (fun h14 => ?_) (fun h14 => ?_)
  · try simp only [Bool.and_eq_true] at h14
    try simp only [Int.toNat_natCast, dflt_sl, dflt_st, dflt_str, dflt_int, dflt_bool] at h14
    refine acode_seq ?_
    refine acode_region ?_
    refine acode_ret ?_
    rfl
  · try simp only [Bool.and_eq_false_iff] at h14
    try simp only [Int.toNat_natCast, dflt_sl, dflt_st, dflt_str, dflt_int, dflt_bool] at h14
    simp at h14
theorem at_nil : ACall Tryd.prog 45 [.one (.lit .nilIface)] (ii .i64 (-9)) := by
  refine acall_of (rs := [2]) Tryd.func45 rfl rfl rfl teOk rfl ?_
  refine acode_seq ?_
  refine acode_region ?_
  refine acode_seq ?_
  refine acode_seq ?_
  refine acode_region ?_
  refine acode_seq ?_
  refine acode_region ?_
  refine And.intro (fun h => trivial) ?_
  refine And.intro (fun h => ⟨⟨h, trivial⟩, trivial⟩) ?_
  refine And.intro (by exact fun h => h) ?_
  refine acode_cond rfl (fun h14 => ?_) (fun h14 => ?_)
  · try simp only [Bool.and_eq_true, Bool.not_eq_true'] at h14
    try simp only [Int.toNat_natCast, dflt_sl, dflt_st, dflt_str, dflt_int, dflt_bool] at h14
    simp at h14
  · try simp only [Bool.not_eq_false', Bool.and_eq_false_iff] at h14
    try simp only [Int.toNat_natCast, dflt_sl, dflt_st, dflt_str, dflt_int, dflt_bool] at h14
    refine acode_skip ?_
    refine acode_seq ?_
    refine acode_region ?_
    refine acode_ret ?_
    rfl
theorem is_fault (at_ n : Int) (hn : n ≠ 0) : ACall Tryd.prog 39 [.one (errF at_ n), ii .i64 n] (ib true) := by
  refine acall_of (rs := [4]) Tryd.func39 rfl rfl rfl teOk rfl ?_
  refine acode_seq ?_
  refine acode_region ?_
  refine acode_seq ?_
  refine acode_region ?_
  refine Or.inl ?_
  refine And.intro (rfl) ?_
  refine Exists.intro _ (And.intro (num_fault at_ n hn) ?_)
  refine acode_ret ?_
  exact ib_eq (decide_eq_true rfl)
theorem wr5 (a : Int) : 0 ≤ IntKind.i64.wrap ((IntKind.u64.wrap a).tmod 5) ∧ IntKind.i64.wrap ((IntKind.u64.wrap a).tmod 5) ≤ 4 := by
  have h1 : 0 ≤ IntKind.u64.wrap a := by
    show 0 ≤ a % _
    exact Int.emod_nonneg _ (by decide)
  generalize IntKind.u64.wrap a = b at h1
  have h2 : b.tmod 5 = b % 5 := Int.tmod_eq_emod_of_nonneg h1
  rw [h2]
  have h3 := Int.emod_nonneg b (show (5 : Int) ≠ 0 by decide)
  have h4 := Int.emod_lt_of_pos b (show (0 : Int) < 5 by decide)
  generalize b % 5 = c at h3 h4
  have h5 : IntKind.i64.wrap c = c := by
    rcases (by omega : c = 0 ∨ c = 1 ∨ c = 2 ∨ c = 3 ∨ c = 4) with rfl | rfl | rfl | rfl | rfl <;> decide
  rw [h5]
  omega
theorem one_succ (i : Nat) : bytes (oneL i) ++ ⟨#[65, 58, 10]⟩ = bytes (oneL (i + 1)) := by
  rw [show oneL (i + 1) = oneL i ++ [65, 58, 10] from by simp [oneL, List.replicate_succ'], bytes_app]
  rfl
theorem many_succ (i : Nat) : bytes (manyL i) ++ ⟨#[65, 58, 10, 10]⟩ = bytes (manyL (i + 1)) := by
  rw [show manyL (i + 1) = manyL i ++ [65, 58, 10, 10] from by simp [manyL, List.replicate_succ'], bytes_app]
  rfl
theorem one_size (i : Nat) : (bytes (oneL i)).size = 3 * i := by
  rw [bytes_size]
  simp [oneL, List.length_flatten, Nat.mul_comm]
theorem many_size (i : Nat) : (bytes (manyL i)).size = 4 * i := by
  rw [bytes_size]
  simp [manyL, List.length_flatten, Nat.mul_comm]
theorem one_parse {m : Nat} (h1 : 38 ≤ m) (h2 : m ≤ 42) : (m ≤ 40 ∧ ∃ s, ACall Tryd.prog 48 [is (bytes (oneL m))] (resP (.inr [(3, s, List.replicate m (⟨#[65]⟩, ⟨#[]⟩))]))) ∨ (40 < m ∧ ACall Tryd.prog 48 [is (bytes (oneL m))] (resP (.inl (40, 11)))) := by
  have hp := parse_a (bytes (oneL m)) (by rw [one_size]; omega)
  rcases (by omega : m = 38 ∨ m = 39 ∨ m = 40 ∨ m = 41 ∨ m = 42) with rfl | rfl | rfl | rfl | rfl
  · rw [oneP_38] at hp; exact .inl ⟨by decide, _, hp⟩
  · rw [oneP_39] at hp; exact .inl ⟨by decide, _, hp⟩
  · rw [oneP_40] at hp; exact .inl ⟨by decide, _, hp⟩
  · rw [oneP_41] at hp; exact .inr ⟨by decide, hp⟩
  · rw [oneP_42] at hp; exact .inr ⟨by decide, hp⟩
theorem many_c {k : Nat} (h2 : k ≤ 402) : (k ≤ 400 ∧ ∃ l, l.length = 2 * k ∧ ACall Tryd.prog 48 [is (bytes (manyL k))] (resP (.inr l))) ∨ (400 < k ∧ ACall Tryd.prog 48 [is (bytes (manyL k))] (resP (.inl (800, 11)))) := by
  have hp := parse_a (bytes (manyL k)) (by rw [many_size]; omega)
  obtain ⟨h3, h4⟩ := many_parse k h2
  rcases Nat.lt_or_ge 400 k with h | h
  · rw [h4 h] at hp; exact .inr ⟨h, hp⟩
  · obtain ⟨l, e, hl⟩ := h3 h
    rw [e] at hp
    exact .inl ⟨h, l, hl, hp⟩
theorem StanzaMany_c (a b : Int) : ACall Tryd.prog 9 [ii .i64 a, ii .i64 b] (ib true) := by
  obtain ⟨x, hx⟩ : ∃ x, IntKind.i64.wrap ((IntKind.u64.wrap a).tmod 5) = x := ⟨_, rfl⟩
  obtain ⟨y, hy⟩ : ∃ y, IntKind.i64.wrap ((IntKind.u64.wrap b).tmod 5) = y := ⟨_, rfl⟩
  have hx5 := wr5 a
  have hy5 := wr5 b
  rw [hx] at hx5
  rw [hy] at hy5
  refine acall_of (rs := [4]) Tryd.func9 rfl rfl rfl teOk rfl ?_
  refine acode_seq ?_
  refine acode_region ?_
  refine acode_seq ?_
  refine acode_seq ?_
  refine acode_region ?_
  refine Or.inl ?_
  refine And.intro (rfl) ?_
  refine Exists.intro _ (And.intro (alive_c) ?_)
  refine acode_cond rfl (fun h12 => ?_) (fun h12 => ?_)
  · try simp only [Bool.not_eq_true'] at h12
    try simp only [Int.toNat_natCast, dflt_sl, dflt_st, dflt_str, dflt_int, dflt_bool] at h12
    cases h12
  · try simp only [Bool.not_eq_false'] at h12
    try simp only [Int.toNat_natCast, dflt_sl, dflt_st, dflt_str, dflt_int, dflt_bool] at h12
    refine acode_skip ?_
    refine acode_seq ?_
    refine acode_region ?_
    refine And.intro (by first | omega | assumption | decide | (simp only [Int.toNat_natCast, dflt_sl, dflt_st, dflt_str, dflt_int, dflt_bool]; omega) | (simp <;> omega)) ?_
    refine And.intro (by rw [hx]; omega) ?_
    refine And.intro (by first | omega | assumption | decide | (simp only [Int.toNat_natCast, dflt_sl, dflt_st, dflt_str, dflt_int, dflt_bool]; omega) | (simp <;> omega)) ?_
    refine And.intro (by rw [hy]; omega) ?_
    refine acode_seq ?_
    obtain ⟨m, hm⟩ : ∃ m : Nat, 38 + x = (m : Int) := ⟨(38 + x).toNat, by omega⟩
    obtain ⟨k, hk⟩ : ∃ k : Nat, 398 + y = (k : Int) := ⟨(398 + y).toNat, by omega⟩
    rw [hx, hy, hm, hk]
    refine acode_region ?_
    refine acode_seq ?_
    refine acode_seq ?_
    refine acode_region ?_
    refine acode_block ?_
    refine acode_loopP (fun (i : Nat) => i ≤ m) (fun (i : Nat) => [(0, ii .i64 m), (1, ii .i64 k), (5, is (bytes (oneL i))), (6, is ⟨#[]⟩), (23, ii .i64 m), (24, ii .i64 i)]) (fun (i : Nat) => []) 0 (fun (i : Nat) => m - i) 0 (Nat.zero_le _) (le_of ⟨rfl, rfl, rfl, rfl, rfl, rfl⟩ trivial rfl) ?_
    intro i hI0
    refine acode_seq ?_
    refine acode_region ?_
    refine acode_seq ?_
    refine acode_cond rfl (fun h25 => ?_) (fun h25 => ?_)
    · try simp only [decide_eq_true_eq] at h25
      try simp only [Int.toNat_natCast, dflt_sl, dflt_st, dflt_str, dflt_int, dflt_bool] at h25
      refine acode_skip ?_
      refine acode_seq ?_
      refine acode_block ?_
      refine acode_region ?_
      refine And.intro (by rw [one_size]; show 3 * i + 3 ≤ _; unfold maxLen; omega) ?_
      refine acode_region ?_
      refine And.intro (by first | omega | assumption | decide | (simp only [Int.toNat_natCast, dflt_sl, dflt_st, dflt_str, dflt_int, dflt_bool]; omega) | (simp <;> omega)) ?_
      exact ⟨i + 1, by omega, by first | omega | (simp <;> omega), le_of ⟨rfl, rfl, (is_eq (one_succ i)), rfl, rfl, (ii_eq (by omega))⟩ trivial rfl⟩
    · try simp only [decide_eq_false_iff_not, Int.not_lt] at h25
      try simp only [Int.toNat_natCast, dflt_sl, dflt_st, dflt_str, dflt_int, dflt_bool] at h25
      refine acode_exit ?_
      refine acode_seq ?_
      refine acode_seq ?_
      refine acode_region ?_
      refine acode_block ?_
      refine acode_loopP (fun (i : Nat) => i ≤ k) (fun (i : Nat) => [(0, ii .i64 m), (1, ii .i64 k), (5, is (bytes (oneL m))), (6, is (bytes (manyL i))), (29, ii .i64 k), (30, ii .i64 i)]) (fun (i : Nat) => []) 0 (fun (i : Nat) => k - i) 0 (Nat.zero_le _) (le_of ⟨rfl, rfl, (is_eq (by rw [show i = m from by omega])), rfl, rfl, rfl⟩ trivial rfl) ?_
      intro i hI2
      refine acode_seq ?_
      refine acode_region ?_
      refine acode_seq ?_
      refine acode_cond rfl (fun h31 => ?_) (fun h31 => ?_)
      · try simp only [decide_eq_true_eq] at h31
        try simp only [Int.toNat_natCast, dflt_sl, dflt_st, dflt_str, dflt_int, dflt_bool] at h31
        refine acode_skip ?_
        refine acode_seq ?_
        refine acode_block ?_
        refine acode_region ?_
        refine And.intro (by rw [many_size]; show 4 * i + 4 ≤ _; unfold maxLen; omega) ?_
        refine acode_region ?_
        refine And.intro (by first | omega | assumption | decide | (simp only [Int.toNat_natCast, dflt_sl, dflt_st, dflt_str, dflt_int, dflt_bool]; omega) | (simp <;> omega)) ?_
        exact ⟨i + 1, by omega, by first | omega | (simp <;> omega), le_of ⟨rfl, rfl, rfl, (is_eq (many_succ i)), rfl, (ii_eq (by omega))⟩ trivial rfl⟩
      · try simp only [decide_eq_false_iff_not, Int.not_lt] at h31
        try simp only [Int.toNat_natCast, dflt_sl, dflt_st, dflt_str, dflt_int, dflt_bool] at h31
        refine acode_exit ?_
        have hik : i = k := (by omega)
        rw [hik]
        refine acode_seq ?_
        rcases one_parse (m := m) (by omega) (by omega) with ⟨hm40, sA, hone⟩ | ⟨hm40, hone⟩ <;> rcases many_c (k := k) (by omega) with ⟨hk4, l, hl, hmany⟩ | ⟨hk4, hmany⟩
        · refine acode_region ?_
          refine Or.inl ?_
          refine And.intro (rfl) ?_
          refine Exists.intro _ (And.intro (hone) ?_)
          refine acode_seq ?_
          refine acode_region ?_
          refine Or.inl ?_
          refine And.intro (rfl) ?_
          refine Exists.intro _ (And.intro (hmany) ?_)
          refine acode_seq ?_
          refine acode_seq ?_
          refine acode_region ?_
          refine acode_cond rfl (fun h46 => ?_) (fun h46 => ?_)
          · try simp only [decide_eq_true_eq] at h46
            try simp only [Int.toNat_natCast, dflt_sl, dflt_st, dflt_str, dflt_int, dflt_bool] at h46
            omega
          · try simp only [decide_eq_false_iff_not, Int.not_lt] at h46
            try simp only [Int.toNat_natCast, dflt_sl, dflt_st, dflt_str, dflt_int, dflt_bool] at h46
            refine acode_seq ?_
            refine acode_region ?_
            refine And.intro (fun h => trivial) ?_
            refine And.intro (fun h => ⟨⟨h, trivial⟩, trivial⟩) ?_
            refine And.intro (fun h => ⟨⟨h, trivial⟩, trivial⟩) ?_
            refine And.intro (by first | (intro h; rw [h]; rfl) | (intro h; cases h)) ?_
            refine And.intro (fun h => trivial) ?_
            refine And.intro (fun h => ⟨⟨⟨h, trivial⟩, trivial⟩, by simp⟩) ?_
            refine And.intro (fun h => ⟨⟨h, trivial⟩, trivial⟩) ?_
            refine And.intro (fun h => ⟨⟨h, trivial⟩, trivial⟩) ?_
            refine And.intro (fun h => ⟨⟨h, trivial⟩, trivial⟩) ?_
            refine And.intro (fun h => trivial) ?_
            refine And.intro (fun h => ⟨⟨h, trivial⟩, ⟨h, trivial⟩, trivial⟩) ?_
            refine And.intro (by first | (intro h; rw [h]; rfl) | (intro h; cases h)) ?_
            refine acode_cond rfl (fun h75 => ?_) (fun h75 => ?_)
            · try simp only [decide_eq_false_iff_not, Bool.not_eq_true', Bool.or_eq_true] at h75
              try simp only [dflt_sl, dflt_st, dflt_str, dflt_int] at h75
              simp at h75
            · try simp only [decide_eq_true_eq, Bool.not_eq_false', Bool.or_eq_false_iff] at h75
              try simp only [dflt_sl, dflt_st, dflt_str, dflt_int] at h75
              refine acode_skip ?_
              refine acode_seq ?_
              refine acode_seq ?_
              refine acode_region ?_
              refine acode_cond rfl (fun h77 => ?_) (fun h77 => ?_)
              · try simp only [decide_eq_true_eq] at h77
                try simp only [Int.toNat_natCast, dflt_sl, dflt_st, dflt_str, dflt_int, dflt_bool] at h77
                omega
              · try simp only [decide_eq_false_iff_not, Int.not_lt] at h77
                try simp only [Int.toNat_natCast, dflt_sl, dflt_st, dflt_str, dflt_int, dflt_bool] at h77
                refine acode_skip ?_
                refine acode_seq ?_
                refine acode_region ?_
                refine And.intro (fun h => trivial) ?_
                refine And.intro (fun h => ⟨⟨h, trivial⟩, trivial⟩) ?_
                refine And.intro (fun h => trivial) ?_
                refine And.intro (fun h => ⟨⟨⟨h, trivial⟩, trivial⟩, by first | omega | decide | (simp only [Int.toNat_natCast, dflt_sl, dflt_st, dflt_str, dflt_int, dflt_bool]; omega) | (have h9 := of_decide_eq_true h; omega) | (simp [gq] at h; omega)⟩) ?_
                refine And.intro (fun h => ⟨⟨h, trivial⟩, ⟨h, trivial⟩, trivial⟩) ?_
                refine And.intro (by exact fun h => h) ?_
                refine acode_ret ?_
                exact ib_eq (by rw [hl]; simp)
        · refine acode_region ?_
          refine Or.inl ?_
          refine And.intro (rfl) ?_
          refine Exists.intro _ (And.intro (hone) ?_)
          refine acode_seq ?_
          refine acode_region ?_
          refine Or.inl ?_
          refine And.intro (rfl) ?_
          refine Exists.intro _ (And.intro (hmany) ?_)
          refine acode_seq ?_
          refine acode_seq ?_
          refine acode_region ?_
          refine acode_cond rfl (fun h46 => ?_) (fun h46 => ?_)
          · try simp only [decide_eq_true_eq] at h46
            try simp only [Int.toNat_natCast, dflt_sl, dflt_st, dflt_str, dflt_int, dflt_bool] at h46
            omega
          · try simp only [decide_eq_false_iff_not, Int.not_lt] at h46
            try simp only [Int.toNat_natCast, dflt_sl, dflt_st, dflt_str, dflt_int, dflt_bool] at h46
            refine acode_seq ?_
            refine acode_region ?_
            refine And.intro (fun h => trivial) ?_
            refine And.intro (fun h => ⟨⟨h, trivial⟩, trivial⟩) ?_
            refine And.intro (fun h => ⟨⟨h, trivial⟩, trivial⟩) ?_
            refine And.intro (by first | (intro h; rw [h]; rfl) | (intro h; cases h)) ?_
            refine And.intro (fun h => trivial) ?_
            refine And.intro (fun h => ⟨⟨⟨h, trivial⟩, trivial⟩, by simp⟩) ?_
            refine And.intro (fun h => ⟨⟨h, trivial⟩, trivial⟩) ?_
            refine And.intro (fun h => ⟨⟨h, trivial⟩, trivial⟩) ?_
            refine And.intro (fun h => ⟨⟨h, trivial⟩, trivial⟩) ?_
            refine And.intro (fun h => trivial) ?_
            refine And.intro (fun h => ⟨⟨h, trivial⟩, ⟨h, trivial⟩, trivial⟩) ?_
            refine And.intro (by first | (intro h; rw [h]; rfl) | (intro h; cases h)) ?_
            refine acode_cond rfl (fun h75 => ?_) (fun h75 => ?_)
            · try simp only [decide_eq_false_iff_not, Bool.not_eq_true', Bool.or_eq_true] at h75
              try simp only [dflt_sl, dflt_st, dflt_str, dflt_int] at h75
              simp at h75
            · try simp only [decide_eq_true_eq, Bool.not_eq_false', Bool.or_eq_false_iff] at h75
              try simp only [dflt_sl, dflt_st, dflt_str, dflt_int] at h75
              refine acode_skip ?_
              refine acode_seq ?_
              refine acode_seq ?_
              refine acode_region ?_
              refine acode_cond rfl (fun h77 => ?_) (fun h77 => ?_)
              · try simp only [decide_eq_true_eq] at h77
                try simp only [Int.toNat_natCast, dflt_sl, dflt_st, dflt_str, dflt_int, dflt_bool] at h77
                refine acode_seq ?_
                refine acode_region ?_
                refine Or.inl ?_
                refine And.intro (rfl) ?_
                refine Exists.intro _ (And.intro (is_fault 800 11 (by decide)) ?_)
                refine And.intro (fun h => trivial) ?_
                refine And.intro (rfl) ?_
                refine Exists.intro _ (And.intro (fun h => ⟨⟨⟨h, trivial⟩, trivial⟩, at_fault 800 11⟩) ?_)
                refine And.intro (fun h => ⟨⟨h, trivial⟩, trivial⟩) ?_
                refine And.intro (by exact fun h => h) ?_
                refine And.intro (fun h => trivial) ?_
                refine And.intro (fun h => ⟨⟨h, trivial⟩, trivial⟩) ?_
                refine And.intro (fun h => ⟨⟨h, trivial⟩, trivial⟩) ?_
                refine And.intro (by exact fun h => h) ?_
                refine acode_ret ?_
                rfl
              · try simp only [decide_eq_false_iff_not, Int.not_lt] at h77
                try simp only [Int.toNat_natCast, dflt_sl, dflt_st, dflt_str, dflt_int, dflt_bool] at h77
                omega
        · refine acode_region ?_
          refine Or.inl ?_
          refine And.intro (rfl) ?_
          refine Exists.intro _ (And.intro (hone) ?_)
          refine acode_seq ?_
          refine acode_region ?_
          refine Or.inl ?_
          refine And.intro (rfl) ?_
          refine Exists.intro _ (And.intro (hmany) ?_)
          refine acode_seq ?_
          refine acode_seq ?_
          refine acode_region ?_
          refine acode_cond rfl (fun h46 => ?_) (fun h46 => ?_)
          · try simp only [decide_eq_true_eq] at h46
            try simp only [Int.toNat_natCast, dflt_sl, dflt_st, dflt_str, dflt_int, dflt_bool] at h46
            refine acode_seq ?_
            refine acode_region ?_
            refine Or.inl ?_
            refine And.intro (rfl) ?_
            refine Exists.intro _ (And.intro (is_fault 40 11 (by decide)) ?_)
            refine And.intro (fun h => trivial) ?_
            refine And.intro (rfl) ?_
            refine Exists.intro _ (And.intro (fun h => ⟨⟨⟨h, trivial⟩, trivial⟩, at_fault 40 11⟩) ?_)
            refine And.intro (fun h => ⟨⟨h, trivial⟩, trivial⟩) ?_
            refine And.intro (by first | (intro h; rw [h]; rfl) | (intro h; cases h)) ?_
            refine And.intro (fun h => trivial) ?_
            refine And.intro (fun h => ⟨⟨h, trivial⟩, trivial⟩) ?_
            refine And.intro (fun h => ⟨⟨h, trivial⟩, trivial⟩) ?_
            refine And.intro (by first | (intro h; rw [h]; rfl) | (intro h; cases h)) ?_
            refine acode_cond rfl (fun h59 => ?_) (fun h59 => ?_)
            · try simp only [decide_eq_false_iff_not, Bool.not_eq_true', Bool.or_eq_true] at h59
              try simp only [Int.toNat_natCast, dflt_sl, dflt_st, dflt_str, dflt_int, dflt_bool] at h59
              simp at h59
            · try simp only [decide_eq_true_eq, Bool.not_eq_false', Bool.or_eq_false_iff] at h59
              try simp only [Int.toNat_natCast, dflt_sl, dflt_st, dflt_str, dflt_int, dflt_bool] at h59
              refine acode_skip ?_
              refine acode_seq ?_
              refine acode_seq ?_
              refine acode_region ?_
              refine acode_cond rfl (fun h77 => ?_) (fun h77 => ?_)
              · try simp only [decide_eq_true_eq] at h77
                try simp only [Int.toNat_natCast, dflt_sl, dflt_st, dflt_str, dflt_int, dflt_bool] at h77
                omega
              · try simp only [decide_eq_false_iff_not, Int.not_lt] at h77
                try simp only [Int.toNat_natCast, dflt_sl, dflt_st, dflt_str, dflt_int, dflt_bool] at h77
                refine acode_skip ?_
                refine acode_seq ?_
                refine acode_region ?_
                refine And.intro (fun h => trivial) ?_
                refine And.intro (fun h => ⟨⟨h, trivial⟩, trivial⟩) ?_
                refine And.intro (fun h => trivial) ?_
                refine And.intro (fun h => ⟨⟨⟨h, trivial⟩, trivial⟩, by first | omega | decide | (simp only [Int.toNat_natCast, dflt_sl, dflt_st, dflt_str, dflt_int, dflt_bool]; omega) | (have h9 := of_decide_eq_true h; omega) | (simp [gq] at h; omega)⟩) ?_
                refine And.intro (fun h => ⟨⟨h, trivial⟩, ⟨h, trivial⟩, trivial⟩) ?_
                refine And.intro (by exact fun h => h) ?_
                refine acode_ret ?_
                exact ib_eq (by rw [hl]; simp)
          · try simp only [decide_eq_false_iff_not, Int.not_lt] at h46
            try simp only [Int.toNat_natCast, dflt_sl, dflt_st, dflt_str, dflt_int, dflt_bool] at h46
            omega
        · refine acode_region ?_
          refine Or.inl ?_
          refine And.intro (rfl) ?_
          refine Exists.intro _ (And.intro (hone) ?_)
          refine acode_seq ?_
          refine acode_region ?_
          refine Or.inl ?_
          refine And.intro (rfl) ?_
          refine Exists.intro _ (And.intro (hmany) ?_)
          refine acode_seq ?_
          refine acode_seq ?_
          refine acode_region ?_
          refine acode_cond rfl (fun h46 => ?_) (fun h46 => ?_)
          · try simp only [decide_eq_true_eq] at h46
            try simp only [Int.toNat_natCast, dflt_sl, dflt_st, dflt_str, dflt_int, dflt_bool] at h46
            refine acode_seq ?_
            refine acode_region ?_
            refine Or.inl ?_
            refine And.intro (rfl) ?_
            refine Exists.intro _ (And.intro (is_fault 40 11 (by decide)) ?_)
            refine And.intro (fun h => trivial) ?_
            refine And.intro (rfl) ?_
            refine Exists.intro _ (And.intro (fun h => ⟨⟨⟨h, trivial⟩, trivial⟩, at_fault 40 11⟩) ?_)
            refine And.intro (fun h => ⟨⟨h, trivial⟩, trivial⟩) ?_
            refine And.intro (by first | (intro h; rw [h]; rfl) | (intro h; cases h)) ?_
            refine And.intro (fun h => trivial) ?_
            refine And.intro (fun h => ⟨⟨h, trivial⟩, trivial⟩) ?_
            refine And.intro (fun h => ⟨⟨h, trivial⟩, trivial⟩) ?_
            refine And.intro (by first | (intro h; rw [h]; rfl) | (intro h; cases h)) ?_
            refine acode_cond rfl (fun h59 => ?_) (fun h59 => ?_)
            · try simp only [decide_eq_false_iff_not, Bool.not_eq_true', Bool.or_eq_true] at h59
              try simp only [Int.toNat_natCast, dflt_sl, dflt_st, dflt_str, dflt_int, dflt_bool] at h59
              simp at h59
            · try simp only [decide_eq_true_eq, Bool.not_eq_false', Bool.or_eq_false_iff] at h59
              try simp only [Int.toNat_natCast, dflt_sl, dflt_st, dflt_str, dflt_int, dflt_bool] at h59
              refine acode_skip ?_
              refine acode_seq ?_
              refine acode_seq ?_
              refine acode_region ?_
              refine acode_cond rfl (fun h77 => ?_) (fun h77 => ?_)
              · try simp only [decide_eq_true_eq] at h77
                try simp only [Int.toNat_natCast, dflt_sl, dflt_st, dflt_str, dflt_int, dflt_bool] at h77
                refine acode_seq ?_
                refine acode_region ?_
                refine Or.inl ?_
                refine And.intro (rfl) ?_
                refine Exists.intro _ (And.intro (is_fault 800 11 (by decide)) ?_)
                refine And.intro (fun h => trivial) ?_
                refine And.intro (rfl) ?_
                refine Exists.intro _ (And.intro (fun h => ⟨⟨⟨h, trivial⟩, trivial⟩, at_fault 800 11⟩) ?_)
                refine And.intro (fun h => ⟨⟨h, trivial⟩, trivial⟩) ?_
                refine And.intro (by exact fun h => h) ?_
                refine And.intro (fun h => trivial) ?_
                refine And.intro (fun h => ⟨⟨h, trivial⟩, trivial⟩) ?_
                refine And.intro (fun h => ⟨⟨h, trivial⟩, trivial⟩) ?_
                refine And.intro (by exact fun h => h) ?_
                refine acode_ret ?_
                rfl
              · try simp only [decide_eq_false_iff_not, Int.not_lt] at h77
                try simp only [Int.toNat_natCast, dflt_sl, dflt_st, dflt_str, dflt_int, dflt_bool] at h77
                omega
          · try simp only [decide_eq_false_iff_not, Int.not_lt] at h46
            try simp only [Int.toNat_natCast, dflt_sl, dflt_st, dflt_str, dflt_int, dflt_bool] at h46
            omega
end Q
end Ab
end Go.Proofs.YtdedkoiodehmnaaDoor
namespace Go.Proofs.YtdedkoiodehmnaaDoor
open Go.RowKit
namespace Ab
set_option maxRecDepth 100000
namespace Q
/-- How long the text of fields is, at most. -/
theorem endL_len : ∀ (L : List (List UInt8)), (endL L).length = (L.map (·.length)).sum + L.length
  | [] => rfl
  | x :: r => by
    have := endL_len r
    unfold endL at this ⊢
    simp only [List.flatMap_cons, List.length_append, List.length_cons, List.length_nil, List.map_cons, List.sum_cons, this]
    omega
theorem stuff_len2 (s : List UInt8) : (stuffL s).length ≤ s.length + 1 := by
  unfold stuffL
  split <;> simp
theorem join_sum (c : UInt8) : ∀ l : List (List UInt8), l ≠ [] → (Lib.join l [c]).length + 1 = (l.map (·.length)).sum + l.length
  | [], h => absurd rfl h
  | [a], _ => by rw [Lib.join_one]; simp
  | a :: b :: r, _ => by
    have := join_sum c (b :: r) (by simp)
    rw [join_two]
    simp only [List.length_append, List.length_cons, List.length_nil, List.map_cons, List.sum_cons] at this ⊢
    omega
theorem textL_len (f : Fld) : (textL f).length ≤ f.1.size + 4 * f.2.size + 3 := by
  unfold textL
  rw [endL_len]
  unfold linesL
  have h1 := join_sum 10 (partsL f.2.data.toList) (split_ne _ _)
  rw [parts_join] at h1
  cases e : partsL f.2.data.toList with
  | nil => exact absurd e (split_ne _ _)
  | cons p r =>
    rw [e] at h1
    have h2 := map_sum_le (fun s : List UInt8 => (32 :: stuffL s).length) (fun s => s.length + 2) r (fun s _ => by have := stuff_len2 s; simp only [List.length_cons]; omega)
    have h3 : (r.map fun s => s.length + 2).sum = (r.map (·.length)).sum + 2 * r.length := by
      clear h1 h2 e
      induction r with
      | nil => rfl
      | cons a r ih => simp only [List.map_cons, List.sum_cons, List.length_cons, ih]; omega
    have h4 : (firstL f.1.data.toList p).length ≤ f.1.size + 2 + p.length := by
      unfold firstL
      rw [size_list]
      split
      · simp only [List.length_append, List.length_cons, List.length_nil]; omega
      · simp only [List.length_append, List.length_cons, List.length_nil]; omega
    simp only [List.headD_cons, List.map_cons, List.sum_cons, List.length_cons, List.length_map, List.map_map, List.drop_succ_cons, List.drop_zero] at h1 h2 ⊢
    rw [size_list f.2]
    have h5 : (r.map ((fun x : List UInt8 => x.length) ∘ fun s => 32 :: stuffL s)).sum = (r.map fun s => (32 :: stuffL s).length).sum := rfl
    simp only [List.length_cons] at h5
    omega
theorem foldL_le : ∀ (l : List Fld), (∀ f ∈ l, checkF f = 0) → (foldL l).length ≤ 4 * sumF l + 3 * l.length
  | [], _ => by simp [foldL]
  | f :: r, h => by
    have h1 := foldL_le r (fun g hg => h g (List.mem_cons_of_mem _ hg))
    have h2 := textL_len f
    obtain ⟨_, h3, h4⟩ := check_ok (h f List.mem_cons_self)
    unfold foldL sumF at *
    simp only [List.flatMap_cons, List.length_append, List.map_cons, List.sum_cons, List.length_cons]
    omega
theorem folds_text (n : ByteArray) (A B : List UInt8) : bytes ((35 :: ls n) ++ [10] ++ A ++ [10] ++ B ++ [35] ++ ls n ++ [10]) = ⟨#[35]⟩ ++ n ++ ⟨#[10]⟩ ++ bytes A ++ ⟨#[10]⟩ ++ bytes B ++ ⟨#[35]⟩ ++ n ++ ⟨#[10]⟩ := by
  rw [show (35 :: ls n) = [35] ++ ls n from rfl]
  simp only [bytes_app, bytes_ls]
  rfl
theorem much_sum {l : List Fld} (h : muchB l = false) : sumF l ≤ 6000 := by
  unfold muchB at h
  simp only [Bool.or_eq_false_iff, decide_eq_false_iff_not] at h
  omega
theorem foldB_size {l : List Fld} (h : muchB l = false) (hb : badF l = 0) (h4 : l.length ≤ 40) : (bytes (foldL l)).size ≤ 24120 := by
  rw [bytes_size]
  have h1 := foldL_le l (badF_zero hb)
  have h2 := much_sum h
  omega
theorem no_step {l : List UInt8} {i : Nat} (h : (10 : UInt8) ∉ l.take i) (hi : i < l.length) (h2 : ¬ ((l.getD i 0).toNat : Int) = 10) : (10 : UInt8) ∉ l.take (i + 1) := by
  rw [List.take_succ_eq_append_getElem hi]
  simp only [List.mem_append, List.mem_singleton, not_or]
  refine ⟨h, fun e => h2 ?_⟩
  have : l.getD i 0 = 10 := by simp [List.getD, hi, ← e]
  rw [this]
  rfl
theorem StanzaFolds_c (a b : List Fld) (n : ByteArray) : ACall Tryd.prog 14 [.one (.sl rFld a), .one (.sl rFld b), is n] (ib true) := by
  refine acall_of (rs := [6]) Tryd.func14 rfl rfl rfl teOk rfl ?_
  refine acode_seq ?_
  refine acode_region ?_
  refine acode_seq ?_
  refine acode_seq ?_
  refine acode_region ?_
  refine Or.inl ?_
  refine And.intro (rfl) ?_
  refine Exists.intro _ (And.intro (alive_c) ?_)
  refine acode_cond rfl (fun h14 => ?_) (fun h14 => ?_)
  · try simp only [Bool.not_eq_true'] at h14
    try simp only [Int.toNat_natCast, dflt_sl, dflt_st, dflt_str, dflt_int, dflt_bool] at h14
    cases h14
  · try simp only [Bool.not_eq_false'] at h14
    try simp only [Int.toNat_natCast, dflt_sl, dflt_st, dflt_str, dflt_int, dflt_bool] at h14
    refine acode_skip ?_
    refine acode_seq ?_
    refine acode_seq ?_
    refine acode_region ?_
    refine Or.inl ?_
    refine And.intro (rfl) ?_
    refine Exists.intro _ (And.intro (much_c a) ?_)
    refine And.intro (fun h => trivial) ?_
    refine And.intro (rfl) ?_
    refine Exists.intro _ (And.intro (fun h => ⟨⟨⟨h, trivial⟩, trivial⟩, much_c b⟩) ?_)
    refine And.intro (by first | (intro h; rw [h]; rfl) | (intro h; cases h)) ?_
    refine And.intro (fun h => trivial) ?_
    refine And.intro (fun h => ⟨⟨h, trivial⟩, trivial⟩) ?_
    refine And.intro (fun h => ⟨⟨h, trivial⟩, trivial⟩) ?_
    refine And.intro (by first | (intro h; rw [h]; rfl) | (intro h; cases h)) ?_
    refine And.intro (fun h => trivial) ?_
    refine And.intro (fun h => ⟨⟨h, trivial⟩, trivial⟩) ?_
    refine And.intro (fun h => ⟨⟨h, trivial⟩, trivial⟩) ?_
    refine And.intro (by first | (intro h; rw [h]; rfl) | (intro h; cases h)) ?_
    refine And.intro (fun h => trivial) ?_
    refine And.intro (fun h => ⟨⟨h, trivial⟩, trivial⟩) ?_
    refine And.intro (fun h => ⟨⟨h, trivial⟩, trivial⟩) ?_
    refine And.intro (by first | (intro h; rw [h]; rfl) | (intro h; cases h)) ?_
    refine And.intro (fun h => trivial) ?_
    refine And.intro (fun h => ⟨⟨h, trivial⟩, trivial⟩) ?_
    refine And.intro (fun h => ⟨⟨h, trivial⟩, trivial⟩) ?_
    refine And.intro (by first | (intro h; rw [h]; rfl) | (intro h; cases h)) ?_
    refine And.intro (fun h => trivial) ?_
    refine And.intro (fun h => ⟨⟨h, trivial⟩, trivial⟩) ?_
    refine And.intro (fun h => ⟨⟨h, trivial⟩, trivial⟩) ?_
    refine And.intro (by first | (intro h; rw [h]; rfl) | (intro h; cases h)) ?_
    refine acode_cond rfl (fun h45 => ?_) (fun h45 => ?_)
    · try simp only [decide_eq_true_eq, Bool.or_eq_true] at h45
      try simp only [Int.toNat_natCast, dflt_sl, dflt_st, dflt_str, dflt_int, dflt_bool] at h45
      refine acode_seq ?_
      refine acode_region ?_
      refine acode_ret ?_
      rfl
    · try simp only [decide_eq_false_iff_not, Bool.or_eq_false_iff, Int.not_lt] at h45
      try simp only [Int.toNat_natCast, dflt_sl, dflt_st, dflt_str, dflt_int, dflt_bool] at h45
      obtain ⟨⟨⟨⟨⟨⟨hma, hmb⟩, ha0⟩, hb0⟩, ha4⟩, hb4⟩, hn2⟩ := h45
      have hla := much_ok hma
      have hlb := much_ok hmb
      refine acode_skip ?_
      refine acode_seq ?_
      refine acode_seq ?_
      refine acode_region ?_
      refine acode_block ?_
      refine acode_loopP (fun (i : Nat) => i ≤ n.size ∧ (10 : UInt8) ∉ (ls n).take i) (fun (i : Nat) => [(0, .one (.sl rFld a)), (1, .one (.sl rFld b)), (2, is n), (47, ii .i64 n.size), (48, ii .i64 i)]) (fun (i : Nat) => []) 0 (fun (i : Nat) => n.size - i) 0 (⟨Nat.zero_le _, by simp⟩) (le_of ⟨rfl, rfl, rfl, rfl, rfl⟩ trivial rfl) ?_
      intro i hI0
      refine acode_seq ?_
      refine acode_region ?_
      refine acode_seq ?_
      refine acode_cond rfl (fun h49 => ?_) (fun h49 => ?_)
      · try simp only [decide_eq_true_eq] at h49
        try simp only [Int.toNat_natCast, dflt_sl, dflt_st, dflt_str, dflt_int, dflt_bool] at h49
        refine acode_skip ?_
        refine acode_seq ?_
        refine acode_block ?_
        refine acode_seq ?_
        refine acode_region ?_
        refine acode_seq ?_
        refine acode_region ?_
        refine And.intro (by first | omega | assumption | decide | (simp only [Int.toNat_natCast, dflt_sl, dflt_st, dflt_str, dflt_int, dflt_bool]; omega) | (simp <;> omega)) ?_
        refine acode_cond rfl (fun h54 => ?_) (fun h54 => ?_)
        · try simp only [decide_eq_true_eq] at h54
          try simp only [Int.toNat_natCast] at h54
          refine acode_seq ?_
          refine acode_region ?_
          refine acode_ret ?_
          rfl
        · try simp only [decide_eq_false_iff_not] at h54
          try simp only [Int.toNat_natCast] at h54
          refine acode_skip ?_
          refine acode_region ?_
          refine And.intro (by first | omega | assumption | decide | (simp only [Int.toNat_natCast, dflt_sl, dflt_st, dflt_str, dflt_int, dflt_bool]; omega) | (simp <;> omega)) ?_
          exact ⟨i + 1, ⟨by omega, no_step hI0.2 (by have := size_list n; show i < n.data.toList.length; omega) h54⟩, by first | omega | (simp <;> omega), le_of ⟨rfl, rfl, rfl, rfl, (ii_eq (by omega))⟩ trivial rfl⟩
      · try simp only [decide_eq_false_iff_not, Int.not_lt] at h49
        try simp only [Int.toNat_natCast, dflt_sl, dflt_st, dflt_str, dflt_int, dflt_bool] at h49
        refine acode_exit ?_
        have hn10 : (10 : UInt8) ∉ ls n := (by have := hI0.2; rwa [List.take_of_length_le (by have := size_list n; show n.data.toList.length ≤ i; omega)] at this)
        refine acode_seq ?_
        by_cases hba : badF a = 0 <;> by_cases hbb : badF b = 0
        · refine acode_region ?_
          refine Or.inl ?_
          refine And.intro (rfl) ?_
          refine Exists.intro _ (And.intro (fold_yes hla hba) ?_)
          refine acode_seq ?_
          refine acode_region ?_
          refine Or.inl ?_
          refine And.intro (rfl) ?_
          refine Exists.intro _ (And.intro (fold_yes hlb hbb) ?_)
          refine acode_seq ?_
          refine acode_seq ?_
          refine acode_region ?_
          refine And.intro (fun h => trivial) ?_
          refine And.intro (fun h => ⟨⟨h, trivial⟩, trivial⟩) ?_
          refine And.intro (by first | (intro h; rw [h]; rfl) | (intro h; cases h)) ?_
          refine acode_cond rfl (fun h71 => ?_) (fun h71 => ?_)
          · try simp only [Bool.not_eq_true', Bool.or_eq_true] at h71
            try simp only [Int.toNat_natCast, dflt_sl, dflt_st, dflt_str, dflt_int, dflt_bool] at h71
            simp at h71
          · try simp only [Bool.not_eq_false', Bool.or_eq_false_iff] at h71
            try simp only [Int.toNat_natCast, dflt_sl, dflt_st, dflt_str, dflt_int, dflt_bool] at h71
            refine acode_skip ?_
            refine acode_seq ?_
            have hsa := foldB_size hma hba (by omega)
            have hsb := foldB_size hmb hbb (by omega)
            have hk35 : ByteArray.size ⟨#[35]⟩ = 1 := rfl
            have hk10 : ByteArray.size ⟨#[10]⟩ = 1 := rfl
            obtain ⟨r1, r2, hpar⟩ := folds_parse (badF_zero hba) (badF_zero hbb) (fun e => ha0 (by rw [e]; rfl)) (fun e => hb0 (by rw [e]; rfl)) (by omega) (by omega) hn10
            rw [folds_text] at hpar
            have hpp := parse_a (⟨#[35]⟩ ++ n ++ ⟨#[10]⟩ ++ bytes (foldL a) ++ ⟨#[10]⟩ ++ bytes (foldL b) ++ ⟨#[35]⟩ ++ n ++ ⟨#[10]⟩) (by simp only [ByteArray.size_append]; omega)
            rw [hpar] at hpp
            refine acode_region ?_
            refine And.intro (by (have hk0 : ByteArray.size { data := #[35] } = 1 := rfl; first | (unfold maxLen; omega) | (simp only [ByteArray.size_append]; omega) | (unfold maxLen; (try simp only [ByteArray.size_append]); omega))) ?_
            refine And.intro (by (have hk0 : ByteArray.size { data := #[35] } = 1 := rfl; have hk1 : ByteArray.size { data := #[10] } = 1 := rfl; first | (unfold maxLen; omega) | (simp only [ByteArray.size_append]; omega) | (unfold maxLen; (try simp only [ByteArray.size_append]); omega))) ?_
            refine And.intro (by (have hk0 : ByteArray.size { data := #[35] } = 1 := rfl; have hk1 : ByteArray.size { data := #[10] } = 1 := rfl; first | (unfold maxLen; omega) | (simp only [ByteArray.size_append]; omega) | (unfold maxLen; (try simp only [ByteArray.size_append]); omega))) ?_
            refine And.intro (by (have hk0 : ByteArray.size { data := #[35] } = 1 := rfl; have hk1 : ByteArray.size { data := #[10] } = 1 := rfl; have hk2 : ByteArray.size { data := #[10] } = 1 := rfl; first | (unfold maxLen; omega) | (simp only [ByteArray.size_append]; omega) | (unfold maxLen; (try simp only [ByteArray.size_append]); omega))) ?_
            refine And.intro (by (have hk0 : ByteArray.size { data := #[35] } = 1 := rfl; have hk1 : ByteArray.size { data := #[10] } = 1 := rfl; have hk2 : ByteArray.size { data := #[10] } = 1 := rfl; first | (unfold maxLen; omega) | (simp only [ByteArray.size_append]; omega) | (unfold maxLen; (try simp only [ByteArray.size_append]); omega))) ?_
            refine And.intro (by (have hk0 : ByteArray.size { data := #[35] } = 1 := rfl; have hk1 : ByteArray.size { data := #[10] } = 1 := rfl; have hk2 : ByteArray.size { data := #[10] } = 1 := rfl; have hk3 : ByteArray.size { data := #[35] } = 1 := rfl; first | (unfold maxLen; omega) | (simp only [ByteArray.size_append]; omega) | (unfold maxLen; (try simp only [ByteArray.size_append]); omega))) ?_
            refine And.intro (by (have hk0 : ByteArray.size { data := #[35] } = 1 := rfl; have hk1 : ByteArray.size { data := #[10] } = 1 := rfl; have hk2 : ByteArray.size { data := #[10] } = 1 := rfl; have hk3 : ByteArray.size { data := #[35] } = 1 := rfl; first | (unfold maxLen; omega) | (simp only [ByteArray.size_append]; omega) | (unfold maxLen; (try simp only [ByteArray.size_append]); omega))) ?_
            refine And.intro (by (have hk0 : ByteArray.size { data := #[35] } = 1 := rfl; have hk1 : ByteArray.size { data := #[10] } = 1 := rfl; have hk2 : ByteArray.size { data := #[10] } = 1 := rfl; have hk3 : ByteArray.size { data := #[35] } = 1 := rfl; have hk4 : ByteArray.size { data := #[10] } = 1 := rfl; first | (unfold maxLen; omega) | (simp only [ByteArray.size_append]; omega) | (unfold maxLen; (try simp only [ByteArray.size_append]); omega))) ?_
            refine Or.inl ?_
            refine And.intro (rfl) ?_
            refine Exists.intro _ (And.intro (hpp) ?_)
            refine acode_seq ?_
            refine acode_seq ?_
            refine acode_region ?_
            refine And.intro (fun h => trivial) ?_
            refine And.intro (fun h => ⟨⟨h, trivial⟩, trivial⟩) ?_
            refine And.intro (fun h => ⟨⟨h, trivial⟩, trivial⟩) ?_
            refine And.intro (by first | (intro h; rw [h]; rfl) | (intro h; cases h)) ?_
            refine acode_cond rfl (fun h94 => ?_) (fun h94 => ?_)
            · try simp only [decide_eq_false_iff_not, Bool.not_eq_true', Bool.or_eq_true] at h94
              try simp only [Int.toNat_natCast, dflt_sl, dflt_st, dflt_str, dflt_int, dflt_bool] at h94
              simp at h94
            · try simp only [decide_eq_true_eq, Bool.not_eq_false', Bool.or_eq_false_iff] at h94
              try simp only [Int.toNat_natCast, dflt_sl, dflt_st, dflt_str, dflt_int, dflt_bool] at h94
              refine acode_skip ?_
              refine acode_seq ?_
              refine acode_region ?_
              refine And.intro (by simp) ?_
              refine And.intro (fun h => trivial) ?_
              refine And.intro (fun h => ⟨⟨⟨h, trivial⟩, trivial⟩, by simp⟩) ?_
              refine And.intro (fun h => ⟨⟨h, trivial⟩, trivial⟩) ?_
              refine And.intro (fun h => ⟨⟨h, trivial⟩, trivial⟩) ?_
              refine And.intro (fun h => trivial) ?_
              refine And.intro (rfl) ?_
              refine Exists.intro _ (And.intro (fun h => ⟨⟨⟨h, trivial⟩, ⟨h, trivial⟩, trivial⟩, fields_self a⟩) ?_)
              refine And.intro (by exact fun h => h) ?_
              refine And.intro (fun h => trivial) ?_
              refine And.intro (fun h => ⟨⟨⟨h, trivial⟩, trivial⟩, by simp⟩) ?_
              refine And.intro (fun h => ⟨⟨h, trivial⟩, trivial⟩) ?_
              refine And.intro (fun h => ⟨⟨h, trivial⟩, trivial⟩) ?_
              refine And.intro (fun h => ⟨⟨h, trivial⟩, trivial⟩) ?_
              refine And.intro (by exact fun h => h) ?_
              refine And.intro (fun h => trivial) ?_
              refine And.intro (fun h => ⟨⟨⟨h, trivial⟩, trivial⟩, by simp⟩) ?_
              refine And.intro (fun h => ⟨⟨h, trivial⟩, trivial⟩) ?_
              refine And.intro (fun h => ⟨⟨h, trivial⟩, trivial⟩) ?_
              refine And.intro (fun h => ⟨⟨h, trivial⟩, trivial⟩) ?_
              refine And.intro (by exact fun h => h) ?_
              refine And.intro (fun h => trivial) ?_
              refine And.intro (fun h => ⟨⟨⟨h, trivial⟩, trivial⟩, by simp⟩) ?_
              refine And.intro (fun h => ⟨⟨h, trivial⟩, trivial⟩) ?_
              refine And.intro (fun h => ⟨⟨h, trivial⟩, trivial⟩) ?_
              refine And.intro (fun h => trivial) ?_
              refine And.intro (rfl) ?_
              refine Exists.intro _ (And.intro (fun h => ⟨⟨⟨h, trivial⟩, ⟨h, trivial⟩, trivial⟩, fields_self b⟩) ?_)
              refine And.intro (by exact fun h => h) ?_
              refine acode_ret ?_
              rfl
        · refine acode_region ?_
          refine Or.inl ?_
          refine And.intro (rfl) ?_
          refine Exists.intro _ (And.intro (fold_yes hla hba) ?_)
          refine acode_seq ?_
          refine acode_region ?_
          refine Or.inl ?_
          refine And.intro (rfl) ?_
          refine Exists.intro _ (And.intro (fold_no hlb hbb) ?_)
          refine acode_seq ?_
          refine acode_seq ?_
          refine acode_region ?_
          refine And.intro (fun h => trivial) ?_
          refine And.intro (fun h => ⟨⟨h, trivial⟩, trivial⟩) ?_
          refine And.intro (by first | (intro h; rw [h]; rfl) | (intro h; cases h)) ?_
          refine acode_cond rfl (fun h71 => ?_) (fun h71 => ?_)
          · try simp only [Bool.not_eq_true', Bool.or_eq_true] at h71
            try simp only [Int.toNat_natCast, dflt_sl, dflt_st, dflt_str, dflt_int, dflt_bool] at h71
            refine acode_seq ?_
            refine acode_region ?_
            refine acode_ret ?_
            rfl
          · try simp only [Bool.not_eq_false', Bool.or_eq_false_iff] at h71
            try simp only [Int.toNat_natCast, dflt_sl, dflt_st, dflt_str, dflt_int, dflt_bool] at h71
            simp [] at h71
        · refine acode_region ?_
          refine Or.inl ?_
          refine And.intro (rfl) ?_
          refine Exists.intro _ (And.intro (fold_no hla hba) ?_)
          refine acode_seq ?_
          refine acode_region ?_
          refine Or.inl ?_
          refine And.intro (rfl) ?_
          refine Exists.intro _ (And.intro (fold_yes hlb hbb) ?_)
          refine acode_seq ?_
          refine acode_seq ?_
          refine acode_region ?_
          refine And.intro (fun h => trivial) ?_
          refine And.intro (fun h => ⟨⟨h, trivial⟩, trivial⟩) ?_
          refine And.intro (by first | (intro h; rw [h]; rfl) | (intro h; cases h)) ?_
          refine acode_cond rfl (fun h71 => ?_) (fun h71 => ?_)
          · try simp only [Bool.not_eq_true', Bool.or_eq_true] at h71
            try simp only [Int.toNat_natCast, dflt_sl, dflt_st, dflt_str, dflt_int, dflt_bool] at h71
            refine acode_seq ?_
            refine acode_region ?_
            refine acode_ret ?_
            rfl
          · try simp only [Bool.not_eq_false', Bool.or_eq_false_iff] at h71
            try simp only [Int.toNat_natCast, dflt_sl, dflt_st, dflt_str, dflt_int, dflt_bool] at h71
            simp [] at h71
        · refine acode_region ?_
          refine Or.inl ?_
          refine And.intro (rfl) ?_
          refine Exists.intro _ (And.intro (fold_no hla hba) ?_)
          refine acode_seq ?_
          refine acode_region ?_
          refine Or.inl ?_
          refine And.intro (rfl) ?_
          refine Exists.intro _ (And.intro (fold_no hlb hbb) ?_)
          refine acode_seq ?_
          refine acode_seq ?_
          refine acode_region ?_
          refine And.intro (fun h => trivial) ?_
          refine And.intro (fun h => ⟨⟨h, trivial⟩, trivial⟩) ?_
          refine And.intro (by first | (intro h; rw [h]; rfl) | (intro h; cases h)) ?_
          refine acode_cond rfl (fun h71 => ?_) (fun h71 => ?_)
          · try simp only [Bool.or_eq_true] at h71
            try simp only [Int.toNat_natCast, dflt_sl, dflt_st, dflt_str, dflt_int, dflt_bool] at h71
            refine acode_seq ?_
            refine acode_region ?_
            refine acode_ret ?_
            rfl
          · try simp only [Bool.or_eq_false_iff] at h71
            try simp only [Int.toNat_natCast, dflt_sl, dflt_st, dflt_str, dflt_int, dflt_bool] at h71
            simp [] at h71
end Q
end Ab
end Go.Proofs.YtdedkoiodehmnaaDoor
namespace Go.Proofs.YtdedkoiodehmnaaDoor
open Go.RowKit
namespace Ab
set_option maxRecDepth 100000
namespace Q
theorem parse_big (s : ByteArray) (hs : 60000 < s.size) : ACall Tryd.prog 48 [is s] (.tup [(false, [.sl rItm []]), (false, [errN 1])]) := by
  refine acall_ofc (rs := [.cell 2 71, .cell 3 27]) Tryd.func48 rfl rfl rfl teOk rfl ?_
  refine acode_seq ?_
  refine acode_region ?_
  refine acode_seq ?_
  refine acode_seq ?_
  refine acode_region ?_
  refine acode_cond rfl (fun h10 => ?_) (fun h10 => ?_)
  · try simp only [decide_eq_true_eq] at h10
    try simp only [Int.toNat_natCast, dflt_sl, dflt_st, dflt_str, dflt_int, dflt_bool] at h10
    refine acode_seq ?_
    refine acode_region ?_
    refine acode_nilcell 0 0 75 rItm rfl rfl rfl ?_
    refine acode_ret ?_
    rfl
  · try simp only [decide_eq_false_iff_not, Int.not_lt] at h10
    try simp only [Int.toNat_natCast, dflt_sl, dflt_st, dflt_str, dflt_int, dflt_bool] at h10
    omega
theorem parse_total {s : ByteArray} {l : List Itm} (hp : parseS s = .inr l) : szI l = s.size := by
  unfold parseS at hp
  cases e : runS pst0 (linesT s) with
  | inl x => rw [e] at hp; cases hp
  | inr p =>
    rw [e] at hp
    simp only at hp
    cases e2 : endS p with
    | inl x => rw [e2] at hp; cases hp
    | inr q =>
      rw [e2] at hp
      cases hp
      obtain ⟨_, hraw, hidle⟩ := end_took e2
      obtain ⟨hall, h1, _⟩ := run_took _ _ _ e
      have h2 : rawN q = szI q.its := by unfold rawN; rw [hidle.2.1]; rfl
      rw [← h2, hraw, h1]
      have h3 := glue_len _ hall
      rw [lines_text, glue_lines _ _ (by rw [show (ls s).length = s.size from (size_list s).symm]; exact Nat.le_refl _)] at h3
      rw [size_list, ← h3]
      simp [rawN, pst0, szI, szB, ls]
theorem szI_succ {l : List Itm} {i : Nat} (h : i < l.length) : szI (l.take (i + 1)) = szI (l.take i) + (l.getD i ((0 : Int), ByteArray.empty, ([] : List Fld))).2.1.size := by
  rw [List.take_succ_eq_append_getElem h, szI_app]
  simp [szI, List.getD, h]
theorem szI_le (l : List Itm) (i : Nat) : szI (l.take i) ≤ szI l := by
  conv => rhs; rw [← List.take_append_drop i l]
  rw [szI_app]
  omega
theorem ext_take (s : ByteArray) (n : Nat) : s.extract 0 n = bytes ((ls s).take n) := by
  rw [← bytes_ls (s.extract 0 n)]
  congr 1
  rw [show ls (s.extract 0 n) = _ from extract_ls s 0 n]
  rfl
theorem ext_drop (s : ByteArray) (n : Nat) : s.extract n s.size = bytes ((ls s).drop n) := by
  rw [← bytes_ls (s.extract n s.size)]
  congr 1
  exact drop_size s n
theorem StanzaCuts_c (s : ByteArray) : ACall Tryd.prog 10 [is s] (ib true) := by
  by_cases hbig : 3000 < s.size
  ·
    refine acall_of (rs := [2]) Tryd.func10 rfl rfl rfl teOk rfl ?_
    refine acode_seq ?_
    refine acode_region ?_
    refine acode_seq ?_
    refine acode_seq ?_
    refine acode_region ?_
    refine Or.inl ?_
    refine And.intro (rfl) ?_
    refine Exists.intro _ (And.intro (alive_c) ?_)
    refine acode_cond rfl (fun h13 => ?_) (fun h13 => ?_)
    · try simp only [Bool.not_eq_true'] at h13
      try simp only [Int.toNat_natCast, dflt_sl, dflt_st, dflt_str, dflt_int, dflt_bool] at h13
      cases h13
    · try simp only [Bool.not_eq_false'] at h13
      try simp only [Int.toNat_natCast, dflt_sl, dflt_st, dflt_str, dflt_int, dflt_bool] at h13
      refine acode_skip ?_
      refine acode_seq ?_
      refine acode_seq ?_
      refine acode_region ?_
      refine acode_cond rfl (fun h16 => ?_) (fun h16 => ?_)
      · try simp only [decide_eq_true_eq] at h16
        try simp only [Int.toNat_natCast, dflt_sl, dflt_st, dflt_str, dflt_int, dflt_bool] at h16
        refine acode_seq ?_
        refine acode_region ?_
        refine acode_ret ?_
        rfl
      · try simp only [decide_eq_false_iff_not, Int.not_lt] at h16
        try simp only [Int.toNat_natCast, dflt_sl, dflt_st, dflt_str, dflt_int, dflt_bool] at h16
        omega
  · have hp := parse_a s (by omega)
    cases hr : parseS s with
    | inl e =>
      rw [hr] at hp
      refine acall_of (rs := [2]) Tryd.func10 rfl rfl rfl teOk rfl ?_
      refine acode_seq ?_
      refine acode_region ?_
      refine acode_seq ?_
      refine acode_seq ?_
      refine acode_region ?_
      refine Or.inl ?_
      refine And.intro (rfl) ?_
      refine Exists.intro _ (And.intro (alive_c) ?_)
      refine acode_cond rfl (fun h13 => ?_) (fun h13 => ?_)
      · try simp only [Bool.not_eq_true'] at h13
        try simp only [Int.toNat_natCast, dflt_sl, dflt_st, dflt_str, dflt_int, dflt_bool] at h13
        cases h13
      · try simp only [Bool.not_eq_false'] at h13
        try simp only [Int.toNat_natCast, dflt_sl, dflt_st, dflt_str, dflt_int, dflt_bool] at h13
        refine acode_skip ?_
        refine acode_seq ?_
        refine acode_seq ?_
        refine acode_region ?_
        refine acode_cond rfl (fun h16 => ?_) (fun h16 => ?_)
        · try simp only [decide_eq_true_eq] at h16
          try simp only [Int.toNat_natCast, dflt_sl, dflt_st, dflt_str, dflt_int, dflt_bool] at h16
          omega
        · try simp only [decide_eq_false_iff_not, Int.not_lt] at h16
          try simp only [Int.toNat_natCast, dflt_sl, dflt_st, dflt_str, dflt_int, dflt_bool] at h16
          refine acode_skip ?_
          refine acode_seq ?_
          refine acode_region ?_
          refine Or.inl ?_
          refine And.intro (rfl) ?_
          refine Exists.intro _ (And.intro (hp) ?_)
          refine acode_seq ?_
          refine acode_seq ?_
          refine acode_region ?_
          refine acode_cond rfl (fun h23 => ?_) (fun h23 => ?_)
          · skip
            refine acode_seq ?_
            refine acode_region ?_
            refine acode_ret ?_
            rfl
          · try simp only [decide_eq_true_eq, decide_eq_false_iff_not, Bool.and_eq_true, Bool.not_eq_true', Bool.not_eq_false', Bool.or_eq_false_iff, Bool.or_eq_true, Bool.and_eq_false_iff, Int.not_lt, Int.not_le] at h23
            try simp only [Int.toNat_natCast, dflt_sl, dflt_st, dflt_str, dflt_int, dflt_bool] at h23
            cases h23
    | inr l =>
      rw [hr] at hp
      have htot := parse_total hr
      refine acall_of (rs := [2]) Tryd.func10 rfl rfl rfl teOk rfl ?_
      refine acode_seq ?_
      refine acode_region ?_
      refine acode_seq ?_
      refine acode_seq ?_
      refine acode_region ?_
      refine Or.inl ?_
      refine And.intro (rfl) ?_
      refine Exists.intro _ (And.intro (alive_c) ?_)
      refine acode_cond rfl (fun h13 => ?_) (fun h13 => ?_)
      · try simp only [Bool.not_eq_true'] at h13
        try simp only [Int.toNat_natCast, dflt_sl, dflt_st, dflt_str, dflt_int, dflt_bool] at h13
        cases h13
      · try simp only [Bool.not_eq_false'] at h13
        try simp only [Int.toNat_natCast, dflt_sl, dflt_st, dflt_str, dflt_int, dflt_bool] at h13
        refine acode_skip ?_
        refine acode_seq ?_
        refine acode_seq ?_
        refine acode_region ?_
        refine acode_cond rfl (fun h16 => ?_) (fun h16 => ?_)
        · try simp only [decide_eq_true_eq] at h16
          try simp only [Int.toNat_natCast, dflt_sl, dflt_st, dflt_str, dflt_int, dflt_bool] at h16
          omega
        · try simp only [decide_eq_false_iff_not, Int.not_lt] at h16
          try simp only [Int.toNat_natCast, dflt_sl, dflt_st, dflt_str, dflt_int, dflt_bool] at h16
          refine acode_skip ?_
          refine acode_seq ?_
          refine acode_region ?_
          refine Or.inl ?_
          refine And.intro (rfl) ?_
          refine Exists.intro _ (And.intro (hp) ?_)
          refine acode_seq ?_
          refine acode_seq ?_
          refine acode_region ?_
          refine acode_cond rfl (fun h23 => ?_) (fun h23 => ?_)
          · try simp only [Bool.not_eq_true'] at h23
            try simp only [Int.toNat_natCast, dflt_sl, dflt_st, dflt_str, dflt_int, dflt_bool] at h23
            cases h23
          · try simp only [Bool.not_eq_false'] at h23
            try simp only [Int.toNat_natCast, dflt_sl, dflt_st, dflt_str, dflt_int, dflt_bool] at h23
            refine acode_skip ?_
            refine acode_seq ?_
            refine acode_region ?_
            refine acode_seq ?_
            refine acode_seq ?_
            refine acode_region ?_
            intro l9_1
            try simp only [Int.toNat_natCast, dflt_sl, dflt_st, dflt_str, dflt_int, dflt_bool] at l9_1
            refine acode_block ?_
            refine acode_loopP (fun (i : Nat) => i ≤ l.length) (fun (i : Nat) => [(0, is s), (3, .one (.sl rItm l)), (5, ii .i64 (szI (l.take i))), (24, .one (.sl rItm l)), (25, ii .i64 l.length), (26, ii .i64 i)]) (fun (i : Nat) => []) 0 (fun (i : Nat) => l.length - i) 0 (Nat.zero_le _) (le_of ⟨rfl, rfl, rfl, rfl, rfl, rfl⟩ trivial rfl) ?_
            intro i hI0
            refine acode_seq ?_
            refine acode_region ?_
            refine acode_seq ?_
            refine acode_cond rfl (fun h27 => ?_) (fun h27 => ?_)
            · try simp only [decide_eq_true_eq] at h27
              try simp only [Int.toNat_natCast, dflt_sl, dflt_st, dflt_str, dflt_int, dflt_bool] at h27
              have hil : i < l.length := (by omega)
              have hs1 := szI_succ hil
              have hs2 := szI_le l (i + 1)
              refine acode_skip ?_
              refine acode_seq ?_
              refine acode_block ?_
              refine acode_seq ?_
              refine acode_region ?_
              refine And.intro (by first | omega | assumption | decide | (simp only [Int.toNat_natCast, dflt_sl, dflt_st, dflt_str, dflt_int, dflt_bool]; omega) | (simp <;> omega)) ?_
              refine acode_seq ?_
              refine acode_region ?_
              refine And.intro (by show _ ≤ (szI (l.take i) : Int) + ((l.getD i ((0 : Int), ByteArray.empty, ([] : List Fld))).2.1.size : Nat) ∧ (szI (l.take i) : Int) + ((l.getD i ((0 : Int), ByteArray.empty, ([] : List Fld))).2.1.size : Nat) ≤ _; omega) ?_
              refine acode_seq ?_
              refine acode_seq ?_
              refine acode_region ?_
              refine acode_cond rfl (fun h38 => ?_) (fun h38 => ?_)
              · try simp only [decide_eq_false_iff_not, Bool.not_eq_true'] at h38
                try simp only [Int.toNat_natCast, dflt_sl, dflt_st, dflt_str, dflt_int] at h38
                refine acode_exit ?_
                refine acode_region ?_
                refine And.intro (by first | omega | assumption | decide | (simp only [Int.toNat_natCast, dflt_sl, dflt_st, dflt_str, dflt_int, dflt_bool]; omega) | (simp <;> omega)) ?_
                exact ⟨i + 1, by omega, by first | omega | (simp <;> omega), le_of ⟨rfl, rfl, (ii_eq (by rw [hs1]; rfl)), rfl, rfl, (ii_eq (by omega))⟩ trivial rfl⟩
              · try simp only [decide_eq_true_eq, Bool.not_eq_false'] at h38
                try simp only [Int.toNat_natCast, dflt_sl, dflt_st, dflt_str, dflt_int] at h38
                refine acode_skip ?_
                refine acode_seq ?_
                refine acode_seq ?_
                refine acode_region ?_
                refine acode_cond rfl (fun h42 => ?_) (fun h42 => ?_)
                · try simp only [decide_eq_true_eq] at h42
                  try simp only [Int.toNat_natCast, dflt_sl, dflt_st, dflt_str, dflt_int] at h42
                  omega
                · try simp only [decide_eq_false_iff_not, Int.not_lt] at h42
                  try simp only [Int.toNat_natCast, dflt_sl, dflt_st, dflt_str, dflt_int] at h42
                  refine acode_skip ?_
                  refine acode_seq ?_
                  obtain ⟨hc1, hc2, hc3⟩ := parse_cuts hr hil (by have := h38; simpa [List.getD, hil] using this)
                  have e1 : parseS (s.extract 0 (szI (l.take i) + (l.getD i ((0 : Int), ByteArray.empty, ([] : List Fld))).2.1.size)) = .inr (l.take (i + 1)) := (by rw [ext_take, ← hs1]; exact hc2)
                  have e2 : parseS (s.extract (szI (l.take i) + (l.getD i ((0 : Int), ByteArray.empty, ([] : List Fld))).2.1.size) s.size) = .inr (l.drop (i + 1)) := (by rw [ext_drop, ← hs1]; exact hc3)
                  have hp1 := parse_a (s.extract 0 (szI (l.take i) + (l.getD i ((0 : Int), ByteArray.empty, ([] : List Fld))).2.1.size)) (by rw [ByteArray.size_extract]; omega)
                  have hp2 := parse_a (s.extract (szI (l.take i) + (l.getD i ((0 : Int), ByteArray.empty, ([] : List Fld))).2.1.size) s.size) (by rw [ByteArray.size_extract]; omega)
                  rw [e1] at hp1
                  rw [e2] at hp2
                  refine acode_region ?_
                  refine And.intro (by first | omega | assumption | decide | (simp only [Int.toNat_natCast, dflt_sl, dflt_st, dflt_str, dflt_int]; omega) | (simp <;> omega)) ?_
                  refine Or.inl ?_
                  refine And.intro (rfl) ?_
                  refine Exists.intro _ (And.intro (hp1) ?_)
                  refine acode_seq ?_
                  refine acode_region ?_
                  refine And.intro (by first | omega | assumption | decide | (simp only [Int.toNat_natCast, dflt_sl, dflt_st, dflt_str, dflt_int]; omega) | (simp <;> omega)) ?_
                  refine Or.inl ?_
                  refine And.intro (rfl) ?_
                  refine Exists.intro _ (And.intro (hp2) ?_)
                  refine acode_seq ?_
                  refine acode_region ?_
                  refine And.intro (fun h => trivial) ?_
                  refine And.intro (fun h => ⟨⟨h, trivial⟩, trivial⟩) ?_
                  refine And.intro (by first | (intro h; rw [h]; rfl) | (intro h; cases h)) ?_
                  refine And.intro (fun h => trivial) ?_
                  refine And.intro (fun h => trivial) ?_
                  refine And.intro (fun h => trivial) ?_
                  refine And.intro (fun h => ⟨⟨⟨h, trivial⟩, trivial⟩, by first | omega | decide | (simp only [Int.toNat_natCast, dflt_sl, dflt_st, dflt_str, dflt_int, dflt_bool]; omega) | (have h9 := of_decide_eq_true h; omega) | (simp [gq] at h; omega)⟩) ?_
                  refine And.intro (fun h => ⟨⟨⟨h, trivial⟩, ⟨h, trivial⟩, trivial⟩, by first | omega | decide | (simp only [Int.toNat_natCast, dflt_sl, dflt_st, dflt_str, dflt_int, dflt_bool]; omega) | (have h9 := of_decide_eq_true h; omega) | (simp [gq] at h; omega)⟩) ?_
                  refine And.intro (rfl) ?_
                  refine Exists.intro _ (And.intro (fun h => ⟨⟨⟨h, trivial⟩, ⟨h, trivial⟩, trivial⟩, items_c _ _⟩) ?_)
                  refine And.intro (fun h => ⟨⟨h, trivial⟩, trivial⟩) ?_
                  refine And.intro (by first | (intro h; rw [h]; rfl) | (intro h; cases h)) ?_
                  refine And.intro (fun h => trivial) ?_
                  refine And.intro (fun h => trivial) ?_
                  refine And.intro (fun h => trivial) ?_
                  refine And.intro (fun h => ⟨⟨⟨h, trivial⟩, trivial⟩, by first | omega | decide | (simp only [Int.toNat_natCast, dflt_sl, dflt_st, dflt_str, dflt_int, dflt_bool]; omega) | (have h9 := of_decide_eq_true h; omega) | (simp [gq] at h; omega)⟩) ?_
                  refine And.intro (fun h => ⟨⟨⟨h, trivial⟩, ⟨h, trivial⟩, trivial⟩, by first | omega | decide | (simp only [Int.toNat_natCast, dflt_sl, dflt_st, dflt_str, dflt_int, dflt_bool]; omega) | (have h9 := of_decide_eq_true h; omega) | (simp [gq] at h; omega)⟩) ?_
                  refine And.intro (rfl) ?_
                  refine Exists.intro _ (And.intro (fun h => ⟨⟨⟨h, trivial⟩, ⟨h, trivial⟩, trivial⟩, items_c _ _⟩) ?_)
                  refine And.intro (fun h => ⟨⟨h, trivial⟩, trivial⟩) ?_
                  refine And.intro (by first | (intro h; rw [h]; rfl) | (intro h; cases h)) ?_
                  refine acode_cond rfl (fun h80 => ?_) (fun h80 => ?_)
                  · try simp only [decide_eq_false_iff_not, Bool.not_eq_true', Bool.or_eq_true] at h80
                    try simp only [Int.toNat_natCast, dflt_sl, dflt_st, dflt_str, dflt_int, dflt_bool] at h80
                    have e3 : ((i : Int) + 1).toNat = i + 1 := (by omega)
                    rw [e3] at h80
                    simp at h80
                  · try simp only [decide_eq_true_eq, Bool.not_eq_false', Bool.or_eq_false_iff] at h80
                    try simp only [Int.toNat_natCast, dflt_sl, dflt_st, dflt_str, dflt_int, dflt_bool] at h80
                    refine acode_skip ?_
                    refine acode_region ?_
                    refine And.intro (by first | omega | assumption | decide | (simp only [Int.toNat_natCast, dflt_sl, dflt_st, dflt_str, dflt_int, dflt_bool]; omega) | (simp <;> omega)) ?_
                    exact ⟨i + 1, by omega, by first | omega | (simp <;> omega), le_of ⟨rfl, rfl, (ii_eq (by rw [hs1]; rfl)), rfl, rfl, (ii_eq (by omega))⟩ trivial rfl⟩
            · try simp only [decide_eq_false_iff_not, Int.not_lt] at h27
              try simp only [Int.toNat_natCast, dflt_sl, dflt_st, dflt_str, dflt_int, dflt_bool] at h27
              refine acode_exit ?_
              refine acode_seq ?_
              refine acode_region ?_
              refine acode_ret ?_
              exact ib_eq (decide_eq_true (by rw [List.take_of_length_le (by omega), htot]))
end Q
end Ab
end Go.Proofs.YtdedkoiodehmnaaDoor
namespace Go.Proofs.YtdedkoiodehmnaaDoor
open Go.RowKit
namespace Ab
set_option maxRecDepth 100000
namespace Q
structure SpI (s : ByteArray) (i at_ : Nat) (out : List Lne) : Prop where
  ai : at_ ≤ i
  is : i ≤ s.size
  no : (10 : UInt8) ∉ ((ls s).drop at_).take (i - at_)
  ol : out.length ≤ at_
  eq : ∃ f, ((ls s).drop at_).length ≤ f ∧ out ++ linesR f s.size out.length ((ls s).drop at_) = linesT s
theorem sp_0 (s : ByteArray) : SpI s 0 0 [] := ⟨Nat.le_refl _, Nat.zero_le _, by simp, Nat.le_refl _, s.size, by rw [List.drop_zero, show (ls s).length = s.size from (size_list s).symm]; exact Nat.le_refl _, rfl⟩
theorem sp_no {s : ByteArray} {i a : Nat} {out : List Lne} (h : SpI s i a out) (hi : i < s.size) (hc : ¬ (((ls s).getD i 0).toNat : Int) = 10) : SpI s (i + 1) a out := by
  have hl : i < (ls s).length := by rw [show (ls s).length = s.size from (size_list s).symm]; exact hi
  have ha := h.ai
  refine ⟨by omega, hi, ?_, h.ol, h.eq⟩
  rw [show i + 1 - a = (i - a) + 1 from by omega]
  refine no_step h.no (by rw [List.length_drop]; omega) ?_
  have : ((ls s).drop a).getD (i - a) 0 = (ls s).getD i 0 := by
    simp only [List.getD, List.getElem?_drop]
    rw [show a + (i - a) = i from by omega]
  rw [this]
  exact hc
theorem sp_yes {s : ByteArray} {i a : Nat} {out : List Lne} (h : SpI s i a out) (hi : i < s.size) (hc : (((ls s).getD i 0).toNat : Int) = 10) : SpI s (i + 1) (i + 1) (out ++ [((out.length : Int), (a : Int), s.extract a i, true)]) := by
  have hl : i < (ls s).length := by rw [show (ls s).length = s.size from (size_list s).symm]; exact hi
  have ha := h.ai
  have ho := h.ol
  obtain ⟨f, hf, e⟩ := h.eq
  have hb : (ls s).getD i 0 = 10 := by
    apply UInt8.toNat_inj.1
    have : ((ls s).getD i 0).toNat = 10 := by omega
    rw [this]; rfl
  have hr : (ls s).drop a = ((ls s).drop a).take (i - a) ++ 10 :: (ls s).drop (i + 1) := by
    conv => lhs; rw [← List.take_append_drop (i - a) ((ls s).drop a)]
    congr 1
    rw [List.drop_drop, show a + (i - a) = i from by omega, List.drop_eq_getElem_cons hl]
    congr 1
    rw [← hb, List.getD_eq_getElem?_getD, List.getElem?_eq_getElem hl]
    rfl
  have hc2 := cut_at (r := (ls s).drop (i + 1)) h.no
  rw [← hr] at hc2
  obtain ⟨y, w, hy⟩ : ∃ y w, (ls s).drop a = y :: w := by
    rw [hr]; cases ((ls s).drop a).take (i - a) <;> exact ⟨_, _, rfl⟩
  obtain ⟨f', rfl⟩ : ∃ f', f = f' + 1 := ⟨f - 1, by rw [hy, List.length_cons] at hf; omega⟩
  have hlen : ((ls s).drop a).length = s.size - a := by rw [List.length_drop, show (ls s).length = s.size from (size_list s).symm]
  refine ⟨Nat.le_refl _, hi, by simp, by rw [List.length_append, List.length_singleton]; omega, f', ?_, ?_⟩
  · rw [List.length_drop, show (ls s).length = s.size from (size_list s).symm]
    omega
  · rw [← e, List.append_assoc]
    congr 1
    rw [hy] at hc2 hlen ⊢
    rw [linesR_cons, hc2, hlen]
    simp only [List.singleton_append, List.length_append, List.length_singleton]
    congr 1
    refine Prod.ext rfl (Prod.ext (by simp only; omega) (Prod.ext ?_ rfl))
    show s.extract a i = bytes ((y :: w).take (i - a))
    rw [← hy]
    rw [← bytes_ls (s.extract a i)]
    congr 1
    exact extract_ls s a i
theorem sp_end {s : ByteArray} {a : Nat} {out : List Lne} (h : SpI s s.size a out) : (a < s.size → out ++ [((out.length : Int), (a : Int), s.extract a s.size, false)] = linesT s) ∧ (¬ a < s.size → out = linesT s) := by
  obtain ⟨f, hf, e⟩ := h.eq
  have hlen : ((ls s).drop a).length = s.size - a := by rw [List.length_drop, show (ls s).length = s.size from (size_list s).symm]
  have hno := h.no
  rw [List.take_of_length_le (by omega)] at hno
  refine ⟨fun hlt => ?_, fun hge => ?_⟩
  · rw [← e]
    congr 1
    obtain ⟨y, w, hy⟩ : ∃ y w, (ls s).drop a = y :: w := by
      cases e2 : (ls s).drop a with
      | nil => rw [e2] at hlen; simp at hlen; omega
      | cons y w => exact ⟨_, _, rfl⟩
    obtain ⟨f', rfl⟩ : ∃ f', f = f' + 1 := ⟨f - 1, by rw [hy, List.length_cons] at hf; omega⟩
    have hx : s.extract a s.size = bytes ((ls s).drop a) := ext_drop s a
    rw [hx]
    rw [hy] at hno hlen ⊢
    rw [linesR_cons, cut_none hno, hlen]
    rw [show linesR f' s.size ((out.length : Int) + 1) (y :: w, ([] : List UInt8), false).2.1 = [] from by cases f' <;> rfl]
    congr 1
    exact Prod.ext rfl (Prod.ext (by simp only; omega) rfl)
  · have : (ls s).drop a = [] := List.eq_nil_of_length_eq_zero (by omega)
    rw [← e, this]
    cases f <;> simp [linesR]
theorem refSplit_c (s : ByteArray) (hs : s.size ≤ 1000000) : ACall Tryd.prog 98 [is s] (.one (.sl rLne (linesT s))) := by
  refine acall_of (rs := [2]) Tryd.func98 rfl rfl rfl teOk rfl ?_
  refine acode_seq ?_
  refine acode_region ?_
  refine acode_seq ?_
  refine acode_region ?_
  refine acode_seq ?_
  refine acode_nilvec 3 134 rLne rfl ?_
  refine acode_region ?_
  refine acode_seq ?_
  refine acode_seq ?_
  refine acode_region ?_
  refine acode_block ?_
  refine acode_loopP (fun (u : Nat × Nat × List Lne) => SpI s u.1 u.2.1 u.2.2) (fun (u : Nat × Nat × List Lne) => [(0, is s), (3, .one (.vec 0)), (4, ii .i64 u.2.1), (5, ii .i64 u.1)]) (fun (u : Nat × Nat × List Lne) => [(0, .vec 134 rLne u.2.2)]) 1 (fun (u : Nat × Nat × List Lne) => s.size - u.1) (0, 0, []) (sp_0 s) (le_of ⟨rfl, rfl, rfl, rfl⟩ rfl rfl) ?_
  intro u hI0
  obtain ⟨i, a, out⟩ := u
  have hI : SpI s i a out := hI0
  have h1 := hI.ai
  have h2 := hI.is
  have h3 := hI.ol
  refine acode_seq ?_
  refine acode_seq ?_
  refine acode_region ?_
  refine acode_cond rfl (fun h9 => ?_) (fun h9 => ?_)
  · try simp only [decide_eq_true_eq] at h9
    try simp only [Int.toNat_natCast, dflt_sl, dflt_st, dflt_str, dflt_int, dflt_bool] at h9
    refine acode_skip ?_
    refine acode_seq ?_
    refine acode_block ?_
    refine acode_seq ?_
    refine acode_region ?_
    refine And.intro (by first | omega | assumption | decide | (simp only [Int.toNat_natCast, dflt_sl, dflt_st, dflt_str, dflt_int, dflt_bool]; omega) | (simp <;> omega)) ?_
    refine acode_cond rfl (fun h15 => ?_) (fun h15 => ?_)
    · try simp only [decide_eq_true_eq] at h15
      try simp only [Int.toNat_natCast] at h15
      refine acode_seq ?_
      refine acode_region ?_
      intro l7_2
      refine And.intro (by first | omega | assumption | decide | (simp only []; omega) | (simp <;> omega)) ?_
      refine And.intro (by first | exact app_le (by first | omega | (simp only [List.length_cons, List.length_nil]; omega) | (simp; omega)) (by decide) | omega | assumption | decide | (simp only [Int.toNat_natCast, dflt_sl, dflt_st, dflt_str, dflt_int, dflt_bool]; omega) | (simp <;> omega)) ?_
      refine acode_region ?_
      refine And.intro (by first | omega | assumption | decide | (simp only [Int.toNat_natCast, dflt_sl, dflt_st, dflt_str, dflt_int, dflt_bool]; omega) | (simp <;> omega)) ?_
      refine acode_region ?_
      refine And.intro (by first | omega | assumption | decide | (simp only [Int.toNat_natCast, dflt_sl, dflt_st, dflt_str, dflt_int, dflt_bool]; omega) | (simp <;> omega)) ?_
      exact ⟨(i + 1, i + 1, out ++ [((out.length : Int), (a : Int), s.extract a i, true)]), sp_yes hI (by omega) h15, by first | omega | (simp <;> omega), le_of ⟨rfl, rfl, rfl, rfl⟩ rfl rfl⟩
    · try simp only [decide_eq_false_iff_not] at h15
      try simp only [Int.toNat_natCast] at h15
      refine acode_skip ?_
      refine acode_region ?_
      refine And.intro (by first | omega | assumption | decide | (simp only [Int.toNat_natCast, dflt_sl, dflt_st, dflt_str, dflt_int, dflt_bool]; omega) | (simp <;> omega)) ?_
      exact ⟨(i + 1, a, out), sp_no hI (by omega) h15, by first | omega | (simp <;> omega), le_of ⟨rfl, rfl, rfl, rfl⟩ rfl rfl⟩
  · try simp only [decide_eq_false_iff_not, Int.not_lt] at h9
    try simp only [Int.toNat_natCast, dflt_sl, dflt_st, dflt_str, dflt_int, dflt_bool] at h9
    refine acode_exit ?_
    have hie : i = s.size := (by omega)
    subst hie
    have hE := sp_end hI
    refine acode_seq ?_
    refine acode_seq ?_
    refine acode_region ?_
    refine acode_cond rfl (fun h32 => ?_) (fun h32 => ?_)
    · try simp only [decide_eq_true_eq] at h32
      try simp only [Int.toNat_natCast, dflt_sl, dflt_st, dflt_str, dflt_int, dflt_bool] at h32
      refine acode_region ?_
      intro l10_2
      refine And.intro (by first | omega | assumption | decide | (simp only []; omega) | (simp <;> omega)) ?_
      refine And.intro (by first | exact app_le (by first | omega | (simp only [List.length_cons, List.length_nil]; omega) | (simp; omega)) (by decide) | omega | assumption | decide | (simp only [Int.toNat_natCast, dflt_sl, dflt_st, dflt_str, dflt_int, dflt_bool]; omega) | (simp <;> omega)) ?_
      refine acode_seq ?_
      refine acode_region ?_
      refine acode_ret ?_
      exact sl_eq (hE.1 (by omega))
    · try simp only [decide_eq_false_iff_not, Int.not_lt] at h32
      try simp only [Int.toNat_natCast, dflt_sl, dflt_st, dflt_str, dflt_int, dflt_bool] at h32
      refine acode_skip ?_
      refine acode_seq ?_
      refine acode_region ?_
      refine acode_ret ?_
      exact sl_eq (hE.2 (by omega))
def rawsL (l : List Itm) : List UInt8 := l.flatMap fun x => ls x.2.1
theorem raws_len (l : List Itm) : (rawsL l).length = szI l := by
  induction l with
  | nil => rfl
  | cons a r ih =>
    unfold rawsL szI at *
    simp only [List.flatMap_cons, List.length_append, List.map_cons, List.sum_cons, ih]
    rw [size_list]
theorem raws_snoc (l : List Itm) (i : Nat) (h : i < l.length) : rawsL (l.take (i + 1)) = rawsL (l.take i) ++ ls (l.getD i ((0 : Int), ByteArray.empty, ([] : List Fld))).2.1 := by
  unfold rawsL
  rw [List.take_succ_eq_append_getElem h, List.flatMap_append]
  simp [List.getD, h]
theorem szI_mem (l : List Itm) (i : Nat) (h : i < l.length) : szI (l.take i) + (l.getD i ((0 : Int), ByteArray.empty, ([] : List Fld))).2.1.size ≤ szI l := by
  rw [← szI_succ h]
  exact szI_le l (i + 1)
theorem joinI_c (l : List Itm) (hl : l.length ≤ 1000000) (hs : szI l ≤ 1000000) : ACall Tryd.prog 60 [.one (.sl rItm l)] (is (bytes (rawsL l))) := by
  refine acall_of (rs := [2]) Tryd.func60 rfl rfl rfl teOk rfl ?_
  refine acode_seq ?_
  refine acode_region ?_
  refine acode_seq ?_
  refine acode_region ?_
  refine acode_seq ?_
  refine acode_seq ?_
  refine acode_bld 0 5 (.int .u8) rfl ?_
  refine acode_region ?_
  intro l2_1
  try simp only [Int.toNat_natCast, dflt_sl, dflt_st, dflt_str, dflt_int, dflt_bool] at l2_1
  refine acode_block ?_
  refine acode_loopP (fun (x : Nat × Bool) => x.1 ≤ l.length) (fun (x : Nat × Bool) => [(3, .one (.own 0 0)), (6, .one (.sl rItm l)), (7, ii .i64 l.length), (8, ii .i64 x.1)]) (fun (x : Nat × Bool) => [(0, .box 92 [.nself x.2 0, .vec 1]), (1, .vec 5 (.int .u8) (intsOf (bytes (rawsL (l.take x.1)))))]) 2 (fun (x : Nat × Bool) => l.length - x.1) (0, false) (Nat.zero_le _) (le_of ⟨rfl, rfl, rfl, rfl⟩ ⟨rfl, rfl⟩ rfl) ?_
  intro ⟨i, u⟩ hI0
  simp only at hI0 ⊢
  refine acode_seq ?_
  refine acode_region ?_
  refine acode_seq ?_
  refine acode_cond rfl (fun h9 => ?_) (fun h9 => ?_)
  · try simp only [decide_eq_true_eq] at h9
    try simp only [Int.toNat_natCast, dflt_sl, dflt_st, dflt_str, dflt_int, dflt_bool] at h9
    have hlt : i < l.length := (by omega)
    have hm := szI_mem l i hlt
    have hr := raws_len (l.take i)
    refine acode_skip ?_
    refine acode_seq ?_
    refine acode_block ?_
    refine acode_seq ?_
    refine acode_region ?_
    refine And.intro (by first | omega | assumption | decide | (simp only [Int.toNat_natCast, dflt_sl, dflt_st, dflt_str, dflt_int, dflt_bool]; omega) | (simp <;> omega)) ?_
    refine acode_region ?_
    refine Or.inr (Exists.intro [] (Exists.intro [0, 1] (Exists.intro _ (Exists.intro _ (Exists.intro _ (Exists.intro _ (Exists.intro _ (And.intro (writeString_o _ _ _ (by rw [ints_len, hr]; show _ + (l.getD i ((0 : Int), ByteArray.empty, ([] : List Fld))).2.1.size ≤ _; omega)) (And.intro rfl (And.intro (And.intro (And.intro rfl rfl) (And.intro (And.intro rfl rfl) True.intro)) (And.intro rfl ?_)))))))))))
    refine acode_region ?_
    refine And.intro (by first | omega | assumption | decide | (simp only [Int.toNat_natCast, dflt_sl, dflt_st, dflt_str, dflt_int, dflt_bool]; omega) | (simp <;> omega)) ?_
    exact ⟨(i + 1, true), (by simp only; omega), by first | omega | (simp <;> omega), le_of ⟨rfl, rfl, rfl, (ii_eq (by simp only; omega))⟩ ⟨rfl, (vec_eq (by simp only; rw [raws_snoc l i hlt]; exact ints_add _ _ _ (bytes_ls _).symm))⟩ rfl⟩
  · try simp only [decide_eq_false_iff_not, Int.not_lt] at h9
    try simp only [Int.toNat_natCast, dflt_sl, dflt_st, dflt_str, dflt_int, dflt_bool] at h9
    refine acode_exit ?_
    refine acode_seq ?_
    refine acode_region ?_
    refine Or.inr (Exists.intro [] (Exists.intro [0, 1] (Exists.intro _ (Exists.intro _ (Exists.intro _ (Exists.intro _ (Exists.intro _ (And.intro (string_o _ _) (And.intro rfl (And.intro (And.intro (And.intro rfl rfl) (And.intro (And.intro rfl rfl) True.intro)) (And.intro rfl ?_)))))))))))
    refine acode_ret ?_
    rw [List.take_of_length_le (by omega)]
    rfl
theorem refKindL_c (s : ByteArray) (hs : s.size ≤ 1000000000) : ACall Tryd.prog 81 [is s] (ii .i64 (kindL (ls s))) := refKind_c s hs
theorem beh_eq (k : List Int) (i : Nat) : (decide (0 < (i : Int)) && (decide (k.getD ((i : Int) - 1).toNat (Rd.int IntKind.i64).dflt = 4) || decide (k.getD ((i : Int) - 1).toNat (Rd.int IntKind.i64).dflt = 3))) = (decide (0 < i) && (decide (k.getD (i - 1) 0 = 4) || decide (k.getD (i - 1) 0 = 3))) := by
  have h : ((i : Int) - 1).toNat = i - 1 := by omega
  have h0 : decide (0 < (i : Int)) = decide (0 < i) := decide_eq_decide.2 (by omega)
  rw [h, h0]
  rfl
theorem behind_c (k : List Int) (i : Nat) (hi : i < k.length) (hk : k.length ≤ 1000000) : ACall Tryd.prog 133 [.one (.sl (.int .i64) k), ii .i64 i] (ib (decide (0 < i) && (decide (k.getD (i - 1) 0 = 4) || decide (k.getD (i - 1) 0 = 3)))) := by
  refine acall_of (rs := [4]) Tryd.func133 rfl rfl rfl teOk rfl ?_
  refine acode_seq ?_
  refine acode_region ?_
  refine acode_seq ?_
  refine acode_region ?_
  refine And.intro (fun h => trivial) ?_
  refine And.intro (fun h => trivial) ?_
  refine And.intro (fun h => ⟨⟨⟨h, trivial⟩, trivial⟩, by first | omega | decide | (simp only [Int.toNat_natCast, dflt_sl, dflt_st, dflt_str, dflt_int, dflt_bool]; omega) | (have h9 := of_decide_eq_true h; omega) | (simp [gq] at h; omega)⟩) ?_
  refine And.intro (fun h => ⟨⟨⟨h, trivial⟩, ⟨h, trivial⟩, trivial⟩, by first | omega | decide | (simp only [Int.toNat_natCast, dflt_sl, dflt_st, dflt_str, dflt_int, dflt_bool]; omega) | (have h9 := of_decide_eq_true h; omega) | (simp [gq] at h; omega)⟩) ?_
  refine And.intro (fun h => ⟨⟨h, trivial⟩, trivial⟩) ?_
  refine And.intro (fun h => ⟨⟨h, trivial⟩, trivial⟩) ?_
  refine And.intro (fun h => ⟨⟨h, trivial⟩, trivial⟩) ?_
  refine And.intro (fun h => trivial) ?_
  refine And.intro (fun h => trivial) ?_
  refine And.intro (fun h => ⟨⟨⟨h, trivial⟩, trivial⟩, by first | omega | decide | (simp only [Int.toNat_natCast, dflt_sl, dflt_st, dflt_str, dflt_int, dflt_bool]; omega) | (have h9 := of_decide_eq_true h; omega) | (simp [gq] at h; omega)⟩) ?_
  refine And.intro (fun h => ⟨⟨⟨h, trivial⟩, ⟨h, trivial⟩, trivial⟩, by first | omega | decide | (simp only [Int.toNat_natCast, dflt_sl, dflt_st, dflt_str, dflt_int, dflt_bool]; omega) | (have h9 := of_decide_eq_true h; omega) | (simp [gq] at h; omega)⟩) ?_
  refine And.intro (fun h => ⟨⟨h, trivial⟩, trivial⟩) ?_
  refine And.intro (fun h => ⟨⟨h, trivial⟩, trivial⟩) ?_
  refine And.intro (fun h => ⟨⟨⟨h, trivial⟩, trivial⟩, by first | exact fun h2 => h2 | (intro h2; rw [h, h2]; rfl) | (intro h2; cases h2) | (intro h2; simp_all [gq])⟩) ?_
  refine And.intro (by exact fun h => h) ?_
  refine acode_ret ?_
  exact ib_eq (beh_eq k i)
theorem getD_get {α : Type} {l : List α} {i : Nat} (h : i < l.length) (d : α) : l[i] = l.getD i d := by
  rw [List.getD_eq_getElem?_getD, List.getElem?_eq_getElem h]
  rfl
theorem kind_at {L : List Lne} {k : List Int} (hk : k = L.map (fun l => kindL (ls l.2.2.1))) {n : Nat} (h : n < L.length) : k.getD n 0 = kindL (ls (L.getD n ((0 : Int), (0 : Int), ByteArray.empty, false)).2.2.1) := by
  subst hk
  simp [List.getD, h]
theorem tw_stop {L : List Lne} {j : Nat} (h : (L.take j).all more = true) (hs : L.length ≤ j ∨ (j < L.length ∧ more (L.getD j ((0 : Int), (0 : Int), ByteArray.empty, false)) = false)) : L.takeWhile more = L.take j := by
  conv => lhs; rw [← List.take_append_drop j L]
  rw [List.takeWhile_append_of_pos (by simpa [List.all_eq_true] using h)]
  have : (L.drop j).takeWhile more = [] := by
    rcases hs with hs | ⟨hs, hm⟩
    · rw [List.drop_eq_nil_of_le hs]; rfl
    · rw [List.drop_eq_getElem_cons hs, List.takeWhile_cons_of_neg]
      rw [show L[j] = L.getD j ((0 : Int), (0 : Int), ByteArray.empty, false) from by simp [List.getD, hs], hm]
      decide
  rw [this, List.append_nil]
theorem drop_getL {L : List Lne} {i j : Nat} : (L.drop (i + 1)).getD j ((0 : Int), (0 : Int), ByteArray.empty, false) = L.getD (i + 1 + j) ((0 : Int), (0 : Int), ByteArray.empty, false) := by
  simp only [List.getD, List.getElem?_drop]
theorem tw_more {L : List Lne} {i j : Nat} (h : ((L.drop (i + 1)).take j).all more = true) (hj : j < L.length - (i + 1)) (hm : kindL (ls (L.getD (i + 1 + j) ((0 : Int), (0 : Int), ByteArray.empty, false)).2.2.1) = 3) : ((L.drop (i + 1)).take (j + 1)).all more = true := by
  have hlt : j < (L.drop (i + 1)).length := by rw [List.length_drop]; exact hj
  rw [List.take_succ_eq_append_getElem hlt, List.all_append, h]
  rw [getD_get hlt ((0 : Int), (0 : Int), ByteArray.empty, false), drop_getL]
  simp only [List.all_cons, List.all_nil, Bool.and_true, Bool.true_and]
  exact decide_eq_true hm
theorem said_next {L : List Lne} {i j : Nat} (hj : j < L.length - (i + 1)) : ((L.drop (i + 1)).take (j + 1)).map (·.2.2.1) = ((L.drop (i + 1)).take j).map (·.2.2.1) ++ [(L.getD (i + 1 + j) ((0 : Int), (0 : Int), ByteArray.empty, false)).2.2.1] := by
  have hlt : j < (L.drop (i + 1)).length := by rw [List.length_drop]; exact hj
  rw [List.take_succ_eq_append_getElem hlt, List.map_append]
  rw [getD_get hlt ((0 : Int), (0 : Int), ByteArray.empty, false), drop_getL]
  rfl
theorem said_c (L : List Lne) (k : List Int) (hk : k = L.map (fun l => kindL (ls l.2.2.1))) (i : Nat) (hi : i < L.length) (hL : L.length ≤ 1000000) : ACall Tryd.prog 100 [.one (.sl rLne L), .one (.sl (.int .i64) k), ii .i64 i] (.one (.sl .str (saidL (L.getD i ((0 : Int), (0 : Int), ByteArray.empty, false)) (L.drop (i + 1))))) := by
  have hkl : k.length = L.length := by rw [hk, List.length_map]
  refine acall_of (rs := [6]) Tryd.func100 rfl rfl rfl teOk rfl ?_
  refine acode_seq ?_
  refine acode_region ?_
  refine acode_seq ?_
  refine acode_region ?_
  refine And.intro (by first | omega | assumption | decide | (simp only [Int.toNat_natCast, dflt_sl, dflt_st, dflt_str, dflt_int, dflt_bool]; omega) | (simp <;> omega)) ?_
  refine acode_seq ?_
  refine acode_seq ?_
  refine acode_region ?_
  refine And.intro (by first | omega | assumption | decide | (simp only [Int.toNat_natCast, dflt_sl, dflt_st, dflt_str, dflt_int, dflt_bool]; omega) | (simp <;> omega)) ?_
  refine acode_block ?_
  refine acode_loopP (fun (j : Nat) => j ≤ L.length - (i + 1) ∧ ((L.drop (i + 1)).take j).all more = true) (fun (j : Nat) => [(0, .one (.sl rLne L)), (1, .one (.sl (.int .i64) k)), (7, .one (.vec 0)), (8, ii .i64 ((i : Int) + 1 + j))]) (fun (j : Nat) => [(0, .vec 9 .str ((L.getD i ((0 : Int), (0 : Int), ByteArray.empty, false)).2.2.1 :: ((L.drop (i + 1)).take j).map (·.2.2.1)))]) 1 (fun (j : Nat) => L.length - (i + 1) - j) 0 (⟨Nat.zero_le _, by simp⟩) (le_of ⟨rfl, rfl, rfl, (ii_eq (by omega))⟩ rfl rfl) ?_
  intro j hI0
  obtain ⟨hj, hall⟩ := hI0
  have ej : ((i : Int) + 1 + j).toNat = i + 1 + j := (by omega)
  refine acode_seq ?_
  refine acode_seq ?_
  refine acode_region ?_
  intro l3_2
  try simp only [Int.toNat_natCast, dflt_sl, dflt_st, dflt_str, dflt_int, dflt_bool] at l3_2
  refine And.intro (fun h => trivial) ?_
  refine And.intro (fun h => trivial) ?_
  refine And.intro (fun h => ⟨⟨⟨h, trivial⟩, ⟨h, trivial⟩, trivial⟩, by first | omega | decide | (simp only [Int.toNat_natCast, dflt_sl, dflt_st, dflt_str, dflt_int, dflt_bool]; omega) | (have h9 := of_decide_eq_true h; omega) | (simp [gq] at h; omega)⟩) ?_
  refine And.intro (fun h => ⟨⟨h, trivial⟩, trivial⟩) ?_
  refine And.intro (fun h => ⟨⟨h, trivial⟩, trivial⟩) ?_
  refine And.intro (by exact fun h => h) ?_
  refine acode_cond rfl (fun h27 => ?_) (fun h27 => ?_)
  · try simp only [decide_eq_true_eq, Bool.and_eq_true] at h27
    try simp only [dflt_int] at h27
    have hjl : j < L.length - (i + 1) := (by omega)
    rw [ej, kind_at hk (by omega)] at h27
    refine acode_skip ?_
    refine acode_seq ?_
    refine acode_block ?_
    refine acode_region ?_
    refine And.intro (by first | omega | assumption | decide | (simp only [Int.toNat_natCast, dflt_sl, dflt_st, dflt_str, dflt_int, dflt_bool]; omega) | (simp <;> omega)) ?_
    refine And.intro (by first | exact app_le (by first | omega | (simp only [List.length_cons, List.length_nil, List.length_map, List.length_take, List.length_drop]; omega) | (simp; omega)) (by decide) | omega | assumption | decide | (simp only [Int.toNat_natCast, dflt_sl, dflt_st, dflt_str, dflt_int, dflt_bool]; omega) | (simp <;> omega)) ?_
    refine acode_region ?_
    refine And.intro (by first | omega | assumption | decide | (simp only [Int.toNat_natCast, dflt_sl, dflt_st, dflt_str, dflt_int, dflt_bool]; omega) | (simp <;> omega)) ?_
    exact ⟨j + 1, ⟨by omega, tw_more hall hjl h27.2⟩, by first | omega | (simp <;> omega), le_of ⟨rfl, rfl, rfl, (ii_eq (by omega))⟩ (vec_eq (by rw [ej, said_next hjl]; rfl)) rfl⟩
  · try simp only [decide_eq_false_iff_not, Bool.and_eq_false_iff, Int.not_lt] at h27
    try simp only [dflt_int] at h27
    rw [ej] at h27
    refine acode_exit ?_
    refine acode_seq ?_
    refine acode_region ?_
    refine acode_ret ?_
    have htw := tw_stop hall (by rcases h27 with h27 | h27; exact .inl (by rw [List.length_drop]; omega); by_cases hjl : j < L.length - (i + 1); exact .inr ⟨by rw [List.length_drop]; exact hjl, by rw [drop_getL]; rw [kind_at hk (by omega)] at h27; unfold more; exact decide_eq_false h27⟩; exact .inl (by rw [List.length_drop]; omega))
    unfold saidL
    rw [htw]
    rfl
theorem unfold_any (l : List ByteArray) (hl : LinesOk l) : ACall Tryd.prog 32 [.one (.sl .str l)] (.tup [(true, [.lit (.string (fldOf l).1), .lit (.string (fldOf l).2)]), (false, [.lit (.int .i64 (unfoldL (l.map ls)).2)])]) := by
  cases l with
  | nil => exact refUnfold_e
  | cons a r => exact refUnfold_c a r hl
theorem wrong_c (L : List Lne) (k : List Int) (hk : k = L.map (fun l => kindL (ls l.2.2.1))) (i : Nat) (hi : i < L.length) (hL : L.length ≤ 1000000) (hz : LinesOk (saidL (L.getD i ((0 : Int), (0 : Int), ByteArray.empty, false)) (L.drop (i + 1)))) (fields recs : Int) (bh : Bool) (hbh : (decide (0 < i) && (decide (k.getD (i - 1) 0 = 4) || decide (k.getD (i - 1) 0 = 3))) = bh) : ACall Tryd.prog 99 [.one (.sl rLne L), .one (.sl (.int .i64) k), ii .i64 i, ii .i64 fields, ii .i64 recs] (ii .i64 (wrongL bh (L.getD i ((0 : Int), (0 : Int), ByteArray.empty, false)) (L.drop (i + 1)) fields recs)) := by
  have hkl : k.length = L.length := by rw [hk, List.length_map]
  have hki := kind_at hk hi
  have hbc := behind_c k i (by omega) (by omega)
  rw [hbh] at hbc
  refine acall_of (rs := [10]) Tryd.func99 rfl rfl rfl teOk rfl ?_
  refine acode_seq ?_
  refine acode_region ?_
  refine acode_seq ?_
  refine acode_seq ?_
  refine acode_region ?_
  refine And.intro (by first | omega | assumption | decide | (simp only [Int.toNat_natCast, dflt_sl, dflt_st, dflt_str, dflt_int, dflt_bool]; omega) | (simp <;> omega)) ?_
  refine And.intro (fun h => trivial) ?_
  refine And.intro (fun h => trivial) ?_
  refine And.intro (fun h => ⟨⟨⟨h, trivial⟩, ⟨h, trivial⟩, trivial⟩, by first | omega | decide | (simp only [Int.toNat_natCast, dflt_sl, dflt_st, dflt_str, dflt_int, dflt_bool]; omega) | (have h9 := of_decide_eq_true h; omega) | (simp [gq] at h; omega)⟩) ?_
  refine And.intro (fun h => ⟨⟨h, trivial⟩, trivial⟩) ?_
  refine And.intro (fun h => ⟨⟨h, trivial⟩, trivial⟩) ?_
  refine And.intro (fun h => ⟨⟨h, trivial⟩, trivial⟩) ?_
  refine And.intro (fun h => trivial) ?_
  refine And.intro (fun h => trivial) ?_
  refine And.intro (rfl) ?_
  refine Exists.intro _ (And.intro (fun h => ⟨⟨⟨h, trivial⟩, ⟨h, trivial⟩, trivial⟩, hbc⟩) ?_)
  refine And.intro (fun h => ⟨⟨h, trivial⟩, trivial⟩) ?_
  refine And.intro (fun h => ⟨⟨⟨h, trivial⟩, trivial⟩, by first | exact fun h2 => h2 | (intro h2; rw [h, h2]; rfl) | (intro h2; cases h2) | (intro h2; simp_all [gq])⟩) ?_
  refine And.intro (by first | (intro h; rw [h]; rfl) | (intro h; cases h)) ?_
  refine And.intro (fun h => trivial) ?_
  refine And.intro (fun h => trivial) ?_
  refine And.intro (fun h => ⟨⟨⟨h, trivial⟩, ⟨h, trivial⟩, trivial⟩, by first | omega | decide | (simp only [Int.toNat_natCast, dflt_sl, dflt_st, dflt_str, dflt_int, dflt_bool]; omega) | (have h9 := of_decide_eq_true h; omega) | (simp [gq] at h; omega)⟩) ?_
  refine And.intro (fun h => ⟨⟨h, trivial⟩, trivial⟩) ?_
  refine And.intro (fun h => ⟨⟨h, trivial⟩, trivial⟩) ?_
  refine And.intro (fun h => ⟨⟨h, trivial⟩, trivial⟩) ?_
  refine And.intro (by first | (intro h; rw [h]; rfl) | (intro h; cases h)) ?_
  refine acode_cond rfl (fun h38 => ?_) (fun h38 => ?_)
  · try simp only [decide_eq_true_eq, Bool.and_eq_true, Bool.not_eq_true', Bool.or_eq_true] at h38
    try simp only [Int.toNat_natCast, dflt_st, dflt_str, dflt_int, dflt_bool] at h38
    rw [hki] at h38
    refine acode_seq ?_
    refine acode_region ?_
    refine acode_ret ?_
    refine ii_eq (Eq.symm ?_)
    unfold wrongL
    exact if_pos (h38.elim (fun h => h.elim .inl (fun h => .inr (.inl h))) (fun h => .inr (.inr h)))
  · try simp only [decide_eq_false_iff_not, Bool.not_eq_false', Bool.or_eq_false_iff, Bool.and_eq_false_iff] at h38
    try simp only [Int.toNat_natCast, dflt_st, dflt_str, dflt_int, dflt_bool] at h38
    rw [hki] at h38
    have hneg : ¬ (kindL (ls (L.getD i ((0 : Int), (0 : Int), ByteArray.empty, false)).2.2.1) = 5 ∨ (kindL (ls (L.getD i ((0 : Int), (0 : Int), ByteArray.empty, false)).2.2.1) = 3 ∧ bh = false) ∨ (L.getD i ((0 : Int), (0 : Int), ByteArray.empty, false)).2.2.2 = false) := (by rintro (h|⟨h, h'⟩|h); exact h38.1.1 h; rcases h38.1.2 with g|g; exact g h; rw [g] at h'; cases h'; rw [h38.2] at h; cases h)
    refine acode_skip ?_
    refine acode_seq ?_
    refine acode_seq ?_
    refine acode_region ?_
    refine And.intro (by first | omega | assumption | decide | (simp only [Int.toNat_natCast, dflt_sl, dflt_st, dflt_str, dflt_int, dflt_bool]; omega) | (simp <;> omega)) ?_
    refine acode_cond rfl (fun h43 => ?_) (fun h43 => ?_)
    · try simp only [decide_eq_false_iff_not, Bool.not_eq_true'] at h43
      try simp only [Int.toNat_natCast, dflt_int] at h43
      rw [hki] at h43
      refine acode_seq ?_
      refine acode_region ?_
      refine acode_ret ?_
      refine ii_eq (Eq.symm ?_)
      unfold wrongL
      rw [if_neg hneg, if_pos h43]
    · try simp only [decide_eq_true_eq, Bool.not_eq_false'] at h43
      try simp only [Int.toNat_natCast, dflt_int] at h43
      rw [hki] at h43
      refine acode_skip ?_
      refine acode_seq ?_
      refine acode_seq ?_
      refine acode_region ?_
      refine Or.inl ?_
      refine And.intro (rfl) ?_
      refine Exists.intro _ (And.intro (said_c L k hk i hi hL) ?_)
      refine Or.inl ?_
      refine And.intro (rfl) ?_
      refine Exists.intro _ (And.intro (unfold_any _ hz) ?_)
      refine acode_seq ?_
      refine acode_region ?_
      refine acode_cond rfl (fun h53 => ?_) (fun h53 => ?_)
      · try simp only [decide_eq_false_iff_not, Bool.not_eq_true'] at h53
        try simp only [Int.toNat_natCast, dflt_sl, dflt_st, dflt_str, dflt_int, dflt_bool] at h53
        refine acode_seq ?_
        refine acode_region ?_
        refine acode_ret ?_
        refine ii_eq (Eq.symm ?_)
        unfold wrongL
        rw [if_neg hneg, if_neg (by rw [h43]; simp), if_pos h53]
      · try simp only [decide_eq_true_eq, Bool.not_eq_false'] at h53
        try simp only [Int.toNat_natCast, dflt_sl, dflt_st, dflt_str, dflt_int, dflt_bool] at h53
        refine acode_skip ?_
        refine acode_seq ?_
        refine acode_seq ?_
        refine acode_region ?_
        refine And.intro (fun h => trivial) ?_
        refine And.intro (fun h => ⟨⟨h, trivial⟩, trivial⟩) ?_
        refine And.intro (fun h => ⟨⟨h, trivial⟩, trivial⟩) ?_
        refine And.intro (fun h => trivial) ?_
        refine And.intro (fun h => ⟨⟨h, trivial⟩, trivial⟩) ?_
        refine And.intro (fun h => ⟨⟨⟨h, trivial⟩, trivial⟩, by first | exact fun h2 => h2 | (intro h2; rw [h, h2]; rfl) | (intro h2; cases h2) | (intro h2; simp_all [gq])⟩) ?_
        refine And.intro (by first | (intro h; rw [h]; rfl) | (intro h; cases h)) ?_
        refine acode_cond rfl (fun h64 => ?_) (fun h64 => ?_)
        · try simp only [decide_eq_true_eq, Bool.and_eq_true, Bool.or_eq_true] at h64
          try simp only [Int.toNat_natCast, dflt_sl, dflt_st, dflt_str, dflt_int, dflt_bool] at h64
          refine acode_seq ?_
          refine acode_region ?_
          refine acode_ret ?_
          refine ii_eq (Eq.symm ?_)
          unfold wrongL
          rw [if_neg hneg, if_neg (by rw [h43]; simp), if_neg (by rw [h53]; simp), if_pos h64]
        · try simp only [decide_eq_false_iff_not, Bool.or_eq_false_iff, Bool.and_eq_false_iff, Int.not_le] at h64
          try simp only [Int.toNat_natCast, dflt_sl, dflt_st, dflt_str, dflt_int, dflt_bool] at h64
          refine acode_skip ?_
          refine acode_seq ?_
          refine acode_region ?_
          refine acode_ret ?_
          refine ii_eq (Eq.symm ?_)
          unfold wrongL
          rw [if_neg hneg, if_neg (by rw [h43]; simp), if_neg (by rw [h53]; simp), if_neg (by rintro (h|⟨h, h'⟩); omega; rcases h64.2 with g|g; exact g h; omega)]
end Q
end Ab
end Go.Proofs.YtdedkoiodehmnaaDoor
namespace Go.Proofs.YtdedkoiodehmnaaDoor
open Go.RowKit
namespace Ab
set_option maxRecDepth 100000
namespace Q
theorem linesR_no : ∀ (f : Nat) (tot no : Int) (s : List UInt8) (i : Nat), i < (linesR f tot no s).length → ((linesR f tot no s).getD i ((0 : Int), (0 : Int), ByteArray.empty, false)).1 = no + i
  | 0, _, _, _, i, h => by simp [linesR] at h
  | f + 1, _, _, [], i, h => by simp [linesR] at h
  | f + 1, tot, no, a :: r, i, h => by
    rw [linesR_cons] at h ⊢
    cases i with
    | zero => simp
    | succ i =>
      have := linesR_no f tot (no + 1) (Lib.cut (a :: r) [10]).2.1 i (by simpa using h)
      rw [List.getD_cons_succ, this]
      omega
def bhI (k : List Int) (i : Nat) : Bool := decide (0 < i) && (decide (k.getD (i - 1) 0 = 4) || decide (k.getD (i - 1) 0 = 3))
/-- What the document's answer holds ahead of a line. -/
structure RI (L : List Lne) (k : List Int) (i : Nat) (t : RSt) : Prop where
  il : i ≤ L.length
  eq : runR false rst0 L = runR (bhI k i) t (L.drop i)
  r0 : 0 ≤ t.recs
  ri : t.recs ≤ i
  oi : t.out.length ≤ 2 * i
  fi : t.flds.length ≤ i
  rw_ : t.raw.size ≤ ((L.take i).map (fun l => l.2.2.1.size + 1)).sum
  rd : t.raw = ByteArray.empty ↔ t.raw.size = 0
theorem ri_0 (L : List Lne) (k : List Int) : RI L k 0 rst0 := ⟨Nat.zero_le _, rfl, Int.le_refl _, Int.le_refl _, Nat.le_refl _, Nat.le_refl _, Nat.zero_le _, ⟨fun _ => rfl, fun _ => rfl⟩⟩
theorem size0 (s : ByteArray) : s = ByteArray.empty ↔ s.size = 0 := by
  refine ⟨fun h => by rw [h]; rfl, fun h => ?_⟩
  rw [size_list] at h
  have := List.eq_nil_of_length_eq_zero h
  rw [← bytes_ls s, show ls s = [] from this]; rfl
theorem sum_succ (L : List Lne) (i : Nat) (h : i < L.length) : ((L.take (i + 1)).map (fun l => l.2.2.1.size + 1)).sum = ((L.take i).map (fun l => l.2.2.1.size + 1)).sum + ((L.getD i ((0 : Int), (0 : Int), ByteArray.empty, false)).2.2.1.size + 1) := by
  rw [List.take_succ_eq_append_getElem h, List.map_append, List.sum_append, ← getD_get h ((0 : Int), (0 : Int), ByteArray.empty, false)]
  simp
theorem ri_eq {L : List Lne} {k : List Int} {i : Nat} {t : RSt} (h : RI L k i t) (hi : i < L.length) : runR false rst0 L = if wrongL (bhI k i) (L.getD i ((0 : Int), (0 : Int), ByteArray.empty, false)) (L.drop (i + 1)) t.flds.length t.recs ≠ 0 then .inl ((L.getD i ((0 : Int), (0 : Int), ByteArray.empty, false)).1, wrongL (bhI k i) (L.getD i ((0 : Int), (0 : Int), ByteArray.empty, false)) (L.drop (i + 1)) t.flds.length t.recs) else runR (decide (kindL (ls (L.getD i ((0 : Int), (0 : Int), ByteArray.empty, false)).2.2.1) = 4) || decide (kindL (ls (L.getD i ((0 : Int), (0 : Int), ByteArray.empty, false)).2.2.1) = 3)) (stepR t (L.getD i ((0 : Int), (0 : Int), ByteArray.empty, false)) (L.drop (i + 1))) (L.drop (i + 1)) := by
  rw [h.eq, List.drop_eq_getElem_cons hi, getD_get hi ((0 : Int), (0 : Int), ByteArray.empty, false)]
  rfl
theorem bh_next {L : List Lne} {k : List Int} (hk : k = L.map (fun l => kindL (ls l.2.2.1))) {i : Nat} (hi : i < L.length) : bhI k (i + 1) = (decide (kindL (ls (L.getD i ((0 : Int), (0 : Int), ByteArray.empty, false)).2.2.1) = 4) || decide (kindL (ls (L.getD i ((0 : Int), (0 : Int), ByteArray.empty, false)).2.2.1) = 3)) := by
  unfold bhI
  rw [Nat.add_sub_cancel, kind_at hk hi]
  simp
theorem ri_next {L : List Lne} {k : List Int} (hk : k = L.map (fun l => kindL (ls l.2.2.1))) {i : Nat} {t : RSt} (h : RI L k i t) (hi : i < L.length) (hw : wrongL (bhI k i) (L.getD i ((0 : Int), (0 : Int), ByteArray.empty, false)) (L.drop (i + 1)) t.flds.length t.recs = 0) : RI L k (i + 1) (stepR t (L.getD i ((0 : Int), (0 : Int), ByteArray.empty, false)) (L.drop (i + 1))) := by
  have e := ri_eq h hi
  rw [if_neg (by rw [hw]; simp), ← bh_next hk hi] at e
  have h1 := h.r0
  have h2 := h.ri
  have h3 := h.oi
  have h4 := h.fi
  have h5 := h.rw_
  have h6 := sum_succ L i hi
  refine ⟨hi, e, ?_, ?_, ?_, ?_, ?_, size0 _⟩
  · unfold stepR
    split
    · exact h1
    · split
      · simp only; split <;> omega
      · exact h1
  · unfold stepR
    split
    · simp only; omega
    · split
      · simp only; split <;> omega
      · simp only; omega
  · unfold stepR
    split
    · simp only; split <;> simp <;> omega
    · split
      · simp only; omega
      · simp only; omega
  · unfold stepR
    split
    · simp
    · split
      · simp; omega
      · simp only; omega
  · rw [h6]
    have h10 : ByteArray.size ⟨#[10]⟩ = 1 := rfl
    unfold stepR
    split
    · simp
    · split
      · simp only [ByteArray.size_append]; omega
      · simp only [ByteArray.size_append]; omega
theorem said_ok {s : ByteArray} (hs : s.size ≤ 60000) {i : Nat} (hi : i < (linesT s).length) : LinesOk (saidL ((linesT s).getD i ((0 : Int), (0 : Int), ByteArray.empty, false)) ((linesT s).drop (i + 1))) := by
  obtain ⟨h1, h2⟩ := linesT_len s
  have h3 : ((((linesT s).drop (i + 1)).takeWhile more).map (·.2.2.1.size)).sum ≤ ((linesT s).map (·.2.2.1.size)).sum := by
    have e1 : (linesT s) = (linesT s).take (i + 1) ++ ((linesT s).drop (i + 1)) := (List.take_append_drop _ _).symm
    have e2 : (linesT s).drop (i + 1) = ((linesT s).drop (i + 1)).takeWhile more ++ ((linesT s).drop (i + 1)).dropWhile more := List.takeWhile_append_dropWhile.symm
    conv => rhs; rw [e1, e2]
    simp only [List.map_append, List.sum_append]
    omega
  have h4 : (((linesT s).drop (i + 1)).takeWhile more).length ≤ (linesT s).length := by
    have := (List.takeWhile_sublist more (l := (linesT s).drop (i + 1))).length_le
    rw [List.length_drop] at this
    omega
  have h5 := linesT_sz hi
  rw [getD_get hi ((0 : Int), (0 : Int), ByteArray.empty, false)] at h5
  unfold saidL
  refine ⟨by simp only [List.length_cons, List.length_map]; omega, ?_⟩
  simp only [List.map_cons, List.sum_cons, List.map_map]
  have : ((((linesT s).drop (i + 1)).takeWhile more).map ((fun x : ByteArray => x.size) ∘ fun x : Lne => x.2.2.1)).sum = ((((linesT s).drop (i + 1)).takeWhile more).map (·.2.2.1.size)).sum := rfl
  omega
def resR : (Int × Int) ⊕ List Itm → A
  | .inl e => .tup [(false, [.sl rItm []]), (false, [.lit (.int .i64 e.1)]), (false, [.lit (.int .i64 e.2)])]
  | .inr l => .tup [(false, [.sl rItm l]), (false, [.lit (.int .i64 (-9))]), (false, [.lit (.int .i64 0)])]
theorem sum_total (s : ByteArray) (i : Nat) : (((linesT s).take i).map (fun l => l.2.2.1.size + 1)).sum ≤ 2 * s.size := by
  obtain ⟨h1, h2⟩ := linesT_len s
  have e : ∀ L : List Lne, (L.map (fun l => l.2.2.1.size + 1)).sum = (L.map (·.2.2.1.size)).sum + L.length := by
    intro L
    induction L with
    | nil => rfl
    | cons a r ih => simp only [List.map_cons, List.sum_cons, List.length_cons, ih]; omega
  have h3 : (((linesT s).take i).map (fun l => l.2.2.1.size + 1)).sum ≤ ((linesT s).map (fun l => l.2.2.1.size + 1)).sum := by
    conv => rhs; rw [← List.take_append_drop i (linesT s)]
    rw [List.map_append, List.sum_append]
    omega
  rw [e (linesT s)] at h3
  omega
set_option maxHeartbeats 4000000 in
theorem refParse_a (s : ByteArray) (hs : s.size ≤ 60000) : ACall Tryd.prog 63 [is s] (resR (parseS s)) := by
  obtain ⟨hl1, hl2⟩ := linesT_len s
  have hsz : ∀ i, i < (linesT s).length → ((linesT s).getD i ((0 : Int), (0 : Int), ByteArray.empty, false)).2.2.1.size ≤ 60000 := fun i hi => by
    have := linesT_sz hi
    rw [getD_get hi ((0 : Int), (0 : Int), ByteArray.empty, false)] at this
    omega
  have hss := fun i hi => said_ok hs (i := i) hi
  have hno : ∀ i, i < (linesT s).length → ((linesT s).getD i ((0 : Int), (0 : Int), ByteArray.empty, false)).1 = i := fun i hi => by
    have := linesR_no s.size s.size 0 (ls s) i hi
    rw [Int.zero_add] at this
    exact this
  have hst := sum_total s
  rw [parse_ref]
  have hspl := refSplit_c s (by omega)
  generalize linesT s = L at *
  obtain ⟨k, hk⟩ : ∃ k, k = L.map (fun l => kindL (ls l.2.2.1)) := ⟨_, rfl⟩
  have hkl : k.length = L.length := by rw [hk, List.length_map]
  refine acall_of (rs := [2, 3, 4]) Tryd.func63 rfl rfl rfl teOk rfl ?_
  refine acode_seq ?_
  refine acode_region ?_
  refine acode_seq ?_
  refine acode_seq ?_
  refine acode_region ?_
  refine acode_cond rfl (fun h17 => ?_) (fun h17 => ?_)
  · try simp only [decide_eq_true_eq] at h17
    try simp only [Int.toNat_natCast, dflt_sl, dflt_st, dflt_str, dflt_int, dflt_bool] at h17
    omega
  · try simp only [decide_eq_false_iff_not, Int.not_lt] at h17
    try simp only [Int.toNat_natCast, dflt_sl, dflt_st, dflt_str, dflt_int, dflt_bool] at h17
    refine acode_skip ?_
    refine acode_seq ?_
    refine acode_region ?_
    refine Or.inl ?_
    refine And.intro (rfl) ?_
    refine Exists.intro _ (And.intro (hspl) ?_)
    refine acode_seq ?_
    refine acode_region ?_
    refine acode_seq ?_
    refine acode_seq ?_
    refine acode_nilvec 6 3 (.int .i64) rfl ?_
    refine acode_region ?_
    refine acode_block ?_
    refine acode_loopP (fun (i : Nat) => i ≤ L.length) (fun (i : Nat) => [(5, .one (.sl rLne L)), (6, .one (.vec 0)), (7, ii .i64 i)]) (fun (i : Nat) => [(0, .vec 3 (.int .i64) (k.take i))]) 1 (fun (i : Nat) => L.length - i) 0 (Nat.zero_le _) (le_of ⟨rfl, rfl, rfl⟩ rfl rfl) ?_
    intro i hI0
    refine acode_seq ?_
    refine acode_seq ?_
    refine acode_region ?_
    intro l6_2
    try simp only [Int.toNat_natCast, dflt_sl, dflt_st, dflt_str, dflt_int, dflt_bool] at l6_2
    refine acode_cond rfl (fun h23 => ?_) (fun h23 => ?_)
    · try simp only [decide_eq_true_eq] at h23
      try simp only [Int.toNat_natCast, dflt_sl, dflt_st, dflt_str, dflt_int, dflt_bool] at h23
      have hil : i < L.length := (by omega)
      have hi2 := hsz i hil
      refine acode_skip ?_
      refine acode_seq ?_
      refine acode_block ?_
      refine acode_region ?_
      refine And.intro (by first | omega | assumption | decide | (simp only [Int.toNat_natCast, dflt_sl, dflt_st, dflt_str, dflt_int, dflt_bool]; omega) | (simp <;> omega)) ?_
      refine Or.inl ?_
      refine And.intro (rfl) ?_
      refine Exists.intro _ (And.intro (refKindL_c (L.getD i ((0 : Int), (0 : Int), ByteArray.empty, false)).2.2.1 (by omega)) ?_)
      refine And.intro (by first | exact app_le (by first | omega | (simp only [List.length_cons, List.length_nil, List.length_take]; omega) | (simp; omega)) (by decide) | omega | assumption | decide | (simp only [Int.toNat_natCast, dflt_sl, dflt_st, dflt_str, dflt_int, dflt_bool]; omega) | (simp <;> omega)) ?_
      refine acode_region ?_
      refine And.intro (by first | omega | assumption | decide | (simp only [Int.toNat_natCast, dflt_sl, dflt_st, dflt_str, dflt_int, dflt_bool]; omega) | (simp <;> omega)) ?_
      exact ⟨i + 1, by omega, by first | omega | (simp <;> omega), le_of ⟨rfl, rfl, (ii_eq (by omega))⟩ (vec_eq (by rw [← take_snoc 0 (by omega : i < k.length), kind_at hk hil]; rfl)) rfl⟩
    · try simp only [decide_eq_false_iff_not, Int.not_lt] at h23
      try simp only [Int.toNat_natCast, dflt_sl, dflt_st, dflt_str, dflt_int, dflt_bool] at h23
      refine acode_exit ?_
      refine acode_seq ?_
      rw [List.take_of_length_le (by omega)]
      refine acode_frz [0] ?_
      refine acode_region ?_
      refine acode_seq ?_
      refine acode_region ?_
      refine acode_seq ?_
      refine acode_nilvec 8 75 rItm rfl ?_
      refine acode_nilcell 1 2 32 rFld rfl rfl rfl ?_
      refine acode_frz [3] ?_
      refine acode_region ?_
      refine acode_seq ?_
      refine acode_seq ?_
      refine acode_region ?_
      refine acode_block ?_
      refine acode_loopP (fun (u : Nat × RSt) => RI L k u.1 u.2) (fun (u : Nat × RSt) => [(5, .one (.sl rLne L)), (6, .one (.sl (.int .i64) k)), (8, .one (.vec 2)), (9, .one (.own 1 0)), (10, ii .i64 u.2.recs), (11, ii .i64 u.1)]) (fun (u : Nat × RSt) => [(1, .box 75 [.lit (.int .i64 u.2.kind), .lit (.string u.2.raw), .sl rFld u.2.flds]), (2, .vec 75 rItm u.2.out)]) 4 (fun (u : Nat × RSt) => L.length - u.1) (0, rst0) (ri_0 L k) (le_of ⟨rfl, rfl, rfl, rfl, rfl, rfl⟩ ⟨rfl, rfl⟩ rfl) ?_
      intro u hI2
      obtain ⟨i, t⟩ := u
      have hI : RI L k i t := hI2
      have g1 := hI.il
      have g2 := hI.r0
      have g3 := hI.ri
      have g4 := hI.oi
      have g5 := hI.fi
      have g6 := Nat.le_trans hI.rw_ (hst i)
      refine acode_seq ?_
      refine acode_seq ?_
      refine acode_region ?_
      intro l13_2
      try simp only [Int.toNat_natCast, dflt_sl, dflt_st, dflt_str, dflt_int, dflt_bool] at l13_2
      refine acode_cond rfl (fun h39 => ?_) (fun h39 => ?_)
      · try simp only [decide_eq_true_eq] at h39
        try simp only [Int.toNat_natCast, dflt_sl, dflt_st, dflt_str, dflt_int, dflt_bool] at h39
        have hil : i < L.length := (by omega)
        have hi2 := hsz i hil
        refine acode_skip ?_
        refine acode_seq ?_
        refine acode_block ?_
        refine acode_seq ?_
        refine acode_seq ?_
        refine acode_region ?_
        intro l15_5
        refine Or.inl ?_
        refine And.intro (rfl) ?_
        refine Exists.intro _ (And.intro (wrong_c L k hk i hil (by omega) (hss i hil) t.flds.length t.recs (bhI k i) rfl) ?_)
        refine acode_seq ?_
        refine acode_region ?_
        refine acode_cond rfl (fun h51 => ?_) (fun h51 => ?_)
        · try simp only [decide_eq_false_iff_not, Bool.not_eq_true'] at h51
          try simp only [Int.toNat_natCast, dflt_sl, dflt_st, dflt_str, dflt_int, dflt_bool] at h51
          refine acode_seq ?_
          refine acode_region ?_
          refine acode_nilvec 2 75 rItm rfl ?_
          refine acode_ret ?_
          rw [ri_eq hI hil, if_pos h51, hno i hil]
          rfl
        · try simp only [decide_eq_true_eq, Bool.not_eq_false'] at h51
          try simp only [Int.toNat_natCast, dflt_sl, dflt_st, dflt_str, dflt_int, dflt_bool] at h51
          have hN := ri_next hk hI hil h51
          refine acode_skip ?_
          refine acode_seq ?_
          refine acode_seq ?_
          refine acode_region ?_
          refine And.intro (by first | omega | assumption | decide | (simp only [Int.toNat_natCast, dflt_sl, dflt_st, dflt_str, dflt_int, dflt_bool]; omega) | (simp <;> omega)) ?_
          refine acode_cond rfl (fun h58 => ?_) (fun h58 => ?_)
          · try simp only [decide_eq_true_eq] at h58
            try simp only [Int.toNat_natCast, dflt_int] at h58
            rw [kind_at hk hil] at h58
            refine acode_seq ?_
            refine acode_seq ?_
            refine acode_region ?_
            refine acode_cond rfl (fun h61 => ?_) (fun h61 => ?_)
            · try simp only [decide_eq_false_iff_not, Bool.not_eq_true'] at h61
              try simp only [Int.toNat_natCast, dflt_sl, dflt_st, dflt_str, dflt_int, dflt_bool] at h61
              have hS : stepR t (L.getD i ((0 : Int), (0 : Int), ByteArray.empty, false)) (L.drop (i + 1)) = ⟨2, ByteArray.empty, [], t.out ++ [(t.kind, t.raw, t.flds)] ++ [(1, (L.getD i ((0 : Int), (0 : Int), ByteArray.empty, false)).2.2.1 ++ ⟨#[10]⟩, [])], t.recs⟩ := (by unfold stepR; rw [if_pos h58, if_neg (show ¬ t.raw = ByteArray.empty from h61)])
              refine acode_region ?_
              refine And.intro (by first | exact app_le (by first | omega | (simp only [List.length_cons, List.length_nil]; omega) | (simp; omega)) (by decide) | omega | assumption | decide | (simp only [Int.toNat_natCast, dflt_sl, dflt_st, dflt_str, dflt_int, dflt_bool]; omega) | (simp <;> omega)) ?_
              refine acode_seq ?_
              refine acode_region ?_
              refine And.intro (by first | omega | assumption | decide | (simp only [Int.toNat_natCast, dflt_sl, dflt_st, dflt_str, dflt_int, dflt_bool]; omega) | (simp <;> omega)) ?_
              refine And.intro (by show (L.getD i ((0 : Int), (0 : Int), ByteArray.empty, false)).2.2.1.size + 1 ≤ maxLen; unfold maxLen; omega) ?_
              refine And.intro (by exact app_le (by rw [List.length_append]; show t.out.length + 1 + 1 ≤ 1000000000; omega) (by decide)) ?_
              refine acode_seq ?_
              refine acode_region ?_
              refine acode_nilcell 1 2 32 rFld rfl rfl rfl ?_
              refine acode_frz [6] ?_
              refine acode_exit ?_
              refine acode_region ?_
              refine And.intro (by first | omega | assumption | decide | (simp only [Int.toNat_natCast, dflt_sl, dflt_st, dflt_str, dflt_int, dflt_bool]; omega) | (simp <;> omega)) ?_
              exact ⟨(i + 1, stepR t (L.getD i ((0 : Int), (0 : Int), ByteArray.empty, false)) (L.drop (i + 1))), hN, by first | omega | (simp <;> omega), le_of ⟨rfl, rfl, rfl, rfl, ((by rw [hS]; try rfl)), (ii_eq (by simp only; omega))⟩ ⟨((by rw [hS]; try rfl)), ((by rw [hS]; try rfl))⟩ rfl⟩
            · try simp only [decide_eq_true_eq, Bool.not_eq_false'] at h61
              try simp only [Int.toNat_natCast, dflt_sl, dflt_st, dflt_str, dflt_int, dflt_bool] at h61
              have hS : stepR t (L.getD i ((0 : Int), (0 : Int), ByteArray.empty, false)) (L.drop (i + 1)) = ⟨2, ByteArray.empty, [], t.out ++ [(1, (L.getD i ((0 : Int), (0 : Int), ByteArray.empty, false)).2.2.1 ++ ⟨#[10]⟩, [])], t.recs⟩ := (by unfold stepR; rw [if_pos h58, if_pos (show t.raw = ByteArray.empty from h61)])
              refine acode_skip ?_
              refine acode_seq ?_
              refine acode_region ?_
              refine And.intro (by first | omega | assumption | decide | (simp only [Int.toNat_natCast, dflt_sl, dflt_st, dflt_str, dflt_int, dflt_bool]; omega) | (simp <;> omega)) ?_
              refine And.intro (by show (L.getD i ((0 : Int), (0 : Int), ByteArray.empty, false)).2.2.1.size + 1 ≤ maxLen; unfold maxLen; omega) ?_
              refine And.intro (by first | exact app_le (by first | omega | (simp only [List.length_cons, List.length_nil]; omega) | (simp; omega)) (by decide) | omega | assumption | decide | (simp only [Int.toNat_natCast, dflt_sl, dflt_st, dflt_str, dflt_int, dflt_bool]; omega) | (simp <;> omega)) ?_
              refine acode_seq ?_
              refine acode_region ?_
              refine acode_nilcell 1 2 32 rFld rfl rfl rfl ?_
              refine acode_frz [5] ?_
              refine acode_exit ?_
              refine acode_region ?_
              refine And.intro (by first | omega | assumption | decide | (simp only [Int.toNat_natCast, dflt_sl, dflt_st, dflt_str, dflt_int, dflt_bool]; omega) | (simp <;> omega)) ?_
              exact ⟨(i + 1, stepR t (L.getD i ((0 : Int), (0 : Int), ByteArray.empty, false)) (L.drop (i + 1))), hN, by first | omega | (simp <;> omega), le_of ⟨rfl, rfl, rfl, rfl, ((by rw [hS]; try rfl)), (ii_eq (by simp only; omega))⟩ ⟨((by rw [hS]; try rfl)), ((by rw [hS]; try rfl))⟩ rfl⟩
          · try simp only [decide_eq_false_iff_not] at h58
            try simp only [Int.toNat_natCast, dflt_int] at h58
            rw [kind_at hk hil] at h58
            refine acode_skip ?_
            refine acode_cut (fun (u : Unit) => True) (fun (u : Unit) => [(5, .one (.sl rLne L)), (6, .one (.sl (.int .i64) k)), (8, .one (.vec 2)), (9, .one (.own 1 0)), (10, ii .i64 t.recs), (11, ii .i64 i)]) (fun (u : Unit) => [(1, .box 75 [.lit (.int .i64 t.kind), .lit (.string (t.raw ++ (L.getD i ((0 : Int), (0 : Int), ByteArray.empty, false)).2.2.1 ++ ⟨#[10]⟩)), .sl rFld t.flds]), (2, .vec 75 rItm t.out)]) 4 ?_ ?_
            · refine acode_ord rfl ?_
              refine aord_light 0 rfl rfl rfl (by kernel_rfl) ?_
              refine aord_light 2 rfl rfl rfl (by kernel_rfl) ?_
              refine aord_light 3 rfl rfl rfl (by kernel_rfl) ?_
              refine aord_light 4 rfl rfl rfl (by kernel_rfl) ?_
              refine And.intro (by first | omega | assumption | decide | (simp only [Int.toNat_natCast, dflt_sl, dflt_st, dflt_str, dflt_int, dflt_bool]; omega) | (simp <;> omega)) ?_
              refine aord_all [1, 5] (by kernel_rfl) rfl ?_
              refine And.intro ?_ ?_
              · refine aord_all [5] (by kernel_rfl) rfl ?_
                refine aord_all [6] (by kernel_rfl) rfl ?_
                refine aord_light 7 rfl rfl rfl (by kernel_rfl) ?_
                refine And.intro (by show t.raw.size + (L.getD i ((0 : Int), (0 : Int), ByteArray.empty, false)).2.2.1.size ≤ maxLen; unfold maxLen; omega) ?_
                refine aord_light 8 rfl rfl rfl (by kernel_rfl) ?_
                refine And.intro (by rw [ByteArray.size_append]; show t.raw.size + (L.getD i ((0 : Int), (0 : Int), ByteArray.empty, false)).2.2.1.size + 1 ≤ maxLen; unfold maxLen; omega) ?_
                refine aord_light 9 rfl rfl rfl (by kernel_rfl) ?_
                refine aord_all [10] (by kernel_rfl) rfl ?_
                refine aord_done (by kernel_rfl) ?_
                exact ⟨(), trivial, le_of ⟨rfl, rfl, rfl, rfl, rfl, rfl⟩ ⟨rfl, rfl⟩ rfl⟩
              · refine aord_all [1, 6] (by kernel_rfl) rfl ?_
                refine And.intro ?_ ?_
                · refine aord_all [6] (by kernel_rfl) rfl ?_
                  refine aord_light 7 rfl rfl rfl (by kernel_rfl) ?_
                  refine And.intro (by show t.raw.size + (L.getD i ((0 : Int), (0 : Int), ByteArray.empty, false)).2.2.1.size ≤ maxLen; unfold maxLen; omega) ?_
                  refine aord_light 8 rfl rfl rfl (by kernel_rfl) ?_
                  refine And.intro (by rw [ByteArray.size_append]; show t.raw.size + (L.getD i ((0 : Int), (0 : Int), ByteArray.empty, false)).2.2.1.size + 1 ≤ maxLen; unfold maxLen; omega) ?_
                  refine aord_light 9 rfl rfl rfl (by kernel_rfl) ?_
                  refine aord_all [10] (by kernel_rfl) rfl ?_
                  refine aord_done (by kernel_rfl) ?_
                  exact ⟨(), trivial, le_of ⟨rfl, rfl, rfl, rfl, rfl, rfl⟩ ⟨rfl, rfl⟩ rfl⟩
                · refine aord_all [1] (by kernel_rfl) rfl ?_
                  refine aord_light 7 rfl rfl rfl (by kernel_rfl) ?_
                  refine And.intro (by show t.raw.size + (L.getD i ((0 : Int), (0 : Int), ByteArray.empty, false)).2.2.1.size ≤ maxLen; unfold maxLen; omega) ?_
                  refine aord_light 8 rfl rfl rfl (by kernel_rfl) ?_
                  refine And.intro (by rw [ByteArray.size_append]; show t.raw.size + (L.getD i ((0 : Int), (0 : Int), ByteArray.empty, false)).2.2.1.size + 1 ≤ maxLen; unfold maxLen; omega) ?_
                  refine aord_light 9 rfl rfl rfl (by kernel_rfl) ?_
                  refine aord_all [10] (by kernel_rfl) rfl ?_
                  refine aord_done (by kernel_rfl) ?_
                  exact ⟨(), trivial, le_of ⟨rfl, rfl, rfl, rfl, rfl, rfl⟩ ⟨rfl, rfl⟩ rfl⟩
            · intro u hcut24
              refine acode_seq ?_
              refine acode_region ?_
              refine And.intro (by first | omega | assumption | decide | (simp only [Int.toNat_natCast, dflt_sl, dflt_st, dflt_str, dflt_int, dflt_bool]; omega) | (simp <;> omega)) ?_
              refine acode_cond rfl (fun h91 => ?_) (fun h91 => ?_)
              · try simp only [decide_eq_true_eq] at h91
                try simp only [Int.toNat_natCast, dflt_int] at h91
                rw [kind_at hk hil] at h91
                refine acode_cut (fun (rc : Int) => rc = (if t.kind = 2 then t.recs + 1 else t.recs)) (fun (rc : Int) => [(5, .one (.sl rLne L)), (6, .one (.sl (.int .i64) k)), (8, .one (.vec 2)), (9, .one (.own 1 0)), (10, ii .i64 rc), (11, ii .i64 i)]) (fun (rc : Int) => [(1, .box 75 [.lit (.int .i64 t.kind), .lit (.string (t.raw ++ (L.getD i ((0 : Int), (0 : Int), ByteArray.empty, false)).2.2.1 ++ ⟨#[10]⟩)), .sl rFld t.flds]), (2, .vec 75 rItm t.out)]) 4 ?_ ?_
                · refine acode_seq ?_
                  refine acode_region ?_
                  refine acode_cond rfl (fun h94 => ?_) (fun h94 => ?_)
                  · try simp only [decide_eq_true_eq] at h94
                    try simp only [Int.toNat_natCast, dflt_sl, dflt_st, dflt_str, dflt_int, dflt_bool] at h94
                    refine acode_region ?_
                    refine And.intro (by first | omega | assumption | decide | (simp only [Int.toNat_natCast, dflt_sl, dflt_st, dflt_str, dflt_int, dflt_bool]; omega) | (simp <;> omega)) ?_
                    exact ⟨t.recs + 1, (by rw [if_pos h94]), le_of ⟨rfl, rfl, rfl, rfl, rfl, rfl⟩ ⟨rfl, rfl⟩ rfl⟩
                  · try simp only [decide_eq_false_iff_not] at h94
                    try simp only [Int.toNat_natCast, dflt_sl, dflt_st, dflt_str, dflt_int, dflt_bool] at h94
                    refine acode_skip ?_
                    exact ⟨t.recs, (by rw [if_neg h94]), le_of ⟨rfl, rfl, rfl, rfl, rfl, rfl⟩ ⟨rfl, rfl⟩ rfl⟩
                · intro rc hcut27
                  have hS : stepR t (L.getD i ((0 : Int), (0 : Int), ByteArray.empty, false)) (L.drop (i + 1)) = ⟨3, t.raw ++ (L.getD i ((0 : Int), (0 : Int), ByteArray.empty, false)).2.2.1 ++ ⟨#[10]⟩, t.flds ++ [fldOf (saidL (L.getD i ((0 : Int), (0 : Int), ByteArray.empty, false)) (L.drop (i + 1)))], t.out, rc⟩ := (by unfold stepR; rw [if_neg h58, if_pos h91, hcut27])
                  refine acode_seq ?_
                  refine acode_region ?_
                  refine acode_seq ?_
                  refine acode_region ?_
                  refine Or.inl ?_
                  refine And.intro (rfl) ?_
                  refine Exists.intro _ (And.intro (said_c L k hk i hil (by omega)) ?_)
                  refine Or.inl ?_
                  refine And.intro (rfl) ?_
                  refine Exists.intro _ (And.intro (unfold_any _ (hss i hil)) ?_)
                  refine acode_ord rfl ?_
                  refine aord_light 1 rfl rfl rfl (by kernel_rfl) ?_
                  refine aord_all [0, 2, 4] (by kernel_rfl) rfl ?_
                  refine And.intro ?_ ?_
                  · refine aord_all [2, 4] (by kernel_rfl) rfl ?_
                    refine And.intro ?_ ?_
                    · refine aord_all [3, 4] (by kernel_rfl) rfl ?_
                      refine And.intro ?_ ?_
                      · refine And.intro (by first | exact app_le (by first | omega | (simp only [List.length_nil]; omega) | (simp; omega)) (by decide) | omega | assumption | decide | (simp only [Int.toNat_natCast, dflt_sl, dflt_st, dflt_str, dflt_int, dflt_bool]; omega) | (simp <;> omega)) ?_
                        refine aord_all [4] (by kernel_rfl) rfl ?_
                        refine aord_all [5] (by kernel_rfl) rfl ?_
                        refine aord_all [6] (by kernel_rfl) rfl ?_
                        refine And.intro (by exact app_le (show t.flds.length + 1 ≤ 1000000000 by omega) (by decide)) ?_
                        refine aord_light 7 rfl rfl rfl (by kernel_rfl) ?_
                        refine aord_all [8] (by kernel_rfl) rfl ?_
                        refine aord_done (by kernel_rfl) ?_
                        refine acode_frz [5, 6] ?_
                        refine acode_region ?_
                        refine And.intro (by first | omega | assumption | decide | (simp only [Int.toNat_natCast, dflt_sl, dflt_st, dflt_str, dflt_int, dflt_bool]; omega) | (simp <;> omega)) ?_
                        exact ⟨(i + 1, stepR t (L.getD i ((0 : Int), (0 : Int), ByteArray.empty, false)) (L.drop (i + 1))), hN, by first | omega | (simp <;> omega), le_of ⟨rfl, rfl, rfl, rfl, ((by rw [hS]; try rfl)), (ii_eq (by simp only; omega))⟩ ⟨((by rw [hS]; try rfl)), ((by rw [hS]; try rfl))⟩ rfl⟩
                      · refine aord_all [3, 5] (by kernel_rfl) rfl ?_
                        refine And.intro ?_ ?_
                        · refine And.intro (by first | exact app_le (by first | omega | (simp only [List.length_nil]; omega) | (simp; omega)) (by decide) | omega | assumption | decide | (simp only [Int.toNat_natCast, dflt_sl, dflt_st, dflt_str, dflt_int, dflt_bool]; omega) | (simp <;> omega)) ?_
                          refine aord_all [5] (by kernel_rfl) rfl ?_
                          refine aord_all [6] (by kernel_rfl) rfl ?_
                          refine And.intro (by exact app_le (show t.flds.length + 1 ≤ 1000000000 by omega) (by decide)) ?_
                          refine aord_light 7 rfl rfl rfl (by kernel_rfl) ?_
                          refine aord_all [8] (by kernel_rfl) rfl ?_
                          refine aord_done (by kernel_rfl) ?_
                          refine acode_frz [5, 6] ?_
                          refine acode_region ?_
                          refine And.intro (by first | omega | assumption | decide | (simp only [Int.toNat_natCast, dflt_sl, dflt_st, dflt_str, dflt_int, dflt_bool]; omega) | (simp <;> omega)) ?_
                          exact ⟨(i + 1, stepR t (L.getD i ((0 : Int), (0 : Int), ByteArray.empty, false)) (L.drop (i + 1))), hN, by first | omega | (simp <;> omega), le_of ⟨rfl, rfl, rfl, rfl, ((by rw [hS]; try rfl)), (ii_eq (by simp only; omega))⟩ ⟨((by rw [hS]; try rfl)), ((by rw [hS]; try rfl))⟩ rfl⟩
                        · refine aord_all [3] (by kernel_rfl) rfl ?_
                          refine And.intro (by first | exact app_le (by first | omega | (simp only [List.length_nil]; omega) | (simp; omega)) (by decide) | omega | assumption | decide | (simp only [Int.toNat_natCast, dflt_sl, dflt_st, dflt_str, dflt_int, dflt_bool]; omega) | (simp <;> omega)) ?_
                          refine aord_all [6] (by kernel_rfl) rfl ?_
                          refine And.intro (by exact app_le (show t.flds.length + 1 ≤ 1000000000 by omega) (by decide)) ?_
                          refine aord_light 7 rfl rfl rfl (by kernel_rfl) ?_
                          refine aord_all [8] (by kernel_rfl) rfl ?_
                          refine aord_done (by kernel_rfl) ?_
                          refine acode_frz [5, 6] ?_
                          refine acode_region ?_
                          refine And.intro (by first | omega | assumption | decide | (simp only [Int.toNat_natCast, dflt_sl, dflt_st, dflt_str, dflt_int, dflt_bool]; omega) | (simp <;> omega)) ?_
                          exact ⟨(i + 1, stepR t (L.getD i ((0 : Int), (0 : Int), ByteArray.empty, false)) (L.drop (i + 1))), hN, by first | omega | (simp <;> omega), le_of ⟨rfl, rfl, rfl, rfl, ((by rw [hS]; try rfl)), (ii_eq (by simp only; omega))⟩ ⟨((by rw [hS]; try rfl)), ((by rw [hS]; try rfl))⟩ rfl⟩
                    · refine aord_all [2, 5] (by kernel_rfl) rfl ?_
                      refine And.intro ?_ ?_
                      · refine aord_all [3, 5] (by kernel_rfl) rfl ?_
                        refine And.intro ?_ ?_
                        · refine And.intro (by first | exact app_le (by first | omega | (simp only [List.length_nil]; omega) | (simp; omega)) (by decide) | omega | assumption | decide | (simp only [Int.toNat_natCast, dflt_sl, dflt_st, dflt_str, dflt_int, dflt_bool]; omega) | (simp <;> omega)) ?_
                          refine aord_all [5] (by kernel_rfl) rfl ?_
                          refine aord_all [6] (by kernel_rfl) rfl ?_
                          refine And.intro (by exact app_le (show t.flds.length + 1 ≤ 1000000000 by omega) (by decide)) ?_
                          refine aord_light 7 rfl rfl rfl (by kernel_rfl) ?_
                          refine aord_all [8] (by kernel_rfl) rfl ?_
                          refine aord_done (by kernel_rfl) ?_
                          refine acode_frz [5, 6] ?_
                          refine acode_region ?_
                          refine And.intro (by first | omega | assumption | decide | (simp only [Int.toNat_natCast, dflt_sl, dflt_st, dflt_str, dflt_int, dflt_bool]; omega) | (simp <;> omega)) ?_
                          exact ⟨(i + 1, stepR t (L.getD i ((0 : Int), (0 : Int), ByteArray.empty, false)) (L.drop (i + 1))), hN, by first | omega | (simp <;> omega), le_of ⟨rfl, rfl, rfl, rfl, ((by rw [hS]; try rfl)), (ii_eq (by simp only; omega))⟩ ⟨((by rw [hS]; try rfl)), ((by rw [hS]; try rfl))⟩ rfl⟩
                        · refine aord_all [3] (by kernel_rfl) rfl ?_
                          refine And.intro (by first | exact app_le (by first | omega | (simp only [List.length_nil]; omega) | (simp; omega)) (by decide) | omega | assumption | decide | (simp only [Int.toNat_natCast, dflt_sl, dflt_st, dflt_str, dflt_int, dflt_bool]; omega) | (simp <;> omega)) ?_
                          refine aord_all [6] (by kernel_rfl) rfl ?_
                          refine And.intro (by exact app_le (show t.flds.length + 1 ≤ 1000000000 by omega) (by decide)) ?_
                          refine aord_light 7 rfl rfl rfl (by kernel_rfl) ?_
                          refine aord_all [8] (by kernel_rfl) rfl ?_
                          refine aord_done (by kernel_rfl) ?_
                          refine acode_frz [5, 6] ?_
                          refine acode_region ?_
                          refine And.intro (by first | omega | assumption | decide | (simp only [Int.toNat_natCast, dflt_sl, dflt_st, dflt_str, dflt_int, dflt_bool]; omega) | (simp <;> omega)) ?_
                          exact ⟨(i + 1, stepR t (L.getD i ((0 : Int), (0 : Int), ByteArray.empty, false)) (L.drop (i + 1))), hN, by first | omega | (simp <;> omega), le_of ⟨rfl, rfl, rfl, rfl, ((by rw [hS]; try rfl)), (ii_eq (by simp only; omega))⟩ ⟨((by rw [hS]; try rfl)), ((by rw [hS]; try rfl))⟩ rfl⟩
                      · refine aord_all [2] (by kernel_rfl) rfl ?_
                        refine aord_all [3] (by kernel_rfl) rfl ?_
                        refine And.intro (by first | exact app_le (by first | omega | (simp only [List.length_nil]; omega) | (simp; omega)) (by decide) | omega | assumption | decide | (simp only [Int.toNat_natCast, dflt_sl, dflt_st, dflt_str, dflt_int, dflt_bool]; omega) | (simp <;> omega)) ?_
                        refine aord_all [6] (by kernel_rfl) rfl ?_
                        refine And.intro (by exact app_le (show t.flds.length + 1 ≤ 1000000000 by omega) (by decide)) ?_
                        refine aord_light 7 rfl rfl rfl (by kernel_rfl) ?_
                        refine aord_all [8] (by kernel_rfl) rfl ?_
                        refine aord_done (by kernel_rfl) ?_
                        refine acode_frz [5, 6] ?_
                        refine acode_region ?_
                        refine And.intro (by first | omega | assumption | decide | (simp only [Int.toNat_natCast, dflt_sl, dflt_st, dflt_str, dflt_int, dflt_bool]; omega) | (simp <;> omega)) ?_
                        exact ⟨(i + 1, stepR t (L.getD i ((0 : Int), (0 : Int), ByteArray.empty, false)) (L.drop (i + 1))), hN, by first | omega | (simp <;> omega), le_of ⟨rfl, rfl, rfl, rfl, ((by rw [hS]; try rfl)), (ii_eq (by simp only; omega))⟩ ⟨((by rw [hS]; try rfl)), ((by rw [hS]; try rfl))⟩ rfl⟩
                  refine And.intro ?_ ?_
                  · refine aord_all [0, 4] (by kernel_rfl) rfl ?_
                    refine And.intro ?_ ?_
                    · refine aord_all [3, 4] (by kernel_rfl) rfl ?_
                      refine And.intro ?_ ?_
                      · refine And.intro (by first | exact app_le (by first | omega | (simp only [List.length_nil]; omega) | (simp; omega)) (by decide) | omega | assumption | decide | (simp only [Int.toNat_natCast, dflt_sl, dflt_st, dflt_str, dflt_int, dflt_bool]; omega) | (simp <;> omega)) ?_
                        refine aord_all [4] (by kernel_rfl) rfl ?_
                        refine aord_all [5] (by kernel_rfl) rfl ?_
                        refine aord_all [6] (by kernel_rfl) rfl ?_
                        refine And.intro (by exact app_le (show t.flds.length + 1 ≤ 1000000000 by omega) (by decide)) ?_
                        refine aord_light 7 rfl rfl rfl (by kernel_rfl) ?_
                        refine aord_all [8] (by kernel_rfl) rfl ?_
                        refine aord_done (by kernel_rfl) ?_
                        refine acode_frz [5, 6] ?_
                        refine acode_region ?_
                        refine And.intro (by first | omega | assumption | decide | (simp only [Int.toNat_natCast, dflt_sl, dflt_st, dflt_str, dflt_int, dflt_bool]; omega) | (simp <;> omega)) ?_
                        exact ⟨(i + 1, stepR t (L.getD i ((0 : Int), (0 : Int), ByteArray.empty, false)) (L.drop (i + 1))), hN, by first | omega | (simp <;> omega), le_of ⟨rfl, rfl, rfl, rfl, ((by rw [hS]; try rfl)), (ii_eq (by simp only; omega))⟩ ⟨((by rw [hS]; try rfl)), ((by rw [hS]; try rfl))⟩ rfl⟩
                      · refine aord_all [3, 5] (by kernel_rfl) rfl ?_
                        refine And.intro ?_ ?_
                        · refine And.intro (by first | exact app_le (by first | omega | (simp only [List.length_nil]; omega) | (simp; omega)) (by decide) | omega | assumption | decide | (simp only [Int.toNat_natCast, dflt_sl, dflt_st, dflt_str, dflt_int, dflt_bool]; omega) | (simp <;> omega)) ?_
                          refine aord_all [5] (by kernel_rfl) rfl ?_
                          refine aord_all [6] (by kernel_rfl) rfl ?_
                          refine And.intro (by exact app_le (show t.flds.length + 1 ≤ 1000000000 by omega) (by decide)) ?_
                          refine aord_light 7 rfl rfl rfl (by kernel_rfl) ?_
                          refine aord_all [8] (by kernel_rfl) rfl ?_
                          refine aord_done (by kernel_rfl) ?_
                          refine acode_frz [5, 6] ?_
                          refine acode_region ?_
                          refine And.intro (by first | omega | assumption | decide | (simp only [Int.toNat_natCast, dflt_sl, dflt_st, dflt_str, dflt_int, dflt_bool]; omega) | (simp <;> omega)) ?_
                          exact ⟨(i + 1, stepR t (L.getD i ((0 : Int), (0 : Int), ByteArray.empty, false)) (L.drop (i + 1))), hN, by first | omega | (simp <;> omega), le_of ⟨rfl, rfl, rfl, rfl, ((by rw [hS]; try rfl)), (ii_eq (by simp only; omega))⟩ ⟨((by rw [hS]; try rfl)), ((by rw [hS]; try rfl))⟩ rfl⟩
                        · refine aord_all [3] (by kernel_rfl) rfl ?_
                          refine And.intro (by first | exact app_le (by first | omega | (simp only [List.length_nil]; omega) | (simp; omega)) (by decide) | omega | assumption | decide | (simp only [Int.toNat_natCast, dflt_sl, dflt_st, dflt_str, dflt_int, dflt_bool]; omega) | (simp <;> omega)) ?_
                          refine aord_all [6] (by kernel_rfl) rfl ?_
                          refine And.intro (by exact app_le (show t.flds.length + 1 ≤ 1000000000 by omega) (by decide)) ?_
                          refine aord_light 7 rfl rfl rfl (by kernel_rfl) ?_
                          refine aord_all [8] (by kernel_rfl) rfl ?_
                          refine aord_done (by kernel_rfl) ?_
                          refine acode_frz [5, 6] ?_
                          refine acode_region ?_
                          refine And.intro (by first | omega | assumption | decide | (simp only [Int.toNat_natCast, dflt_sl, dflt_st, dflt_str, dflt_int, dflt_bool]; omega) | (simp <;> omega)) ?_
                          exact ⟨(i + 1, stepR t (L.getD i ((0 : Int), (0 : Int), ByteArray.empty, false)) (L.drop (i + 1))), hN, by first | omega | (simp <;> omega), le_of ⟨rfl, rfl, rfl, rfl, ((by rw [hS]; try rfl)), (ii_eq (by simp only; omega))⟩ ⟨((by rw [hS]; try rfl)), ((by rw [hS]; try rfl))⟩ rfl⟩
                    · refine aord_all [0, 5] (by kernel_rfl) rfl ?_
                      refine And.intro ?_ ?_
                      · refine aord_all [3, 5] (by kernel_rfl) rfl ?_
                        refine And.intro ?_ ?_
                        · refine And.intro (by first | exact app_le (by first | omega | (simp only [List.length_nil]; omega) | (simp; omega)) (by decide) | omega | assumption | decide | (simp only [Int.toNat_natCast, dflt_sl, dflt_st, dflt_str, dflt_int, dflt_bool]; omega) | (simp <;> omega)) ?_
                          refine aord_all [5] (by kernel_rfl) rfl ?_
                          refine aord_all [6] (by kernel_rfl) rfl ?_
                          refine And.intro (by exact app_le (show t.flds.length + 1 ≤ 1000000000 by omega) (by decide)) ?_
                          refine aord_light 7 rfl rfl rfl (by kernel_rfl) ?_
                          refine aord_all [8] (by kernel_rfl) rfl ?_
                          refine aord_done (by kernel_rfl) ?_
                          refine acode_frz [5, 6] ?_
                          refine acode_region ?_
                          refine And.intro (by first | omega | assumption | decide | (simp only [Int.toNat_natCast, dflt_sl, dflt_st, dflt_str, dflt_int, dflt_bool]; omega) | (simp <;> omega)) ?_
                          exact ⟨(i + 1, stepR t (L.getD i ((0 : Int), (0 : Int), ByteArray.empty, false)) (L.drop (i + 1))), hN, by first | omega | (simp <;> omega), le_of ⟨rfl, rfl, rfl, rfl, ((by rw [hS]; try rfl)), (ii_eq (by simp only; omega))⟩ ⟨((by rw [hS]; try rfl)), ((by rw [hS]; try rfl))⟩ rfl⟩
                        · refine aord_all [3] (by kernel_rfl) rfl ?_
                          refine And.intro (by first | exact app_le (by first | omega | (simp only [List.length_nil]; omega) | (simp; omega)) (by decide) | omega | assumption | decide | (simp only [Int.toNat_natCast, dflt_sl, dflt_st, dflt_str, dflt_int, dflt_bool]; omega) | (simp <;> omega)) ?_
                          refine aord_all [6] (by kernel_rfl) rfl ?_
                          refine And.intro (by exact app_le (show t.flds.length + 1 ≤ 1000000000 by omega) (by decide)) ?_
                          refine aord_light 7 rfl rfl rfl (by kernel_rfl) ?_
                          refine aord_all [8] (by kernel_rfl) rfl ?_
                          refine aord_done (by kernel_rfl) ?_
                          refine acode_frz [5, 6] ?_
                          refine acode_region ?_
                          refine And.intro (by first | omega | assumption | decide | (simp only [Int.toNat_natCast, dflt_sl, dflt_st, dflt_str, dflt_int, dflt_bool]; omega) | (simp <;> omega)) ?_
                          exact ⟨(i + 1, stepR t (L.getD i ((0 : Int), (0 : Int), ByteArray.empty, false)) (L.drop (i + 1))), hN, by first | omega | (simp <;> omega), le_of ⟨rfl, rfl, rfl, rfl, ((by rw [hS]; try rfl)), (ii_eq (by simp only; omega))⟩ ⟨((by rw [hS]; try rfl)), ((by rw [hS]; try rfl))⟩ rfl⟩
                      · refine aord_all [0] (by kernel_rfl) rfl ?_
                        refine aord_all [3] (by kernel_rfl) rfl ?_
                        refine And.intro (by first | exact app_le (by first | omega | (simp only [List.length_nil]; omega) | (simp; omega)) (by decide) | omega | assumption | decide | (simp only [Int.toNat_natCast, dflt_sl, dflt_st, dflt_str, dflt_int, dflt_bool]; omega) | (simp <;> omega)) ?_
                        refine aord_all [6] (by kernel_rfl) rfl ?_
                        refine And.intro (by exact app_le (show t.flds.length + 1 ≤ 1000000000 by omega) (by decide)) ?_
                        refine aord_light 7 rfl rfl rfl (by kernel_rfl) ?_
                        refine aord_all [8] (by kernel_rfl) rfl ?_
                        refine aord_done (by kernel_rfl) ?_
                        refine acode_frz [5, 6] ?_
                        refine acode_region ?_
                        refine And.intro (by first | omega | assumption | decide | (simp only [Int.toNat_natCast, dflt_sl, dflt_st, dflt_str, dflt_int, dflt_bool]; omega) | (simp <;> omega)) ?_
                        exact ⟨(i + 1, stepR t (L.getD i ((0 : Int), (0 : Int), ByteArray.empty, false)) (L.drop (i + 1))), hN, by first | omega | (simp <;> omega), le_of ⟨rfl, rfl, rfl, rfl, ((by rw [hS]; try rfl)), (ii_eq (by simp only; omega))⟩ ⟨((by rw [hS]; try rfl)), ((by rw [hS]; try rfl))⟩ rfl⟩
                  · refine aord_all [0, 2, 5] (by kernel_rfl) rfl ?_
                    refine And.intro ?_ ?_
                    · refine aord_all [2, 5] (by kernel_rfl) rfl ?_
                      refine And.intro ?_ ?_
                      · refine aord_all [3, 5] (by kernel_rfl) rfl ?_
                        refine And.intro ?_ ?_
                        · refine And.intro (by first | exact app_le (by first | omega | (simp only [List.length_nil]; omega) | (simp; omega)) (by decide) | omega | assumption | decide | (simp only [Int.toNat_natCast, dflt_sl, dflt_st, dflt_str, dflt_int, dflt_bool]; omega) | (simp <;> omega)) ?_
                          refine aord_all [5] (by kernel_rfl) rfl ?_
                          refine aord_all [6] (by kernel_rfl) rfl ?_
                          refine And.intro (by exact app_le (show t.flds.length + 1 ≤ 1000000000 by omega) (by decide)) ?_
                          refine aord_light 7 rfl rfl rfl (by kernel_rfl) ?_
                          refine aord_all [8] (by kernel_rfl) rfl ?_
                          refine aord_done (by kernel_rfl) ?_
                          refine acode_frz [5, 6] ?_
                          refine acode_region ?_
                          refine And.intro (by first | omega | assumption | decide | (simp only [Int.toNat_natCast, dflt_sl, dflt_st, dflt_str, dflt_int, dflt_bool]; omega) | (simp <;> omega)) ?_
                          exact ⟨(i + 1, stepR t (L.getD i ((0 : Int), (0 : Int), ByteArray.empty, false)) (L.drop (i + 1))), hN, by first | omega | (simp <;> omega), le_of ⟨rfl, rfl, rfl, rfl, ((by rw [hS]; try rfl)), (ii_eq (by simp only; omega))⟩ ⟨((by rw [hS]; try rfl)), ((by rw [hS]; try rfl))⟩ rfl⟩
                        · refine aord_all [3] (by kernel_rfl) rfl ?_
                          refine And.intro (by first | exact app_le (by first | omega | (simp only [List.length_nil]; omega) | (simp; omega)) (by decide) | omega | assumption | decide | (simp only [Int.toNat_natCast, dflt_sl, dflt_st, dflt_str, dflt_int, dflt_bool]; omega) | (simp <;> omega)) ?_
                          refine aord_all [6] (by kernel_rfl) rfl ?_
                          refine And.intro (by exact app_le (show t.flds.length + 1 ≤ 1000000000 by omega) (by decide)) ?_
                          refine aord_light 7 rfl rfl rfl (by kernel_rfl) ?_
                          refine aord_all [8] (by kernel_rfl) rfl ?_
                          refine aord_done (by kernel_rfl) ?_
                          refine acode_frz [5, 6] ?_
                          refine acode_region ?_
                          refine And.intro (by first | omega | assumption | decide | (simp only [Int.toNat_natCast, dflt_sl, dflt_st, dflt_str, dflt_int, dflt_bool]; omega) | (simp <;> omega)) ?_
                          exact ⟨(i + 1, stepR t (L.getD i ((0 : Int), (0 : Int), ByteArray.empty, false)) (L.drop (i + 1))), hN, by first | omega | (simp <;> omega), le_of ⟨rfl, rfl, rfl, rfl, ((by rw [hS]; try rfl)), (ii_eq (by simp only; omega))⟩ ⟨((by rw [hS]; try rfl)), ((by rw [hS]; try rfl))⟩ rfl⟩
                      · refine aord_all [2] (by kernel_rfl) rfl ?_
                        refine aord_all [3] (by kernel_rfl) rfl ?_
                        refine And.intro (by first | exact app_le (by first | omega | (simp only [List.length_nil]; omega) | (simp; omega)) (by decide) | omega | assumption | decide | (simp only [Int.toNat_natCast, dflt_sl, dflt_st, dflt_str, dflt_int, dflt_bool]; omega) | (simp <;> omega)) ?_
                        refine aord_all [6] (by kernel_rfl) rfl ?_
                        refine And.intro (by exact app_le (show t.flds.length + 1 ≤ 1000000000 by omega) (by decide)) ?_
                        refine aord_light 7 rfl rfl rfl (by kernel_rfl) ?_
                        refine aord_all [8] (by kernel_rfl) rfl ?_
                        refine aord_done (by kernel_rfl) ?_
                        refine acode_frz [5, 6] ?_
                        refine acode_region ?_
                        refine And.intro (by first | omega | assumption | decide | (simp only [Int.toNat_natCast, dflt_sl, dflt_st, dflt_str, dflt_int, dflt_bool]; omega) | (simp <;> omega)) ?_
                        exact ⟨(i + 1, stepR t (L.getD i ((0 : Int), (0 : Int), ByteArray.empty, false)) (L.drop (i + 1))), hN, by first | omega | (simp <;> omega), le_of ⟨rfl, rfl, rfl, rfl, ((by rw [hS]; try rfl)), (ii_eq (by simp only; omega))⟩ ⟨((by rw [hS]; try rfl)), ((by rw [hS]; try rfl))⟩ rfl⟩
                    refine And.intro ?_ ?_
                    · refine aord_all [0, 5] (by kernel_rfl) rfl ?_
                      refine And.intro ?_ ?_
                      · refine aord_all [3, 5] (by kernel_rfl) rfl ?_
                        refine And.intro ?_ ?_
                        · refine And.intro (by first | exact app_le (by first | omega | (simp only [List.length_nil]; omega) | (simp; omega)) (by decide) | omega | assumption | decide | (simp only [Int.toNat_natCast, dflt_sl, dflt_st, dflt_str, dflt_int, dflt_bool]; omega) | (simp <;> omega)) ?_
                          refine aord_all [5] (by kernel_rfl) rfl ?_
                          refine aord_all [6] (by kernel_rfl) rfl ?_
                          refine And.intro (by exact app_le (show t.flds.length + 1 ≤ 1000000000 by omega) (by decide)) ?_
                          refine aord_light 7 rfl rfl rfl (by kernel_rfl) ?_
                          refine aord_all [8] (by kernel_rfl) rfl ?_
                          refine aord_done (by kernel_rfl) ?_
                          refine acode_frz [5, 6] ?_
                          refine acode_region ?_
                          refine And.intro (by first | omega | assumption | decide | (simp only [Int.toNat_natCast, dflt_sl, dflt_st, dflt_str, dflt_int, dflt_bool]; omega) | (simp <;> omega)) ?_
                          exact ⟨(i + 1, stepR t (L.getD i ((0 : Int), (0 : Int), ByteArray.empty, false)) (L.drop (i + 1))), hN, by first | omega | (simp <;> omega), le_of ⟨rfl, rfl, rfl, rfl, ((by rw [hS]; try rfl)), (ii_eq (by simp only; omega))⟩ ⟨((by rw [hS]; try rfl)), ((by rw [hS]; try rfl))⟩ rfl⟩
                        · refine aord_all [3] (by kernel_rfl) rfl ?_
                          refine And.intro (by first | exact app_le (by first | omega | (simp only [List.length_nil]; omega) | (simp; omega)) (by decide) | omega | assumption | decide | (simp only [Int.toNat_natCast, dflt_sl, dflt_st, dflt_str, dflt_int, dflt_bool]; omega) | (simp <;> omega)) ?_
                          refine aord_all [6] (by kernel_rfl) rfl ?_
                          refine And.intro (by exact app_le (show t.flds.length + 1 ≤ 1000000000 by omega) (by decide)) ?_
                          refine aord_light 7 rfl rfl rfl (by kernel_rfl) ?_
                          refine aord_all [8] (by kernel_rfl) rfl ?_
                          refine aord_done (by kernel_rfl) ?_
                          refine acode_frz [5, 6] ?_
                          refine acode_region ?_
                          refine And.intro (by first | omega | assumption | decide | (simp only [Int.toNat_natCast, dflt_sl, dflt_st, dflt_str, dflt_int, dflt_bool]; omega) | (simp <;> omega)) ?_
                          exact ⟨(i + 1, stepR t (L.getD i ((0 : Int), (0 : Int), ByteArray.empty, false)) (L.drop (i + 1))), hN, by first | omega | (simp <;> omega), le_of ⟨rfl, rfl, rfl, rfl, ((by rw [hS]; try rfl)), (ii_eq (by simp only; omega))⟩ ⟨((by rw [hS]; try rfl)), ((by rw [hS]; try rfl))⟩ rfl⟩
                      · refine aord_all [0] (by kernel_rfl) rfl ?_
                        refine aord_all [3] (by kernel_rfl) rfl ?_
                        refine And.intro (by first | exact app_le (by first | omega | (simp only [List.length_nil]; omega) | (simp; omega)) (by decide) | omega | assumption | decide | (simp only [Int.toNat_natCast, dflt_sl, dflt_st, dflt_str, dflt_int, dflt_bool]; omega) | (simp <;> omega)) ?_
                        refine aord_all [6] (by kernel_rfl) rfl ?_
                        refine And.intro (by exact app_le (show t.flds.length + 1 ≤ 1000000000 by omega) (by decide)) ?_
                        refine aord_light 7 rfl rfl rfl (by kernel_rfl) ?_
                        refine aord_all [8] (by kernel_rfl) rfl ?_
                        refine aord_done (by kernel_rfl) ?_
                        refine acode_frz [5, 6] ?_
                        refine acode_region ?_
                        refine And.intro (by first | omega | assumption | decide | (simp only [Int.toNat_natCast, dflt_sl, dflt_st, dflt_str, dflt_int, dflt_bool]; omega) | (simp <;> omega)) ?_
                        exact ⟨(i + 1, stepR t (L.getD i ((0 : Int), (0 : Int), ByteArray.empty, false)) (L.drop (i + 1))), hN, by first | omega | (simp <;> omega), le_of ⟨rfl, rfl, rfl, rfl, ((by rw [hS]; try rfl)), (ii_eq (by simp only; omega))⟩ ⟨((by rw [hS]; try rfl)), ((by rw [hS]; try rfl))⟩ rfl⟩
                    · refine aord_all [0, 2] (by kernel_rfl) rfl ?_
                      refine And.intro ?_ ?_
                      · refine aord_all [2] (by kernel_rfl) rfl ?_
                        refine aord_all [3] (by kernel_rfl) rfl ?_
                        refine And.intro (by first | exact app_le (by first | omega | (simp only [List.length_nil]; omega) | (simp; omega)) (by decide) | omega | assumption | decide | (simp only [Int.toNat_natCast, dflt_sl, dflt_st, dflt_str, dflt_int, dflt_bool]; omega) | (simp <;> omega)) ?_
                        refine aord_all [6] (by kernel_rfl) rfl ?_
                        refine And.intro (by exact app_le (show t.flds.length + 1 ≤ 1000000000 by omega) (by decide)) ?_
                        refine aord_light 7 rfl rfl rfl (by kernel_rfl) ?_
                        refine aord_all [8] (by kernel_rfl) rfl ?_
                        refine aord_done (by kernel_rfl) ?_
                        refine acode_frz [5, 6] ?_
                        refine acode_region ?_
                        refine And.intro (by first | omega | assumption | decide | (simp only [Int.toNat_natCast, dflt_sl, dflt_st, dflt_str, dflt_int, dflt_bool]; omega) | (simp <;> omega)) ?_
                        exact ⟨(i + 1, stepR t (L.getD i ((0 : Int), (0 : Int), ByteArray.empty, false)) (L.drop (i + 1))), hN, by first | omega | (simp <;> omega), le_of ⟨rfl, rfl, rfl, rfl, ((by rw [hS]; try rfl)), (ii_eq (by simp only; omega))⟩ ⟨((by rw [hS]; try rfl)), ((by rw [hS]; try rfl))⟩ rfl⟩
                      · refine aord_all [0] (by kernel_rfl) rfl ?_
                        refine aord_all [3] (by kernel_rfl) rfl ?_
                        refine And.intro (by first | exact app_le (by first | omega | (simp only [List.length_nil]; omega) | (simp; omega)) (by decide) | omega | assumption | decide | (simp only [Int.toNat_natCast, dflt_sl, dflt_st, dflt_str, dflt_int, dflt_bool]; omega) | (simp <;> omega)) ?_
                        refine aord_all [6] (by kernel_rfl) rfl ?_
                        refine And.intro (by exact app_le (show t.flds.length + 1 ≤ 1000000000 by omega) (by decide)) ?_
                        refine aord_light 7 rfl rfl rfl (by kernel_rfl) ?_
                        refine aord_all [8] (by kernel_rfl) rfl ?_
                        refine aord_done (by kernel_rfl) ?_
                        refine acode_frz [5, 6] ?_
                        refine acode_region ?_
                        refine And.intro (by first | omega | assumption | decide | (simp only [Int.toNat_natCast, dflt_sl, dflt_st, dflt_str, dflt_int, dflt_bool]; omega) | (simp <;> omega)) ?_
                        exact ⟨(i + 1, stepR t (L.getD i ((0 : Int), (0 : Int), ByteArray.empty, false)) (L.drop (i + 1))), hN, by first | omega | (simp <;> omega), le_of ⟨rfl, rfl, rfl, rfl, ((by rw [hS]; try rfl)), (ii_eq (by simp only; omega))⟩ ⟨((by rw [hS]; try rfl)), ((by rw [hS]; try rfl))⟩ rfl⟩
              · try simp only [decide_eq_false_iff_not] at h91
                try simp only [Int.toNat_natCast, dflt_int] at h91
                rw [kind_at hk hil] at h91
                have hS : stepR t (L.getD i ((0 : Int), (0 : Int), ByteArray.empty, false)) (L.drop (i + 1)) = { t with raw := t.raw ++ (L.getD i ((0 : Int), (0 : Int), ByteArray.empty, false)).2.2.1 ++ ⟨#[10]⟩ } := (by unfold stepR; rw [if_neg h58, if_neg h91])
                refine acode_skip ?_
                refine acode_region ?_
                refine And.intro (by first | omega | assumption | decide | (simp only [Int.toNat_natCast, dflt_sl, dflt_st, dflt_str, dflt_int, dflt_bool]; omega) | (simp <;> omega)) ?_
                exact ⟨(i + 1, stepR t (L.getD i ((0 : Int), (0 : Int), ByteArray.empty, false)) (L.drop (i + 1))), hN, by first | omega | (simp <;> omega), le_of ⟨rfl, rfl, rfl, rfl, ((by rw [hS]; try rfl)), (ii_eq (by simp only; omega))⟩ ⟨((by rw [hS]; try rfl)), ((by rw [hS]; try rfl))⟩ rfl⟩
      · try simp only [decide_eq_false_iff_not, Int.not_lt] at h39
        try simp only [Int.toNat_natCast, dflt_sl, dflt_st, dflt_str, dflt_int, dflt_bool] at h39
        refine acode_exit ?_
        have hd : L.drop i = [] := List.drop_eq_nil_of_le (by omega)
        have hE := hI.eq
        rw [hd] at hE
        refine acode_seq ?_
        refine acode_seq ?_
        refine acode_region ?_
        refine acode_cond rfl (fun h116 => ?_) (fun h116 => ?_)
        · try simp only [decide_eq_false_iff_not, Bool.not_eq_true'] at h116
          try simp only [Int.toNat_natCast, dflt_sl, dflt_st, dflt_str, dflt_int, dflt_bool] at h116
          refine acode_region ?_
          refine And.intro (by first | exact app_le (by first | omega | (simp only [List.length_cons, List.length_nil]; omega) | (simp; omega)) (by decide) | omega | assumption | decide | (simp only [Int.toNat_natCast, dflt_sl, dflt_st, dflt_str, dflt_int, dflt_bool]; omega) | (simp <;> omega)) ?_
          refine acode_seq ?_
          refine acode_region ?_
          refine acode_ret ?_
          rw [hE]
          unfold runR
          rw [if_neg (show ¬ t.raw = ByteArray.empty from h116)]
          rfl
        · try simp only [decide_eq_true_eq, Bool.not_eq_false'] at h116
          try simp only [Int.toNat_natCast, dflt_sl, dflt_st, dflt_str, dflt_int, dflt_bool] at h116
          refine acode_skip ?_
          refine acode_seq ?_
          refine acode_region ?_
          refine acode_ret ?_
          rw [hE]
          unfold runR
          rw [if_pos (show t.raw = ByteArray.empty from h116)]
          rfl
end Q
end Ab
end Go.Proofs.YtdedkoiodehmnaaDoor
namespace Go.Proofs.YtdedkoiodehmnaaDoor
open Go.RowKit
namespace Ab
set_option maxRecDepth 100000
namespace Q
abbrev rRow : Rd (List Fld) := .sl rFld
def recsL (l : List Itm) : List (List Fld) := (l.filter fun x => decide (x.1 = 3)).map (·.2.2)
theorem recs_snoc (l : List Itm) (i : Nat) (h : i < l.length) : recsL (l.take (i + 1)) = if (l.getD i ((0 : Int), ByteArray.empty, ([] : List Fld))).1 = 3 then recsL (l.take i) ++ [(l.getD i ((0 : Int), ByteArray.empty, ([] : List Fld))).2.2] else recsL (l.take i) := by
  unfold recsL
  rw [List.take_succ_eq_append_getElem h, List.filter_append, List.map_append, getD_get h ((0 : Int), ByteArray.empty, ([] : List Fld))]
  by_cases h3 : (l.getD i ((0 : Int), ByteArray.empty, ([] : List Fld))).1 = 3
  · rw [if_pos h3, List.filter_cons_of_pos (by simpa using h3)]; rfl
  · rw [if_neg h3, List.filter_cons_of_neg (by simpa using h3)]; simp
theorem recs_le (l : List Itm) (i : Nat) : (recsL (l.take i)).length ≤ l.length := by
  unfold recsL
  rw [List.length_map]
  refine Nat.le_trans (List.length_filter_le _ _) ?_
  rw [List.length_take]
  omega
theorem refStanzas_c (l : List Itm) (hl : l.length ≤ 1000000) : ACall Tryd.prog 59 [.one (.sl rItm l)] (.one (.sl rRow (recsL l))) := by
  refine acall_of (rs := [2]) Tryd.func59 rfl rfl rfl teOk rfl ?_
  refine acode_seq ?_
  refine acode_region ?_
  refine acode_seq ?_
  refine acode_region ?_
  refine acode_seq ?_
  refine acode_seq ?_
  refine acode_nilvec 3 22 rRow rfl ?_
  refine acode_region ?_
  refine acode_block ?_
  refine acode_loopP (fun (i : Nat) => i ≤ l.length) (fun (i : Nat) => [(0, .one (.sl rItm l)), (3, .one (.vec 0)), (4, ii .i64 i)]) (fun (i : Nat) => [(0, .vec 22 rRow (recsL (l.take i)))]) 1 (fun (i : Nat) => l.length - i) 0 (Nat.zero_le _) (le_of ⟨rfl, rfl, rfl⟩ rfl rfl) ?_
  intro i hI0
  refine acode_seq ?_
  refine acode_seq ?_
  refine acode_region ?_
  intro l3_2
  try simp only [Int.toNat_natCast, dflt_sl, dflt_st, dflt_str, dflt_int, dflt_bool] at l3_2
  refine acode_cond rfl (fun h8 => ?_) (fun h8 => ?_)
  · try simp only [decide_eq_true_eq] at h8
    try simp only [Int.toNat_natCast, dflt_sl, dflt_st, dflt_str, dflt_int, dflt_bool] at h8
    have hil : i < l.length := (by omega)
    have hrs := recs_snoc l i hil
    have hrl := recs_le l i
    refine acode_skip ?_
    refine acode_seq ?_
    refine acode_block ?_
    refine acode_seq ?_
    refine acode_region ?_
    refine And.intro (by first | omega | assumption | decide | (simp only [Int.toNat_natCast, dflt_sl, dflt_st, dflt_str, dflt_int, dflt_bool]; omega) | (simp <;> omega)) ?_
    refine acode_cond rfl (fun h16 => ?_) (fun h16 => ?_)
    · try simp only [decide_eq_true_eq] at h16
      try simp only [Int.toNat_natCast, dflt_sl, dflt_st, dflt_str, dflt_int] at h16
      rw [if_pos h16] at hrs
      refine acode_region ?_
      refine And.intro (by first | omega | assumption | decide | (simp only [Int.toNat_natCast, dflt_sl, dflt_st, dflt_str, dflt_int, dflt_bool]; omega) | (simp <;> omega)) ?_
      refine And.intro (by first | exact app_le (by first | omega | (simp only [List.length_cons, List.length_nil]; omega) | (simp; omega)) (by decide) | omega | assumption | decide | (simp only [Int.toNat_natCast, dflt_sl, dflt_st, dflt_str, dflt_int, dflt_bool]; omega) | (simp <;> omega)) ?_
      refine acode_region ?_
      refine And.intro (by first | omega | assumption | decide | (simp only [Int.toNat_natCast, dflt_sl, dflt_st, dflt_str, dflt_int, dflt_bool]; omega) | (simp <;> omega)) ?_
      exact ⟨i + 1, by omega, by first | omega | (simp <;> omega), le_of ⟨rfl, rfl, (ii_eq (by omega))⟩ (vec_eq (by rw [hrs]; try rfl)) rfl⟩
    · try simp only [decide_eq_false_iff_not] at h16
      try simp only [Int.toNat_natCast, dflt_sl, dflt_st, dflt_str, dflt_int] at h16
      rw [if_neg h16] at hrs
      refine acode_skip ?_
      refine acode_region ?_
      refine And.intro (by first | omega | assumption | decide | (simp only [Int.toNat_natCast, dflt_sl, dflt_st, dflt_str, dflt_int, dflt_bool]; omega) | (simp <;> omega)) ?_
      exact ⟨i + 1, by omega, by first | omega | (simp <;> omega), le_of ⟨rfl, rfl, (ii_eq (by omega))⟩ (vec_eq (by rw [hrs]; try rfl)) rfl⟩
  · try simp only [decide_eq_false_iff_not, Int.not_lt] at h8
    try simp only [Int.toNat_natCast, dflt_sl, dflt_st, dflt_str, dflt_int, dflt_bool] at h8
    refine acode_exit ?_
    refine acode_seq ?_
    refine acode_region ?_
    refine acode_ret ?_
    rw [List.take_of_length_le (by omega)]
    rfl
theorem stanzas_c (l : List Itm) (hl : l.length ≤ 1000000) (hf : ∀ x ∈ l, x.2.2.length ≤ 1000000) : ACall Tryd.prog 58 [.one (.sl rItm l)] (.one (.sl rRow (recsL l))) := by
  refine acall_of (rs := [2]) Tryd.func58 rfl rfl rfl teOk rfl ?_
  refine acode_seq ?_
  refine acode_region ?_
  refine acode_seq ?_
  refine acode_region ?_
  refine acode_seq ?_
  refine acode_seq ?_
  refine acode_nilvec 3 22 rRow rfl ?_
  refine acode_region ?_
  intro l2_1
  try simp only [Int.toNat_natCast, dflt_sl, dflt_st, dflt_str, dflt_int, dflt_bool] at l2_1
  refine acode_block ?_
  refine acode_loopP (fun (i : Nat) => i ≤ l.length) (fun (i : Nat) => [(3, .one (.vec 0)), (6, .one (.sl rItm l)), (7, ii .i64 l.length), (8, ii .i64 i)]) (fun (i : Nat) => [(0, .vec 22 rRow (recsL (l.take i)))]) 1 (fun (i : Nat) => l.length - i) 0 (Nat.zero_le _) (le_of ⟨rfl, rfl, rfl, rfl⟩ rfl rfl) ?_
  intro i hI0
  refine acode_seq ?_
  refine acode_region ?_
  refine acode_seq ?_
  refine acode_cond rfl (fun h9 => ?_) (fun h9 => ?_)
  · try simp only [decide_eq_true_eq] at h9
    try simp only [Int.toNat_natCast, dflt_sl, dflt_st, dflt_str, dflt_int, dflt_bool] at h9
    have hil : i < l.length := (by omega)
    have hrs := recs_snoc l i hil
    have hrl := recs_le l i
    have hfl := hf _ (getD_mem hil ((0 : Int), ByteArray.empty, ([] : List Fld)))
    refine acode_skip ?_
    refine acode_seq ?_
    refine acode_block ?_
    refine acode_seq ?_
    refine acode_region ?_
    refine And.intro (by first | omega | assumption | decide | (simp only [Int.toNat_natCast, dflt_sl, dflt_st, dflt_str, dflt_int, dflt_bool]; omega) | (simp <;> omega)) ?_
    refine acode_seq ?_
    refine acode_region ?_
    refine acode_cond rfl (fun h14 => ?_) (fun h14 => ?_)
    · try simp only [decide_eq_true_eq] at h14
      try simp only [Int.toNat_natCast, dflt_sl, dflt_st, dflt_str, dflt_int] at h14
      rw [if_pos h14] at hrs
      refine acode_region ?_
      refine And.intro (by first | exact app_le (show (l.getD i ((0 : Int), ByteArray.empty, ([] : List Fld))).2.2.length ≤ 1000000000 by omega) (by decide) | exact app_le (show 0 + (l.getD i ((0 : Int), ByteArray.empty, ([] : List Fld))).2.2.length ≤ 1000000000 by omega) (by decide)) ?_
      refine And.intro (by first | exact app_le (by first | omega | (simp only [List.length_cons, List.length_nil]; omega) | (simp; omega)) (by decide) | omega | assumption | decide | (simp only [Int.toNat_natCast, dflt_sl, dflt_st, dflt_str, dflt_int, dflt_bool]; omega) | (simp <;> omega)) ?_
      refine acode_region ?_
      refine And.intro (by first | omega | assumption | decide | (simp only [Int.toNat_natCast, dflt_sl, dflt_st, dflt_str, dflt_int, dflt_bool]; omega) | (simp <;> omega)) ?_
      exact ⟨i + 1, by omega, by first | omega | (simp <;> omega), le_of ⟨rfl, rfl, rfl, (ii_eq (by omega))⟩ (vec_eq (by rw [hrs]; try rfl)) rfl⟩
    · try simp only [decide_eq_false_iff_not] at h14
      try simp only [Int.toNat_natCast, dflt_sl, dflt_st, dflt_str, dflt_int] at h14
      rw [if_neg h14] at hrs
      refine acode_skip ?_
      refine acode_region ?_
      refine And.intro (by first | omega | assumption | decide | (simp only [Int.toNat_natCast, dflt_sl, dflt_st, dflt_str, dflt_int, dflt_bool]; omega) | (simp <;> omega)) ?_
      exact ⟨i + 1, by omega, by first | omega | (simp <;> omega), le_of ⟨rfl, rfl, rfl, (ii_eq (by omega))⟩ (vec_eq (by rw [hrs]; try rfl)) rfl⟩
  · try simp only [decide_eq_false_iff_not, Int.not_lt] at h9
    try simp only [Int.toNat_natCast, dflt_sl, dflt_st, dflt_str, dflt_int, dflt_bool] at h9
    refine acode_exit ?_
    refine acode_seq ?_
    refine acode_region ?_
    refine acode_ret ?_
    rw [List.take_of_length_le (by omega)]
    rfl
theorem rows5_c (a b : List (List Fld)) : ACall Tryd.prog 62 [.one (.sl rRow a), .one (.sl rRow b)] (ib (decide (a = b))) := by
  refine acall_of (rs := [4]) Tryd.func62 rfl rfl rfl teOk rfl ?_
  refine acode_seq ?_
  refine acode_region ?_
  refine acode_seq ?_
  refine acode_seq ?_
  refine acode_region ?_
  intro l1_1
  try simp only [Int.toNat_natCast, dflt_sl, dflt_st, dflt_str, dflt_int, dflt_bool] at l1_1
  intro l1_3
  try simp only [Int.toNat_natCast, dflt_sl, dflt_st, dflt_str, dflt_int, dflt_bool] at l1_3
  refine acode_cond rfl (fun h10 => ?_) (fun h10 => ?_)
  · try simp only [decide_eq_false_iff_not, Bool.not_eq_true'] at h10
    try simp only [Int.toNat_natCast, dflt_sl, dflt_st, dflt_str, dflt_int, dflt_bool] at h10
    refine acode_seq ?_
    refine acode_region ?_
    refine acode_ret ?_
    exact ib_eq (decide_eq_false (fun e => by rw [e] at h10; omega)).symm
  · try simp only [decide_eq_true_eq, Bool.not_eq_false'] at h10
    try simp only [Int.toNat_natCast, dflt_sl, dflt_st, dflt_str, dflt_int, dflt_bool] at h10
    refine acode_skip ?_
    refine acode_seq ?_
    refine acode_seq ?_
    refine acode_region ?_
    intro l3_1
    try simp only [Int.toNat_natCast, dflt_sl, dflt_st, dflt_str, dflt_int, dflt_bool] at l3_1
    refine acode_block ?_
    refine acode_loopP (fun (i : Nat) => i ≤ a.length ∧ a.take i = b.take i) (fun (i : Nat) => [(0, .one (.sl rRow a)), (1, .one (.sl rRow b)), (12, ii .i64 a.length), (13, ii .i64 i)]) (fun (i : Nat) => []) 0 (fun (i : Nat) => a.length - i) 0 (⟨Nat.zero_le _, by simp⟩) (le_of ⟨rfl, rfl, rfl, rfl⟩ trivial rfl) ?_
    intro i hI0
    obtain ⟨hi, ht⟩ := hI0
    refine acode_seq ?_
    refine acode_region ?_
    refine acode_seq ?_
    refine acode_cond rfl (fun h14 => ?_) (fun h14 => ?_)
    · try simp only [decide_eq_true_eq] at h14
      try simp only [Int.toNat_natCast, dflt_sl, dflt_st, dflt_str, dflt_int, dflt_bool] at h14
      have hla : i < a.length := by omega
      have hlb : i < b.length := by omega
      refine acode_skip ?_
      refine acode_seq ?_
      refine acode_block ?_
      refine acode_seq ?_
      refine acode_region ?_
      refine acode_seq ?_
      refine acode_draw rfl (by kernel_rfl) ?_
      refine And.intro (by first | omega | assumption | decide | (simp only [Int.toNat_natCast, dflt_sl, dflt_st, dflt_str, dflt_int, dflt_bool]; omega) | (simp <;> omega)) ?_
      refine And.intro (by first | omega | assumption | decide | (simp only [Int.toNat_natCast, dflt_sl, dflt_st, dflt_str, dflt_int, dflt_bool]; omega) | (simp <;> omega)) ?_
      refine And.intro (rfl) ?_
      refine Exists.intro _ (And.intro (fields_c (a.getD i ([] : List Fld)) (b.getD i ([] : List Fld))) ?_)
      refine acode_cond rfl (fun h25 => ?_) (fun h25 => ?_)
      · try simp only [decide_eq_false_iff_not, Bool.not_eq_true'] at h25
        try simp only [Int.toNat_natCast, dflt_sl, dflt_st, dflt_str, dflt_int, dflt_bool] at h25
        refine acode_seq ?_
        refine acode_region ?_
        refine acode_ret ?_
        exact ib_eq (decide_eq_false (ne_at (i := i) ([] : List Fld) h25)).symm
      · try simp only [decide_eq_true_eq, Bool.not_eq_false'] at h25
        try simp only [Int.toNat_natCast, dflt_sl, dflt_st, dflt_str, dflt_int, dflt_bool] at h25
        refine acode_skip ?_
        refine acode_region ?_
        refine And.intro (by first | omega | assumption | decide | (simp only [Int.toNat_natCast, dflt_sl, dflt_st, dflt_str, dflt_int, dflt_bool]; omega) | (simp <;> omega)) ?_
        exact ⟨i + 1, ⟨by omega, list_ext_take ([] : List Fld) hla hlb ht h25⟩, by first | omega | (simp <;> omega), le_of ⟨rfl, rfl, rfl, (ii_eq (by omega))⟩ trivial rfl⟩
    · try simp only [decide_eq_false_iff_not, Int.not_lt] at h14
      try simp only [Int.toNat_natCast, dflt_sl, dflt_st, dflt_str, dflt_int, dflt_bool] at h14
      refine acode_exit ?_
      refine acode_seq ?_
      refine acode_region ?_
      refine acode_ret ?_
      exact ib_eq (decide_eq_true (by rw [List.take_of_length_le (by omega), List.take_of_length_le (by omega)] at ht; exact ht)).symm
def contP (p : PSt) : List UInt8 := rawsL p.its ++ endL (p.blk.map ls)
theorem raws_app (a b : List Itm) : rawsL (a ++ b) = rawsL a ++ rawsL b := by simp [rawsL]
theorem endL_app (a b : List (List UInt8)) : endL (a ++ b) = endL a ++ endL b := by simp [endL]
theorem close_cont (p : PSt) : contP (closeS p) = contP p := by
  unfold closeS
  split
  · rename_i h
    unfold contP
    simp [h]
  · rename_i h
    unfold contP
    simp only [raws_app]
    rw [rawB_C h]
    have : rawsL [((if p.flds = [] then 2 else 3 : Int), rawC p.blk, p.flds)] = endL (p.blk.map ls) := by
      unfold rawsL rawC
      simp only [List.flatMap_cons, List.flatMap_nil, List.append_nil]
      exact bytes_list _
    rw [this]
    simp [endL]
theorem flush_cont {p q : PSt} (h : flushS p = .inr q) : contP q = contP p := by
  obtain ⟨h1, h2⟩ := flush_same h
  unfold contP
  rw [h1, h2]
theorem end_cont {p q : PSt} (h : endS p = .inr q) : contP q = contP p := by
  unfold endS at h
  cases e : flushS p with
  | inl x => rw [e] at h; cases h
  | inr r =>
    rw [e] at h
    cases h
    rw [close_cont, flush_cont e]
theorem ahead_cont {p q : PSt} {l : Lne} {k : Int} (h : aheadS p l k = .inr q) : contP q = contP p := by
  unfold aheadS at h
  split at h
  · split at h
    · cases h
    · split at h
      · cases h; rfl
      · rw [flush_cont h]; rfl
  · split at h
    · exact end_cont h
    · exact flush_cont h
theorem take_cont {p q : PSt} {l : Lne} (h : takeS p l = .inr q) : contP q = contP p ++ (ls l.2.2.1 ++ [10]) := by
  have hi := fun hk => (ahead_took (p := p) (l := l) (k := kindL (ls l.2.2.1)) (q := q) hk)
  unfold takeS at h
  cases e : aheadS p l (kindL (ls l.2.2.1)) with
  | inl x => rw [e] at h; cases h
  | inr r =>
    rw [e] at h
    have hc := ahead_cont e
    obtain ⟨_, _, h4⟩ := ahead_took e
    simp only at h
    unfold lineS at h
    split at h
    · cases h
    · split at h
      · rename_i g1
        cases h
        rw [← hc]
        unfold contP
        simp only [raws_app, (h4 g1).2.1]
        simp [rawsL, endL, ls]
      · split at h
        · cases h
          rw [← hc]
          unfold contP beginS
          simp only [List.map_append, endL_app]
          simp [endL, ls]
        · cases h
          rw [← hc]
          unfold contP
          simp only [List.map_append, endL_app]
          simp [endL, ls]
theorem run_cont : ∀ (L : List Lne) (p q : PSt), runS p L = .inr q → contP q = contP p ++ glue (L.map (·.2.2))
  | [], p, q, h => by cases h; simp [glue]
  | l :: r, p, q, h => by
    simp only [runS] at h
    cases e : takeS p l with
    | inl x => rw [e] at h; cases h
    | inr p1 =>
      rw [e] at h
      obtain ⟨he, _⟩ := take_took e
      rw [run_cont r p1 q h, take_cont e, List.map_cons]
      simp only [glue, he, if_true, List.append_assoc]
theorem raws_text {s : ByteArray} {l : List Itm} (hp : parseS s = .inr l) : bytes (rawsL l) = s := by
  unfold parseS at hp
  cases e : runS pst0 (linesT s) with
  | inl x => rw [e] at hp; cases hp
  | inr p =>
    rw [e] at hp
    simp only at hp
    cases e2 : endS p with
    | inl x => rw [e2] at hp; cases hp
    | inr q =>
      rw [e2] at hp
      cases hp
      obtain ⟨_, _, hidle⟩ := end_took e2
      have h1 : contP q = rawsL q.its := by unfold contP; rw [hidle.2.1]; simp [endL]
      rw [← h1, end_cont e2, run_cont _ _ _ e, lines_text, glue_lines _ _ (by rw [show (ls s).length = s.size from (size_list s).symm]; exact Nat.le_refl _)]
      exact bytes_ls s
theorem runR_ne : ∀ (L : List Lne) (t : RSt) (bh : Bool) (e : Int × Int), runR bh t L = .inl e → e.2 ≠ 0
  | [], t, bh, e, h => by unfold runR at h; cases h
  | l :: r, t, bh, e, h => by
    unfold runR at h
    split at h
    · rename_i hw; cases h; exact hw
    · exact runR_ne r _ _ e h
theorem items_flds {s : ByteArray} {l : List Itm} (hs : s.size ≤ 60000) (hp : parseS s = .inr l) : l.length ≤ 1000000 ∧ ∀ x ∈ l, x.2.2.length ≤ 1000000 := by
  have h0 := parse_ref s
  rw [hp] at h0
  obtain ⟨h1, _⟩ := linesT_len s
  have key : ∀ (L : List Lne) (t : RSt) (bh : Bool) (l : List Itm), runR bh t L = .inr l → l.length ≤ t.out.length + 1 + 2 * L.length ∧ ∀ (B : Nat), t.flds.length + L.length ≤ B → (∀ x ∈ t.out, x.2.2.length ≤ B) → ∀ x ∈ l, x.2.2.length ≤ B := by
    intro L
    induction L with
    | nil =>
      intro t bh l h
      unfold runR at h
      cases h
      refine ⟨by split <;> simp, fun B hB ho x hx => ?_⟩
      split at hx
      · exact ho x hx
      · rcases List.mem_append.1 hx with hx | hx
        · exact ho x hx
        · rw [List.mem_singleton.1 hx]; simpa using hB
    | cons a r ih =>
      intro t bh l h
      unfold runR at h
      split at h
      · cases h
      · obtain ⟨i1, i2⟩ := ih _ _ _ h
        have so : (stepR t a r).out.length ≤ t.out.length + 2 := by
          unfold stepR
          split
          · simp only; split <;> simp
          · split <;> simp
        have sf : (stepR t a r).flds.length ≤ t.flds.length + 1 := by
          unfold stepR
          split
          · simp
          · split <;> simp
        refine ⟨by rw [List.length_cons]; omega, fun B hB ho => i2 B (by rw [List.length_cons] at hB; omega) (fun x hx => ?_)⟩
        have hB2 : t.flds.length ≤ B := by omega
        unfold stepR at hx
        split at hx
        · simp only at hx
          rcases List.mem_append.1 hx with hx | hx
          · split at hx
            · exact ho x hx
            · rcases List.mem_append.1 hx with hx | hx
              · exact ho x hx
              · rw [List.mem_singleton.1 hx]; exact hB2
          · rw [List.mem_singleton.1 hx]; exact Nat.zero_le _
        · split at hx
          · exact ho x hx
          · exact ho x hx
  obtain ⟨k1, k2⟩ := key _ _ _ _ h0.symm
  refine ⟨by simp only [rst0, List.length_nil] at k1; omega, k2 1000000 (by simp only [rst0, List.length_nil]; omega) (fun x hx => by cases hx)⟩
theorem at_errno (n : Int) : ACall Tryd.prog 45 [.one (errN n)] (ii .i64 (-9)) := by
  refine acall_of (rs := [2]) Tryd.func45 rfl rfl rfl teOk rfl ?_
  refine acode_seq ?_
  refine acode_region ?_
  refine acode_seq ?_
  refine acode_seq ?_
  refine acode_region ?_
  refine acode_seq ?_
  refine acode_region ?_
  refine And.intro (fun h => trivial) ?_
  refine And.intro (fun h => ⟨⟨h, trivial⟩, trivial⟩) ?_
  refine And.intro (by exact fun h => h) ?_
  refine acode_cond rfl (fun h14 => ?_) (fun h14 => ?_)
  · try simp only [Bool.and_eq_true, Bool.not_eq_true'] at h14
    try simp only [Int.toNat_natCast, dflt_sl, dflt_st, dflt_str, dflt_int, dflt_bool] at h14
    simp at h14
  · try simp only [Bool.not_eq_false', Bool.and_eq_false_iff] at h14
    try simp only [Int.toNat_natCast, dflt_sl, dflt_st, dflt_str, dflt_int, dflt_bool] at h14
    refine acode_skip ?_
    refine acode_seq ?_
    refine acode_region ?_
    refine acode_ret ?_
    rfl
theorem good_big (s : ByteArray) (hs : 60000 < s.size) : ACall Tryd.prog 64 [is s] (ib false) := by
  have hp := parse_big s hs
  refine acall_of (rs := [2]) Tryd.func64 rfl rfl rfl teOk rfl ?_
  refine acode_seq ?_
  refine acode_region ?_
  refine acode_seq ?_
  refine acode_region ?_
  refine Or.inl ?_
  refine And.intro (rfl) ?_
  refine Exists.intro _ (And.intro (hp) ?_)
  refine acode_seq ?_
  refine acode_region ?_
  refine acode_ret ?_
  rfl
theorem refParse_big (s : ByteArray) (hs : 60000 < s.size) : ACall Tryd.prog 63 [is s] (resR (.inl (-9, 1))) := by
  refine acall_of (rs := [2, 3, 4]) Tryd.func63 rfl rfl rfl teOk rfl ?_
  refine acode_seq ?_
  refine acode_region ?_
  refine acode_seq ?_
  refine acode_seq ?_
  refine acode_region ?_
  refine acode_cond rfl (fun h17 => ?_) (fun h17 => ?_)
  · try simp only [decide_eq_true_eq] at h17
    try simp only [Int.toNat_natCast, dflt_sl, dflt_st, dflt_str, dflt_int, dflt_bool] at h17
    refine acode_seq ?_
    refine acode_region ?_
    refine acode_nilvec 2 75 rItm rfl ?_
    refine acode_ret ?_
    rfl
  · try simp only [decide_eq_false_iff_not, Int.not_lt] at h17
    try simp only [Int.toNat_natCast, dflt_sl, dflt_st, dflt_str, dflt_int, dflt_bool] at h17
    omega
theorem StanzaParses_c (s : ByteArray) : ACall Tryd.prog 13 [is s] (ib true) := by
  by_cases hbig : 60000 < s.size
  ·
    refine acall_of (rs := [2]) Tryd.func13 rfl rfl rfl teOk rfl ?_
    refine acode_seq ?_
    refine acode_region ?_
    refine acode_seq ?_
    refine acode_seq ?_
    refine acode_region ?_
    refine Or.inl ?_
    refine And.intro (rfl) ?_
    refine Exists.intro _ (And.intro (alive_c) ?_)
    refine acode_cond rfl (fun h9 => ?_) (fun h9 => ?_)
    · try simp only [Bool.not_eq_true'] at h9
      try simp only [Int.toNat_natCast, dflt_sl, dflt_st, dflt_str, dflt_int, dflt_bool] at h9
      cases h9
    · try simp only [Bool.not_eq_false'] at h9
      try simp only [Int.toNat_natCast, dflt_sl, dflt_st, dflt_str, dflt_int, dflt_bool] at h9
      refine acode_skip ?_
      refine acode_seq ?_
      refine acode_seq ?_
      refine acode_region ?_
      refine And.intro (fun h => trivial) ?_
      refine And.intro (fun h => ⟨⟨h, trivial⟩, trivial⟩) ?_
      refine And.intro (fun h => ⟨⟨h, trivial⟩, trivial⟩) ?_
      refine And.intro (by exact fun h => h) ?_
      refine acode_cond rfl (fun h17 => ?_) (fun h17 => ?_)
      · try simp only [decide_eq_true_eq, Bool.and_eq_true] at h17
        try simp only [Int.toNat_natCast, dflt_sl, dflt_st, dflt_str, dflt_int, dflt_bool] at h17
        omega
      · try simp only [decide_eq_false_iff_not, Bool.and_eq_false_iff, Int.not_lt, Int.not_le] at h17
        try simp only [Int.toNat_natCast, dflt_sl, dflt_st, dflt_str, dflt_int, dflt_bool] at h17
        refine acode_skip ?_
        refine acode_seq ?_
        refine acode_region ?_
        refine Or.inl ?_
        refine And.intro (rfl) ?_
        refine Exists.intro _ (And.intro (parse_big s hbig) ?_)
        refine acode_seq ?_
        refine acode_region ?_
        refine Or.inl ?_
        refine And.intro (rfl) ?_
        refine Exists.intro _ (And.intro (refParse_big s hbig) ?_)
        refine acode_seq ?_
        refine acode_seq ?_
        refine acode_region ?_
        refine Or.inl ?_
        refine And.intro (rfl) ?_
        refine Exists.intro _ (And.intro (num_errno 1 (by decide)) ?_)
        refine And.intro (fun h => trivial) ?_
        refine And.intro (rfl) ?_
        refine Exists.intro _ (And.intro (fun h => ⟨⟨⟨h, trivial⟩, trivial⟩, at_errno 1⟩) ?_)
        refine And.intro (fun h => trivial) ?_
        refine And.intro (fun h => ⟨⟨h, trivial⟩, ⟨h, trivial⟩, trivial⟩) ?_
        refine And.intro (by first | (intro h; rw [h]; rfl) | (intro h; cases h)) ?_
        refine And.intro (fun h => trivial) ?_
        refine And.intro (fun h => trivial) ?_
        refine And.intro (rfl) ?_
        refine Exists.intro _ (And.intro (fun h => ⟨⟨⟨h, trivial⟩, ⟨h, trivial⟩, trivial⟩, items_c [] []⟩) ?_)
        refine And.intro (fun h => ⟨⟨h, trivial⟩, trivial⟩) ?_
        refine And.intro (by first | (intro h; rw [h]; rfl) | (intro h; cases h)) ?_
        refine And.intro (fun h => trivial) ?_
        refine And.intro (rfl) ?_
        refine Exists.intro _ (And.intro (fun h => ⟨⟨⟨h, trivial⟩, trivial⟩, good_big s hbig⟩) ?_)
        refine And.intro (fun h => trivial) ?_
        refine And.intro (fun h => ⟨⟨h, trivial⟩, trivial⟩) ?_
        refine And.intro (fun h => ⟨⟨h, trivial⟩, ⟨h, trivial⟩, trivial⟩) ?_
        refine And.intro (by first | (intro h; rw [h]; rfl) | (intro h; cases h)) ?_
        refine acode_cond rfl (fun h51 => ?_) (fun h51 => ?_)
        · try simp only [decide_eq_false_iff_not, Bool.not_eq_true', Bool.or_eq_true] at h51
          try simp only [Int.toNat_natCast, dflt_sl, dflt_st, dflt_str, dflt_int, dflt_bool] at h51
          simp at h51
        · try simp only [decide_eq_true_eq, Bool.not_eq_false', Bool.or_eq_false_iff] at h51
          try simp only [Int.toNat_natCast, dflt_sl, dflt_st, dflt_str, dflt_int, dflt_bool] at h51
          refine acode_skip ?_
          refine acode_seq ?_
          refine acode_region ?_
          refine And.intro (fun h => trivial) ?_
          refine And.intro (rfl) ?_
          refine Exists.intro _ (And.intro (fun h => ⟨⟨⟨h, trivial⟩, trivial⟩, joinI_c [] (by decide) (by decide)⟩) ?_)
          refine And.intro (fun h => trivial) ?_
          refine And.intro (fun h => ⟨⟨h, trivial⟩, ⟨h, trivial⟩, trivial⟩) ?_
          refine And.intro (fun h => ⟨⟨h, trivial⟩, trivial⟩) ?_
          refine And.intro (fun h => trivial) ?_
          refine And.intro (rfl) ?_
          refine Exists.intro _ (And.intro (fun h => ⟨⟨⟨h, trivial⟩, trivial⟩, stanzas_c [] (by decide) (fun x hx => by cases hx)⟩) ?_)
          refine And.intro (fun h => trivial) ?_
          refine And.intro (rfl) ?_
          refine Exists.intro _ (And.intro (fun h => ⟨⟨⟨h, trivial⟩, trivial⟩, refStanzas_c [] (by decide)⟩) ?_)
          refine And.intro (rfl) ?_
          refine Exists.intro _ (And.intro (fun h => ⟨⟨⟨h, trivial⟩, ⟨h, trivial⟩, trivial⟩, rows5_c [] []⟩) ?_)
          refine And.intro (fun h => ⟨⟨⟨h, trivial⟩, trivial⟩, by first | exact fun h2 => h2 | (intro h2; rw [h, h2]; rfl) | (intro h2; cases h2) | (intro h2; simp_all [gq])⟩) ?_
          refine And.intro (by first | (intro h; rw [h]; rfl) | (intro h; cases h)) ?_
          refine acode_ret ?_
          rfl
  · by_cases hmid : 8000 < s.size
    ·
      refine acall_of (rs := [2]) Tryd.func13 rfl rfl rfl teOk rfl ?_
      refine acode_seq ?_
      refine acode_region ?_
      refine acode_seq ?_
      refine acode_seq ?_
      refine acode_region ?_
      refine Or.inl ?_
      refine And.intro (rfl) ?_
      refine Exists.intro _ (And.intro (alive_c) ?_)
      refine acode_cond rfl (fun h9 => ?_) (fun h9 => ?_)
      · try simp only [Bool.not_eq_true'] at h9
        try simp only [Int.toNat_natCast, dflt_sl, dflt_st, dflt_str, dflt_int, dflt_bool] at h9
        cases h9
      · try simp only [Bool.not_eq_false'] at h9
        try simp only [Int.toNat_natCast, dflt_sl, dflt_st, dflt_str, dflt_int, dflt_bool] at h9
        refine acode_skip ?_
        refine acode_seq ?_
        refine acode_seq ?_
        refine acode_region ?_
        refine And.intro (fun h => trivial) ?_
        refine And.intro (fun h => ⟨⟨h, trivial⟩, trivial⟩) ?_
        refine And.intro (fun h => ⟨⟨h, trivial⟩, trivial⟩) ?_
        refine And.intro (by exact fun h => h) ?_
        refine acode_cond rfl (fun h17 => ?_) (fun h17 => ?_)
        · try simp only [decide_eq_true_eq, Bool.and_eq_true] at h17
          try simp only [Int.toNat_natCast, dflt_sl, dflt_st, dflt_str, dflt_int, dflt_bool] at h17
          refine acode_seq ?_
          refine acode_region ?_
          refine acode_ret ?_
          rfl
        · try simp only [decide_eq_false_iff_not, Bool.and_eq_false_iff, Int.not_lt, Int.not_le] at h17
          try simp only [Int.toNat_natCast, dflt_sl, dflt_st, dflt_str, dflt_int, dflt_bool] at h17
          omega
    · have hp := parse_a s (by omega)
      have hq := refParse_a s (by omega)
      have hg := good_c s (by omega)
      cases hr : parseS s with
      | inl e =>
        rw [hr] at hp hq hg
        have hne : e.2 ≠ 0 := by
          rw [parse_ref] at hr
          exact runR_ne _ _ _ e hr
        refine acall_of (rs := [2]) Tryd.func13 rfl rfl rfl teOk rfl ?_
        refine acode_seq ?_
        refine acode_region ?_
        refine acode_seq ?_
        refine acode_seq ?_
        refine acode_region ?_
        refine Or.inl ?_
        refine And.intro (rfl) ?_
        refine Exists.intro _ (And.intro (alive_c) ?_)
        refine acode_cond rfl (fun h9 => ?_) (fun h9 => ?_)
        · try simp only [Bool.not_eq_true'] at h9
          try simp only [Int.toNat_natCast, dflt_sl, dflt_st, dflt_str, dflt_int, dflt_bool] at h9
          cases h9
        · try simp only [Bool.not_eq_false'] at h9
          try simp only [Int.toNat_natCast, dflt_sl, dflt_st, dflt_str, dflt_int, dflt_bool] at h9
          refine acode_skip ?_
          refine acode_seq ?_
          refine acode_seq ?_
          refine acode_region ?_
          refine And.intro (fun h => trivial) ?_
          refine And.intro (fun h => ⟨⟨h, trivial⟩, trivial⟩) ?_
          refine And.intro (fun h => ⟨⟨h, trivial⟩, trivial⟩) ?_
          refine And.intro (by exact fun h => h) ?_
          refine acode_cond rfl (fun h17 => ?_) (fun h17 => ?_)
          · try simp only [decide_eq_true_eq, Bool.and_eq_true] at h17
            try simp only [Int.toNat_natCast, dflt_sl, dflt_st, dflt_str, dflt_int, dflt_bool] at h17
            omega
          · try simp only [decide_eq_false_iff_not, Bool.and_eq_false_iff, Int.not_lt, Int.not_le] at h17
            try simp only [Int.toNat_natCast, dflt_sl, dflt_st, dflt_str, dflt_int, dflt_bool] at h17
            refine acode_skip ?_
            refine acode_seq ?_
            refine acode_region ?_
            refine Or.inl ?_
            refine And.intro (rfl) ?_
            refine Exists.intro _ (And.intro (hp) ?_)
            refine acode_seq ?_
            refine acode_region ?_
            refine Or.inl ?_
            refine And.intro (rfl) ?_
            refine Exists.intro _ (And.intro (hq) ?_)
            refine acode_seq ?_
            refine acode_seq ?_
            refine acode_region ?_
            refine Or.inl ?_
            refine And.intro (rfl) ?_
            refine Exists.intro _ (And.intro (num_fault e.1 e.2 hne) ?_)
            refine And.intro (fun h => trivial) ?_
            refine And.intro (rfl) ?_
            refine Exists.intro _ (And.intro (fun h => ⟨⟨⟨h, trivial⟩, trivial⟩, at_fault e.1 e.2⟩) ?_)
            refine And.intro (fun h => trivial) ?_
            refine And.intro (fun h => ⟨⟨h, trivial⟩, ⟨h, trivial⟩, trivial⟩) ?_
            refine And.intro (by first | (intro h; rw [h]; rfl) | (intro h; cases h)) ?_
            refine And.intro (fun h => trivial) ?_
            refine And.intro (fun h => trivial) ?_
            refine And.intro (rfl) ?_
            refine Exists.intro _ (And.intro (fun h => ⟨⟨⟨h, trivial⟩, ⟨h, trivial⟩, trivial⟩, items_c [] []⟩) ?_)
            refine And.intro (fun h => ⟨⟨h, trivial⟩, trivial⟩) ?_
            refine And.intro (by first | (intro h; rw [h]; rfl) | (intro h; cases h)) ?_
            refine And.intro (fun h => trivial) ?_
            refine And.intro (rfl) ?_
            refine Exists.intro _ (And.intro (fun h => ⟨⟨⟨h, trivial⟩, trivial⟩, hg⟩) ?_)
            refine And.intro (fun h => trivial) ?_
            refine And.intro (fun h => ⟨⟨h, trivial⟩, trivial⟩) ?_
            refine And.intro (fun h => ⟨⟨h, trivial⟩, ⟨h, trivial⟩, trivial⟩) ?_
            refine And.intro (by first | (intro h; rw [h]; rfl) | (intro h; cases h)) ?_
            refine acode_cond rfl (fun h51 => ?_) (fun h51 => ?_)
            · try simp only [decide_eq_false_iff_not, Bool.not_eq_true', Bool.or_eq_true] at h51
              try simp only [Int.toNat_natCast, dflt_sl, dflt_st, dflt_str, dflt_int, dflt_bool] at h51
              simp [hne] at h51
            · try simp only [decide_eq_true_eq, Bool.not_eq_false', Bool.or_eq_false_iff] at h51
              try simp only [Int.toNat_natCast, dflt_sl, dflt_st, dflt_str, dflt_int, dflt_bool] at h51
              refine acode_skip ?_
              refine acode_seq ?_
              refine acode_region ?_
              refine And.intro (fun h => trivial) ?_
              refine And.intro (rfl) ?_
              refine Exists.intro _ (And.intro (fun h => ⟨⟨⟨h, trivial⟩, trivial⟩, joinI_c [] (by decide) (by decide)⟩) ?_)
              refine And.intro (fun h => trivial) ?_
              refine And.intro (fun h => ⟨⟨h, trivial⟩, ⟨h, trivial⟩, trivial⟩) ?_
              refine And.intro (fun h => ⟨⟨h, trivial⟩, trivial⟩) ?_
              refine And.intro (fun h => trivial) ?_
              refine And.intro (rfl) ?_
              refine Exists.intro _ (And.intro (fun h => ⟨⟨⟨h, trivial⟩, trivial⟩, stanzas_c [] (by decide) (fun x hx => by cases hx)⟩) ?_)
              refine And.intro (fun h => trivial) ?_
              refine And.intro (rfl) ?_
              refine Exists.intro _ (And.intro (fun h => ⟨⟨⟨h, trivial⟩, trivial⟩, refStanzas_c [] (by decide)⟩) ?_)
              refine And.intro (rfl) ?_
              refine Exists.intro _ (And.intro (fun h => ⟨⟨⟨h, trivial⟩, ⟨h, trivial⟩, trivial⟩, rows5_c [] []⟩) ?_)
              refine And.intro (fun h => ⟨⟨⟨h, trivial⟩, trivial⟩, by first | exact fun h2 => h2 | (intro h2; rw [h, h2]; rfl) | (intro h2; cases h2) | (intro h2; simp_all [gq])⟩) ?_
              refine And.intro (by first | (intro h; rw [h]; rfl) | (intro h; cases h)) ?_
              refine acode_ret ?_
              exact ib_eq (by simp [hne])
      | inr l =>
        rw [hr] at hp hq hg
        obtain ⟨hl, hf⟩ := items_flds (by omega) hr
        have htot := parse_total hr
        have htext := raws_text hr
        have hj := joinI_c l hl (by omega)
        rw [htext] at hj
        refine acall_of (rs := [2]) Tryd.func13 rfl rfl rfl teOk rfl ?_
        refine acode_seq ?_
        refine acode_region ?_
        refine acode_seq ?_
        refine acode_seq ?_
        refine acode_region ?_
        refine Or.inl ?_
        refine And.intro (rfl) ?_
        refine Exists.intro _ (And.intro (alive_c) ?_)
        refine acode_cond rfl (fun h9 => ?_) (fun h9 => ?_)
        · try simp only [Bool.not_eq_true'] at h9
          try simp only [Int.toNat_natCast, dflt_sl, dflt_st, dflt_str, dflt_int, dflt_bool] at h9
          cases h9
        · try simp only [Bool.not_eq_false'] at h9
          try simp only [Int.toNat_natCast, dflt_sl, dflt_st, dflt_str, dflt_int, dflt_bool] at h9
          refine acode_skip ?_
          refine acode_seq ?_
          refine acode_seq ?_
          refine acode_region ?_
          refine And.intro (fun h => trivial) ?_
          refine And.intro (fun h => ⟨⟨h, trivial⟩, trivial⟩) ?_
          refine And.intro (fun h => ⟨⟨h, trivial⟩, trivial⟩) ?_
          refine And.intro (by exact fun h => h) ?_
          refine acode_cond rfl (fun h17 => ?_) (fun h17 => ?_)
          · try simp only [decide_eq_true_eq, Bool.and_eq_true] at h17
            try simp only [Int.toNat_natCast, dflt_sl, dflt_st, dflt_str, dflt_int, dflt_bool] at h17
            omega
          · try simp only [decide_eq_false_iff_not, Bool.and_eq_false_iff, Int.not_lt, Int.not_le] at h17
            try simp only [Int.toNat_natCast, dflt_sl, dflt_st, dflt_str, dflt_int, dflt_bool] at h17
            refine acode_skip ?_
            refine acode_seq ?_
            refine acode_region ?_
            refine Or.inl ?_
            refine And.intro (rfl) ?_
            refine Exists.intro _ (And.intro (hp) ?_)
            refine acode_seq ?_
            refine acode_region ?_
            refine Or.inl ?_
            refine And.intro (rfl) ?_
            refine Exists.intro _ (And.intro (hq) ?_)
            refine acode_seq ?_
            refine acode_seq ?_
            refine acode_region ?_
            refine Or.inl ?_
            refine And.intro (rfl) ?_
            refine Exists.intro _ (And.intro (num_nil) ?_)
            refine And.intro (fun h => trivial) ?_
            refine And.intro (rfl) ?_
            refine Exists.intro _ (And.intro (fun h => ⟨⟨⟨h, trivial⟩, trivial⟩, at_nil⟩) ?_)
            refine And.intro (fun h => trivial) ?_
            refine And.intro (fun h => ⟨⟨h, trivial⟩, ⟨h, trivial⟩, trivial⟩) ?_
            refine And.intro (by first | (intro h; rw [h]; rfl) | (intro h; cases h)) ?_
            refine And.intro (fun h => trivial) ?_
            refine And.intro (fun h => trivial) ?_
            refine And.intro (rfl) ?_
            refine Exists.intro _ (And.intro (fun h => ⟨⟨⟨h, trivial⟩, ⟨h, trivial⟩, trivial⟩, items_c l l⟩) ?_)
            refine And.intro (fun h => ⟨⟨h, trivial⟩, trivial⟩) ?_
            refine And.intro (by first | (intro h; rw [h]; rfl) | (intro h; cases h)) ?_
            refine And.intro (fun h => trivial) ?_
            refine And.intro (rfl) ?_
            refine Exists.intro _ (And.intro (fun h => ⟨⟨⟨h, trivial⟩, trivial⟩, hg⟩) ?_)
            refine And.intro (fun h => trivial) ?_
            refine And.intro (fun h => ⟨⟨h, trivial⟩, trivial⟩) ?_
            refine And.intro (fun h => ⟨⟨h, trivial⟩, ⟨h, trivial⟩, trivial⟩) ?_
            refine And.intro (by first | (intro h; rw [h]; rfl) | (intro h; cases h)) ?_
            refine acode_cond rfl (fun h51 => ?_) (fun h51 => ?_)
            · try simp only [decide_eq_false_iff_not, Bool.not_eq_true', Bool.or_eq_true] at h51
              try simp only [Int.toNat_natCast, dflt_sl, dflt_st, dflt_str, dflt_int, dflt_bool] at h51
              simp at h51
            · try simp only [decide_eq_true_eq, Bool.not_eq_false', Bool.or_eq_false_iff] at h51
              try simp only [Int.toNat_natCast, dflt_sl, dflt_st, dflt_str, dflt_int, dflt_bool] at h51
              refine acode_skip ?_
              refine acode_seq ?_
              refine acode_region ?_
              refine And.intro (fun h => trivial) ?_
              refine And.intro (rfl) ?_
              refine Exists.intro _ (And.intro (fun h => ⟨⟨⟨h, trivial⟩, trivial⟩, hj⟩) ?_)
              refine And.intro (fun h => trivial) ?_
              refine And.intro (fun h => ⟨⟨h, trivial⟩, ⟨h, trivial⟩, trivial⟩) ?_
              refine And.intro (fun h => ⟨⟨h, trivial⟩, trivial⟩) ?_
              refine And.intro (fun h => trivial) ?_
              refine And.intro (rfl) ?_
              refine Exists.intro _ (And.intro (fun h => ⟨⟨⟨h, trivial⟩, trivial⟩, stanzas_c l hl hf⟩) ?_)
              refine And.intro (fun h => trivial) ?_
              refine And.intro (rfl) ?_
              refine Exists.intro _ (And.intro (fun h => ⟨⟨⟨h, trivial⟩, trivial⟩, refStanzas_c l hl⟩) ?_)
              refine And.intro (rfl) ?_
              refine Exists.intro _ (And.intro (fun h => ⟨⟨⟨h, trivial⟩, ⟨h, trivial⟩, trivial⟩, rows5_c (recsL l) (recsL l)⟩) ?_)
              refine And.intro (fun h => ⟨⟨⟨h, trivial⟩, trivial⟩, by first | exact fun h2 => h2 | (intro h2; rw [h, h2]; rfl) | (intro h2; cases h2) | (intro h2; simp_all [gq])⟩) ?_
              refine And.intro (by first | (intro h; rw [h]; rfl) | (intro h; cases h)) ?_
              refine acode_ret ?_
              exact ib_eq (by simp)
end Q
end Ab
end Go.Proofs.YtdedkoiodehmnaaDoor
namespace Go.Proofs.YtdedkoiodehmnaaDoor
open Go.RowKit
namespace Ab
set_option maxRecDepth 100000
theorem o_str : Opens Tryd.prog 9 .str := opens_str Tryd.underlying9 (by kernel_rfl)
theorem o_int : Opens Tryd.prog 3 (.int .i64) := opens_int Tryd.underlying3 (by kernel_rfl)
theorem o_bool : Opens Tryd.prog 4 .bool := opens_bool Tryd.underlying4 (by kernel_rfl)
theorem o_field : Opens Tryd.prog 32 (.st .str .str) := opens_st Tryd.underlying32 (by kernel_rfl) (.cons rfl o_str (.one rfl o_str))
theorem o_fields : Opens Tryd.prog 22 (.sl (.st .str .str)) := opens_sl (by decide) Tryd.underlying22 (by kernel_rfl) o_field
theorem open_fields {H : Type} {enc : TypeId × Value → H} {W : World} {base : Nat} {v : Value} {d : DataW H} {p : List MemPlace} (hv : Value.okWide Tryd.prog W .any base 22 v) (h : DataW.Trod enc Tryd.prog W 0 (fun _ => true) true 22 v d p) :
    ∃ xs, (C.sl (.st .str .str) xs).rep AllOk noNames W v := open_sl Tryd.underlying22 o_fields hv h
/-- The library's variable holds some number. -/
theorem globAt {W : World} (h : W.ShapedOpen Tryd.prog) : GlobAt AllOk W := by
  have hc : GlobCell W := cell_of_shapedOpen_int (g := 0) (t := 3) (zero := #[.int .i64 0]) h (of_decide_eq_true (by kernel_rfl)) (by kernel_rfl) rfl (by kernel_rfl) (by kernel_rfl) Tryd.underlying3
  refine ⟨trivial, ?_, hc⟩
  obtain ⟨m, hm⟩ := hc
  rcases Nat.lt_or_ge 0 W.heap.size with h1 | h1
  · exact h1
  · exfalso
    simp only [World.cell?, Array.getElem?_eq_none h1] at hm
    cases hm
end Ab
end Go.Proofs.YtdedkoiodehmnaaDoor
namespace Go.Proofs.YtdedkoiodehmnaaDoor
open Go.RowKit
namespace Ab
set_option maxRecDepth 100000
theorem open_agg {P : Program} {α : Type} {R : Rd α} {t : TypeId} {fs : Array Field} (hu : P.underlying t = some (.struct fs)) (ho : Opens P t R) {H : Type} {enc : TypeId × Value → H} {W : World} {base : Nat} {v : Value} {d : DataW H} {p : List MemPlace} (hv : Value.okWide P W .any base t v)
    (h : DataW.Trod enc P W 0 (fun _ => true) true t v d p) : ∃ x : α, (A.agg (toL R x)).rep AllOk noNames W v := by
  obtain ⟨cs, rfl, _⟩ := Go.WideShapes.okWide_struct hu hv
  obtain ⟨fuel, hf⟩ := h
  obtain ⟨x, hx⟩ := ho.2 enc W _ _ _ _ _ _ hf
  exact ⟨x, cs.toList, by simp, toL_rep R hx⟩
theorem open_field {H : Type} {enc : TypeId × Value → H} {W : World} {base : Nat} {v : Value} {d : DataW H} {p : List MemPlace} (hv : Value.okWide Tryd.prog W .any base 32 v) (h : DataW.Trod enc Tryd.prog W 0 (fun _ => true) true 32 v d p) :
    ∃ x, (A.agg (toL (.st .str .str) x)).rep AllOk noNames W v := open_agg Tryd.underlying32 o_field hv h
theorem o_strs : Opens Tryd.prog 36 (.sl .str) := opens_sl (by decide) Tryd.underlying36 (by kernel_rfl) o_str
theorem open_strs {H : Type} {enc : TypeId × Value → H} {W : World} {base : Nat} {v : Value} {d : DataW H} {p : List MemPlace} (hv : Value.okWide Tryd.prog W .any base 36 v) (h : DataW.Trod enc Tryd.prog W 0 (fun _ => true) true 36 v d p) :
    ∃ xs, (C.sl .str xs).rep AllOk noNames W v := open_sl Tryd.underlying36 o_strs hv h
theorem o_strss : Opens Tryd.prog 52 (.sl (.sl .str)) := opens_sl (by decide) Tryd.underlying52 (by kernel_rfl) o_strs
theorem open_strss {H : Type} {enc : TypeId × Value → H} {W : World} {base : Nat} {v : Value} {d : DataW H} {p : List MemPlace} (hv : Value.okWide Tryd.prog W .any base 52 v) (h : DataW.Trod enc Tryd.prog W 0 (fun _ => true) true 52 v d p) :
    ∃ xs, (C.sl (.sl .str) xs).rep AllOk noNames W v := open_sl Tryd.underlying52 o_strss hv h
theorem o_rows : Opens Tryd.prog 61 (.sl (.sl (.st .str .str))) := opens_sl (by decide) Tryd.underlying61 (by kernel_rfl) o_fields
theorem open_rows {H : Type} {enc : TypeId × Value → H} {W : World} {base : Nat} {v : Value} {d : DataW H} {p : List MemPlace} (hv : Value.okWide Tryd.prog W .any base 61 v) (h : DataW.Trod enc Tryd.prog W 0 (fun _ => true) true 61 v d p) :
    ∃ xs, (C.sl (.sl (.st .str .str)) xs).rep AllOk noNames W v := open_sl Tryd.underlying61 o_rows hv h
theorem o_item : Opens Tryd.prog 75 (.st (.int .i64) (.st .str (.sl (.st .str .str)))) := opens_st Tryd.underlying75 (by kernel_rfl) (.cons rfl o_int (.cons rfl o_str (.one rfl o_fields)))
theorem o_items : Opens Tryd.prog 71 (.sl (.st (.int .i64) (.st .str (.sl (.st .str .str))))) := opens_sl (by decide) Tryd.underlying71 (by kernel_rfl) o_item
theorem open_items {H : Type} {enc : TypeId × Value → H} {W : World} {base : Nat} {v : Value} {d : DataW H} {p : List MemPlace} (hv : Value.okWide Tryd.prog W .any base 71 v) (h : DataW.Trod enc Tryd.prog W 0 (fun _ => true) true 71 v d p) :
    ∃ xs, (C.sl (.st (.int .i64) (.st .str (.sl (.st .str .str)))) xs).rep AllOk noNames W v := open_sl Tryd.underlying71 o_items hv h
end Ab
end Go.Proofs.YtdedkoiodehmnaaDoor
