/-
  The texts of this proof, joined: abstract values, the library, the functions of the program and what they compute (part 5). No condition.
-/
import Derived.Shelf.Vars
import Derived.KernelRfl
import Derived.Test.YtdedkoiodehmnaaDoorK1
import Derived.Test.YtdedkoiodehmnaaDoorK2
import Derived.Test.YtdedkoiodehmnaaDoorK3
import Derived.Test.YtdedkoiodehmnaaDoorK4
namespace Go.Proofs.YtdedkoiodehmnaaDoor
open Go.RowKit
namespace Ab
set_option maxRecDepth 100000
namespace Q
def szI (l : List Itm) : Nat := (l.map (·.2.1.size)).sum
def szB (l : List ByteArray) : Nat := (l.map (fun b => b.size + 1)).sum
def rawN (p : PSt) : Nat := szI p.its + szB p.blk
def Idle (p : PSt) : Prop := p.lns = [] ∧ p.blk = [] ∧ p.flds = []
theorem szI_app (a b : List Itm) : szI (a ++ b) = szI a + szI b := by simp [szI]
theorem szB_app (a b : List ByteArray) : szB (a ++ b) = szB a + szB b := by simp [szB]
theorem join_eq (c : UInt8) : ∀ (l : List ByteArray), l ≠ [] → (Lib.join (l.map (·.data.toList)) [c]).length + 1 = szB l
  | [], h => absurd rfl h
  | [a], _ => by
    rw [List.map_cons, List.map_nil, show Lib.join [a.data.toList] [c] = a.data.toList from by simp [Lib.join]]
    rw [← size_list]
    simp [szB]
  | a :: b :: r, _ => by
    have := join_eq c (b :: r) (by simp)
    rw [List.map_cons] at this
    rw [List.map_cons, List.map_cons, join_two]
    simp only [List.length_append, List.length_cons, List.length_nil, szB, List.map_cons, List.sum_cons, ← size_list] at this ⊢
    omega
theorem rawB_size {l : List ByteArray} (h : l ≠ []) : (rawB l).size = szB l := by
  have := join_eq 10 l h
  unfold rawB
  rw [ByteArray.size_append, bytes_size]
  exact this
theorem flush_same {p q : PSt} (h : flushS p = .inr q) : q.its = p.its ∧ q.blk = p.blk := by
  unfold flushS at h
  split at h
  · cases h; exact ⟨rfl, rfl⟩
  · split at h
    · cases h
    · split at h
      · cases h
      · cases h; exact ⟨rfl, rfl⟩
theorem close_took (p : PSt) : (∃ X, (closeS p).its = p.its ++ X ∧ ∀ x ∈ X, x.1 ≠ 1) ∧ rawN (closeS p) = rawN p ∧ (closeS p).blk = [] ∧ (closeS p).flds = [] ∧ (closeS p).lns = p.lns := by
  unfold closeS
  split
  · rename_i h
    exact ⟨⟨[], by simp, by simp⟩, by simp [rawN, h], rfl, rfl, rfl⟩
  · rename_i h
    refine ⟨⟨_, rfl, fun x hx => ?_⟩, ?_, rfl, rfl, rfl⟩
    · rw [List.mem_singleton.1 hx]
      simp only
      split <;> decide
    · simp only [rawN, szI_app]
      simp only [szI, List.map_cons, List.map_nil, List.sum_cons, List.sum_nil, rawB_size h]
      simp [szB]
theorem end_took {p q : PSt} (h : endS p = .inr q) : (∃ X, q.its = p.its ++ X ∧ ∀ x ∈ X, x.1 ≠ 1) ∧ rawN q = rawN p ∧ Idle q := by
  unfold endS at h
  cases e : flushS p with
  | inl x => rw [e] at h; cases h
  | inr r =>
    rw [e] at h
    cases h
    obtain ⟨h1, h2⟩ := flush_same e
    obtain ⟨h3, h4, h5, h6, h7⟩ := close_took r
    rw [h1] at h3
    refine ⟨h3, ?_, h7.trans (flush_lns e), h5, h6⟩
    rw [h4]
    unfold rawN
    rw [h1, h2]
theorem ahead_took {p q : PSt} {l : Lne} {k : Int} (h : aheadS p l k = .inr q) : (∃ X, q.its = p.its ++ X ∧ ∀ x ∈ X, x.1 ≠ 1) ∧ rawN q = rawN p ∧ (k = 1 → Idle q) := by
  unfold aheadS at h
  split at h
  · rename_i hk
    subst hk
    split at h
    · cases h
    · split at h
      · cases h
        exact ⟨⟨[], by simp, by simp⟩, rfl, fun e => by cases e⟩
      · obtain ⟨h1, h2⟩ := flush_same h
        exact ⟨⟨[], by simp [h1], by simp⟩, by unfold rawN; rw [h1, h2], fun e => by cases e⟩
  · split at h
    · obtain ⟨h1, h2, h3⟩ := end_took h
      exact ⟨h1, h2, fun _ => h3⟩
    · rename_i hk
      obtain ⟨h1, h2⟩ := flush_same h
      exact ⟨⟨[], by simp [h1], by simp⟩, by unfold rawN; rw [h1, h2], fun e => absurd e hk⟩
theorem take_took {p q : PSt} {l : Lne} (h : takeS p l = .inr q) : l.2.2.2 = true ∧ rawN q = rawN p + (l.2.2.1.size + 1) ∧ ∃ X Y, q.its = p.its ++ X ++ Y ∧ (∀ x ∈ X, x.1 ≠ 1) ∧ (Y = [] ∨ (∃ b, Y = [b]) ∧ Idle q) := by
  unfold takeS at h
  cases e : aheadS p l (kindL (ls l.2.2.1)) with
  | inl x => rw [e] at h; cases h
  | inr r =>
    rw [e] at h
    obtain ⟨⟨X, h1, h2⟩, h3, h4⟩ := ahead_took e
    simp only at h
    unfold lineS at h
    split at h
    · cases h
    · rename_i g0
      have he : l.2.2.2 = true := by
        cases e : l.2.2.2
        · exact absurd (.inr e) g0
        · rfl
      refine ⟨he, ?_⟩
      split at h
      · rename_i g1
        cases h
        obtain ⟨i1, i2, i3⟩ := h4 g1
        refine ⟨?_, X, [(1, l.2.2.1 ++ ⟨#[10]⟩, [])], by simp only [h1], h2, .inr ⟨⟨_, rfl⟩, i1, i2, i3⟩⟩
        rw [← h3]
        simp only [rawN, szI_app]
        simp only [szI, List.map_cons, List.map_nil, List.sum_cons, List.sum_nil, ByteArray.size_append]
        rw [show ByteArray.size ⟨#[10]⟩ = 1 from rfl]
        omega
      · split at h
        · cases h
          refine ⟨?_, X, [], by simp [beginS, h1], h2, .inl rfl⟩
          rw [← h3]
          simp only [rawN, szB_app, beginS]
          simp only [szB, List.map_cons, List.map_nil, List.sum_cons, List.sum_nil]
          omega
        · cases h
          refine ⟨?_, X, [], by simp [h1], h2, .inl rfl⟩
          rw [← h3]
          simp only [rawN, szB_app]
          simp only [szB, List.map_cons, List.map_nil, List.sum_cons, List.sum_nil]
          omega
def szL (L : List Lne) : Nat := (L.map (fun l => l.2.2.1.size + 1)).sum
theorem run_took : ∀ (L : List Lne) (p q : PSt), runS p L = .inr q → (∀ l ∈ L, l.2.2.2 = true) ∧ rawN q = rawN p + szL L ∧ ∃ X, q.its = p.its ++ X
  | [], p, q, h => by cases h; exact ⟨by simp, by simp [szL], [], by simp⟩
  | l :: r, p, q, h => by
    simp only [runS] at h
    cases e : takeS p l with
    | inl x => rw [e] at h; cases h
    | inr p1 =>
      rw [e] at h
      obtain ⟨h1, h2, X, Y, h3, _⟩ := take_took e
      obtain ⟨i1, i2, Z, i3⟩ := run_took r p1 q h
      refine ⟨fun x hx => ?_, ?_, X ++ Y ++ Z, by rw [i3, h3]; simp⟩
      · rcases List.mem_cons.1 hx with rfl | hx
        · exact h1
        · exact i1 x hx
      · rw [i2, h2]
        simp only [szL, List.map_cons, List.sum_cons]
        omega
theorem run_app : ∀ (L M : List Lne) (p q : PSt), runS p L = .inr q → runS p (L ++ M) = runS q M
  | [], M, p, q, h => by cases h; rfl
  | l :: r, M, p, q, h => by
    simp only [runS, List.cons_append] at h ⊢
    cases e : takeS p l with
    | inl x => rw [e] at h; cases h
    | inr p1 =>
      rw [e] at h
      exact run_app r M p1 q h
/-- Where a blank item was put, the lines part. -/
theorem run_blank : ∀ (L : List Lne) (p q : PSt), runS p L = .inr q → ∀ (i : Nat) (hi : i < q.its.length), p.its.length ≤ i → (q.its[i]).1 = 1 → ∃ L1 L2 q1, L = L1 ++ L2 ∧ runS p L1 = .inr q1 ∧ Idle q1 ∧ q1.its = q.its.take (i + 1)
  | [], p, q, h, i, hi, hp, _ => by cases h; omega
  | l :: r, p, q, h, i, hi, hp, hb => by
    simp only [runS] at h
    cases e : takeS p l with
    | inl x => rw [e] at h; cases h
    | inr p1 =>
      rw [e] at h
      rcases Nat.lt_or_ge i p1.its.length with hlt | hge
      · obtain ⟨_, _, Z, i3⟩ := run_took r p1 q h
        obtain ⟨_, _, X, Y, h3, h4, h5⟩ := take_took e
        have hq : q.its[i] = p1.its[i] := by
          simp only [i3]
          exact List.getElem_append_left hlt
        rw [hq] at hb
        have hlen : p1.its.length = p.its.length + X.length + Y.length := by rw [h3]; simp [Nat.add_assoc]
        rcases h5 with h5 | ⟨⟨b, h5⟩, h6⟩
        · subst h5
          exfalso
          have : p1.its[i] ∈ X := by
            simp only [h3, List.append_nil]
            rw [List.getElem_append_right hp]
            exact List.getElem_mem _
          exact h4 _ this hb
        · subst h5
          rw [List.length_singleton] at hlen
          rcases Nat.lt_or_ge i (p.its.length + X.length) with hx | hx
          · exfalso
            have : p1.its[i] ∈ X := by
              simp only [h3]
              rw [List.getElem_append_left (by rw [List.length_append]; exact hx), List.getElem_append_right hp]
              exact List.getElem_mem _
            exact h4 _ this hb
          · have hi1 : i + 1 = p1.its.length := by omega
            refine ⟨[l], r, p1, rfl, by simp only [runS, e], h6, ?_⟩
            rw [i3, hi1, List.take_left' rfl]
      · obtain ⟨L1, L2, q1, e1, e2, e3, e4⟩ := run_blank r p1 q h i hi hge hb
        exact ⟨l :: L1, L2, q1, by rw [e1]; rfl, by simp only [runS, e]; exact e2, e3, e4⟩
theorem glue_app (a b : List (ByteArray × Bool)) : glue (a ++ b) = glue a ++ glue b := by
  induction a with
  | nil => rfl
  | cons x r ih => simp [glue, ih]
theorem glue_len : ∀ (L : List Lne), (∀ l ∈ L, l.2.2.2 = true) → (glue (L.map (·.2.2))).length = szL L
  | [], _ => rfl
  | l :: r, h => by
    have := glue_len r (fun x hx => h x (List.mem_cons_of_mem _ hx))
    rw [List.map_cons]
    simp only [glue, h l List.mem_cons_self, if_true, List.length_append, this, szL, List.map_cons, List.sum_cons]
    rw [size_list]
    simp [ls]
    omega
theorem run_B : ∀ (L : List Lne) (p q : PSt) (B : Nat), PB p B → runS p L = .inr q → ∃ B', PB q B'
  | [], p, q, B, hB, h => by cases h; exact ⟨B, hB⟩
  | l :: r, p, q, B, hB, h => by
    simp only [runS] at h
    cases e : takeS p l with
    | inl x => rw [e] at h; cases h
    | inr p1 =>
      rw [e] at h
      exact run_B r p1 q _ (takeS_B hB e) h
theorem pst0_B : PB pst0 0 := ⟨Nat.le_refl _, Nat.le_refl _, Nat.le_refl _, Nat.le_refl _, Nat.le_refl _, Nat.le_refl _, Int.le_refl _, Int.le_refl _⟩
theorem rel_self {p : PSt} (I : List Itm) (h : Idle p) (hI : p.its = I) (h0 : 0 ≤ p.recs) (h4 : p.recs ≤ 400) : Rel I p.recs p pst0 :=
  ⟨h.1, (fun e => by cases e), by rw [hI]; simp [pst0], h.2.1, h.2.2, by simp [pst0], h0, h4, fun e => absurd h.2.2 e, fun e => absurd h.1 e⟩
theorem rel_0 : Rel [] 0 pst0 pst0 := ⟨rfl, id, rfl, rfl, rfl, rfl, by decide, by decide, fun e => absurd rfl e, fun e => absurd rfl e⟩
theorem parse_of {s : ByteArray} {L : List Lne} {q q2 : PSt} (hL : (linesT s).map (·.2.2) = L.map (·.2.2)) (hr : runS pst0 L = .inr q) (he : endS q = .inr q2) : parseS s = .inr q2.its := by
  obtain ⟨q', h1, h2⟩ := run_rel L (linesT s) pst0 pst0 q hL.symm rel_0 hr
  obtain ⟨q3, h3, h4⟩ := end_rel h2 he
  unfold parseS
  rw [h1]
  simp only [h3]
  rw [h4.its]
  rfl
theorem lines_text (s : ByteArray) : (linesT s).map (·.2.2) = linesB s.size (ls s) := texts_linesR _ _ _ _
theorem lines_of {L : List Lne} (h : ∀ l ∈ L, l.2.2.2 = true ∧ (10 : UInt8) ∉ ls l.2.2.1) : (linesT (bytes (glue (L.map (·.2.2))))).map (·.2.2) = L.map (·.2.2) := by
  rw [lines_text, show ls (bytes (glue (L.map (·.2.2)))) = glue (L.map (·.2.2)) from bytes_list _]
  refine lines_glue _ _ (fun x hx => ?_) (by rw [bytes_size]; exact Nat.le_refl _)
  obtain ⟨l, hl, rfl⟩ := List.mem_map.1 hx
  exact h l hl
theorem parse_cuts {s : ByteArray} {l : List Itm} (hp : parseS s = .inr l) {i : Nat} (hi : i < l.length) (hb : (l[i]).1 = 1) : szI (l.take (i + 1)) ≤ s.size ∧ parseS (bytes ((ls s).take (szI (l.take (i + 1))))) = .inr (l.take (i + 1)) ∧ parseS (bytes ((ls s).drop (szI (l.take (i + 1))))) = .inr (l.drop (i + 1)) := by
  unfold parseS at hp
  cases e : runS pst0 (linesT s) with
  | inl x => rw [e] at hp; cases hp
  | inr p =>
    rw [e] at hp
    simp only at hp
    cases e2 : endS p with
    | inl x => rw [e2] at hp; cases hp
    | inr q =>
      rw [e2] at hp
      cases hp
      obtain ⟨⟨X, hX, hX1⟩, hraw, hidle⟩ := end_took e2
      have hip : i < p.its.length := by
        rcases Nat.lt_or_ge i p.its.length with h | h
        · exact h
        · exfalso
          have : q.its[i] ∈ X := by
            simp only [hX]
            rw [List.getElem_append_right h]
            exact List.getElem_mem _
          exact hX1 _ this hb
      have hbp : (p.its[i]).1 = 1 := by
        have : q.its[i] = p.its[i] := by simp only [hX]; exact List.getElem_append_left hip
        rw [← this]; exact hb
      obtain ⟨L1, L2, q1, hL, hr1, hid, hits⟩ := run_blank _ _ _ e i hip (Nat.zero_le _) hbp
      have htake : q.its.take (i + 1) = p.its.take (i + 1) := by rw [hX, List.take_append_of_le_length (by omega)]
      obtain ⟨hall, _, _⟩ := run_took _ _ _ e
      obtain ⟨_, hraw1, _⟩ := run_took _ _ _ hr1
      have hsz : szI (q.its.take (i + 1)) = szL L1 := by
        rw [htake, ← hits]
        have : rawN q1 = szI q1.its := by unfold rawN; rw [hid.2.1]; rfl
        rw [← this, hraw1]
        simp [rawN, pst0, szI, szB]
      have hno : ∀ l ∈ linesT s, l.2.2.2 = true ∧ (10 : UInt8) ∉ ls l.2.2.1 := fun l hl =>
        ⟨hall l hl, linesB_no s.size (ls s) l.2.2 (by rw [← lines_text]; exact List.mem_map_of_mem hl)⟩
      have hls : ls s = glue (L1.map (·.2.2)) ++ glue (L2.map (·.2.2)) := by
        rw [← glue_app, ← List.map_append, ← hL, lines_text, glue_lines _ _ (by rw [show (ls s).length = s.size from (size_list s).symm]; exact Nat.le_refl _)]
      have hg1 : (glue (L1.map (·.2.2))).length = szL L1 := glue_len _ (fun l hl => (hno l (by rw [hL]; exact List.mem_append_left _ hl)).1)
      have hn1 : ∀ l ∈ L1, l.2.2.2 = true ∧ (10 : UInt8) ∉ ls l.2.2.1 := fun l hl => hno l (by rw [hL]; exact List.mem_append_left _ hl)
      have hn2 : ∀ l ∈ L2, l.2.2.2 = true ∧ (10 : UInt8) ∉ ls l.2.2.1 := fun l hl => hno l (by rw [hL]; exact List.mem_append_right _ hl)
      have hsize : s.size = (ls s).length := size_list s
      rw [hsz]
      refine ⟨by rw [hsize, hls, List.length_append]; omega, ?_, ?_⟩
      · rw [hls, ← hg1, List.take_left' rfl]
        have he1 : endS q1 = .inr (closeS q1) := by unfold endS flushS; rw [if_pos hid.1]
        rw [parse_of (lines_of hn1) hr1 he1]
        unfold closeS
        rw [if_pos hid.2.1]
        simp only
        rw [hits, htake]
      · rw [hls, ← hg1, List.drop_left' rfl]
        rw [hL, run_app _ _ _ _ hr1] at e
        have hrel : Rel (q.its.take (i + 1)) q1.recs q1 pst0 := rel_self _ hid (by rw [hits, htake]) ?_ ?_
        · obtain ⟨q2, h1, h2⟩ := run_rel L2 L2 q1 pst0 p rfl hrel e
          obtain ⟨q3, h3, h4⟩ := end_rel h2 e2
          rw [parse_of (lines_of hn2) h1 h3]
          have := h4.its
          congr 1
          have h5 : q.its.drop (i + 1) = (q.its.take (i + 1) ++ q3.its).drop (i + 1) := by rw [← this]
          rw [h5, List.drop_left' (by rw [List.length_take]; omega)]
        · exact (run_B L1 pst0 q1 0 pst0_B hr1).choose_spec.rec0
        · exact (run_rel L1 L1 pst0 pst0 q1 rfl rel_0 hr1).choose_spec.2.r4
end Q
end Ab
end Go.Proofs.YtdedkoiodehmnaaDoor
namespace Go.Proofs.YtdedkoiodehmnaaDoor
open Go.RowKit
namespace Ab
set_option maxRecDepth 100000
namespace Q
def mkL (t : ByteArray) : Lne := (0, 0, t, true)
theorem lineB_map2 (k v : ByteArray) : (lineB k v).map ls = linesL k.data.toList v.data.toList := by
  unfold lineB
  rw [List.map_map]
  conv => rhs; rw [← List.map_id (linesL k.data.toList v.data.toList)]
  exact List.map_congr_left fun s _ => bytes_list s
/-- A field's lines: the first one, and those behind it. -/
theorem lineB_cut {f : Fld} (h : checkF f = 0) : ∃ a r, lineB f.1 f.2 = a :: r ∧ kindL (ls a) = 4 ∧ (∀ x ∈ r, kindL (ls x) = 3) ∧ unfoldL ((a :: r).map ls) = ((f.1.data.toList, f.2.data.toList), 0) := by
  obtain ⟨h1, h2, h3⟩ := check_ok h
  rw [size_list] at h2
  have hno := parts_no f.2.data.toList
  have h0 : (10 : UInt8) ∉ (partsL f.2.data.toList).headD [] := by
    cases e : partsL f.2.data.toList with
    | nil => exact absurd e (split_ne f.2.data.toList [10])
    | cons p ps => rw [e] at hno; exact hno p (by simp)
  have hu := unfold_lines h1 h2
  rw [← lineB_map2] at hu
  refine ⟨bytes (firstL f.1.data.toList ((partsL f.2.data.toList).headD [])), ((partsL f.2.data.toList).drop 1).map (fun s => bytes (32 :: stuffL s)), ?_, ?_, ?_, ?_⟩
  · unfold lineB linesL
    rw [List.map_cons, List.map_map]
    rfl
  · rw [show ls (bytes (firstL f.1.data.toList ((partsL f.2.data.toList).headD []))) = _ from bytes_list _]
    exact (first_kind h1 h0).1
  · intro x hx
    obtain ⟨s, hs, rfl⟩ := List.mem_map.1 hx
    rw [show ls (bytes (32 :: stuffL s)) = _ from bytes_list _]
    exact more_kind (hno s (List.mem_of_mem_drop hs))
  · rw [← hu]
    refine congrArg (fun x : List ByteArray => unfoldL (x.map ls)) ?_
    unfold lineB linesL
    rw [List.map_cons, List.map_map]
    rfl
/-- What a parser comes to once its field is ended. -/
def Ready (p : PSt) (F : List Fld) : Prop := ∃ q, flushS p = .inr q ∧ q.lns = [] ∧ q.flds = F ∧ q.its = p.its ∧ q.recs = p.recs ∧ q.blk = p.blk
theorem more_run : ∀ (r : List ByteArray) (p : PSt), (∀ x ∈ r, kindL (ls x) = 3) → p.lns ≠ [] → runS p (r.map mkL) = .inr { p with lns := p.lns ++ r, blk := p.blk ++ r }
  | [], p, _, _ => by simp [runS]
  | x :: r, p, h, h0 => by
    have hk := h x List.mem_cons_self
    have ht : takeS p (mkL x) = .inr { p with lns := p.lns ++ [x], blk := p.blk ++ [x] } := by
      unfold takeS mkL
      simp only [hk]
      simp [aheadS, lineS, h0]
    rw [List.map_cons]
    simp only [runS, ht]
    rw [more_run r _ (fun y hy => h y (List.mem_cons_of_mem _ hy)) (by simp)]
    simp
theorem field_run {f : Fld} (h : checkF f = 0) {p : PSt} {F : List Fld} (hr : Ready p F) (hF : F.length < 40) (hrec : p.recs ≠ 400) : ∃ q, runS p ((lineB f.1 f.2).map mkL) = .inr q ∧ Ready q (F ++ [f]) ∧ q.its = p.its ∧ q.recs = p.recs ∧ q.blk ≠ [] := by
  obtain ⟨a, r, e, hk4, hk3, hu⟩ := lineB_cut h
  obtain ⟨q, f1, f2, f3, f4, f5, f6⟩ := hr
  have hfull : (decide ((q.flds.length : Int) = 40) || (decide ((q.flds.length : Int) = 0) && decide (q.recs = 400))) = false := by
    rw [f3, f5]
    have h1 : ¬ (F.length : Int) = 40 := by omega
    simp [h1, hrec]
  have ht : takeS p (mkL a) = .inr ⟨[a], 0, false, q.its, q.blk ++ [a], q.flds, q.recs⟩ := by
    unfold takeS mkL
    simp only [hk4]
    have : aheadS p (0, 0, a, true) 4 = .inr q := by unfold aheadS; rw [if_neg (by decide), if_neg (by decide)]; exact f1
    rw [this]
    simp only [lineS, beginS, hfull]
    simp
  rw [e, List.map_cons]
  simp only [runS, ht]
  rw [more_run r _ hk3 (by simp)]
  refine ⟨_, rfl, ?_, f4, f5, by simp⟩
  refine ⟨⟨[], 0, false, q.its, q.blk ++ [a] ++ r, q.flds ++ [f], q.recs⟩, ?_, rfl, by simp only [f3], rfl, rfl, rfl⟩
  unfold flushS
  have e2 : ([a] ++ r).map ls = (a :: r).map ls := rfl
  rw [if_neg (by simp)]
  simp only [e2, hu]
  rw [bytes_ls f.1, bytes_ls f.2]
  rfl
theorem fields_run : ∀ (fs : List Fld) (p : PSt) (F : List Fld), (∀ f ∈ fs, checkF f = 0) → Ready p F → F.length + fs.length ≤ 40 → p.recs ≠ 400 → fs ≠ [] → ∃ q, runS p ((fs.flatMap fun f => lineB f.1 f.2).map mkL) = .inr q ∧ Ready q (F ++ fs) ∧ q.its = p.its ∧ q.recs = p.recs ∧ q.blk ≠ []
  | [], _, _, _, _, _, _, h => absurd rfl h
  | f :: r, p, F, h, hr, hF, hrec, _ => by
    rw [List.length_cons] at hF
    obtain ⟨q, e1, e2, e3, e4, e5⟩ := field_run (h f List.mem_cons_self) hr (by omega) hrec
    rw [List.flatMap_cons, List.map_append, run_app _ _ _ _ e1]
    by_cases h0 : r = []
    · subst h0
      exact ⟨q, rfl, e2, e3, e4, e5⟩
    · obtain ⟨q2, i1, i2, i3, i4, i5⟩ := fields_run r q (F ++ [f]) (fun g hg => h g (List.mem_cons_of_mem _ hg)) e2 (by rw [List.length_append, List.length_singleton]; omega) (by rw [e4]; exact hrec) h0
      exact ⟨q2, i1, by rw [List.append_assoc] at i2; exact i2, i3.trans e3, i4.trans e4, i5⟩
theorem kind_note {n : List UInt8} (h : (10 : UInt8) ∉ n) : kindL (35 :: n) = 2 := by
  unfold kindL
  rw [if_neg (by simp [h])]
  rw [if_neg (by simp [blankC])]
  rw [if_pos (by simp [Lib.hasPrefix])]
theorem note_run {p : PSt} {F : List Fld} {n : List UInt8} (h : (10 : UInt8) ∉ n) (hr : Ready p F) : ∃ q, takeS p (mkL (bytes (35 :: n))) = .inr q ∧ q.lns = [] ∧ q.flds = F ∧ q.its = p.its ∧ q.recs = p.recs ∧ q.blk ≠ [] := by
  obtain ⟨q, f1, f2, f3, f4, f5, f6⟩ := hr
  refine ⟨{ q with blk := q.blk ++ [bytes (35 :: n)] }, ?_, f2, f3, f4, f5, by simp⟩
  unfold takeS mkL
  simp only [show ls (bytes (35 :: n)) = 35 :: n from bytes_list _, kind_note h]
  have : aheadS p (0, 0, bytes (35 :: n), true) 2 = .inr q := by unfold aheadS; rw [if_neg (by decide), if_neg (by decide)]; exact f1
  rw [this]
  simp [lineS]
theorem ready_idle {p : PSt} {F : List Fld} (h : p.lns = []) (hF : p.flds = F) : Ready p F := ⟨p, by unfold flushS; rw [if_pos h], h, hF, rfl, rfl, rfl⟩
theorem end_run {p : PSt} {F : List Fld} (hr : Ready p F) (h0 : F ≠ []) (hb : p.blk ≠ []) : ∃ r q, endS p = .inr q ∧ Idle q ∧ q.its = p.its ++ [(3, r, F)] ∧ q.recs = p.recs + 1 := by
  obtain ⟨q, f1, f2, f3, f4, f5, f6⟩ := hr
  refine ⟨rawB q.blk, closeS q, ?_, ?_⟩
  · unfold endS
    rw [f1]
  · unfold closeS
    rw [if_neg (by rw [f6]; exact hb), f3]
    simp only [if_neg h0]
    exact ⟨⟨f2, rfl, rfl⟩, by rw [f4], by rw [f5]⟩
theorem blank_run {p : PSt} {F : List Fld} (hr : Ready p F) (h0 : F ≠ []) (hb : p.blk ≠ []) : ∃ r q, takeS p (mkL ⟨#[]⟩) = .inr q ∧ Idle q ∧ q.its = p.its ++ [(3, r, F), (1, ⟨#[10]⟩, [])] ∧ q.recs = p.recs + 1 := by
  obtain ⟨r, q, e1, e2, e3, e4⟩ := end_run hr h0 hb
  refine ⟨r, { q with its := q.its ++ [(1, (⟨#[]⟩ : ByteArray) ++ ⟨#[10]⟩, [])] }, ?_, e2, by simp only [e3, List.append_assoc]; rfl, e4⟩
  unfold takeS mkL
  simp only [kind_E]
  have : aheadS p (0, 0, ⟨#[]⟩, true) 1 = .inr q := by unfold aheadS; rw [if_neg (by decide), if_pos rfl]; exact e1
  rw [this]
  simp [lineS]
def foldsL (a b : List Fld) (n : List UInt8) : List ByteArray := bytes (35 :: n) :: ((a.flatMap fun f => lineB f.1 f.2) ++ (⟨#[]⟩ :: ((b.flatMap fun f => lineB f.1 f.2) ++ [bytes (35 :: n)])))
theorem folds_run {a b : List Fld} {n : List UInt8} (ha : ∀ f ∈ a, checkF f = 0) (hb : ∀ f ∈ b, checkF f = 0) (ha0 : a ≠ []) (hb0 : b ≠ []) (ha4 : a.length ≤ 40) (hb4 : b.length ≤ 40) (hn : (10 : UInt8) ∉ n) :
    ∃ q q2 r1 r2, runS pst0 ((foldsL a b n).map mkL) = .inr q ∧ endS q = .inr q2 ∧ q2.its = [(3, r1, a), (1, ⟨#[10]⟩, []), (3, r2, b)] := by
  obtain ⟨p1, t1, a1, a2, a3, a4, a5⟩ := note_run (F := []) hn (ready_idle (p := pst0) rfl rfl)
  obtain ⟨p2, t2, b1, b2, b3, b4⟩ := fields_run a p1 [] ha (ready_idle a1 a2) (by simpa using ha4) (by rw [a4]; decide) ha0
  obtain ⟨r1, p3, t3, c1, c2, c3⟩ := blank_run b1 (by simpa using ha0) b4
  obtain ⟨p4, t4, d1, d2, d3, d4⟩ := fields_run b p3 [] hb (ready_idle c1.1 c1.2.2) (by simpa using hb4) (by rw [c3, b3, a4]; decide) hb0
  obtain ⟨p5, t5, g1, g2, g3, g4, g5⟩ := note_run hn d1
  obtain ⟨r2, p6, t6, h1, h2, h3⟩ := end_run (ready_idle g1 g2) (by simpa using hb0) g5
  refine ⟨p5, p6, r1, r2, ?_, t6, ?_⟩
  · unfold foldsL
    rw [List.map_cons]
    simp only [runS, t1]
    rw [List.map_append, run_app _ _ _ _ t2, List.map_cons]
    simp only [runS, t3]
    rw [List.map_append, run_app _ _ _ _ t4]
    simp only [List.map_cons, List.map_nil, runS, t5]
  · rw [h2, g3, d2, c2, b2, a3]
    rfl
theorem foldsL_no {a b : List Fld} {n : List UInt8} (ha : ∀ f ∈ a, checkF f = 0) (hb : ∀ f ∈ b, checkF f = 0) (hn : (10 : UInt8) ∉ n) : ∀ t ∈ foldsL a b n, (10 : UInt8) ∉ ls t := by
  have hl : ∀ (c : List Fld), (∀ f ∈ c, checkF f = 0) → ∀ t ∈ (c.flatMap fun f => lineB f.1 f.2), (10 : UInt8) ∉ ls t := by
    intro c hc t ht
    obtain ⟨f, hf, ht⟩ := List.mem_flatMap.1 ht
    have := lines_no (v := f.2.data.toList) (check_ok (hc f hf)).1 (ls t) (by rw [← lineB_map2]; exact List.mem_map_of_mem ht)
    exact this
  intro t ht
  unfold foldsL at ht
  simp only [List.mem_cons, List.mem_append, List.not_mem_nil, or_false] at ht
  have h1 : (10 : UInt8) ∉ ls (bytes (35 :: n)) := by rw [show ls (bytes (35 :: n)) = 35 :: n from bytes_list _]; simp [hn]
  rcases ht with rfl | ht | rfl | ht | rfl
  · exact h1
  · exact hl a ha t ht
  · decide
  · exact hl b hb t ht
  · exact h1
theorem glue_mk : ∀ (T : List ByteArray), glue ((T.map mkL).map (·.2.2)) = endL (T.map ls)
  | [] => rfl
  | t :: r => by
    rw [List.map_cons, List.map_cons]
    simp only [glue, glue_mk r, mkL, if_true]
    simp [endL]
theorem endL_flat (c : List Fld) : endL ((c.flatMap fun f => lineB f.1 f.2).map ls) = foldL c := by
  induction c with
  | nil => rfl
  | cons f r ih =>
    rw [List.flatMap_cons, List.map_append]
    unfold endL foldL at *
    rw [List.flatMap_append, ih, List.flatMap_cons, lineB_map2]
    rfl
/-- What is parsed of the text. -/
theorem folds_parse {a b : List Fld} {n : List UInt8} (ha : ∀ f ∈ a, checkF f = 0) (hb : ∀ f ∈ b, checkF f = 0) (ha0 : a ≠ []) (hb0 : b ≠ []) (ha4 : a.length ≤ 40) (hb4 : b.length ≤ 40) (hn : (10 : UInt8) ∉ n) :
    ∃ r1 r2, parseS (bytes ((35 :: n) ++ [10] ++ foldL a ++ [10] ++ foldL b ++ [35] ++ n ++ [10])) = .inr [(3, r1, a), (1, ⟨#[10]⟩, []), (3, r2, b)] := by
  obtain ⟨q, q2, r1, r2, h1, h2, h3⟩ := folds_run ha hb ha0 hb0 ha4 hb4 hn
  have hno := foldsL_no ha hb hn
  have hl := lines_of (L := (foldsL a b n).map mkL) (fun l hl => by
    obtain ⟨t, ht, rfl⟩ := List.mem_map.1 hl
    exact ⟨rfl, hno t ht⟩)
  have ht : glue (((foldsL a b n).map mkL).map (·.2.2)) = (35 :: n) ++ [10] ++ foldL a ++ [10] ++ foldL b ++ [35] ++ n ++ [10] := by
    rw [glue_mk]
    unfold foldsL
    rw [List.map_cons, List.map_append, List.map_cons, List.map_append, List.map_cons, List.map_nil]
    have e : ls (bytes (35 :: n)) = 35 :: n := bytes_list _
    have hA := endL_flat a
    have hB := endL_flat b
    unfold endL at hA hB ⊢
    simp only [List.flatMap_cons, List.flatMap_append, List.flatMap_nil, hA, hB, e]
    simp [ls]
  rw [ht] at hl
  refine ⟨r1, r2, ?_⟩
  rw [parse_of hl h1 h2, h3]
end Q
end Ab
end Go.Proofs.YtdedkoiodehmnaaDoor
namespace Go.Proofs.YtdedkoiodehmnaaDoor
open Go.RowKit
namespace Ab
set_option maxRecDepth 100000
namespace Q
theorem at_fault (at_ n : Int) : ACall Tryd.prog 45 [.one (errF at_ n)] (ii .i64 at_) := by
  refine acall_of (rs := [2]) Tryd.func45 rfl rfl rfl teOk rfl ?_
  refine acode_seq ?_
  refine acode_region ?_
  refine acode_seq ?_
  refine acode_seq ?_
  refine acode_region ?_
  refine acode_seq ?_
  refine acode_region ?_
  refine And.intro (fun h => trivial) ?_
  refine And.intro (fun h => ⟨⟨h, trivial⟩, trivial⟩) ?_
  refine And.intro (by exact fun h => h) ?_
  refine acode_cond rfl (fun h14 => ?_) (fun h14 => ?_)
  · try simp only [Bool.and_eq_true] at h14
    try simp only [Int.toNat_natCast, dflt_sl, dflt_st, dflt_str, dflt_int, dflt_bool] at h14
    refine acode_seq ?_
    refine acode_region ?_
    refine acode_ret ?_
    rfl
  · try simp only [Bool.and_eq_false_iff] at h14
    try simp only [Int.toNat_natCast, dflt_sl, dflt_st, dflt_str, dflt_int, dflt_bool] at h14
    simp at h14
theorem at_nil : ACall Tryd.prog 45 [.one (.lit .nilIface)] (ii .i64 (-9)) := by
  refine acall_of (rs := [2]) Tryd.func45 rfl rfl rfl teOk rfl ?_
  refine acode_seq ?_
  refine acode_region ?_
  refine acode_seq ?_
  refine acode_seq ?_
  refine acode_region ?_
  refine acode_seq ?_
  refine acode_region ?_
  refine And.intro (fun h => trivial) ?_
  refine And.intro (fun h => ⟨⟨h, trivial⟩, trivial⟩) ?_
  refine And.intro (by exact fun h => h) ?_
  refine acode_cond rfl (fun h14 => ?_) (fun h14 => ?_)
  · try simp only [Bool.and_eq_true, Bool.not_eq_true'] at h14
    try simp only [Int.toNat_natCast, dflt_sl, dflt_st, dflt_str, dflt_int, dflt_bool] at h14
    simp at h14
  · try simp only [Bool.not_eq_false', Bool.and_eq_false_iff] at h14
    try simp only [Int.toNat_natCast, dflt_sl, dflt_st, dflt_str, dflt_int, dflt_bool] at h14
    refine acode_skip ?_
    refine acode_seq ?_
    refine acode_region ?_
    refine acode_ret ?_
    rfl
theorem is_fault (at_ n : Int) (hn : n ≠ 0) : ACall Tryd.prog 39 [.one (errF at_ n), ii .i64 n] (ib true) := by
  refine acall_of (rs := [4]) Tryd.func39 rfl rfl rfl teOk rfl ?_
  refine acode_seq ?_
  refine acode_region ?_
  refine acode_seq ?_
  refine acode_region ?_
  refine Or.inl ?_
  refine And.intro (rfl) ?_
  refine Exists.intro _ (And.intro (num_fault at_ n hn) ?_)
  refine acode_ret ?_
  exact ib_eq (decide_eq_true rfl)
theorem wr5 (a : Int) : 0 ≤ IntKind.i64.wrap ((IntKind.u64.wrap a).tmod 5) ∧ IntKind.i64.wrap ((IntKind.u64.wrap a).tmod 5) ≤ 4 := by
  have h1 : 0 ≤ IntKind.u64.wrap a := by
    show 0 ≤ a % _
    exact Int.emod_nonneg _ (by decide)
  generalize IntKind.u64.wrap a = b at h1
  have h2 : b.tmod 5 = b % 5 := Int.tmod_eq_emod_of_nonneg h1
  rw [h2]
  have h3 := Int.emod_nonneg b (show (5 : Int) ≠ 0 by decide)
  have h4 := Int.emod_lt_of_pos b (show (0 : Int) < 5 by decide)
  generalize b % 5 = c at h3 h4
  have h5 : IntKind.i64.wrap c = c := by
    rcases (by omega : c = 0 ∨ c = 1 ∨ c = 2 ∨ c = 3 ∨ c = 4) with rfl | rfl | rfl | rfl | rfl <;> decide
  rw [h5]
  omega
theorem one_succ (i : Nat) : bytes (oneL i) ++ ⟨#[65, 58, 10]⟩ = bytes (oneL (i + 1)) := by
  rw [show oneL (i + 1) = oneL i ++ [65, 58, 10] from by simp [oneL, List.replicate_succ'], bytes_app]
  rfl
theorem many_succ (i : Nat) : bytes (manyL i) ++ ⟨#[65, 58, 10, 10]⟩ = bytes (manyL (i + 1)) := by
  rw [show manyL (i + 1) = manyL i ++ [65, 58, 10, 10] from by simp [manyL, List.replicate_succ'], bytes_app]
  rfl
theorem one_size (i : Nat) : (bytes (oneL i)).size = 3 * i := by
  rw [bytes_size]
  simp [oneL, List.length_flatten, Nat.mul_comm]
theorem many_size (i : Nat) : (bytes (manyL i)).size = 4 * i := by
  rw [bytes_size]
  simp [manyL, List.length_flatten, Nat.mul_comm]
theorem one_parse {m : Nat} (h1 : 38 ≤ m) (h2 : m ≤ 42) : (m ≤ 40 ∧ ∃ s, ACall Tryd.prog 48 [is (bytes (oneL m))] (resP (.inr [(3, s, List.replicate m (⟨#[65]⟩, ⟨#[]⟩))]))) ∨ (40 < m ∧ ACall Tryd.prog 48 [is (bytes (oneL m))] (resP (.inl (40, 11)))) := by
  have hp := parse_a (bytes (oneL m)) (by rw [one_size]; omega)
  rcases (by omega : m = 38 ∨ m = 39 ∨ m = 40 ∨ m = 41 ∨ m = 42) with rfl | rfl | rfl | rfl | rfl
  · rw [oneP_38] at hp; exact .inl ⟨by decide, _, hp⟩
  · rw [oneP_39] at hp; exact .inl ⟨by decide, _, hp⟩
  · rw [oneP_40] at hp; exact .inl ⟨by decide, _, hp⟩
  · rw [oneP_41] at hp; exact .inr ⟨by decide, hp⟩
  · rw [oneP_42] at hp; exact .inr ⟨by decide, hp⟩
theorem many_c {k : Nat} (h2 : k ≤ 402) : (k ≤ 400 ∧ ∃ l, l.length = 2 * k ∧ ACall Tryd.prog 48 [is (bytes (manyL k))] (resP (.inr l))) ∨ (400 < k ∧ ACall Tryd.prog 48 [is (bytes (manyL k))] (resP (.inl (800, 11)))) := by
  have hp := parse_a (bytes (manyL k)) (by rw [many_size]; omega)
  obtain ⟨h3, h4⟩ := many_parse k h2
  rcases Nat.lt_or_ge 400 k with h | h
  · rw [h4 h] at hp; exact .inr ⟨h, hp⟩
  · obtain ⟨l, e, hl⟩ := h3 h
    rw [e] at hp
    exact .inl ⟨h, l, hl, hp⟩
theorem StanzaMany_c (a b : Int) : ACall Tryd.prog 9 [ii .i64 a, ii .i64 b] (ib true) := by
  obtain ⟨x, hx⟩ : ∃ x, IntKind.i64.wrap ((IntKind.u64.wrap a).tmod 5) = x := ⟨_, rfl⟩
  obtain ⟨y, hy⟩ : ∃ y, IntKind.i64.wrap ((IntKind.u64.wrap b).tmod 5) = y := ⟨_, rfl⟩
  have hx5 := wr5 a
  have hy5 := wr5 b
  rw [hx] at hx5
  rw [hy] at hy5
  refine acall_of (rs := [4]) Tryd.func9 rfl rfl rfl teOk rfl ?_
  refine acode_seq ?_
  refine acode_region ?_
  refine acode_seq ?_
  refine acode_seq ?_
  refine acode_region ?_
  refine Or.inl ?_
  refine And.intro (rfl) ?_
  refine Exists.intro _ (And.intro (alive_c) ?_)
  refine acode_cond rfl (fun h12 => ?_) (fun h12 => ?_)
  · try simp only [Bool.not_eq_true'] at h12
    try simp only [Int.toNat_natCast, dflt_sl, dflt_st, dflt_str, dflt_int, dflt_bool] at h12
    cases h12
  · try simp only [Bool.not_eq_false'] at h12
    try simp only [Int.toNat_natCast, dflt_sl, dflt_st, dflt_str, dflt_int, dflt_bool] at h12
    refine acode_skip ?_
    refine acode_seq ?_
    refine acode_region ?_
    refine And.intro (by first | omega | assumption | decide | (simp only [Int.toNat_natCast, dflt_sl, dflt_st, dflt_str, dflt_int, dflt_bool]; omega) | (simp <;> omega)) ?_
    refine And.intro (by rw [hx]; omega) ?_
    refine And.intro (by first | omega | assumption | decide | (simp only [Int.toNat_natCast, dflt_sl, dflt_st, dflt_str, dflt_int, dflt_bool]; omega) | (simp <;> omega)) ?_
    refine And.intro (by rw [hy]; omega) ?_
    refine acode_seq ?_
    obtain ⟨m, hm⟩ : ∃ m : Nat, 38 + x = (m : Int) := ⟨(38 + x).toNat, by omega⟩
    obtain ⟨k, hk⟩ : ∃ k : Nat, 398 + y = (k : Int) := ⟨(398 + y).toNat, by omega⟩
    rw [hx, hy, hm, hk]
    refine acode_region ?_
    refine acode_seq ?_
    refine acode_seq ?_
    refine acode_region ?_
    refine acode_block ?_
    refine acode_loopP (fun (i : Nat) => i ≤ m) (fun (i : Nat) => [(0, ii .i64 m), (1, ii .i64 k), (5, is (bytes (oneL i))), (6, is ⟨#[]⟩), (23, ii .i64 m), (24, ii .i64 i)]) (fun (i : Nat) => []) 0 (fun (i : Nat) => m - i) 0 (Nat.zero_le _) (le_of ⟨rfl, rfl, rfl, rfl, rfl, rfl⟩ trivial rfl) ?_
    intro i hI0
    refine acode_seq ?_
    refine acode_region ?_
    refine acode_seq ?_
    refine acode_cond rfl (fun h25 => ?_) (fun h25 => ?_)
    · try simp only [decide_eq_true_eq] at h25
      try simp only [Int.toNat_natCast, dflt_sl, dflt_st, dflt_str, dflt_int, dflt_bool] at h25
      refine acode_skip ?_
      refine acode_seq ?_
      refine acode_block ?_
      refine acode_region ?_
      refine And.intro (by rw [one_size]; show 3 * i + 3 ≤ _; unfold maxLen; omega) ?_
      refine acode_region ?_
      refine And.intro (by first | omega | assumption | decide | (simp only [Int.toNat_natCast, dflt_sl, dflt_st, dflt_str, dflt_int, dflt_bool]; omega) | (simp <;> omega)) ?_
      exact ⟨i + 1, by omega, by first | omega | (simp <;> omega), le_of ⟨rfl, rfl, (is_eq (one_succ i)), rfl, rfl, (ii_eq (by omega))⟩ trivial rfl⟩
    · try simp only [decide_eq_false_iff_not, Int.not_lt] at h25
      try simp only [Int.toNat_natCast, dflt_sl, dflt_st, dflt_str, dflt_int, dflt_bool] at h25
      refine acode_exit ?_
      refine acode_seq ?_
      refine acode_seq ?_
      refine acode_region ?_
      refine acode_block ?_
      refine acode_loopP (fun (i : Nat) => i ≤ k) (fun (i : Nat) => [(0, ii .i64 m), (1, ii .i64 k), (5, is (bytes (oneL m))), (6, is (bytes (manyL i))), (29, ii .i64 k), (30, ii .i64 i)]) (fun (i : Nat) => []) 0 (fun (i : Nat) => k - i) 0 (Nat.zero_le _) (le_of ⟨rfl, rfl, (is_eq (by rw [show i = m from by omega])), rfl, rfl, rfl⟩ trivial rfl) ?_
      intro i hI2
      refine acode_seq ?_
      refine acode_region ?_
      refine acode_seq ?_
      refine acode_cond rfl (fun h31 => ?_) (fun h31 => ?_)
      · try simp only [decide_eq_true_eq] at h31
        try simp only [Int.toNat_natCast, dflt_sl, dflt_st, dflt_str, dflt_int, dflt_bool] at h31
        refine acode_skip ?_
        refine acode_seq ?_
        refine acode_block ?_
        refine acode_region ?_
        refine And.intro (by rw [many_size]; show 4 * i + 4 ≤ _; unfold maxLen; omega) ?_
        refine acode_region ?_
        refine And.intro (by first | omega | assumption | decide | (simp only [Int.toNat_natCast, dflt_sl, dflt_st, dflt_str, dflt_int, dflt_bool]; omega) | (simp <;> omega)) ?_
        exact ⟨i + 1, by omega, by first | omega | (simp <;> omega), le_of ⟨rfl, rfl, rfl, (is_eq (many_succ i)), rfl, (ii_eq (by omega))⟩ trivial rfl⟩
      · try simp only [decide_eq_false_iff_not, Int.not_lt] at h31
        try simp only [Int.toNat_natCast, dflt_sl, dflt_st, dflt_str, dflt_int, dflt_bool] at h31
        refine acode_exit ?_
        have hik : i = k := (by omega)
        rw [hik]
        refine acode_seq ?_
        rcases one_parse (m := m) (by omega) (by omega) with ⟨hm40, sA, hone⟩ | ⟨hm40, hone⟩ <;> rcases many_c (k := k) (by omega) with ⟨hk4, l, hl, hmany⟩ | ⟨hk4, hmany⟩
        · refine acode_region ?_
          refine Or.inl ?_
          refine And.intro (rfl) ?_
          refine Exists.intro _ (And.intro (hone) ?_)
          refine acode_seq ?_
          refine acode_region ?_
          refine Or.inl ?_
          refine And.intro (rfl) ?_
          refine Exists.intro _ (And.intro (hmany) ?_)
          refine acode_seq ?_
          refine acode_seq ?_
          refine acode_region ?_
          refine acode_cond rfl (fun h46 => ?_) (fun h46 => ?_)
          · try simp only [decide_eq_true_eq] at h46
            try simp only [Int.toNat_natCast, dflt_sl, dflt_st, dflt_str, dflt_int, dflt_bool] at h46
            omega
          · try simp only [decide_eq_false_iff_not, Int.not_lt] at h46
            try simp only [Int.toNat_natCast, dflt_sl, dflt_st, dflt_str, dflt_int, dflt_bool] at h46
            refine acode_seq ?_
            refine acode_region ?_
            refine And.intro (fun h => trivial) ?_
            refine And.intro (fun h => ⟨⟨h, trivial⟩, trivial⟩) ?_
            refine And.intro (fun h => ⟨⟨h, trivial⟩, trivial⟩) ?_
            refine And.intro (by first | (intro h; rw [h]; rfl) | (intro h; cases h)) ?_
            refine And.intro (fun h => trivial) ?_
            refine And.intro (fun h => ⟨⟨⟨h, trivial⟩, trivial⟩, by simp⟩) ?_
            refine And.intro (fun h => ⟨⟨h, trivial⟩, trivial⟩) ?_
            refine And.intro (fun h => ⟨⟨h, trivial⟩, trivial⟩) ?_
            refine And.intro (fun h => ⟨⟨h, trivial⟩, trivial⟩) ?_
            refine And.intro (fun h => trivial) ?_
            refine And.intro (fun h => ⟨⟨h, trivial⟩, ⟨h, trivial⟩, trivial⟩) ?_
            refine And.intro (by first | (intro h; rw [h]; rfl) | (intro h; cases h)) ?_
            refine acode_cond rfl (fun h75 => ?_) (fun h75 => ?_)
            · try simp only [decide_eq_false_iff_not, Bool.not_eq_true', Bool.or_eq_true] at h75
              try simp only [dflt_sl, dflt_st, dflt_str, dflt_int] at h75
              simp at h75
            · try simp only [decide_eq_true_eq, Bool.not_eq_false', Bool.or_eq_false_iff] at h75
              try simp only [dflt_sl, dflt_st, dflt_str, dflt_int] at h75
              refine acode_skip ?_
              refine acode_seq ?_
              refine acode_seq ?_
              refine acode_region ?_
              refine acode_cond rfl (fun h77 => ?_) (fun h77 => ?_)
              · try simp only [decide_eq_true_eq] at h77
                try simp only [Int.toNat_natCast, dflt_sl, dflt_st, dflt_str, dflt_int, dflt_bool] at h77
                omega
              · try simp only [decide_eq_false_iff_not, Int.not_lt] at h77
                try simp only [Int.toNat_natCast, dflt_sl, dflt_st, dflt_str, dflt_int, dflt_bool] at h77
                refine acode_skip ?_
                refine acode_seq ?_
                refine acode_region ?_
                refine And.intro (fun h => trivial) ?_
                refine And.intro (fun h => ⟨⟨h, trivial⟩, trivial⟩) ?_
                refine And.intro (fun h => trivial) ?_
                refine And.intro (fun h => ⟨⟨⟨h, trivial⟩, trivial⟩, by first | omega | decide | (simp only [Int.toNat_natCast, dflt_sl, dflt_st, dflt_str, dflt_int, dflt_bool]; omega) | (have h9 := of_decide_eq_true h; omega) | (simp [gq] at h; omega)⟩) ?_
                refine And.intro (fun h => ⟨⟨h, trivial⟩, ⟨h, trivial⟩, trivial⟩) ?_
                refine And.intro (by exact fun h => h) ?_
                refine acode_ret ?_
                exact ib_eq (by rw [hl]; simp)
        · refine acode_region ?_
          refine Or.inl ?_
          refine And.intro (rfl) ?_
          refine Exists.intro _ (And.intro (hone) ?_)
          refine acode_seq ?_
          refine acode_region ?_
          refine Or.inl ?_
          refine And.intro (rfl) ?_
          refine Exists.intro _ (And.intro (hmany) ?_)
          refine acode_seq ?_
          refine acode_seq ?_
          refine acode_region ?_
          refine acode_cond rfl (fun h46 => ?_) (fun h46 => ?_)
          · try simp only [decide_eq_true_eq] at h46
            try simp only [Int.toNat_natCast, dflt_sl, dflt_st, dflt_str, dflt_int, dflt_bool] at h46
            omega
          · try simp only [decide_eq_false_iff_not, Int.not_lt] at h46
            try simp only [Int.toNat_natCast, dflt_sl, dflt_st, dflt_str, dflt_int, dflt_bool] at h46
            refine acode_seq ?_
            refine acode_region ?_
            refine And.intro (fun h => trivial) ?_
            refine And.intro (fun h => ⟨⟨h, trivial⟩, trivial⟩) ?_
            refine And.intro (fun h => ⟨⟨h, trivial⟩, trivial⟩) ?_
            refine And.intro (by first | (intro h; rw [h]; rfl) | (intro h; cases h)) ?_
            refine And.intro (fun h => trivial) ?_
            refine And.intro (fun h => ⟨⟨⟨h, trivial⟩, trivial⟩, by simp⟩) ?_
            refine And.intro (fun h => ⟨⟨h, trivial⟩, trivial⟩) ?_
            refine And.intro (fun h => ⟨⟨h, trivial⟩, trivial⟩) ?_
            refine And.intro (fun h => ⟨⟨h, trivial⟩, trivial⟩) ?_
            refine And.intro (fun h => trivial) ?_
            refine And.intro (fun h => ⟨⟨h, trivial⟩, ⟨h, trivial⟩, trivial⟩) ?_
            refine And.intro (by first | (intro h; rw [h]; rfl) | (intro h; cases h)) ?_
            refine acode_cond rfl (fun h75 => ?_) (fun h75 => ?_)
            · try simp only [decide_eq_false_iff_not, Bool.not_eq_true', Bool.or_eq_true] at h75
              try simp only [dflt_sl, dflt_st, dflt_str, dflt_int] at h75
              simp at h75
            · try simp only [decide_eq_true_eq, Bool.not_eq_false', Bool.or_eq_false_iff] at h75
              try simp only [dflt_sl, dflt_st, dflt_str, dflt_int] at h75
              refine acode_skip ?_
              refine acode_seq ?_
              refine acode_seq ?_
              refine acode_region ?_
              refine acode_cond rfl (fun h77 => ?_) (fun h77 => ?_)
              · try simp only [decide_eq_true_eq] at h77
                try simp only [Int.toNat_natCast, dflt_sl, dflt_st, dflt_str, dflt_int, dflt_bool] at h77
                refine acode_seq ?_
                refine acode_region ?_
                refine Or.inl ?_
                refine And.intro (rfl) ?_
                refine Exists.intro _ (And.intro (is_fault 800 11 (by decide)) ?_)
                refine And.intro (fun h => trivial) ?_
                refine And.intro (rfl) ?_
                refine Exists.intro _ (And.intro (fun h => ⟨⟨⟨h, trivial⟩, trivial⟩, at_fault 800 11⟩) ?_)
                refine And.intro (fun h => ⟨⟨h, trivial⟩, trivial⟩) ?_
                refine And.intro (by exact fun h => h) ?_
                refine And.intro (fun h => trivial) ?_
                refine And.intro (fun h => ⟨⟨h, trivial⟩, trivial⟩) ?_
                refine And.intro (fun h => ⟨⟨h, trivial⟩, trivial⟩) ?_
                refine And.intro (by exact fun h => h) ?_
                refine acode_ret ?_
                rfl
              · try simp only [decide_eq_false_iff_not, Int.not_lt] at h77
                try simp only [Int.toNat_natCast, dflt_sl, dflt_st, dflt_str, dflt_int, dflt_bool] at h77
                omega
        · refine acode_region ?_
          refine Or.inl ?_
          refine And.intro (rfl) ?_
          refine Exists.intro _ (And.intro (hone) ?_)
          refine acode_seq ?_
          refine acode_region ?_
          refine Or.inl ?_
          refine And.intro (rfl) ?_
          refine Exists.intro _ (And.intro (hmany) ?_)
          refine acode_seq ?_
          refine acode_seq ?_
          refine acode_region ?_
          refine acode_cond rfl (fun h46 => ?_) (fun h46 => ?_)
          · try simp only [decide_eq_true_eq] at h46
            try simp only [Int.toNat_natCast, dflt_sl, dflt_st, dflt_str, dflt_int, dflt_bool] at h46
            refine acode_seq ?_
            refine acode_region ?_
            refine Or.inl ?_
            refine And.intro (rfl) ?_
            refine Exists.intro _ (And.intro (is_fault 40 11 (by decide)) ?_)
            refine And.intro (fun h => trivial) ?_
            refine And.intro (rfl) ?_
            refine Exists.intro _ (And.intro (fun h => ⟨⟨⟨h, trivial⟩, trivial⟩, at_fault 40 11⟩) ?_)
            refine And.intro (fun h => ⟨⟨h, trivial⟩, trivial⟩) ?_
            refine And.intro (by first | (intro h; rw [h]; rfl) | (intro h; cases h)) ?_
            refine And.intro (fun h => trivial) ?_
            refine And.intro (fun h => ⟨⟨h, trivial⟩, trivial⟩) ?_
            refine And.intro (fun h => ⟨⟨h, trivial⟩, trivial⟩) ?_
            refine And.intro (by first | (intro h; rw [h]; rfl) | (intro h; cases h)) ?_
            refine acode_cond rfl (fun h59 => ?_) (fun h59 => ?_)
            · try simp only [decide_eq_false_iff_not, Bool.not_eq_true', Bool.or_eq_true] at h59
              try simp only [Int.toNat_natCast, dflt_sl, dflt_st, dflt_str, dflt_int, dflt_bool] at h59
              simp at h59
            · try simp only [decide_eq_true_eq, Bool.not_eq_false', Bool.or_eq_false_iff] at h59
              try simp only [Int.toNat_natCast, dflt_sl, dflt_st, dflt_str, dflt_int, dflt_bool] at h59
              refine acode_skip ?_
              refine acode_seq ?_
              refine acode_seq ?_
              refine acode_region ?_
              refine acode_cond rfl (fun h77 => ?_) (fun h77 => ?_)
              · try simp only [decide_eq_true_eq] at h77
                try simp only [Int.toNat_natCast, dflt_sl, dflt_st, dflt_str, dflt_int, dflt_bool] at h77
                omega
              · try simp only [decide_eq_false_iff_not, Int.not_lt] at h77
                try simp only [Int.toNat_natCast, dflt_sl, dflt_st, dflt_str, dflt_int, dflt_bool] at h77
                refine acode_skip ?_
                refine acode_seq ?_
                refine acode_region ?_
                refine And.intro (fun h => trivial) ?_
                refine And.intro (fun h => ⟨⟨h, trivial⟩, trivial⟩) ?_
                refine And.intro (fun h => trivial) ?_
                refine And.intro (fun h => ⟨⟨⟨h, trivial⟩, trivial⟩, by first | omega | decide | (simp only [Int.toNat_natCast, dflt_sl, dflt_st, dflt_str, dflt_int, dflt_bool]; omega) | (have h9 := of_decide_eq_true h; omega) | (simp [gq] at h; omega)⟩) ?_
                refine And.intro (fun h => ⟨⟨h, trivial⟩, ⟨h, trivial⟩, trivial⟩) ?_
                refine And.intro (by exact fun h => h) ?_
                refine acode_ret ?_
                exact ib_eq (by rw [hl]; simp)
          · try simp only [decide_eq_false_iff_not, Int.not_lt] at h46
            try simp only [Int.toNat_natCast, dflt_sl, dflt_st, dflt_str, dflt_int, dflt_bool] at h46
            omega
        · refine acode_region ?_
          refine Or.inl ?_
          refine And.intro (rfl) ?_
          refine Exists.intro _ (And.intro (hone) ?_)
          refine acode_seq ?_
          refine acode_region ?_
          refine Or.inl ?_
          refine And.intro (rfl) ?_
          refine Exists.intro _ (And.intro (hmany) ?_)
          refine acode_seq ?_
          refine acode_seq ?_
          refine acode_region ?_
          refine acode_cond rfl (fun h46 => ?_) (fun h46 => ?_)
          · try simp only [decide_eq_true_eq] at h46
            try simp only [Int.toNat_natCast, dflt_sl, dflt_st, dflt_str, dflt_int, dflt_bool] at h46
            refine acode_seq ?_
            refine acode_region ?_
            refine Or.inl ?_
            refine And.intro (rfl) ?_
            refine Exists.intro _ (And.intro (is_fault 40 11 (by decide)) ?_)
            refine And.intro (fun h => trivial) ?_
            refine And.intro (rfl) ?_
            refine Exists.intro _ (And.intro (fun h => ⟨⟨⟨h, trivial⟩, trivial⟩, at_fault 40 11⟩) ?_)
            refine And.intro (fun h => ⟨⟨h, trivial⟩, trivial⟩) ?_
            refine And.intro (by first | (intro h; rw [h]; rfl) | (intro h; cases h)) ?_
            refine And.intro (fun h => trivial) ?_
            refine And.intro (fun h => ⟨⟨h, trivial⟩, trivial⟩) ?_
            refine And.intro (fun h => ⟨⟨h, trivial⟩, trivial⟩) ?_
            refine And.intro (by first | (intro h; rw [h]; rfl) | (intro h; cases h)) ?_
            refine acode_cond rfl (fun h59 => ?_) (fun h59 => ?_)
            · try simp only [decide_eq_false_iff_not, Bool.not_eq_true', Bool.or_eq_true] at h59
              try simp only [Int.toNat_natCast, dflt_sl, dflt_st, dflt_str, dflt_int, dflt_bool] at h59
              simp at h59
            · try simp only [decide_eq_true_eq, Bool.not_eq_false', Bool.or_eq_false_iff] at h59
              try simp only [Int.toNat_natCast, dflt_sl, dflt_st, dflt_str, dflt_int, dflt_bool] at h59
              refine acode_skip ?_
              refine acode_seq ?_
              refine acode_seq ?_
              refine acode_region ?_
              refine acode_cond rfl (fun h77 => ?_) (fun h77 => ?_)
              · try simp only [decide_eq_true_eq] at h77
                try simp only [Int.toNat_natCast, dflt_sl, dflt_st, dflt_str, dflt_int, dflt_bool] at h77
                refine acode_seq ?_
                refine acode_region ?_
                refine Or.inl ?_
                refine And.intro (rfl) ?_
                refine Exists.intro _ (And.intro (is_fault 800 11 (by decide)) ?_)
                refine And.intro (fun h => trivial) ?_
                refine And.intro (rfl) ?_
                refine Exists.intro _ (And.intro (fun h => ⟨⟨⟨h, trivial⟩, trivial⟩, at_fault 800 11⟩) ?_)
                refine And.intro (fun h => ⟨⟨h, trivial⟩, trivial⟩) ?_
                refine And.intro (by exact fun h => h) ?_
                refine And.intro (fun h => trivial) ?_
                refine And.intro (fun h => ⟨⟨h, trivial⟩, trivial⟩) ?_
                refine And.intro (fun h => ⟨⟨h, trivial⟩, trivial⟩) ?_
                refine And.intro (by exact fun h => h) ?_
                refine acode_ret ?_
                rfl
              · try simp only [decide_eq_false_iff_not, Int.not_lt] at h77
                try simp only [Int.toNat_natCast, dflt_sl, dflt_st, dflt_str, dflt_int, dflt_bool] at h77
                omega
          · try simp only [decide_eq_false_iff_not, Int.not_lt] at h46
            try simp only [Int.toNat_natCast, dflt_sl, dflt_st, dflt_str, dflt_int, dflt_bool] at h46
            omega
end Q
end Ab
end Go.Proofs.YtdedkoiodehmnaaDoor
namespace Go.Proofs.YtdedkoiodehmnaaDoor
open Go.RowKit
namespace Ab
set_option maxRecDepth 100000
namespace Q
/-- How long the text of fields is, at most. -/
theorem endL_len : ∀ (L : List (List UInt8)), (endL L).length = (L.map (·.length)).sum + L.length
  | [] => rfl
  | x :: r => by
    have := endL_len r
    unfold endL at this ⊢
    simp only [List.flatMap_cons, List.length_append, List.length_cons, List.length_nil, List.map_cons, List.sum_cons, this]
    omega
theorem stuff_len2 (s : List UInt8) : (stuffL s).length ≤ s.length + 1 := by
  unfold stuffL
  split <;> simp
theorem join_sum (c : UInt8) : ∀ l : List (List UInt8), l ≠ [] → (Lib.join l [c]).length + 1 = (l.map (·.length)).sum + l.length
  | [], h => absurd rfl h
  | [a], _ => by rw [Lib.join_one]; simp
  | a :: b :: r, _ => by
    have := join_sum c (b :: r) (by simp)
    rw [join_two]
    simp only [List.length_append, List.length_cons, List.length_nil, List.map_cons, List.sum_cons] at this ⊢
    omega
theorem textL_len (f : Fld) : (textL f).length ≤ f.1.size + 4 * f.2.size + 3 := by
  unfold textL
  rw [endL_len]
  unfold linesL
  have h1 := join_sum 10 (partsL f.2.data.toList) (split_ne _ _)
  rw [parts_join] at h1
  cases e : partsL f.2.data.toList with
  | nil => exact absurd e (split_ne _ _)
  | cons p r =>
    rw [e] at h1
    have h2 := map_sum_le (fun s : List UInt8 => (32 :: stuffL s).length) (fun s => s.length + 2) r (fun s _ => by have := stuff_len2 s; simp only [List.length_cons]; omega)
    have h3 : (r.map fun s => s.length + 2).sum = (r.map (·.length)).sum + 2 * r.length := by
      clear h1 h2 e
      induction r with
      | nil => rfl
      | cons a r ih => simp only [List.map_cons, List.sum_cons, List.length_cons, ih]; omega
    have h4 : (firstL f.1.data.toList p).length ≤ f.1.size + 2 + p.length := by
      unfold firstL
      rw [size_list]
      split
      · simp only [List.length_append, List.length_cons, List.length_nil]; omega
      · simp only [List.length_append, List.length_cons, List.length_nil]; omega
    simp only [List.headD_cons, List.map_cons, List.sum_cons, List.length_cons, List.length_map, List.map_map, List.drop_succ_cons, List.drop_zero] at h1 h2 ⊢
    rw [size_list f.2]
    have h5 : (r.map ((fun x : List UInt8 => x.length) ∘ fun s => 32 :: stuffL s)).sum = (r.map fun s => (32 :: stuffL s).length).sum := rfl
    simp only [List.length_cons] at h5
    omega
theorem foldL_le : ∀ (l : List Fld), (∀ f ∈ l, checkF f = 0) → (foldL l).length ≤ 4 * sumF l + 3 * l.length
  | [], _ => by simp [foldL]
  | f :: r, h => by
    have h1 := foldL_le r (fun g hg => h g (List.mem_cons_of_mem _ hg))
    have h2 := textL_len f
    obtain ⟨_, h3, h4⟩ := check_ok (h f List.mem_cons_self)
    unfold foldL sumF at *
    simp only [List.flatMap_cons, List.length_append, List.map_cons, List.sum_cons, List.length_cons]
    omega
theorem folds_text (n : ByteArray) (A B : List UInt8) : bytes ((35 :: ls n) ++ [10] ++ A ++ [10] ++ B ++ [35] ++ ls n ++ [10]) = ⟨#[35]⟩ ++ n ++ ⟨#[10]⟩ ++ bytes A ++ ⟨#[10]⟩ ++ bytes B ++ ⟨#[35]⟩ ++ n ++ ⟨#[10]⟩ := by
  rw [show (35 :: ls n) = [35] ++ ls n from rfl]
  simp only [bytes_app, bytes_ls]
  rfl
theorem much_sum {l : List Fld} (h : muchB l = false) : sumF l ≤ 6000 := by
  unfold muchB at h
  simp only [Bool.or_eq_false_iff, decide_eq_false_iff_not] at h
  omega
theorem foldB_size {l : List Fld} (h : muchB l = false) (hb : badF l = 0) (h4 : l.length ≤ 40) : (bytes (foldL l)).size ≤ 24120 := by
  rw [bytes_size]
  have h1 := foldL_le l (badF_zero hb)
  have h2 := much_sum h
  omega
theorem no_step {l : List UInt8} {i : Nat} (h : (10 : UInt8) ∉ l.take i) (hi : i < l.length) (h2 : ¬ ((l.getD i 0).toNat : Int) = 10) : (10 : UInt8) ∉ l.take (i + 1) := by
  rw [List.take_succ_eq_append_getElem hi]
  simp only [List.mem_append, List.mem_singleton, not_or]
  refine ⟨h, fun e => h2 ?_⟩
  have : l.getD i 0 = 10 := by simp [List.getD, hi, ← e]
  rw [this]
  rfl
theorem StanzaFolds_c (a b : List Fld) (n : ByteArray) : ACall Tryd.prog 14 [.one (.sl rFld a), .one (.sl rFld b), is n] (ib true) := by
  refine acall_of (rs := [6]) Tryd.func14 rfl rfl rfl teOk rfl ?_
  refine acode_seq ?_
  refine acode_region ?_
  refine acode_seq ?_
  refine acode_seq ?_
  refine acode_region ?_
  refine Or.inl ?_
  refine And.intro (rfl) ?_
  refine Exists.intro _ (And.intro (alive_c) ?_)
  refine acode_cond rfl (fun h14 => ?_) (fun h14 => ?_)
  · try simp only [Bool.not_eq_true'] at h14
    try simp only [Int.toNat_natCast, dflt_sl, dflt_st, dflt_str, dflt_int, dflt_bool] at h14
    cases h14
  · try simp only [Bool.not_eq_false'] at h14
    try simp only [Int.toNat_natCast, dflt_sl, dflt_st, dflt_str, dflt_int, dflt_bool] at h14
    refine acode_skip ?_
    refine acode_seq ?_
    refine acode_seq ?_
    refine acode_region ?_
    refine Or.inl ?_
    refine And.intro (rfl) ?_
    refine Exists.intro _ (And.intro (much_c a) ?_)
    refine And.intro (fun h => trivial) ?_
    refine And.intro (rfl) ?_
    refine Exists.intro _ (And.intro (fun h => ⟨⟨⟨h, trivial⟩, trivial⟩, much_c b⟩) ?_)
    refine And.intro (by first | (intro h; rw [h]; rfl) | (intro h; cases h)) ?_
    refine And.intro (fun h => trivial) ?_
    refine And.intro (fun h => ⟨⟨h, trivial⟩, trivial⟩) ?_
    refine And.intro (fun h => ⟨⟨h, trivial⟩, trivial⟩) ?_
    refine And.intro (by first | (intro h; rw [h]; rfl) | (intro h; cases h)) ?_
    refine And.intro (fun h => trivial) ?_
    refine And.intro (fun h => ⟨⟨h, trivial⟩, trivial⟩) ?_
    refine And.intro (fun h => ⟨⟨h, trivial⟩, trivial⟩) ?_
    refine And.intro (by first | (intro h; rw [h]; rfl) | (intro h; cases h)) ?_
    refine And.intro (fun h => trivial) ?_
    refine And.intro (fun h => ⟨⟨h, trivial⟩, trivial⟩) ?_
    refine And.intro (fun h => ⟨⟨h, trivial⟩, trivial⟩) ?_
    refine And.intro (by first | (intro h; rw [h]; rfl) | (intro h; cases h)) ?_
    refine And.intro (fun h => trivial) ?_
    refine And.intro (fun h => ⟨⟨h, trivial⟩, trivial⟩) ?_
    refine And.intro (fun h => ⟨⟨h, trivial⟩, trivial⟩) ?_
    refine And.intro (by first | (intro h; rw [h]; rfl) | (intro h; cases h)) ?_
    refine And.intro (fun h => trivial) ?_
    refine And.intro (fun h => ⟨⟨h, trivial⟩, trivial⟩) ?_
    refine And.intro (fun h => ⟨⟨h, trivial⟩, trivial⟩) ?_
    refine And.intro (by first | (intro h; rw [h]; rfl) | (intro h; cases h)) ?_
    refine acode_cond rfl (fun h45 => ?_) (fun h45 => ?_)
    · try simp only [decide_eq_true_eq, Bool.or_eq_true] at h45
      try simp only [Int.toNat_natCast, dflt_sl, dflt_st, dflt_str, dflt_int, dflt_bool] at h45
      refine acode_seq ?_
      refine acode_region ?_
      refine acode_ret ?_
      rfl
    · try simp only [decide_eq_false_iff_not, Bool.or_eq_false_iff, Int.not_lt] at h45
      try simp only [Int.toNat_natCast, dflt_sl, dflt_st, dflt_str, dflt_int, dflt_bool] at h45
      obtain ⟨⟨⟨⟨⟨⟨hma, hmb⟩, ha0⟩, hb0⟩, ha4⟩, hb4⟩, hn2⟩ := h45
      have hla := much_ok hma
      have hlb := much_ok hmb
      refine acode_skip ?_
      refine acode_seq ?_
      refine acode_seq ?_
      refine acode_region ?_
      refine acode_block ?_
      refine acode_loopP (fun (i : Nat) => i ≤ n.size ∧ (10 : UInt8) ∉ (ls n).take i) (fun (i : Nat) => [(0, .one (.sl rFld a)), (1, .one (.sl rFld b)), (2, is n), (47, ii .i64 n.size), (48, ii .i64 i)]) (fun (i : Nat) => []) 0 (fun (i : Nat) => n.size - i) 0 (⟨Nat.zero_le _, by simp⟩) (le_of ⟨rfl, rfl, rfl, rfl, rfl⟩ trivial rfl) ?_
      intro i hI0
      refine acode_seq ?_
      refine acode_region ?_
      refine acode_seq ?_
      refine acode_cond rfl (fun h49 => ?_) (fun h49 => ?_)
      · try simp only [decide_eq_true_eq] at h49
        try simp only [Int.toNat_natCast, dflt_sl, dflt_st, dflt_str, dflt_int, dflt_bool] at h49
        refine acode_skip ?_
        refine acode_seq ?_
        refine acode_block ?_
        refine acode_seq ?_
        refine acode_region ?_
        refine acode_seq ?_
        refine acode_region ?_
        refine And.intro (by first | omega | assumption | decide | (simp only [Int.toNat_natCast, dflt_sl, dflt_st, dflt_str, dflt_int, dflt_bool]; omega) | (simp <;> omega)) ?_
        refine acode_cond rfl (fun h54 => ?_) (fun h54 => ?_)
        · try simp only [decide_eq_true_eq] at h54
          try simp only [Int.toNat_natCast] at h54
          refine acode_seq ?_
          refine acode_region ?_
          refine acode_ret ?_
          rfl
        · try simp only [decide_eq_false_iff_not] at h54
          try simp only [Int.toNat_natCast] at h54
          refine acode_skip ?_
          refine acode_region ?_
          refine And.intro (by first | omega | assumption | decide | (simp only [Int.toNat_natCast, dflt_sl, dflt_st, dflt_str, dflt_int, dflt_bool]; omega) | (simp <;> omega)) ?_
          exact ⟨i + 1, ⟨by omega, no_step hI0.2 (by have := size_list n; show i < n.data.toList.length; omega) h54⟩, by first | omega | (simp <;> omega), le_of ⟨rfl, rfl, rfl, rfl, (ii_eq (by omega))⟩ trivial rfl⟩
      · try simp only [decide_eq_false_iff_not, Int.not_lt] at h49
        try simp only [Int.toNat_natCast, dflt_sl, dflt_st, dflt_str, dflt_int, dflt_bool] at h49
        refine acode_exit ?_
        have hn10 : (10 : UInt8) ∉ ls n := (by have := hI0.2; rwa [List.take_of_length_le (by have := size_list n; show n.data.toList.length ≤ i; omega)] at this)
        refine acode_seq ?_
        by_cases hba : badF a = 0 <;> by_cases hbb : badF b = 0
        · refine acode_region ?_
          refine Or.inl ?_
          refine And.intro (rfl) ?_
          refine Exists.intro _ (And.intro (fold_yes hla hba) ?_)
          refine acode_seq ?_
          refine acode_region ?_
          refine Or.inl ?_
          refine And.intro (rfl) ?_
          refine Exists.intro _ (And.intro (fold_yes hlb hbb) ?_)
          refine acode_seq ?_
          refine acode_seq ?_
          refine acode_region ?_
          refine And.intro (fun h => trivial) ?_
          refine And.intro (fun h => ⟨⟨h, trivial⟩, trivial⟩) ?_
          refine And.intro (by first | (intro h; rw [h]; rfl) | (intro h; cases h)) ?_
          refine acode_cond rfl (fun h71 => ?_) (fun h71 => ?_)
          · try simp only [Bool.not_eq_true', Bool.or_eq_true] at h71
            try simp only [Int.toNat_natCast, dflt_sl, dflt_st, dflt_str, dflt_int, dflt_bool] at h71
            simp at h71
          · try simp only [Bool.not_eq_false', Bool.or_eq_false_iff] at h71
            try simp only [Int.toNat_natCast, dflt_sl, dflt_st, dflt_str, dflt_int, dflt_bool] at h71
            refine acode_skip ?_
            refine acode_seq ?_
            have hsa := foldB_size hma hba (by omega)
            have hsb := foldB_size hmb hbb (by omega)
            have hk35 : ByteArray.size ⟨#[35]⟩ = 1 := rfl
            have hk10 : ByteArray.size ⟨#[10]⟩ = 1 := rfl
            obtain ⟨r1, r2, hpar⟩ := folds_parse (badF_zero hba) (badF_zero hbb) (fun e => ha0 (by rw [e]; rfl)) (fun e => hb0 (by rw [e]; rfl)) (by omega) (by omega) hn10
            rw [folds_text] at hpar
            have hpp := parse_a (⟨#[35]⟩ ++ n ++ ⟨#[10]⟩ ++ bytes (foldL a) ++ ⟨#[10]⟩ ++ bytes (foldL b) ++ ⟨#[35]⟩ ++ n ++ ⟨#[10]⟩) (by simp only [ByteArray.size_append]; omega)
            rw [hpar] at hpp
            refine acode_region ?_
            refine And.intro (by (have hk0 : ByteArray.size { data := #[35] } = 1 := rfl; first | (unfold maxLen; omega) | (simp only [ByteArray.size_append]; omega) | (unfold maxLen; (try simp only [ByteArray.size_append]); omega))) ?_
            refine And.intro (by (have hk0 : ByteArray.size { data := #[35] } = 1 := rfl; have hk1 : ByteArray.size { data := #[10] } = 1 := rfl; first | (unfold maxLen; omega) | (simp only [ByteArray.size_append]; omega) | (unfold maxLen; (try simp only [ByteArray.size_append]); omega))) ?_
            refine And.intro (by (have hk0 : ByteArray.size { data := #[35] } = 1 := rfl; have hk1 : ByteArray.size { data := #[10] } = 1 := rfl; first | (unfold maxLen; omega) | (simp only [ByteArray.size_append]; omega) | (unfold maxLen; (try simp only [ByteArray.size_append]); omega))) ?_
            refine And.intro (by (have hk0 : ByteArray.size { data := #[35] } = 1 := rfl; have hk1 : ByteArray.size { data := #[10] } = 1 := rfl; have hk2 : ByteArray.size { data := #[10] } = 1 := rfl; first | (unfold maxLen; omega) | (simp only [ByteArray.size_append]; omega) | (unfold maxLen; (try simp only [ByteArray.size_append]); omega))) ?_
            refine And.intro (by (have hk0 : ByteArray.size { data := #[35] } = 1 := rfl; have hk1 : ByteArray.size { data := #[10] } = 1 := rfl; have hk2 : ByteArray.size { data := #[10] } = 1 := rfl; first | (unfold maxLen; omega) | (simp only [ByteArray.size_append]; omega) | (unfold maxLen; (try simp only [ByteArray.size_append]); omega))) ?_
            refine And.intro (by (have hk0 : ByteArray.size { data := #[35] } = 1 := rfl; have hk1 : ByteArray.size { data := #[10] } = 1 := rfl; have hk2 : ByteArray.size { data := #[10] } = 1 := rfl; have hk3 : ByteArray.size { data := #[35] } = 1 := rfl; first | (unfold maxLen; omega) | (simp only [ByteArray.size_append]; omega) | (unfold maxLen; (try simp only [ByteArray.size_append]); omega))) ?_
            refine And.intro (by (have hk0 : ByteArray.size { data := #[35] } = 1 := rfl; have hk1 : ByteArray.size { data := #[10] } = 1 := rfl; have hk2 : ByteArray.size { data := #[10] } = 1 := rfl; have hk3 : ByteArray.size { data := #[35] } = 1 := rfl; first | (unfold maxLen; omega) | (simp only [ByteArray.size_append]; omega) | (unfold maxLen; (try simp only [ByteArray.size_append]); omega))) ?_
            refine And.intro (by (have hk0 : ByteArray.size { data := #[35] } = 1 := rfl; have hk1 : ByteArray.size { data := #[10] } = 1 := rfl; have hk2 : ByteArray.size { data := #[10] } = 1 := rfl; have hk3 : ByteArray.size { data := #[35] } = 1 := rfl; have hk4 : ByteArray.size { data := #[10] } = 1 := rfl; first | (unfold maxLen; omega) | (simp only [ByteArray.size_append]; omega) | (unfold maxLen; (try simp only [ByteArray.size_append]); omega))) ?_
            refine Or.inl ?_
            refine And.intro (rfl) ?_
            refine Exists.intro _ (And.intro (hpp) ?_)
            refine acode_seq ?_
            refine acode_seq ?_
            refine acode_region ?_
            refine And.intro (fun h => trivial) ?_
            refine And.intro (fun h => ⟨⟨h, trivial⟩, trivial⟩) ?_
            refine And.intro (fun h => ⟨⟨h, trivial⟩, trivial⟩) ?_
            refine And.intro (by first | (intro h; rw [h]; rfl) | (intro h; cases h)) ?_
            refine acode_cond rfl (fun h94 => ?_) (fun h94 => ?_)
            · try simp only [decide_eq_false_iff_not, Bool.not_eq_true', Bool.or_eq_true] at h94
              try simp only [Int.toNat_natCast, dflt_sl, dflt_st, dflt_str, dflt_int, dflt_bool] at h94
              simp at h94
            · try simp only [decide_eq_true_eq, Bool.not_eq_false', Bool.or_eq_false_iff] at h94
              try simp only [Int.toNat_natCast, dflt_sl, dflt_st, dflt_str, dflt_int, dflt_bool] at h94
              refine acode_skip ?_
              refine acode_seq ?_
              refine acode_region ?_
              refine And.intro (by simp) ?_
              refine And.intro (fun h => trivial) ?_
              refine And.intro (fun h => ⟨⟨⟨h, trivial⟩, trivial⟩, by simp⟩) ?_
              refine And.intro (fun h => ⟨⟨h, trivial⟩, trivial⟩) ?_
              refine And.intro (fun h => ⟨⟨h, trivial⟩, trivial⟩) ?_
              refine And.intro (fun h => trivial) ?_
              refine And.intro (rfl) ?_
              refine Exists.intro _ (And.intro (fun h => ⟨⟨⟨h, trivial⟩, ⟨h, trivial⟩, trivial⟩, fields_self a⟩) ?_)
              refine And.intro (by exact fun h => h) ?_
              refine And.intro (fun h => trivial) ?_
              refine And.intro (fun h => ⟨⟨⟨h, trivial⟩, trivial⟩, by simp⟩) ?_
              refine And.intro (fun h => ⟨⟨h, trivial⟩, trivial⟩) ?_
              refine And.intro (fun h => ⟨⟨h, trivial⟩, trivial⟩) ?_
              refine And.intro (fun h => ⟨⟨h, trivial⟩, trivial⟩) ?_
              refine And.intro (by exact fun h => h) ?_
              refine And.intro (fun h => trivial) ?_
              refine And.intro (fun h => ⟨⟨⟨h, trivial⟩, trivial⟩, by simp⟩) ?_
              refine And.intro (fun h => ⟨⟨h, trivial⟩, trivial⟩) ?_
              refine And.intro (fun h => ⟨⟨h, trivial⟩, trivial⟩) ?_
              refine And.intro (fun h => ⟨⟨h, trivial⟩, trivial⟩) ?_
              refine And.intro (by exact fun h => h) ?_
              refine And.intro (fun h => trivial) ?_
              refine And.intro (fun h => ⟨⟨⟨h, trivial⟩, trivial⟩, by simp⟩) ?_
              refine And.intro (fun h => ⟨⟨h, trivial⟩, trivial⟩) ?_
              refine And.intro (fun h => ⟨⟨h, trivial⟩, trivial⟩) ?_
              refine And.intro (fun h => trivial) ?_
              refine And.intro (rfl) ?_
              refine Exists.intro _ (And.intro (fun h => ⟨⟨⟨h, trivial⟩, ⟨h, trivial⟩, trivial⟩, fields_self b⟩) ?_)
              refine And.intro (by exact fun h => h) ?_
              refine acode_ret ?_
              rfl
        · refine acode_region ?_
          refine Or.inl ?_
          refine And.intro (rfl) ?_
          refine Exists.intro _ (And.intro (fold_yes hla hba) ?_)
          refine acode_seq ?_
          refine acode_region ?_
          refine Or.inl ?_
          refine And.intro (rfl) ?_
          refine Exists.intro _ (And.intro (fold_no hlb hbb) ?_)
          refine acode_seq ?_
          refine acode_seq ?_
          refine acode_region ?_
          refine And.intro (fun h => trivial) ?_
          refine And.intro (fun h => ⟨⟨h, trivial⟩, trivial⟩) ?_
          refine And.intro (by first | (intro h; rw [h]; rfl) | (intro h; cases h)) ?_
          refine acode_cond rfl (fun h71 => ?_) (fun h71 => ?_)
          · try simp only [Bool.not_eq_true', Bool.or_eq_true] at h71
            try simp only [Int.toNat_natCast, dflt_sl, dflt_st, dflt_str, dflt_int, dflt_bool] at h71
            refine acode_seq ?_
            refine acode_region ?_
            refine acode_ret ?_
            rfl
          · try simp only [Bool.not_eq_false', Bool.or_eq_false_iff] at h71
            try simp only [Int.toNat_natCast, dflt_sl, dflt_st, dflt_str, dflt_int, dflt_bool] at h71
            simp [] at h71
        · refine acode_region ?_
          refine Or.inl ?_
          refine And.intro (rfl) ?_
          refine Exists.intro _ (And.intro (fold_no hla hba) ?_)
          refine acode_seq ?_
          refine acode_region ?_
          refine Or.inl ?_
          refine And.intro (rfl) ?_
          refine Exists.intro _ (And.intro (fold_yes hlb hbb) ?_)
          refine acode_seq ?_
          refine acode_seq ?_
          refine acode_region ?_
          refine And.intro (fun h => trivial) ?_
          refine And.intro (fun h => ⟨⟨h, trivial⟩, trivial⟩) ?_
          refine And.intro (by first | (intro h; rw [h]; rfl) | (intro h; cases h)) ?_
          refine acode_cond rfl (fun h71 => ?_) (fun h71 => ?_)
          · try simp only [Bool.not_eq_true', Bool.or_eq_true] at h71
            try simp only [Int.toNat_natCast, dflt_sl, dflt_st, dflt_str, dflt_int, dflt_bool] at h71
            refine acode_seq ?_
            refine acode_region ?_
            refine acode_ret ?_
            rfl
          · try simp only [Bool.not_eq_false', Bool.or_eq_false_iff] at h71
            try simp only [Int.toNat_natCast, dflt_sl, dflt_st, dflt_str, dflt_int, dflt_bool] at h71
            simp [] at h71
        · refine acode_region ?_
          refine Or.inl ?_
          refine And.intro (rfl) ?_
          refine Exists.intro _ (And.intro (fold_no hla hba) ?_)
          refine acode_seq ?_
          refine acode_region ?_
          refine Or.inl ?_
          refine And.intro (rfl) ?_
          refine Exists.intro _ (And.intro (fold_no hlb hbb) ?_)
          refine acode_seq ?_
          refine acode_seq ?_
          refine acode_region ?_
          refine And.intro (fun h => trivial) ?_
          refine And.intro (fun h => ⟨⟨h, trivial⟩, trivial⟩) ?_
          refine And.intro (by first | (intro h; rw [h]; rfl) | (intro h; cases h)) ?_
          refine acode_cond rfl (fun h71 => ?_) (fun h71 => ?_)
          · try simp only [Bool.or_eq_true] at h71
            try simp only [Int.toNat_natCast, dflt_sl, dflt_st, dflt_str, dflt_int, dflt_bool] at h71
            refine acode_seq ?_
            refine acode_region ?_
            refine acode_ret ?_
            rfl
          · try simp only [Bool.or_eq_false_iff] at h71
            try simp only [Int.toNat_natCast, dflt_sl, dflt_st, dflt_str, dflt_int, dflt_bool] at h71
            simp [] at h71
end Q
end Ab
end Go.Proofs.YtdedkoiodehmnaaDoor
namespace Go.Proofs.YtdedkoiodehmnaaDoor
open Go.RowKit
namespace Ab
set_option maxRecDepth 100000
theorem o_str : Opens Tryd.prog 9 .str := opens_str Tryd.underlying9 (by kernel_rfl)
theorem o_int : Opens Tryd.prog 3 (.int .i64) := opens_int Tryd.underlying3 (by kernel_rfl)
theorem o_bool : Opens Tryd.prog 4 .bool := opens_bool Tryd.underlying4 (by kernel_rfl)
theorem o_field : Opens Tryd.prog 32 (.st .str .str) := opens_st Tryd.underlying32 (by kernel_rfl) (.cons rfl o_str (.one rfl o_str))
theorem o_fields : Opens Tryd.prog 22 (.sl (.st .str .str)) := opens_sl (by decide) Tryd.underlying22 (by kernel_rfl) o_field
theorem open_fields {H : Type} {enc : TypeId × Value → H} {W : World} {base : Nat} {v : Value} {d : DataW H} {p : List MemPlace} (hv : Value.okWide Tryd.prog W .any base 22 v) (h : DataW.Trod enc Tryd.prog W 0 (fun _ => true) true 22 v d p) :
    ∃ xs, (C.sl (.st .str .str) xs).rep AllOk noNames W v := open_sl Tryd.underlying22 o_fields hv h
/-- The library's variable holds some number. -/
theorem globAt {W : World} (h : W.ShapedOpen Tryd.prog) : GlobAt AllOk W := by
  have hc : GlobCell W := cell_of_shapedOpen_int (g := 0) (t := 3) (zero := #[.int .i64 0]) h (of_decide_eq_true (by kernel_rfl)) (by kernel_rfl) rfl (by kernel_rfl) (by kernel_rfl) Tryd.underlying3
  refine ⟨trivial, ?_, hc⟩
  obtain ⟨m, hm⟩ := hc
  rcases Nat.lt_or_ge 0 W.heap.size with h1 | h1
  · exact h1
  · exfalso
    simp only [World.cell?, Array.getElem?_eq_none h1] at hm
    cases hm
end Ab
end Go.Proofs.YtdedkoiodehmnaaDoor
namespace Go.Proofs.YtdedkoiodehmnaaDoor
open Go.RowKit
namespace Ab
set_option maxRecDepth 100000
theorem open_agg {P : Program} {α : Type} {R : Rd α} {t : TypeId} {fs : Array Field} (hu : P.underlying t = some (.struct fs)) (ho : Opens P t R) {H : Type} {enc : TypeId × Value → H} {W : World} {base : Nat} {v : Value} {d : DataW H} {p : List MemPlace} (hv : Value.okWide P W .any base t v)
    (h : DataW.Trod enc P W 0 (fun _ => true) true t v d p) : ∃ x : α, (A.agg (toL R x)).rep AllOk noNames W v := by
  obtain ⟨cs, rfl, _⟩ := Go.WideShapes.okWide_struct hu hv
  obtain ⟨fuel, hf⟩ := h
  obtain ⟨x, hx⟩ := ho.2 enc W _ _ _ _ _ _ hf
  exact ⟨x, cs.toList, by simp, toL_rep R hx⟩
theorem open_field {H : Type} {enc : TypeId × Value → H} {W : World} {base : Nat} {v : Value} {d : DataW H} {p : List MemPlace} (hv : Value.okWide Tryd.prog W .any base 32 v) (h : DataW.Trod enc Tryd.prog W 0 (fun _ => true) true 32 v d p) :
    ∃ x, (A.agg (toL (.st .str .str) x)).rep AllOk noNames W v := open_agg Tryd.underlying32 o_field hv h
theorem o_strs : Opens Tryd.prog 36 (.sl .str) := opens_sl (by decide) Tryd.underlying36 (by kernel_rfl) o_str
theorem open_strs {H : Type} {enc : TypeId × Value → H} {W : World} {base : Nat} {v : Value} {d : DataW H} {p : List MemPlace} (hv : Value.okWide Tryd.prog W .any base 36 v) (h : DataW.Trod enc Tryd.prog W 0 (fun _ => true) true 36 v d p) :
    ∃ xs, (C.sl .str xs).rep AllOk noNames W v := open_sl Tryd.underlying36 o_strs hv h
theorem o_strss : Opens Tryd.prog 52 (.sl (.sl .str)) := opens_sl (by decide) Tryd.underlying52 (by kernel_rfl) o_strs
theorem open_strss {H : Type} {enc : TypeId × Value → H} {W : World} {base : Nat} {v : Value} {d : DataW H} {p : List MemPlace} (hv : Value.okWide Tryd.prog W .any base 52 v) (h : DataW.Trod enc Tryd.prog W 0 (fun _ => true) true 52 v d p) :
    ∃ xs, (C.sl (.sl .str) xs).rep AllOk noNames W v := open_sl Tryd.underlying52 o_strss hv h
theorem o_rows : Opens Tryd.prog 61 (.sl (.sl (.st .str .str))) := opens_sl (by decide) Tryd.underlying61 (by kernel_rfl) o_fields
theorem open_rows {H : Type} {enc : TypeId × Value → H} {W : World} {base : Nat} {v : Value} {d : DataW H} {p : List MemPlace} (hv : Value.okWide Tryd.prog W .any base 61 v) (h : DataW.Trod enc Tryd.prog W 0 (fun _ => true) true 61 v d p) :
    ∃ xs, (C.sl (.sl (.st .str .str)) xs).rep AllOk noNames W v := open_sl Tryd.underlying61 o_rows hv h
theorem o_item : Opens Tryd.prog 75 (.st (.int .i64) (.st .str (.sl (.st .str .str)))) := opens_st Tryd.underlying75 (by kernel_rfl) (.cons rfl o_int (.cons rfl o_str (.one rfl o_fields)))
theorem o_items : Opens Tryd.prog 71 (.sl (.st (.int .i64) (.st .str (.sl (.st .str .str))))) := opens_sl (by decide) Tryd.underlying71 (by kernel_rfl) o_item
theorem open_items {H : Type} {enc : TypeId × Value → H} {W : World} {base : Nat} {v : Value} {d : DataW H} {p : List MemPlace} (hv : Value.okWide Tryd.prog W .any base 71 v) (h : DataW.Trod enc Tryd.prog W 0 (fun _ => true) true 71 v d p) :
    ∃ xs, (C.sl (.st (.int .i64) (.st .str (.sl (.st .str .str)))) xs).rep AllOk noNames W v := open_sl Tryd.underlying71 o_items hv h
end Ab
end Go.Proofs.YtdedkoiodehmnaaDoor
