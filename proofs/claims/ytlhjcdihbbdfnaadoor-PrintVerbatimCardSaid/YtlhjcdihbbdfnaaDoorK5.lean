/-
  The texts of this proof, joined: abstract values, the library, the functions of the program and what they compute (part 5). No condition.
-/
import Derived.Shelf.Vars
import Derived.KernelRfl
import Derived.Test.YtlhjcdihbbdfnaaDoorK1
import Derived.Test.YtlhjcdihbbdfnaaDoorK2
import Derived.Test.YtlhjcdihbbdfnaaDoorK3
import Derived.Test.YtlhjcdihbbdfnaaDoorK4
namespace Go.Proofs.YtlhjcdihbbdfnaaDoor
open Go.RowKit
namespace Ab
set_option maxRecDepth 100000
namespace Q
def mkL (t : ByteArray) : Lne := (0, 0, t, true)
theorem lineB_map2 (k v : ByteArray) : (lineB k v).map ls = linesL k.data.toList v.data.toList := by
  unfold lineB
  rw [List.map_map]
  conv => rhs; rw [← List.map_id (linesL k.data.toList v.data.toList)]
  exact List.map_congr_left fun s _ => bytes_list s
/-- A field's lines: the first one, and those behind it. -/
theorem lineB_cut {f : Fld} (h : checkF f = 0) : ∃ a r, lineB f.1 f.2 = a :: r ∧ kindL (ls a) = 4 ∧ (∀ x ∈ r, kindL (ls x) = 3) ∧ unfoldL ((a :: r).map ls) = ((f.1.data.toList, f.2.data.toList), 0) := by
  obtain ⟨h1, h2, h3⟩ := check_ok h
  rw [size_list] at h2
  have hno := parts_no f.2.data.toList
  have h0 : (10 : UInt8) ∉ (partsL f.2.data.toList).headD [] := by
    cases e : partsL f.2.data.toList with
    | nil => exact absurd e (split_ne f.2.data.toList [10])
    | cons p ps => rw [e] at hno; exact hno p (by simp)
  have hu := unfold_lines h1 h2
  rw [← lineB_map2] at hu
  refine ⟨bytes (firstL f.1.data.toList ((partsL f.2.data.toList).headD [])), ((partsL f.2.data.toList).drop 1).map (fun s => bytes (32 :: stuffL s)), ?_, ?_, ?_, ?_⟩
  · unfold lineB linesL
    rw [List.map_cons, List.map_map]
    rfl
  · rw [show ls (bytes (firstL f.1.data.toList ((partsL f.2.data.toList).headD []))) = _ from bytes_list _]
    exact (first_kind h1 h0).1
  · intro x hx
    obtain ⟨s, hs, rfl⟩ := List.mem_map.1 hx
    rw [show ls (bytes (32 :: stuffL s)) = _ from bytes_list _]
    exact more_kind (hno s (List.mem_of_mem_drop hs))
  · rw [← hu]
    refine congrArg (fun x : List ByteArray => unfoldL (x.map ls)) ?_
    unfold lineB linesL
    rw [List.map_cons, List.map_map]
    rfl
/-- What a parser comes to once its field is ended. -/
def Ready (p : PSt) (F : List Fld) : Prop := ∃ q, flushS p = .inr q ∧ q.lns = [] ∧ q.flds = F ∧ q.its = p.its ∧ q.recs = p.recs ∧ q.blk = p.blk
theorem more_run : ∀ (r : List ByteArray) (p : PSt), (∀ x ∈ r, kindL (ls x) = 3) → p.lns ≠ [] → runS p (r.map mkL) = .inr { p with lns := p.lns ++ r, blk := p.blk ++ r }
  | [], p, _, _ => by simp [runS]
  | x :: r, p, h, h0 => by
    have hk := h x List.mem_cons_self
    have ht : takeS p (mkL x) = .inr { p with lns := p.lns ++ [x], blk := p.blk ++ [x] } := by
      unfold takeS mkL
      simp only [hk]
      simp [aheadS, lineS, h0]
    rw [List.map_cons]
    simp only [runS, ht]
    rw [more_run r _ (fun y hy => h y (List.mem_cons_of_mem _ hy)) (by simp)]
    simp
theorem field_run {f : Fld} (h : checkF f = 0) {p : PSt} {F : List Fld} (hr : Ready p F) (hF : F.length < 40) (hrec : p.recs ≠ 400) : ∃ q, runS p ((lineB f.1 f.2).map mkL) = .inr q ∧ Ready q (F ++ [f]) ∧ q.its = p.its ∧ q.recs = p.recs ∧ q.blk ≠ [] := by
  obtain ⟨a, r, e, hk4, hk3, hu⟩ := lineB_cut h
  obtain ⟨q, f1, f2, f3, f4, f5, f6⟩ := hr
  have hfull : (decide ((q.flds.length : Int) = 40) || (decide ((q.flds.length : Int) = 0) && decide (q.recs = 400))) = false := by
    rw [f3, f5]
    have h1 : ¬ (F.length : Int) = 40 := by omega
    simp [h1, hrec]
  have ht : takeS p (mkL a) = .inr ⟨[a], 0, false, q.its, q.blk ++ [a], q.flds, q.recs⟩ := by
    unfold takeS mkL
    simp only [hk4]
    have : aheadS p (0, 0, a, true) 4 = .inr q := by unfold aheadS; rw [if_neg (by decide), if_neg (by decide)]; exact f1
    rw [this]
    simp only [lineS, beginS, hfull]
    simp
  rw [e, List.map_cons]
  simp only [runS, ht]
  rw [more_run r _ hk3 (by simp)]
  refine ⟨_, rfl, ?_, f4, f5, by simp⟩
  refine ⟨⟨[], 0, false, q.its, q.blk ++ [a] ++ r, q.flds ++ [f], q.recs⟩, ?_, rfl, by simp only [f3], rfl, rfl, rfl⟩
  unfold flushS
  have e2 : ([a] ++ r).map ls = (a :: r).map ls := rfl
  rw [if_neg (by simp)]
  simp only [e2, hu]
  rw [bytes_ls f.1, bytes_ls f.2]
  rfl
theorem fields_run : ∀ (fs : List Fld) (p : PSt) (F : List Fld), (∀ f ∈ fs, checkF f = 0) → Ready p F → F.length + fs.length ≤ 40 → p.recs ≠ 400 → fs ≠ [] → ∃ q, runS p ((fs.flatMap fun f => lineB f.1 f.2).map mkL) = .inr q ∧ Ready q (F ++ fs) ∧ q.its = p.its ∧ q.recs = p.recs ∧ q.blk ≠ []
  | [], _, _, _, _, _, _, h => absurd rfl h
  | f :: r, p, F, h, hr, hF, hrec, _ => by
    rw [List.length_cons] at hF
    obtain ⟨q, e1, e2, e3, e4, e5⟩ := field_run (h f List.mem_cons_self) hr (by omega) hrec
    rw [List.flatMap_cons, List.map_append, run_app _ _ _ _ e1]
    by_cases h0 : r = []
    · subst h0
      exact ⟨q, rfl, e2, e3, e4, e5⟩
    · obtain ⟨q2, i1, i2, i3, i4, i5⟩ := fields_run r q (F ++ [f]) (fun g hg => h g (List.mem_cons_of_mem _ hg)) e2 (by rw [List.length_append, List.length_singleton]; omega) (by rw [e4]; exact hrec) h0
      exact ⟨q2, i1, by rw [List.append_assoc] at i2; exact i2, i3.trans e3, i4.trans e4, i5⟩
theorem kind_note {n : List UInt8} (h : (10 : UInt8) ∉ n) : kindL (35 :: n) = 2 := by
  unfold kindL
  rw [if_neg (by simp [h])]
  rw [if_neg (by simp [blankC])]
  rw [if_pos (by simp [Lib.hasPrefix])]
theorem note_run {p : PSt} {F : List Fld} {n : List UInt8} (h : (10 : UInt8) ∉ n) (hr : Ready p F) : ∃ q, takeS p (mkL (bytes (35 :: n))) = .inr q ∧ q.lns = [] ∧ q.flds = F ∧ q.its = p.its ∧ q.recs = p.recs ∧ q.blk ≠ [] := by
  obtain ⟨q, f1, f2, f3, f4, f5, f6⟩ := hr
  refine ⟨{ q with blk := q.blk ++ [bytes (35 :: n)] }, ?_, f2, f3, f4, f5, by simp⟩
  unfold takeS mkL
  simp only [show ls (bytes (35 :: n)) = 35 :: n from bytes_list _, kind_note h]
  have : aheadS p (0, 0, bytes (35 :: n), true) 2 = .inr q := by unfold aheadS; rw [if_neg (by decide), if_neg (by decide)]; exact f1
  rw [this]
  simp [lineS]
theorem ready_idle {p : PSt} {F : List Fld} (h : p.lns = []) (hF : p.flds = F) : Ready p F := ⟨p, by unfold flushS; rw [if_pos h], h, hF, rfl, rfl, rfl⟩
theorem end_run {p : PSt} {F : List Fld} (hr : Ready p F) (h0 : F ≠ []) (hb : p.blk ≠ []) : ∃ r q, endS p = .inr q ∧ Idle q ∧ q.its = p.its ++ [(3, r, F)] ∧ q.recs = p.recs + 1 := by
  obtain ⟨q, f1, f2, f3, f4, f5, f6⟩ := hr
  refine ⟨rawB q.blk, closeS q, ?_, ?_⟩
  · unfold endS
    rw [f1]
  · unfold closeS
    rw [if_neg (by rw [f6]; exact hb), f3]
    simp only [if_neg h0]
    exact ⟨⟨f2, rfl, rfl⟩, by rw [f4], by rw [f5]⟩
theorem blank_run {p : PSt} {F : List Fld} (hr : Ready p F) (h0 : F ≠ []) (hb : p.blk ≠ []) : ∃ r q, takeS p (mkL ⟨#[]⟩) = .inr q ∧ Idle q ∧ q.its = p.its ++ [(3, r, F), (1, ⟨#[10]⟩, [])] ∧ q.recs = p.recs + 1 := by
  obtain ⟨r, q, e1, e2, e3, e4⟩ := end_run hr h0 hb
  refine ⟨r, { q with its := q.its ++ [(1, (⟨#[]⟩ : ByteArray) ++ ⟨#[10]⟩, [])] }, ?_, e2, by simp only [e3, List.append_assoc]; rfl, e4⟩
  unfold takeS mkL
  simp only [kind_E]
  have : aheadS p (0, 0, ⟨#[]⟩, true) 1 = .inr q := by unfold aheadS; rw [if_neg (by decide), if_pos rfl]; exact e1
  rw [this]
  simp [lineS]
def foldsL (a b : List Fld) (n : List UInt8) : List ByteArray := bytes (35 :: n) :: ((a.flatMap fun f => lineB f.1 f.2) ++ (⟨#[]⟩ :: ((b.flatMap fun f => lineB f.1 f.2) ++ [bytes (35 :: n)])))
theorem folds_run {a b : List Fld} {n : List UInt8} (ha : ∀ f ∈ a, checkF f = 0) (hb : ∀ f ∈ b, checkF f = 0) (ha0 : a ≠ []) (hb0 : b ≠ []) (ha4 : a.length ≤ 40) (hb4 : b.length ≤ 40) (hn : (10 : UInt8) ∉ n) :
    ∃ q q2 r1 r2, runS pst0 ((foldsL a b n).map mkL) = .inr q ∧ endS q = .inr q2 ∧ q2.its = [(3, r1, a), (1, ⟨#[10]⟩, []), (3, r2, b)] := by
  obtain ⟨p1, t1, a1, a2, a3, a4, a5⟩ := note_run (F := []) hn (ready_idle (p := pst0) rfl rfl)
  obtain ⟨p2, t2, b1, b2, b3, b4⟩ := fields_run a p1 [] ha (ready_idle a1 a2) (by simpa using ha4) (by rw [a4]; decide) ha0
  obtain ⟨r1, p3, t3, c1, c2, c3⟩ := blank_run b1 (by simpa using ha0) b4
  obtain ⟨p4, t4, d1, d2, d3, d4⟩ := fields_run b p3 [] hb (ready_idle c1.1 c1.2.2) (by simpa using hb4) (by rw [c3, b3, a4]; decide) hb0
  obtain ⟨p5, t5, g1, g2, g3, g4, g5⟩ := note_run hn d1
  obtain ⟨r2, p6, t6, h1, h2, h3⟩ := end_run (ready_idle g1 g2) (by simpa using hb0) g5
  refine ⟨p5, p6, r1, r2, ?_, t6, ?_⟩
  · unfold foldsL
    rw [List.map_cons]
    simp only [runS, t1]
    rw [List.map_append, run_app _ _ _ _ t2, List.map_cons]
    simp only [runS, t3]
    rw [List.map_append, run_app _ _ _ _ t4]
    simp only [List.map_cons, List.map_nil, runS, t5]
  · rw [h2, g3, d2, c2, b2, a3]
    rfl
theorem foldsL_no {a b : List Fld} {n : List UInt8} (ha : ∀ f ∈ a, checkF f = 0) (hb : ∀ f ∈ b, checkF f = 0) (hn : (10 : UInt8) ∉ n) : ∀ t ∈ foldsL a b n, (10 : UInt8) ∉ ls t := by
  have hl : ∀ (c : List Fld), (∀ f ∈ c, checkF f = 0) → ∀ t ∈ (c.flatMap fun f => lineB f.1 f.2), (10 : UInt8) ∉ ls t := by
    intro c hc t ht
    obtain ⟨f, hf, ht⟩ := List.mem_flatMap.1 ht
    have := lines_no (v := f.2.data.toList) (check_ok (hc f hf)).1 (ls t) (by rw [← lineB_map2]; exact List.mem_map_of_mem ht)
    exact this
  intro t ht
  unfold foldsL at ht
  simp only [List.mem_cons, List.mem_append, List.not_mem_nil, or_false] at ht
  have h1 : (10 : UInt8) ∉ ls (bytes (35 :: n)) := by rw [show ls (bytes (35 :: n)) = 35 :: n from bytes_list _]; simp [hn]
  rcases ht with rfl | ht | rfl | ht | rfl
  · exact h1
  · exact hl a ha t ht
  · decide
  · exact hl b hb t ht
  · exact h1
theorem glue_mk : ∀ (T : List ByteArray), glue ((T.map mkL).map (·.2.2)) = endL (T.map ls)
  | [] => rfl
  | t :: r => by
    rw [List.map_cons, List.map_cons]
    simp only [glue, glue_mk r, mkL, if_true]
    simp [endL]
theorem endL_flat (c : List Fld) : endL ((c.flatMap fun f => lineB f.1 f.2).map ls) = foldL c := by
  induction c with
  | nil => rfl
  | cons f r ih =>
    rw [List.flatMap_cons, List.map_append]
    unfold endL foldL at *
    rw [List.flatMap_append, ih, List.flatMap_cons, lineB_map2]
    rfl
/-- What is parsed of the text. -/
theorem folds_parse {a b : List Fld} {n : List UInt8} (ha : ∀ f ∈ a, checkF f = 0) (hb : ∀ f ∈ b, checkF f = 0) (ha0 : a ≠ []) (hb0 : b ≠ []) (ha4 : a.length ≤ 40) (hb4 : b.length ≤ 40) (hn : (10 : UInt8) ∉ n) :
    ∃ r1 r2, parseS (bytes ((35 :: n) ++ [10] ++ foldL a ++ [10] ++ foldL b ++ [35] ++ n ++ [10])) = .inr [(3, r1, a), (1, ⟨#[10]⟩, []), (3, r2, b)] := by
  obtain ⟨q, q2, r1, r2, h1, h2, h3⟩ := folds_run ha hb ha0 hb0 ha4 hb4 hn
  have hno := foldsL_no ha hb hn
  have hl := lines_of (L := (foldsL a b n).map mkL) (fun l hl => by
    obtain ⟨t, ht, rfl⟩ := List.mem_map.1 hl
    exact ⟨rfl, hno t ht⟩)
  have ht : glue (((foldsL a b n).map mkL).map (·.2.2)) = (35 :: n) ++ [10] ++ foldL a ++ [10] ++ foldL b ++ [35] ++ n ++ [10] := by
    rw [glue_mk]
    unfold foldsL
    rw [List.map_cons, List.map_append, List.map_cons, List.map_append, List.map_cons, List.map_nil]
    have e : ls (bytes (35 :: n)) = 35 :: n := bytes_list _
    have hA := endL_flat a
    have hB := endL_flat b
    unfold endL at hA hB ⊢
    simp only [List.flatMap_cons, List.flatMap_append, List.flatMap_nil, hA, hB, e]
    simp [ls]
  rw [ht] at hl
  refine ⟨r1, r2, ?_⟩
  rw [parse_of hl h1 h2, h3]
end Q
end Ab
end Go.Proofs.YtlhjcdihbbdfnaaDoor
namespace Go.Proofs.YtlhjcdihbbdfnaaDoor
open Go.RowKit
namespace Ab
set_option maxRecDepth 100000
namespace Q
def recsT (l : List Itm) : List (List Fld) := (l.filter fun x => decide (x.1 = 3)).map (·.2.2)
theorem recsT_app (a b : List Itm) : recsT (a ++ b) = recsT a ++ recsT b := by simp [recsT]
def fldL (a : List Fld) : List ByteArray := a.flatMap fun f => lineB f.1 f.2
/-- The lines of a list's text. -/
def textT : List (List Fld) → List ByteArray
  | [] => []
  | [a] => fldL a
  | a :: b :: r => fldL a ++ (⟨#[]⟩ :: textT (b :: r))
def GoodS (a : List Fld) : Prop := a ≠ [] ∧ a.length ≤ 40 ∧ ∀ f ∈ a, checkF f = 0
theorem texts_run : ∀ (l : List (List Fld)) (p : PSt), l ≠ [] → (∀ a ∈ l, GoodS a) → Idle p → 0 ≤ p.recs → p.recs + l.length ≤ 400 → ∃ q q2, runS p ((textT l).map mkL) = .inr q ∧ endS q = .inr q2 ∧ recsT q2.its = recsT p.its ++ l
  | [], _, h, _, _, _, _ => absurd rfl h
  | [a], p, _, hg, hi, h0, h4 => by
    obtain ⟨g1, g2, g3⟩ := hg a List.mem_cons_self
    simp only [List.length_singleton] at h4
    obtain ⟨q, e1, e2, e3, e4, e5⟩ := fields_run a p [] g3 (ready_idle hi.1 hi.2.2) (by simpa using g2) (by omega) g1
    obtain ⟨r, q2, f1, f2, f3, f4⟩ := end_run e2 (by simpa using g1) e5
    refine ⟨q, q2, e1, f1, ?_⟩
    rw [f3, recsT_app, e3]
    rfl
  | a :: b :: r, p, _, hg, hi, h0, h4 => by
    obtain ⟨g1, g2, g3⟩ := hg a List.mem_cons_self
    simp only [List.length_cons] at h4
    obtain ⟨q, e1, e2, e3, e4, e5⟩ := fields_run a p [] g3 (ready_idle hi.1 hi.2.2) (by simpa using g2) (by omega) g1
    obtain ⟨x, q2, f1, f2, f3, f4⟩ := blank_run e2 (by simpa using g1) e5
    obtain ⟨q3, q4, i1, i2, i3⟩ := texts_run (b :: r) q2 (by simp) (fun c hc => hg c (List.mem_cons_of_mem _ hc)) f2 (by omega) (by rw [List.length_cons]; omega)
    refine ⟨q3, q4, ?_, i2, ?_⟩
    · unfold textT fldL
      rw [List.map_append, run_app _ _ _ _ e1, List.map_cons]
      simp only [runS, f1]
      exact i1
    · rw [i3, f3, recsT_app, e3, List.append_assoc]
      rfl
theorem textT_no : ∀ (l : List (List Fld)), (∀ a ∈ l, GoodS a) → ∀ t ∈ textT l, (10 : UInt8) ∉ ls t
  | [], _, t, ht => by cases ht
  | [a], hg, t, ht => by
    obtain ⟨f, hf, ht⟩ := List.mem_flatMap.1 (show t ∈ a.flatMap fun f => lineB f.1 f.2 from ht)
    exact lines_no (v := f.2.data.toList) (check_ok ((hg a List.mem_cons_self).2.2 f hf)).1 (ls t) (by rw [← lineB_map2]; exact List.mem_map_of_mem ht)
  | a :: b :: r, hg, t, ht => by
    unfold textT at ht
    rcases List.mem_append.1 ht with ht | ht
    · obtain ⟨f, hf, ht⟩ := List.mem_flatMap.1 (show t ∈ a.flatMap fun f => lineB f.1 f.2 from ht)
      exact lines_no (v := f.2.data.toList) (check_ok ((hg a List.mem_cons_self).2.2 f hf)).1 (ls t) (by rw [← lineB_map2]; exact List.mem_map_of_mem ht)
    · rcases List.mem_cons.1 ht with rfl | ht
      · decide
      · exact textT_no (b :: r) (fun c hc => hg c (List.mem_cons_of_mem _ hc)) t ht
theorem textT_join : ∀ (l : List (List Fld)), endL ((textT l).map ls) = Lib.join (l.map foldL) [10]
  | [] => by rfl
  | [a] => by
    rw [List.map_cons, List.map_nil, Lib.join_one]
    exact endL_flat a
  | a :: b :: r => by
    have ih := textT_join (b :: r)
    rw [List.map_cons] at ih
    rw [List.map_cons, List.map_cons, join_two, ← ih]
    show endL (((a.flatMap fun f => lineB f.1 f.2) ++ (⟨#[]⟩ :: textT (b :: r))).map ls) = _
    rw [List.map_append, List.map_cons]
    have hA := endL_flat a
    unfold endL at hA ⊢
    rw [List.flatMap_append, hA, List.flatMap_cons]
    simp [ls]
/-- What is parsed of a list's text. -/
theorem texts_parse {l : List (List Fld)} (hg : ∀ a ∈ l, GoodS a) (h4 : l.length ≤ 400) : ∃ m, parseS (bytes (Lib.join (l.map foldL) [10])) = .inr m ∧ recsT m = l := by
  by_cases h0 : l = []
  · subst h0
    refine ⟨[], ?_, rfl⟩
    decide +kernel
  · obtain ⟨q, q2, h1, h2, h3⟩ := texts_run l pst0 h0 hg ⟨rfl, rfl, rfl⟩ (by decide) (by show (0 : Int) + _ ≤ _; omega)
    have hno := textT_no l hg
    have hl := lines_of (L := (textT l).map mkL) (fun x hx => by
      obtain ⟨t, ht, rfl⟩ := List.mem_map.1 hx
      exact ⟨rfl, hno t ht⟩)
    rw [glue_mk, textT_join] at hl
    refine ⟨q2.its, parse_of hl h1 h2, ?_⟩
    rw [h3]
    rfl
end Q
end Ab
end Go.Proofs.YtlhjcdihbbdfnaaDoor
namespace Go.Proofs.YtlhjcdihbbdfnaaDoor
open Go.RowKit
namespace Ab
set_option maxRecDepth 100000
namespace Q
def more (l : Lne) : Bool := decide (kindL (ls l.2.2.1) = 3)
/-- The lines of the field that begins with the first of these. -/
def saidL (l : Lne) (r : List Lne) : List ByteArray := l.2.2.1 :: (r.takeWhile more).map (·.2.2.1)
/-- What is wrong at a line. -/
def wrongL (bh : Bool) (l : Lne) (r : List Lne) (fields recs : Int) : Int :=
  if kindL (ls l.2.2.1) = 5 ∨ (kindL (ls l.2.2.1) = 3 ∧ bh = false) ∨ l.2.2.2 = false then 2
  else if kindL (ls l.2.2.1) ≠ 4 then 0
  else if (unfoldL ((saidL l r).map ls)).2 ≠ 0 then (unfoldL ((saidL l r).map ls)).2
  else if 40 ≤ fields ∨ (fields = 0 ∧ 400 ≤ recs) then 11
  else 0
structure RSt where
  kind : Int
  raw : ByteArray
  flds : List Fld
  out : List Itm
  recs : Int
def fldOf (L : List ByteArray) : Fld := (bytes (unfoldL (L.map ls)).1.1, bytes (unfoldL (L.map ls)).1.2)
def stepR (t : RSt) (l : Lne) (r : List Lne) : RSt :=
  if kindL (ls l.2.2.1) = 1 then ⟨2, ByteArray.empty, [], (if t.raw = ByteArray.empty then t.out else t.out ++ [(t.kind, t.raw, t.flds)]) ++ [(1, l.2.2.1 ++ ⟨#[10]⟩, [])], t.recs⟩
  else if kindL (ls l.2.2.1) = 4 then ⟨3, t.raw ++ l.2.2.1 ++ ⟨#[10]⟩, t.flds ++ [fldOf (saidL l r)], t.out, if t.kind = 2 then t.recs + 1 else t.recs⟩
  else { t with raw := t.raw ++ l.2.2.1 ++ ⟨#[10]⟩ }
/-- A text's items, where it is wrong. -/
def runR (bh : Bool) (t : RSt) : List Lne → (Int × Int) ⊕ List Itm
  | [] => .inr (if t.raw = ByteArray.empty then t.out else t.out ++ [(t.kind, t.raw, t.flds)])
  | l :: r => if wrongL bh l r t.flds.length t.recs ≠ 0 then .inl (l.1, wrongL bh l r t.flds.length t.recs)
    else runR (decide (kindL (ls l.2.2.1) = 4) || decide (kindL (ls l.2.2.1) = 3)) (stepR t l r) r
def rst0 : RSt := ⟨2, ByteArray.empty, [], [], 0⟩
/-- What the parser comes to. -/
def outP (p : PSt) (L : List Lne) : (Int × Int) ⊕ List Itm := match runS p L with
  | .inl e => .inl e
  | .inr q => match endS q with
    | .inl e => .inl e
    | .inr q => .inr q.its
theorem outP_cons (p : PSt) (l : Lne) (r : List Lne) : outP p (l :: r) = match takeS p l with
    | .inl e => .inl e
    | .inr q => outP q r := by
  unfold outP
  simp only [runS]
  cases takeS p l <;> rfl
theorem parse_out (s : ByteArray) : parseS s = outP pst0 (linesT s) := rfl
/-- Only the last line may be without an end. -/
def Ends : List Lne → Prop
  | [] => True
  | l :: r => (l.2.2.2 = false → r = []) ∧ Ends r
theorem ends_linesR : ∀ (f : Nat) (tot no : Int) (s : List UInt8), Ends (linesR f tot no s)
  | 0, _, _, _ => trivial
  | f + 1, _, _, [] => trivial
  | f + 1, tot, no, a :: r => by
    rw [linesR_cons]
    refine ⟨fun h => ?_, ends_linesR f _ _ _⟩
    rcases cut_cases (a := a) (s := r) (c := 10) with ⟨x, b, e, _, hc⟩ | ⟨_, hc⟩
    · rw [hc] at h; cases h
    · rw [hc]; cases f <;> rfl
theorem not_more {l : Lne} (h : kindL (ls l.2.2.1) ≠ 3) (r : List Lne) : (l :: r).takeWhile more = [] := by
  rw [List.takeWhile_cons_of_neg (by unfold more; simp [h])]
theorem is_more {l : Lne} (h : kindL (ls l.2.2.1) = 3) (r : List Lne) : (l :: r).takeWhile more = l :: r.takeWhile more := by
  rw [List.takeWhile_cons_of_pos (by unfold more; simp [h])]
/-- A field that is wrong is told of once it ends. -/
theorem pend_err : ∀ (r : List Lne) (p : PSt) (at_ n : Int), Ends r → p.lns ≠ [] → (∀ q : PSt, q.lns = p.lns ++ (r.takeWhile more).map (·.2.2.1) → q.full = p.full → q.frm = p.frm → flushS q = .inl (at_, n)) → outP p r = .inl (at_, n)
  | [], p, at_, n, _, h0, hf => by
    have := hf p (by simp) rfl rfl
    unfold outP
    simp only [runS, endS, this]
  | l :: r, p, at_, n, hE, h0, hf => by
    rw [outP_cons]
    by_cases hm : kindL (ls l.2.2.1) = 3
    · rw [is_more hm] at hf
      by_cases he : l.2.2.2 = true
      · have ht : takeS p l = .inr { p with lns := p.lns ++ [l.2.2.1], blk := p.blk ++ [l.2.2.1] } := by
          unfold takeS
          simp only [hm]
          simp [aheadS, lineS, h0, he]
        rw [ht]
        exact pend_err r _ at_ n hE.2 (by simp) (fun q h1 h2 h3 => hf q (by rw [h1]; simp) h2 h3)
      · obtain rfl := hE.1 (by simpa using he)
        have hfp := hf { p with lns := p.lns ++ [l.2.2.1] } (by simp) rfl rfl
        have ht : takeS p l = .inl (at_, n) := by
          unfold takeS aheadS
          rw [if_pos hm, if_neg h0, if_neg he, hfp]
        rw [ht]
    · rw [not_more hm] at hf
      have hfp := hf p (by simp) rfl rfl
      have ht : takeS p l = .inl (at_, n) := by
        unfold takeS aheadS
        rw [if_neg hm]
        unfold endS
        rw [hfp]
        simp
      rw [ht]
def rawC (b : List ByteArray) : ByteArray := bytes (endL (b.map ls))
theorem rawC_snoc (b : List ByteArray) (x : ByteArray) : rawC (b ++ [x]) = rawC b ++ x ++ ⟨#[10]⟩ := by
  unfold rawC endL
  rw [List.map_append, List.flatMap_append, bytes_app, ByteArray.append_assoc]
  congr 1
  simp only [List.map_cons, List.map_nil, List.flatMap_cons, List.flatMap_nil, List.append_nil]
  rw [bytes_app, bytes_ls]
  rfl
theorem join_endL (c : UInt8) : ∀ (l : List (List UInt8)), l ≠ [] → Lib.join l [c] ++ [c] = l.flatMap fun s => s ++ [c]
  | [], h => absurd rfl h
  | [a], _ => by rw [Lib.join_one]; simp
  | a :: b :: r, _ => by
    have := join_endL c (b :: r) (by simp)
    rw [join_two, List.flatMap_cons, ← this]
    simp
theorem rawB_C {b : List ByteArray} (h : b ≠ []) : rawB b = rawC b := by
  unfold rawB rawC endL
  rw [show b.map ls = b.map (·.data.toList) from rfl, ← join_endL 10 (b.map (·.data.toList)) (by simpa using h), bytes_app]
  rfl
theorem rawC_nil {b : List ByteArray} : rawC b = ByteArray.empty ↔ b = [] := by
  refine ⟨fun h => ?_, fun h => by rw [h]; rfl⟩
  cases b with
  | nil => rfl
  | cons x r =>
    have := congrArg ByteArray.size h
    unfold rawC endL at this
    rw [bytes_size] at this
    simp at this
/-- What the document's answer and the parser have in common ahead of these lines. -/
structure Alike (p : PSt) (t : RSt) (bh : Bool) (L : List Lne) : Prop where
  its : t.out = p.its
  raw : t.raw = rawC p.blk
  bh : bh = true ↔ p.lns ≠ []
  flds : t.flds = p.flds ++ (if p.lns = [] then [] else [fldOf (p.lns ++ (L.takeWhile more).map (·.2.2.1))])
  kind : t.kind = if t.flds = [] then 2 else 3
  recs : t.recs = p.recs + (if t.flds = [] then 0 else 1)
  pend : p.lns ≠ [] → p.full = false ∧ (unfoldL ((p.lns ++ (L.takeWhile more).map (·.2.2.1)).map ls)).2 = 0
  blk0 : p.blk = [] → t.flds = []
  r4 : p.recs ≤ 400
  rf : t.flds ≠ [] → p.recs < 400
  f40 : t.flds.length ≤ 40
section
variable {p : PSt} {t : RSt} {bh : Bool} {L : List Lne}
theorem alike_flush (h : Alike p t bh L) (hL : L.takeWhile more = []) : ∃ q, flushS p = .inr q ∧ q.lns = [] ∧ q.flds = t.flds ∧ q.its = p.its ∧ q.blk = p.blk ∧ q.recs = p.recs := by
  by_cases h0 : p.lns = []
  · refine ⟨p, by unfold flushS; rw [if_pos h0], h0, ?_, rfl, rfl, rfl⟩
    rw [h.flds, if_pos h0, List.append_nil]
  · obtain ⟨h1, h2⟩ := h.pend h0
    rw [hL, List.map_nil, List.append_nil] at h2
    refine ⟨{ p with flds := p.flds ++ [(bytes (unfoldL (p.lns.map ls)).1.1, bytes (unfoldL (p.lns.map ls)).1.2)], lns := [] }, ?_, rfl, ?_, rfl, rfl, rfl⟩
    · unfold flushS
      rw [if_neg h0, if_neg (by rw [h2]; simp), if_neg (by rw [h1]; simp)]
    · rw [h.flds, if_neg h0, hL]
      simp [fldOf]
theorem alike_end (h : Alike p t bh L) (hL : L.takeWhile more = []) : ∃ q, endS p = .inr q ∧ q.lns = [] ∧ q.flds = [] ∧ q.blk = [] ∧ q.its = (if t.raw = ByteArray.empty then t.out else t.out ++ [(t.kind, t.raw, t.flds)]) ∧ q.recs = t.recs := by
  obtain ⟨q, f1, f2, f3, f4, f5, f6⟩ := alike_flush h hL
  refine ⟨closeS q, by unfold endS; rw [f1], ?_⟩
  unfold closeS
  by_cases hb : p.blk = []
  · have hraw : t.raw = ByteArray.empty := by rw [h.raw]; exact rawC_nil.2 hb
    rw [if_pos (f5.trans hb), if_pos hraw]
    refine ⟨f2, rfl, rfl, by rw [h.its]; exact f4, ?_⟩
    rw [h.recs, if_pos (h.blk0 hb), Int.add_zero]
    exact f6
  · have hraw : ¬ t.raw = ByteArray.empty := fun e => hb (rawC_nil.1 (by rw [← h.raw]; exact e))
    rw [if_neg (by rw [f5]; exact hb), if_neg hraw]
    refine ⟨f2, rfl, rfl, ?_, ?_⟩
    · simp only [h.its, h.kind, h.raw, rawB_C hb, f3, f4, f5]
    · simp only [f3, f6]
      rw [h.recs]
      by_cases hf : t.flds = []
      · simp [hf]
      · simp [hf]
end
theorem run_eq : ∀ (L : List Lne) (p : PSt) (t : RSt) (bh : Bool), Ends L → Alike p t bh L → outP p L = runR bh t L
  | [], p, t, bh, _, h => by
    obtain ⟨q, e, _, _, _, h1, _⟩ := alike_end h rfl
    unfold outP
    simp only [runS, e, h1]
    rfl
  | l :: r, p, t, bh, hE, h => by
    rw [outP_cons]
    unfold runR
    by_cases h3 : kindL (ls l.2.2.1) = 3
    · by_cases hb : p.lns = []
      · have hbh : bh = false := by
          cases bh
          · rfl
          · exact absurd hb (h.bh.1 rfl)
        have hw : wrongL bh l r t.flds.length t.recs = 2 := by
          unfold wrongL
          rw [if_pos (.inr (.inl ⟨h3, hbh⟩))]
        have ht : takeS p l = .inl (l.1, 2) := by
          unfold takeS aheadS
          rw [if_pos h3, if_pos hb]
        rw [hw, ht]
        rfl
      · have hbh : bh = true := h.bh.2 hb
        obtain ⟨h5, h6⟩ := h.pend hb
        rw [is_more h3] at h6
        by_cases he : l.2.2.2 = true
        · have hw : wrongL bh l r t.flds.length t.recs = 0 := by
            unfold wrongL
            rw [if_neg (by simp [h3, hbh, he]), if_pos (by rw [h3]; decide)]
          have ht : takeS p l = .inr { p with lns := p.lns ++ [l.2.2.1], blk := p.blk ++ [l.2.2.1] } := by
            unfold takeS
            simp only [h3]
            simp [aheadS, lineS, hb, he]
          rw [hw, ht, if_neg (by decide)]
          refine run_eq r _ _ _ hE.2 ?_
          have hfl := h.flds
          rw [if_neg hb, is_more h3] at hfl
          have hne : t.flds ≠ [] := by rw [hfl]; simp
          unfold stepR
          rw [if_neg (by rw [h3]; decide), if_neg (by rw [h3]; decide)]
          exact ⟨h.its, by simp only [h.raw, rawC_snoc], by simp [h3], by simp only; rw [hfl, if_neg (by simp)]; simp, h.kind, h.recs, fun _ => ⟨h5, by simpa using h6⟩, fun e => by simp at e, h.r4, h.rf, h.f40⟩
        · have he' : l.2.2.2 = false := by simpa using he
          obtain rfl := hE.1 he'
          have hw : wrongL bh l [] t.flds.length t.recs = 2 := by
            unfold wrongL
            rw [if_pos (.inr (.inr he'))]
          have ht : takeS p l = .inl (l.1, 2) := by
            have : aheadS p l 3 = .inr { p with flds := p.flds ++ [(bytes (unfoldL ((p.lns ++ [l.2.2.1]).map ls)).1.1, bytes (unfoldL ((p.lns ++ [l.2.2.1]).map ls)).1.2)], lns := [] } := by
              unfold aheadS
              rw [if_pos rfl, if_neg hb, if_neg he]
              unfold flushS
              simp only [List.takeWhile_nil, List.map_cons, List.map_nil] at h6
              rw [if_neg (by simp), if_neg (by simp only [ne_eq, h6]; simp), if_neg (by simp [h5])]
            unfold takeS
            rw [h3, this]
            simp [lineS, he']
          rw [hw, ht]
          rfl
    · have hno := not_more h3 r
      by_cases h1 : kindL (ls l.2.2.1) = 1
      · obtain ⟨q, e, e1, e2, e3, e4, e5⟩ := alike_end h hno
        by_cases he : l.2.2.2 = true
        · have hw : wrongL bh l r t.flds.length t.recs = 0 := by
            unfold wrongL
            rw [if_neg (by simp [h1, he]), if_pos (by rw [h1]; decide)]
          have ht : takeS p l = .inr { q with its := q.its ++ [(1, l.2.2.1 ++ ⟨#[10]⟩, [])] } := by
            unfold takeS aheadS
            rw [if_neg h3, if_pos h1, e]
            simp [lineS, h1, he]
          rw [hw, ht, if_neg (by decide)]
          refine run_eq r _ _ _ hE.2 ?_
          unfold stepR
          rw [if_pos h1]
          refine ⟨by simp only [e4], by rw [e3]; rfl, by simp [h1, e1], by simp [e1, e2], rfl, by simp [e5], fun h => absurd e1 h, fun _ => rfl, ?_, fun e => absurd rfl e, by simp⟩
          simp only [e5, h.recs]
          split
          · have := h.r4; omega
          · rename_i hf; have := h.rf hf; omega
        · have he' : l.2.2.2 = false := by simpa using he
          have hw : wrongL bh l r t.flds.length t.recs = 2 := by
            unfold wrongL
            rw [if_pos (.inr (.inr he'))]
          have ht : takeS p l = .inl (l.1, 2) := by
            unfold takeS aheadS
            rw [if_neg h3, if_pos h1, e]
            simp [lineS, he']
          rw [hw, ht]
          rfl
      · obtain ⟨q, f1, f2, f3, f4, f5, f6⟩ := alike_flush h hno
        have hah : aheadS p l (kindL (ls l.2.2.1)) = .inr q := by
          unfold aheadS
          rw [if_neg h3, if_neg h1, f1]
        by_cases hbad : kindL (ls l.2.2.1) = 5 ∨ l.2.2.2 = false
        · have hw : wrongL bh l r t.flds.length t.recs = 2 := by
            unfold wrongL
            rw [if_pos (hbad.elim .inl (fun h => .inr (.inr h)))]
          have ht : takeS p l = .inl (l.1, 2) := by
            unfold takeS lineS
            rw [hah]
            simp only
            rw [if_pos hbad]
          rw [hw, ht]
          rfl
        · have hb5 : kindL (ls l.2.2.1) ≠ 5 := fun e => hbad (.inl e)
          have he : l.2.2.2 = true := by
            cases e : l.2.2.2
            · exact absurd (.inr e) hbad
            · rfl
          by_cases h4 : kindL (ls l.2.2.1) = 4
          · have ht : takeS p l = .inr { beginS q l with blk := q.blk ++ [l.2.2.1] } := by
              unfold takeS lineS
              rw [hah]
              simp only
              rw [if_neg hbad, if_neg h1, if_pos h4]
            have hfull : ((decide ((q.flds.length : Int) = 40) || (decide ((q.flds.length : Int) = 0) && decide (q.recs = 400))) = true) ↔ (40 ≤ (t.flds.length : Int) ∨ ((t.flds.length : Int) = 0 ∧ 400 ≤ t.recs)) := by
              have g1 := h.f40
              have g2 := h.r4
              have g3 := h.recs
              rw [f3, f6]
              simp only [Bool.or_eq_true, Bool.and_eq_true, decide_eq_true_eq]
              constructor
              · rintro (g | ⟨g, g'⟩)
                · exact .inl (by omega)
                · refine .inr ⟨g, ?_⟩
                  rw [if_pos (List.eq_nil_of_length_eq_zero (by omega))] at g3
                  omega
              · rintro (g | ⟨g, g'⟩)
                · exact .inl (by omega)
                · refine .inr ⟨g, ?_⟩
                  rw [if_pos (List.eq_nil_of_length_eq_zero (by omega))] at g3
                  omega
            rw [ht]
            by_cases hu : (unfoldL ((saidL l r).map ls)).2 = 0
            · by_cases hfu : 40 ≤ (t.flds.length : Int) ∨ ((t.flds.length : Int) = 0 ∧ 400 ≤ t.recs)
              · have hw : wrongL bh l r t.flds.length t.recs = 11 := by
                  unfold wrongL
                  rw [if_neg (by simp [h4, he]), if_neg (by simp [h4]), if_neg (by simp [hu]), if_pos hfu]
                rw [hw, if_pos (by decide)]
                refine pend_err r _ l.1 11 hE.2 (by simp [beginS]) (fun q' g1 g2 g3 => ?_)
                have g1' : q'.lns = saidL l r := g1
                have g2' : q'.full = true := g2.trans (hfull.2 hfu)
                have g3' : q'.frm = l.1 := g3
                unfold flushS
                rw [g1', if_neg (by unfold saidL; simp), if_neg (by simp [hu]), if_pos g2', g3']
              · have hw : wrongL bh l r t.flds.length t.recs = 0 := by
                  unfold wrongL
                  rw [if_neg (by simp [h4, he]), if_neg (by simp [h4]), if_neg (by simp [hu]), if_neg hfu]
                rw [hw, if_neg (by decide)]
                refine run_eq r _ _ _ hE.2 ?_
                have hff : (decide ((q.flds.length : Int) = 40) || (decide ((q.flds.length : Int) = 0) && decide (q.recs = 400))) = false := by
                  cases e : (decide ((q.flds.length : Int) = 40) || (decide ((q.flds.length : Int) = 0) && decide (q.recs = 400)))
                  · rfl
                  · exact absurd (hfull.1 e) hfu
                unfold stepR
                rw [if_neg h1, if_pos h4]
                refine ⟨by simp only [beginS, h.its, f4], by simp only [h.raw, rawC_snoc, f5], by simp [h4, beginS], ?_, by simp, ?_, fun _ => ⟨hff, hu⟩, fun e => by simp at e, ?_, fun _ => ?_, ?_⟩
                · simp only [beginS, f3]
                  rw [if_neg (by simp)]
                  rfl
                · simp only [beginS, f6]
                  have g3 := h.recs
                  have g4 := h.kind
                  by_cases hf : t.flds = []
                  · rw [if_pos hf] at g3 g4
                    rw [if_pos g4, if_neg (by simp), g3]
                    omega
                  · rw [if_neg hf] at g3 g4
                    rw [if_neg (by rw [g4]; decide), if_neg (by simp), g3]
                · simp only [beginS, f6]; exact h.r4
                · simp only [beginS, f6]
                  by_cases hf : t.flds = []
                  · have g3 := h.recs
                    rw [if_pos hf] at g3
                    have : ¬ 400 ≤ t.recs := fun e => hfu (.inr ⟨by rw [hf]; rfl, e⟩)
                    omega
                  · exact h.rf hf
                · rw [List.length_append, List.length_singleton]
                  have : ¬ 40 ≤ (t.flds.length : Int) := fun e => hfu (.inl e)
                  omega
            · have hw : wrongL bh l r t.flds.length t.recs = (unfoldL ((saidL l r).map ls)).2 := by
                unfold wrongL
                rw [if_neg (by simp [h4, he]), if_neg (by simp [h4]), if_pos hu]
              rw [hw, if_pos hu]
              refine pend_err r _ l.1 _ hE.2 (by simp [beginS]) (fun q' g1 g2 g3 => ?_)
              have g1' : q'.lns = saidL l r := g1
              have g3' : q'.frm = l.1 := g3
              unfold flushS
              rw [g1', if_neg (by unfold saidL; simp), if_pos hu, g3']
          · have hw : wrongL bh l r t.flds.length t.recs = 0 := by
              unfold wrongL
              rw [if_neg (by simp [h3, hb5, he]), if_pos h4]
            have ht : takeS p l = .inr { q with blk := q.blk ++ [l.2.2.1] } := by
              unfold takeS lineS
              rw [hah]
              simp only
              rw [if_neg hbad, if_neg h1, if_neg h4]
            rw [hw, ht, if_neg (by decide)]
            refine run_eq r _ _ _ hE.2 ?_
            unfold stepR
            rw [if_neg h1, if_neg h4]
            exact ⟨by simp only [h.its, f4], by simp only [h.raw, rawC_snoc, f5], by simp [h3, h4, f2], by simp [f2, f3], h.kind, by simp only [f6]; exact h.recs, fun e => absurd f2 e, fun e => by simp at e, by simp only [f6]; exact h.r4, by simp only [f6]; exact h.rf, h.f40⟩
theorem parse_ref (s : ByteArray) : parseS s = runR false rst0 (linesT s) := by
  rw [parse_out]
  exact run_eq _ _ _ _ (ends_linesR _ _ _ _) ⟨rfl, rfl, by simp [pst0], by simp [rst0, pst0], rfl, rfl, fun e => absurd rfl e, fun _ => rfl, by decide, fun e => absurd rfl e, by simp [rst0]⟩
end Q
end Ab
end Go.Proofs.YtlhjcdihbbdfnaaDoor
namespace Go.Proofs.YtlhjcdihbbdfnaaDoor
open Go.RowKit
namespace Ab
set_option maxRecDepth 100000
namespace Q
theorem at_fault (at_ n : Int) : ACall Tryd.prog 13 [.one (errF at_ n)] (ii .i64 at_) := by
  refine acall_of (rs := [2]) Tryd.func13 rfl rfl rfl teOk rfl ?_
  refine acode_seq ?_
  refine acode_region ?_
  refine acode_seq ?_
  refine acode_seq ?_
  refine acode_region ?_
  refine acode_seq ?_
  refine acode_region ?_
  refine And.intro (fun h => trivial) ?_
  refine And.intro (fun h => ⟨⟨h, trivial⟩, trivial⟩) ?_
  refine And.intro (by exact fun h => h) ?_
  refine acode_cond rfl (fun h14 => ?_) (fun h14 => ?_)
  · try simp only [decide_eq_true_eq, decide_eq_false_iff_not, Bool.and_eq_true, Bool.not_eq_true', Bool.not_eq_false', Bool.or_eq_false_iff, Bool.or_eq_true, Bool.and_eq_false_iff, Int.not_lt, Int.not_le] at h14
    try simp only [Int.toNat_natCast, dflt_sl, dflt_st, dflt_str, dflt_int, dflt_bool] at h14
    refine acode_seq ?_
    refine acode_region ?_
    refine acode_ret ?_
    rfl
  · try simp only [decide_eq_true_eq, decide_eq_false_iff_not, Bool.and_eq_true, Bool.not_eq_true', Bool.not_eq_false', Bool.or_eq_false_iff, Bool.or_eq_true, Bool.and_eq_false_iff, Int.not_lt, Int.not_le] at h14
    try simp only [Int.toNat_natCast, dflt_sl, dflt_st, dflt_str, dflt_int, dflt_bool] at h14
    simp at h14
theorem at_nil : ACall Tryd.prog 13 [.one (.lit .nilIface)] (ii .i64 (-9)) := by
  refine acall_of (rs := [2]) Tryd.func13 rfl rfl rfl teOk rfl ?_
  refine acode_seq ?_
  refine acode_region ?_
  refine acode_seq ?_
  refine acode_seq ?_
  refine acode_region ?_
  refine acode_seq ?_
  refine acode_region ?_
  refine And.intro (fun h => trivial) ?_
  refine And.intro (fun h => ⟨⟨h, trivial⟩, trivial⟩) ?_
  refine And.intro (by exact fun h => h) ?_
  refine acode_cond rfl (fun h14 => ?_) (fun h14 => ?_)
  · try simp only [decide_eq_true_eq, decide_eq_false_iff_not, Bool.and_eq_true, Bool.not_eq_true', Bool.not_eq_false', Bool.or_eq_false_iff, Bool.or_eq_true, Bool.and_eq_false_iff, Int.not_lt, Int.not_le] at h14
    try simp only [Int.toNat_natCast, dflt_sl, dflt_st, dflt_str, dflt_int, dflt_bool] at h14
    simp at h14
  · try simp only [decide_eq_true_eq, decide_eq_false_iff_not, Bool.and_eq_true, Bool.not_eq_true', Bool.not_eq_false', Bool.or_eq_false_iff, Bool.or_eq_true, Bool.and_eq_false_iff, Int.not_lt, Int.not_le] at h14
    try simp only [Int.toNat_natCast, dflt_sl, dflt_st, dflt_str, dflt_int, dflt_bool] at h14
    refine acode_skip ?_
    refine acode_seq ?_
    refine acode_region ?_
    refine acode_ret ?_
    rfl
theorem is_fault (at_ n : Int) (hn : n ≠ 0) : ACall Tryd.prog 34 [.one (errF at_ n), ii .i64 n] (ib true) := by
  refine acall_of (rs := [4]) Tryd.func34 rfl rfl rfl teOk rfl ?_
  refine acode_seq ?_
  refine acode_region ?_
  refine acode_seq ?_
  refine acode_region ?_
  refine Or.inl ?_
  refine And.intro (rfl) ?_
  refine Exists.intro _ (And.intro (num_fault at_ n hn) ?_)
  refine acode_ret ?_
  exact ib_eq (decide_eq_true rfl)
theorem wr5 (a : Int) : 0 ≤ IntKind.i64.wrap ((IntKind.u64.wrap a).tmod 5) ∧ IntKind.i64.wrap ((IntKind.u64.wrap a).tmod 5) ≤ 4 := by
  have h1 : 0 ≤ IntKind.u64.wrap a := by
    show 0 ≤ a % _
    exact Int.emod_nonneg _ (by decide)
  generalize IntKind.u64.wrap a = b at h1
  have h2 : b.tmod 5 = b % 5 := Int.tmod_eq_emod_of_nonneg h1
  rw [h2]
  have h3 := Int.emod_nonneg b (show (5 : Int) ≠ 0 by decide)
  have h4 := Int.emod_lt_of_pos b (show (0 : Int) < 5 by decide)
  generalize b % 5 = c at h3 h4
  have h5 : IntKind.i64.wrap c = c := by
    rcases (by omega : c = 0 ∨ c = 1 ∨ c = 2 ∨ c = 3 ∨ c = 4) with rfl | rfl | rfl | rfl | rfl <;> decide
  rw [h5]
  omega
theorem one_succ (i : Nat) : bytes (oneL i) ++ ⟨#[65, 58, 10]⟩ = bytes (oneL (i + 1)) := by
  rw [show oneL (i + 1) = oneL i ++ [65, 58, 10] from by simp [oneL, List.replicate_succ'], bytes_app]
  rfl
theorem many_succ (i : Nat) : bytes (manyL i) ++ ⟨#[65, 58, 10, 10]⟩ = bytes (manyL (i + 1)) := by
  rw [show manyL (i + 1) = manyL i ++ [65, 58, 10, 10] from by simp [manyL, List.replicate_succ'], bytes_app]
  rfl
theorem one_size (i : Nat) : (bytes (oneL i)).size = 3 * i := by
  rw [bytes_size]
  simp [oneL, List.length_flatten, Nat.mul_comm]
theorem many_size (i : Nat) : (bytes (manyL i)).size = 4 * i := by
  rw [bytes_size]
  simp [manyL, List.length_flatten, Nat.mul_comm]
theorem one_parse {m : Nat} (h1 : 38 ≤ m) (h2 : m ≤ 42) : (m ≤ 40 ∧ ∃ s, ACall Tryd.prog 15 [is (bytes (oneL m))] (resP (.inr [(3, s, List.replicate m (⟨#[65]⟩, ⟨#[]⟩))]))) ∨ (40 < m ∧ ACall Tryd.prog 15 [is (bytes (oneL m))] (resP (.inl (40, 11)))) := by
  have hp := parse_a (bytes (oneL m)) (by rw [one_size]; omega)
  rcases (by omega : m = 38 ∨ m = 39 ∨ m = 40 ∨ m = 41 ∨ m = 42) with rfl | rfl | rfl | rfl | rfl
  · rw [oneP_38] at hp; exact .inl ⟨by decide, _, hp⟩
  · rw [oneP_39] at hp; exact .inl ⟨by decide, _, hp⟩
  · rw [oneP_40] at hp; exact .inl ⟨by decide, _, hp⟩
  · rw [oneP_41] at hp; exact .inr ⟨by decide, hp⟩
  · rw [oneP_42] at hp; exact .inr ⟨by decide, hp⟩
theorem many_c {k : Nat} (h2 : k ≤ 402) : (k ≤ 400 ∧ ∃ l, l.length = 2 * k ∧ ACall Tryd.prog 15 [is (bytes (manyL k))] (resP (.inr l))) ∨ (400 < k ∧ ACall Tryd.prog 15 [is (bytes (manyL k))] (resP (.inl (800, 11)))) := by
  have hp := parse_a (bytes (manyL k)) (by rw [many_size]; omega)
  obtain ⟨h3, h4⟩ := many_parse k h2
  rcases Nat.lt_or_ge 400 k with h | h
  · rw [h4 h] at hp; exact .inr ⟨h, hp⟩
  · obtain ⟨l, e, hl⟩ := h3 h
    rw [e] at hp
    exact .inl ⟨h, l, hl, hp⟩
end Q
end Ab
end Go.Proofs.YtlhjcdihbbdfnaaDoor
namespace Go.Proofs.YtlhjcdihbbdfnaaDoor
open Go.RowKit
namespace Ab
set_option maxRecDepth 100000
namespace Q
/-- How long the text of fields is, at most. -/
theorem endL_len : ∀ (L : List (List UInt8)), (endL L).length = (L.map (·.length)).sum + L.length
  | [] => rfl
  | x :: r => by
    have := endL_len r
    unfold endL at this ⊢
    simp only [List.flatMap_cons, List.length_append, List.length_cons, List.length_nil, List.map_cons, List.sum_cons, this]
    omega
theorem stuff_len2 (s : List UInt8) : (stuffL s).length ≤ s.length + 1 := by
  unfold stuffL
  split <;> simp
theorem join_sum (c : UInt8) : ∀ l : List (List UInt8), l ≠ [] → (Lib.join l [c]).length + 1 = (l.map (·.length)).sum + l.length
  | [], h => absurd rfl h
  | [a], _ => by rw [Lib.join_one]; simp
  | a :: b :: r, _ => by
    have := join_sum c (b :: r) (by simp)
    rw [join_two]
    simp only [List.length_append, List.length_cons, List.length_nil, List.map_cons, List.sum_cons] at this ⊢
    omega
theorem textL_len (f : Fld) : (textL f).length ≤ f.1.size + 4 * f.2.size + 3 := by
  unfold textL
  rw [endL_len]
  unfold linesL
  have h1 := join_sum 10 (partsL f.2.data.toList) (split_ne _ _)
  rw [parts_join] at h1
  cases e : partsL f.2.data.toList with
  | nil => exact absurd e (split_ne _ _)
  | cons p r =>
    rw [e] at h1
    have h2 := map_sum_le (fun s : List UInt8 => (32 :: stuffL s).length) (fun s => s.length + 2) r (fun s _ => by have := stuff_len2 s; simp only [List.length_cons]; omega)
    have h3 : (r.map fun s => s.length + 2).sum = (r.map (·.length)).sum + 2 * r.length := by
      clear h1 h2 e
      induction r with
      | nil => rfl
      | cons a r ih => simp only [List.map_cons, List.sum_cons, List.length_cons, ih]; omega
    have h4 : (firstL f.1.data.toList p).length ≤ f.1.size + 2 + p.length := by
      unfold firstL
      rw [size_list]
      split
      · simp only [List.length_append, List.length_cons, List.length_nil]; omega
      · simp only [List.length_append, List.length_cons, List.length_nil]; omega
    simp only [List.headD_cons, List.map_cons, List.sum_cons, List.length_cons, List.length_map, List.map_map, List.drop_succ_cons, List.drop_zero] at h1 h2 ⊢
    rw [size_list f.2]
    have h5 : (r.map ((fun x : List UInt8 => x.length) ∘ fun s => 32 :: stuffL s)).sum = (r.map fun s => (32 :: stuffL s).length).sum := rfl
    simp only [List.length_cons] at h5
    omega
theorem foldL_le : ∀ (l : List Fld), (∀ f ∈ l, checkF f = 0) → (foldL l).length ≤ 4 * sumF l + 3 * l.length
  | [], _ => by simp [foldL]
  | f :: r, h => by
    have h1 := foldL_le r (fun g hg => h g (List.mem_cons_of_mem _ hg))
    have h2 := textL_len f
    obtain ⟨_, h3, h4⟩ := check_ok (h f List.mem_cons_self)
    unfold foldL sumF at *
    simp only [List.flatMap_cons, List.length_append, List.map_cons, List.sum_cons, List.length_cons]
    omega
theorem folds_text (n : ByteArray) (A B : List UInt8) : bytes ((35 :: ls n) ++ [10] ++ A ++ [10] ++ B ++ [35] ++ ls n ++ [10]) = ⟨#[35]⟩ ++ n ++ ⟨#[10]⟩ ++ bytes A ++ ⟨#[10]⟩ ++ bytes B ++ ⟨#[35]⟩ ++ n ++ ⟨#[10]⟩ := by
  rw [show (35 :: ls n) = [35] ++ ls n from rfl]
  simp only [bytes_app, bytes_ls]
  rfl
theorem much_sum {l : List Fld} (h : muchB l = false) : sumF l ≤ 6000 := by
  unfold muchB at h
  simp only [Bool.or_eq_false_iff, decide_eq_false_iff_not] at h
  omega
theorem foldB_size {l : List Fld} (h : muchB l = false) (hb : badF l = 0) (h4 : l.length ≤ 40) : (bytes (foldL l)).size ≤ 24120 := by
  rw [bytes_size]
  have h1 := foldL_le l (badF_zero hb)
  have h2 := much_sum h
  omega
theorem no_step {l : List UInt8} {i : Nat} (h : (10 : UInt8) ∉ l.take i) (hi : i < l.length) (h2 : ¬ ((l.getD i 0).toNat : Int) = 10) : (10 : UInt8) ∉ l.take (i + 1) := by
  rw [List.take_succ_eq_append_getElem hi]
  simp only [List.mem_append, List.mem_singleton, not_or]
  refine ⟨h, fun e => h2 ?_⟩
  have : l.getD i 0 = 10 := by simp [List.getD, hi, ← e]
  rw [this]
  rfl
end Q
end Ab
end Go.Proofs.YtlhjcdihbbdfnaaDoor
namespace Go.Proofs.YtlhjcdihbbdfnaaDoor
open Go.RowKit
namespace Ab
set_option maxRecDepth 100000
namespace Q
theorem parse_big (s : ByteArray) (hs : 60000 < s.size) : ACall Tryd.prog 15 [is s] (.tup [(false, [.sl rItm []]), (false, [errN 1])]) := by
  refine acall_ofc (rs := [.cell 2 34, .cell 3 26]) Tryd.func15 rfl rfl rfl teOk rfl ?_
  refine acode_seq ?_
  refine acode_region ?_
  refine acode_seq ?_
  refine acode_seq ?_
  refine acode_region ?_
  refine acode_cond rfl (fun h10 => ?_) (fun h10 => ?_)
  · try simp only [decide_eq_true_eq, decide_eq_false_iff_not, Bool.and_eq_true, Bool.not_eq_true', Bool.not_eq_false', Bool.or_eq_false_iff, Bool.or_eq_true, Bool.and_eq_false_iff, Int.not_lt, Int.not_le] at h10
    try simp only [Int.toNat_natCast, dflt_sl, dflt_st, dflt_str, dflt_int, dflt_bool] at h10
    refine acode_seq ?_
    refine acode_region ?_
    refine acode_nilcell 0 0 43 rItm rfl rfl rfl ?_
    refine acode_ret ?_
    rfl
  · try simp only [decide_eq_true_eq, decide_eq_false_iff_not, Bool.and_eq_true, Bool.not_eq_true', Bool.not_eq_false', Bool.or_eq_false_iff, Bool.or_eq_true, Bool.and_eq_false_iff, Int.not_lt, Int.not_le] at h10
    try simp only [Int.toNat_natCast, dflt_sl, dflt_st, dflt_str, dflt_int, dflt_bool] at h10
    omega
theorem parse_total {s : ByteArray} {l : List Itm} (hp : parseS s = .inr l) : szI l = s.size := by
  unfold parseS at hp
  cases e : runS pst0 (linesT s) with
  | inl x => rw [e] at hp; cases hp
  | inr p =>
    rw [e] at hp
    simp only at hp
    cases e2 : endS p with
    | inl x => rw [e2] at hp; cases hp
    | inr q =>
      rw [e2] at hp
      cases hp
      obtain ⟨_, hraw, hidle⟩ := end_took e2
      obtain ⟨hall, h1, _⟩ := run_took _ _ _ e
      have h2 : rawN q = szI q.its := by unfold rawN; rw [hidle.2.1]; rfl
      rw [← h2, hraw, h1]
      have h3 := glue_len _ hall
      rw [lines_text, glue_lines _ _ (by rw [show (ls s).length = s.size from (size_list s).symm]; exact Nat.le_refl _)] at h3
      rw [size_list, ← h3]
      simp [rawN, pst0, szI, szB, ls]
theorem szI_succ {l : List Itm} {i : Nat} (h : i < l.length) : szI (l.take (i + 1)) = szI (l.take i) + (l.getD i ((0 : Int), ByteArray.empty, ([] : List Fld))).2.1.size := by
  rw [List.take_succ_eq_append_getElem h, szI_app]
  simp [szI, List.getD, h]
theorem szI_le (l : List Itm) (i : Nat) : szI (l.take i) ≤ szI l := by
  conv => rhs; rw [← List.take_append_drop i l]
  rw [szI_app]
  omega
theorem ext_take (s : ByteArray) (n : Nat) : s.extract 0 n = bytes ((ls s).take n) := by
  rw [← bytes_ls (s.extract 0 n)]
  congr 1
  rw [show ls (s.extract 0 n) = _ from extract_ls s 0 n]
  rfl
theorem ext_drop (s : ByteArray) (n : Nat) : s.extract n s.size = bytes ((ls s).drop n) := by
  rw [← bytes_ls (s.extract n s.size)]
  congr 1
  exact drop_size s n
end Q
end Ab
end Go.Proofs.YtlhjcdihbbdfnaaDoor
namespace Go.Proofs.YtlhjcdihbbdfnaaDoor
open Go.RowKit
namespace Ab
set_option maxRecDepth 100000
namespace Q
structure SpI (s : ByteArray) (i at_ : Nat) (out : List Lne) : Prop where
  ai : at_ ≤ i
  is : i ≤ s.size
  no : (10 : UInt8) ∉ ((ls s).drop at_).take (i - at_)
  ol : out.length ≤ at_
  eq : ∃ f, ((ls s).drop at_).length ≤ f ∧ out ++ linesR f s.size out.length ((ls s).drop at_) = linesT s
theorem sp_0 (s : ByteArray) : SpI s 0 0 [] := ⟨Nat.le_refl _, Nat.zero_le _, by simp, Nat.le_refl _, s.size, by rw [List.drop_zero, show (ls s).length = s.size from (size_list s).symm]; exact Nat.le_refl _, rfl⟩
theorem sp_no {s : ByteArray} {i a : Nat} {out : List Lne} (h : SpI s i a out) (hi : i < s.size) (hc : ¬ (((ls s).getD i 0).toNat : Int) = 10) : SpI s (i + 1) a out := by
  have hl : i < (ls s).length := by rw [show (ls s).length = s.size from (size_list s).symm]; exact hi
  have ha := h.ai
  refine ⟨by omega, hi, ?_, h.ol, h.eq⟩
  rw [show i + 1 - a = (i - a) + 1 from by omega]
  refine no_step h.no (by rw [List.length_drop]; omega) ?_
  have : ((ls s).drop a).getD (i - a) 0 = (ls s).getD i 0 := by
    simp only [List.getD, List.getElem?_drop]
    rw [show a + (i - a) = i from by omega]
  rw [this]
  exact hc
theorem sp_yes {s : ByteArray} {i a : Nat} {out : List Lne} (h : SpI s i a out) (hi : i < s.size) (hc : (((ls s).getD i 0).toNat : Int) = 10) : SpI s (i + 1) (i + 1) (out ++ [((out.length : Int), (a : Int), s.extract a i, true)]) := by
  have hl : i < (ls s).length := by rw [show (ls s).length = s.size from (size_list s).symm]; exact hi
  have ha := h.ai
  have ho := h.ol
  obtain ⟨f, hf, e⟩ := h.eq
  have hb : (ls s).getD i 0 = 10 := by
    apply UInt8.toNat_inj.1
    have : ((ls s).getD i 0).toNat = 10 := by omega
    rw [this]; rfl
  have hr : (ls s).drop a = ((ls s).drop a).take (i - a) ++ 10 :: (ls s).drop (i + 1) := by
    conv => lhs; rw [← List.take_append_drop (i - a) ((ls s).drop a)]
    congr 1
    rw [List.drop_drop, show a + (i - a) = i from by omega, List.drop_eq_getElem_cons hl]
    congr 1
    rw [← hb, List.getD_eq_getElem?_getD, List.getElem?_eq_getElem hl]
    rfl
  have hc2 := cut_at (r := (ls s).drop (i + 1)) h.no
  rw [← hr] at hc2
  obtain ⟨y, w, hy⟩ : ∃ y w, (ls s).drop a = y :: w := by
    rw [hr]; cases ((ls s).drop a).take (i - a) <;> exact ⟨_, _, rfl⟩
  obtain ⟨f', rfl⟩ : ∃ f', f = f' + 1 := ⟨f - 1, by rw [hy, List.length_cons] at hf; omega⟩
  have hlen : ((ls s).drop a).length = s.size - a := by rw [List.length_drop, show (ls s).length = s.size from (size_list s).symm]
  refine ⟨Nat.le_refl _, hi, by simp, by rw [List.length_append, List.length_singleton]; omega, f', ?_, ?_⟩
  · rw [List.length_drop, show (ls s).length = s.size from (size_list s).symm]
    omega
  · rw [← e, List.append_assoc]
    congr 1
    rw [hy] at hc2 hlen ⊢
    rw [linesR_cons, hc2, hlen]
    simp only [List.singleton_append, List.length_append, List.length_singleton]
    congr 1
    refine Prod.ext rfl (Prod.ext (by simp only; omega) (Prod.ext ?_ rfl))
    show s.extract a i = bytes ((y :: w).take (i - a))
    rw [← hy]
    rw [← bytes_ls (s.extract a i)]
    congr 1
    exact extract_ls s a i
theorem sp_end {s : ByteArray} {a : Nat} {out : List Lne} (h : SpI s s.size a out) : (a < s.size → out ++ [((out.length : Int), (a : Int), s.extract a s.size, false)] = linesT s) ∧ (¬ a < s.size → out = linesT s) := by
  obtain ⟨f, hf, e⟩ := h.eq
  have hlen : ((ls s).drop a).length = s.size - a := by rw [List.length_drop, show (ls s).length = s.size from (size_list s).symm]
  have hno := h.no
  rw [List.take_of_length_le (by omega)] at hno
  refine ⟨fun hlt => ?_, fun hge => ?_⟩
  · rw [← e]
    congr 1
    obtain ⟨y, w, hy⟩ : ∃ y w, (ls s).drop a = y :: w := by
      cases e2 : (ls s).drop a with
      | nil => rw [e2] at hlen; simp at hlen; omega
      | cons y w => exact ⟨_, _, rfl⟩
    obtain ⟨f', rfl⟩ : ∃ f', f = f' + 1 := ⟨f - 1, by rw [hy, List.length_cons] at hf; omega⟩
    have hx : s.extract a s.size = bytes ((ls s).drop a) := ext_drop s a
    rw [hx]
    rw [hy] at hno hlen ⊢
    rw [linesR_cons, cut_none hno, hlen]
    rw [show linesR f' s.size ((out.length : Int) + 1) (y :: w, ([] : List UInt8), false).2.1 = [] from by cases f' <;> rfl]
    congr 1
    exact Prod.ext rfl (Prod.ext (by simp only; omega) rfl)
  · have : (ls s).drop a = [] := List.eq_nil_of_length_eq_zero (by omega)
    rw [← e, this]
    cases f <;> simp [linesR]
def rawsL (l : List Itm) : List UInt8 := l.flatMap fun x => ls x.2.1
theorem raws_len (l : List Itm) : (rawsL l).length = szI l := by
  induction l with
  | nil => rfl
  | cons a r ih =>
    unfold rawsL szI at *
    simp only [List.flatMap_cons, List.length_append, List.map_cons, List.sum_cons, ih]
    rw [size_list]
theorem raws_snoc (l : List Itm) (i : Nat) (h : i < l.length) : rawsL (l.take (i + 1)) = rawsL (l.take i) ++ ls (l.getD i ((0 : Int), ByteArray.empty, ([] : List Fld))).2.1 := by
  unfold rawsL
  rw [List.take_succ_eq_append_getElem h, List.flatMap_append]
  simp [List.getD, h]
theorem szI_mem (l : List Itm) (i : Nat) (h : i < l.length) : szI (l.take i) + (l.getD i ((0 : Int), ByteArray.empty, ([] : List Fld))).2.1.size ≤ szI l := by
  rw [← szI_succ h]
  exact szI_le l (i + 1)
theorem joinI_c (l : List Itm) (hl : l.length ≤ 1000000) (hs : szI l ≤ 1000000) : ACall Tryd.prog 45 [.one (.sl rItm l)] (is (bytes (rawsL l))) := by
  refine acall_of (rs := [2]) Tryd.func45 rfl rfl rfl teOk rfl ?_
  refine acode_seq ?_
  refine acode_region ?_
  refine acode_seq ?_
  refine acode_region ?_
  refine acode_seq ?_
  refine acode_seq ?_
  refine acode_bld 0 5 (.int .u8) rfl ?_
  refine acode_region ?_
  intro l2_1
  try simp only [Int.toNat_natCast, dflt_sl, dflt_st, dflt_str, dflt_int, dflt_bool] at l2_1
  refine acode_block ?_
  refine acode_loopP (fun (x : Nat × Bool) => x.1 ≤ l.length) (fun (x : Nat × Bool) => [(3, .one (.own 0 0)), (6, .one (.sl rItm l)), (7, ii .i64 l.length), (8, ii .i64 x.1)]) (fun (x : Nat × Bool) => [(0, .box 115 [.nself x.2 0, .vec 1]), (1, .vec 5 (.int .u8) (intsOf (bytes (rawsL (l.take x.1)))))]) 2 (fun (x : Nat × Bool) => l.length - x.1) (0, false) (Nat.zero_le _) (le_of ⟨rfl, rfl, rfl, rfl⟩ ⟨rfl, rfl⟩ rfl) ?_
  intro ⟨i, u⟩ hI0
  simp only at hI0 ⊢
  refine acode_seq ?_
  refine acode_region ?_
  refine acode_seq ?_
  refine acode_cond rfl (fun h9 => ?_) (fun h9 => ?_)
  · try simp only [decide_eq_true_eq, decide_eq_false_iff_not, Bool.and_eq_true, Bool.not_eq_true', Bool.not_eq_false', Bool.or_eq_false_iff, Bool.or_eq_true, Bool.and_eq_false_iff, Int.not_lt, Int.not_le] at h9
    try simp only [Int.toNat_natCast, dflt_sl, dflt_st, dflt_str, dflt_int, dflt_bool] at h9
    have hlt : i < l.length := (by omega)
    have hm := szI_mem l i hlt
    have hr := raws_len (l.take i)
    refine acode_skip ?_
    refine acode_seq ?_
    refine acode_block ?_
    refine acode_seq ?_
    refine acode_region ?_
    refine And.intro (by first | omega | assumption | decide | (simp only [Int.toNat_natCast, dflt_sl, dflt_st, dflt_str, dflt_int, dflt_bool]; omega) | (simp <;> omega)) ?_
    refine acode_region ?_
    refine Or.inr (Exists.intro [] (Exists.intro [0, 1] (Exists.intro _ (Exists.intro _ (Exists.intro _ (Exists.intro _ (Exists.intro _ (And.intro (writeString_o _ _ _ (by rw [ints_len, hr]; show _ + (l.getD i ((0 : Int), ByteArray.empty, ([] : List Fld))).2.1.size ≤ _; omega)) (And.intro rfl (And.intro (And.intro (And.intro rfl rfl) (And.intro (And.intro rfl rfl) True.intro)) (And.intro rfl ?_)))))))))))
    refine acode_region ?_
    refine And.intro (by first | omega | assumption | decide | (simp only [Int.toNat_natCast, dflt_sl, dflt_st, dflt_str, dflt_int, dflt_bool]; omega) | (simp <;> omega)) ?_
    exact ⟨(i + 1, true), (by simp only; omega), by first | omega | (simp <;> omega), le_of ⟨rfl, rfl, rfl, (ii_eq (by simp only; omega))⟩ ⟨rfl, (vec_eq (by simp only; rw [raws_snoc l i hlt]; exact ints_add _ _ _ (bytes_ls _).symm))⟩ rfl⟩
  · try simp only [decide_eq_true_eq, decide_eq_false_iff_not, Bool.and_eq_true, Bool.not_eq_true', Bool.not_eq_false', Bool.or_eq_false_iff, Bool.or_eq_true, Bool.and_eq_false_iff, Int.not_lt, Int.not_le] at h9
    try simp only [Int.toNat_natCast, dflt_sl, dflt_st, dflt_str, dflt_int, dflt_bool] at h9
    refine acode_exit ?_
    refine acode_seq ?_
    refine acode_region ?_
    refine Or.inr (Exists.intro [] (Exists.intro [0, 1] (Exists.intro _ (Exists.intro _ (Exists.intro _ (Exists.intro _ (Exists.intro _ (And.intro (string_o _ _) (And.intro rfl (And.intro (And.intro (And.intro rfl rfl) (And.intro (And.intro rfl rfl) True.intro)) (And.intro rfl ?_)))))))))))
    refine acode_ret ?_
    rw [List.take_of_length_le (by omega)]
    rfl
theorem refKindL_c (s : ByteArray) (hs : s.size ≤ 1000000000) : ACall Tryd.prog 75 [is s] (ii .i64 (kindL (ls s))) := refKind_c s hs
theorem beh_eq (k : List Int) (i : Nat) : (decide (0 < (i : Int)) && (decide (k.getD ((i : Int) - 1).toNat (Rd.int IntKind.i64).dflt = 4) || decide (k.getD ((i : Int) - 1).toNat (Rd.int IntKind.i64).dflt = 3))) = (decide (0 < i) && (decide (k.getD (i - 1) 0 = 4) || decide (k.getD (i - 1) 0 = 3))) := by
  have h : ((i : Int) - 1).toNat = i - 1 := by omega
  have h0 : decide (0 < (i : Int)) = decide (0 < i) := decide_eq_decide.2 (by omega)
  rw [h, h0]
  rfl
theorem getD_get {α : Type} {l : List α} {i : Nat} (h : i < l.length) (d : α) : l[i] = l.getD i d := by
  rw [List.getD_eq_getElem?_getD, List.getElem?_eq_getElem h]
  rfl
theorem kind_at {L : List Lne} {k : List Int} (hk : k = L.map (fun l => kindL (ls l.2.2.1))) {n : Nat} (h : n < L.length) : k.getD n 0 = kindL (ls (L.getD n ((0 : Int), (0 : Int), ByteArray.empty, false)).2.2.1) := by
  subst hk
  simp [List.getD, h]
theorem tw_stop {L : List Lne} {j : Nat} (h : (L.take j).all more = true) (hs : L.length ≤ j ∨ (j < L.length ∧ more (L.getD j ((0 : Int), (0 : Int), ByteArray.empty, false)) = false)) : L.takeWhile more = L.take j := by
  conv => lhs; rw [← List.take_append_drop j L]
  rw [List.takeWhile_append_of_pos (by simpa [List.all_eq_true] using h)]
  have : (L.drop j).takeWhile more = [] := by
    rcases hs with hs | ⟨hs, hm⟩
    · rw [List.drop_eq_nil_of_le hs]; rfl
    · rw [List.drop_eq_getElem_cons hs, List.takeWhile_cons_of_neg]
      rw [show L[j] = L.getD j ((0 : Int), (0 : Int), ByteArray.empty, false) from by simp [List.getD, hs], hm]
      decide
  rw [this, List.append_nil]
theorem drop_getL {L : List Lne} {i j : Nat} : (L.drop (i + 1)).getD j ((0 : Int), (0 : Int), ByteArray.empty, false) = L.getD (i + 1 + j) ((0 : Int), (0 : Int), ByteArray.empty, false) := by
  simp only [List.getD, List.getElem?_drop]
theorem tw_more {L : List Lne} {i j : Nat} (h : ((L.drop (i + 1)).take j).all more = true) (hj : j < L.length - (i + 1)) (hm : kindL (ls (L.getD (i + 1 + j) ((0 : Int), (0 : Int), ByteArray.empty, false)).2.2.1) = 3) : ((L.drop (i + 1)).take (j + 1)).all more = true := by
  have hlt : j < (L.drop (i + 1)).length := by rw [List.length_drop]; exact hj
  rw [List.take_succ_eq_append_getElem hlt, List.all_append, h]
  rw [getD_get hlt ((0 : Int), (0 : Int), ByteArray.empty, false), drop_getL]
  simp only [List.all_cons, List.all_nil, Bool.and_true, Bool.true_and]
  exact decide_eq_true hm
theorem said_next {L : List Lne} {i j : Nat} (hj : j < L.length - (i + 1)) : ((L.drop (i + 1)).take (j + 1)).map (·.2.2.1) = ((L.drop (i + 1)).take j).map (·.2.2.1) ++ [(L.getD (i + 1 + j) ((0 : Int), (0 : Int), ByteArray.empty, false)).2.2.1] := by
  have hlt : j < (L.drop (i + 1)).length := by rw [List.length_drop]; exact hj
  rw [List.take_succ_eq_append_getElem hlt, List.map_append]
  rw [getD_get hlt ((0 : Int), (0 : Int), ByteArray.empty, false), drop_getL]
  rfl
end Q
end Ab
end Go.Proofs.YtlhjcdihbbdfnaaDoor
namespace Go.Proofs.YtlhjcdihbbdfnaaDoor
open Go.RowKit
namespace Ab
set_option maxRecDepth 100000
namespace Q
theorem linesR_no : ∀ (f : Nat) (tot no : Int) (s : List UInt8) (i : Nat), i < (linesR f tot no s).length → ((linesR f tot no s).getD i ((0 : Int), (0 : Int), ByteArray.empty, false)).1 = no + i
  | 0, _, _, _, i, h => by simp [linesR] at h
  | f + 1, _, _, [], i, h => by simp [linesR] at h
  | f + 1, tot, no, a :: r, i, h => by
    rw [linesR_cons] at h ⊢
    cases i with
    | zero => simp
    | succ i =>
      have := linesR_no f tot (no + 1) (Lib.cut (a :: r) [10]).2.1 i (by simpa using h)
      rw [List.getD_cons_succ, this]
      omega
def bhI (k : List Int) (i : Nat) : Bool := decide (0 < i) && (decide (k.getD (i - 1) 0 = 4) || decide (k.getD (i - 1) 0 = 3))
/-- What the document's answer holds ahead of a line. -/
structure RI (L : List Lne) (k : List Int) (i : Nat) (t : RSt) : Prop where
  il : i ≤ L.length
  eq : runR false rst0 L = runR (bhI k i) t (L.drop i)
  r0 : 0 ≤ t.recs
  ri : t.recs ≤ i
  oi : t.out.length ≤ 2 * i
  fi : t.flds.length ≤ i
  rw_ : t.raw.size ≤ ((L.take i).map (fun l => l.2.2.1.size + 1)).sum
  rd : t.raw = ByteArray.empty ↔ t.raw.size = 0
theorem ri_0 (L : List Lne) (k : List Int) : RI L k 0 rst0 := ⟨Nat.zero_le _, rfl, Int.le_refl _, Int.le_refl _, Nat.le_refl _, Nat.le_refl _, Nat.zero_le _, ⟨fun _ => rfl, fun _ => rfl⟩⟩
theorem size0 (s : ByteArray) : s = ByteArray.empty ↔ s.size = 0 := by
  refine ⟨fun h => by rw [h]; rfl, fun h => ?_⟩
  rw [size_list] at h
  have := List.eq_nil_of_length_eq_zero h
  rw [← bytes_ls s, show ls s = [] from this]; rfl
theorem sum_succ (L : List Lne) (i : Nat) (h : i < L.length) : ((L.take (i + 1)).map (fun l => l.2.2.1.size + 1)).sum = ((L.take i).map (fun l => l.2.2.1.size + 1)).sum + ((L.getD i ((0 : Int), (0 : Int), ByteArray.empty, false)).2.2.1.size + 1) := by
  rw [List.take_succ_eq_append_getElem h, List.map_append, List.sum_append, ← getD_get h ((0 : Int), (0 : Int), ByteArray.empty, false)]
  simp
theorem ri_eq {L : List Lne} {k : List Int} {i : Nat} {t : RSt} (h : RI L k i t) (hi : i < L.length) : runR false rst0 L = if wrongL (bhI k i) (L.getD i ((0 : Int), (0 : Int), ByteArray.empty, false)) (L.drop (i + 1)) t.flds.length t.recs ≠ 0 then .inl ((L.getD i ((0 : Int), (0 : Int), ByteArray.empty, false)).1, wrongL (bhI k i) (L.getD i ((0 : Int), (0 : Int), ByteArray.empty, false)) (L.drop (i + 1)) t.flds.length t.recs) else runR (decide (kindL (ls (L.getD i ((0 : Int), (0 : Int), ByteArray.empty, false)).2.2.1) = 4) || decide (kindL (ls (L.getD i ((0 : Int), (0 : Int), ByteArray.empty, false)).2.2.1) = 3)) (stepR t (L.getD i ((0 : Int), (0 : Int), ByteArray.empty, false)) (L.drop (i + 1))) (L.drop (i + 1)) := by
  rw [h.eq, List.drop_eq_getElem_cons hi, getD_get hi ((0 : Int), (0 : Int), ByteArray.empty, false)]
  rfl
theorem bh_next {L : List Lne} {k : List Int} (hk : k = L.map (fun l => kindL (ls l.2.2.1))) {i : Nat} (hi : i < L.length) : bhI k (i + 1) = (decide (kindL (ls (L.getD i ((0 : Int), (0 : Int), ByteArray.empty, false)).2.2.1) = 4) || decide (kindL (ls (L.getD i ((0 : Int), (0 : Int), ByteArray.empty, false)).2.2.1) = 3)) := by
  unfold bhI
  rw [Nat.add_sub_cancel, kind_at hk hi]
  simp
theorem ri_next {L : List Lne} {k : List Int} (hk : k = L.map (fun l => kindL (ls l.2.2.1))) {i : Nat} {t : RSt} (h : RI L k i t) (hi : i < L.length) (hw : wrongL (bhI k i) (L.getD i ((0 : Int), (0 : Int), ByteArray.empty, false)) (L.drop (i + 1)) t.flds.length t.recs = 0) : RI L k (i + 1) (stepR t (L.getD i ((0 : Int), (0 : Int), ByteArray.empty, false)) (L.drop (i + 1))) := by
  have e := ri_eq h hi
  rw [if_neg (by rw [hw]; simp), ← bh_next hk hi] at e
  have h1 := h.r0
  have h2 := h.ri
  have h3 := h.oi
  have h4 := h.fi
  have h5 := h.rw_
  have h6 := sum_succ L i hi
  refine ⟨hi, e, ?_, ?_, ?_, ?_, ?_, size0 _⟩
  · unfold stepR
    split
    · exact h1
    · split
      · simp only; split <;> omega
      · exact h1
  · unfold stepR
    split
    · simp only; omega
    · split
      · simp only; split <;> omega
      · simp only; omega
  · unfold stepR
    split
    · simp only; split <;> simp <;> omega
    · split
      · simp only; omega
      · simp only; omega
  · unfold stepR
    split
    · simp
    · split
      · simp; omega
      · simp only; omega
  · rw [h6]
    have h10 : ByteArray.size ⟨#[10]⟩ = 1 := rfl
    unfold stepR
    split
    · simp
    · split
      · simp only [ByteArray.size_append]; omega
      · simp only [ByteArray.size_append]; omega
theorem said_ok {s : ByteArray} (hs : s.size ≤ 60000) {i : Nat} (hi : i < (linesT s).length) : LinesOk (saidL ((linesT s).getD i ((0 : Int), (0 : Int), ByteArray.empty, false)) ((linesT s).drop (i + 1))) := by
  obtain ⟨h1, h2⟩ := linesT_len s
  have h3 : ((((linesT s).drop (i + 1)).takeWhile more).map (·.2.2.1.size)).sum ≤ ((linesT s).map (·.2.2.1.size)).sum := by
    have e1 : (linesT s) = (linesT s).take (i + 1) ++ ((linesT s).drop (i + 1)) := (List.take_append_drop _ _).symm
    have e2 : (linesT s).drop (i + 1) = ((linesT s).drop (i + 1)).takeWhile more ++ ((linesT s).drop (i + 1)).dropWhile more := List.takeWhile_append_dropWhile.symm
    conv => rhs; rw [e1, e2]
    simp only [List.map_append, List.sum_append]
    omega
  have h4 : (((linesT s).drop (i + 1)).takeWhile more).length ≤ (linesT s).length := by
    have := (List.takeWhile_sublist more (l := (linesT s).drop (i + 1))).length_le
    rw [List.length_drop] at this
    omega
  have h5 := linesT_sz hi
  rw [getD_get hi ((0 : Int), (0 : Int), ByteArray.empty, false)] at h5
  unfold saidL
  refine ⟨by simp only [List.length_cons, List.length_map]; omega, ?_⟩
  simp only [List.map_cons, List.sum_cons, List.map_map]
  have : ((((linesT s).drop (i + 1)).takeWhile more).map ((fun x : ByteArray => x.size) ∘ fun x : Lne => x.2.2.1)).sum = ((((linesT s).drop (i + 1)).takeWhile more).map (·.2.2.1.size)).sum := rfl
  omega
def resR : (Int × Int) ⊕ List Itm → A
  | .inl e => .tup [(false, [.sl rItm []]), (false, [.lit (.int .i64 e.1)]), (false, [.lit (.int .i64 e.2)])]
  | .inr l => .tup [(false, [.sl rItm l]), (false, [.lit (.int .i64 (-9))]), (false, [.lit (.int .i64 0)])]
theorem sum_total (s : ByteArray) (i : Nat) : (((linesT s).take i).map (fun l => l.2.2.1.size + 1)).sum ≤ 2 * s.size := by
  obtain ⟨h1, h2⟩ := linesT_len s
  have e : ∀ L : List Lne, (L.map (fun l => l.2.2.1.size + 1)).sum = (L.map (·.2.2.1.size)).sum + L.length := by
    intro L
    induction L with
    | nil => rfl
    | cons a r ih => simp only [List.map_cons, List.sum_cons, List.length_cons, ih]; omega
  have h3 : (((linesT s).take i).map (fun l => l.2.2.1.size + 1)).sum ≤ ((linesT s).map (fun l => l.2.2.1.size + 1)).sum := by
    conv => rhs; rw [← List.take_append_drop i (linesT s)]
    rw [List.map_append, List.sum_append]
    omega
  rw [e (linesT s)] at h3
  omega
end Q
end Ab
end Go.Proofs.YtlhjcdihbbdfnaaDoor
namespace Go.Proofs.YtlhjcdihbbdfnaaDoor
open Go.RowKit
namespace Ab
set_option maxRecDepth 100000
namespace Q
abbrev rRow : Rd (List Fld) := .sl rFld
def recsL (l : List Itm) : List (List Fld) := (l.filter fun x => decide (x.1 = 3)).map (·.2.2)
theorem recs_snoc (l : List Itm) (i : Nat) (h : i < l.length) : recsL (l.take (i + 1)) = if (l.getD i ((0 : Int), ByteArray.empty, ([] : List Fld))).1 = 3 then recsL (l.take i) ++ [(l.getD i ((0 : Int), ByteArray.empty, ([] : List Fld))).2.2] else recsL (l.take i) := by
  unfold recsL
  rw [List.take_succ_eq_append_getElem h, List.filter_append, List.map_append, getD_get h ((0 : Int), ByteArray.empty, ([] : List Fld))]
  by_cases h3 : (l.getD i ((0 : Int), ByteArray.empty, ([] : List Fld))).1 = 3
  · rw [if_pos h3, List.filter_cons_of_pos (by simpa using h3)]; rfl
  · rw [if_neg h3, List.filter_cons_of_neg (by simpa using h3)]; simp
theorem recs_le (l : List Itm) (i : Nat) : (recsL (l.take i)).length ≤ l.length := by
  unfold recsL
  rw [List.length_map]
  refine Nat.le_trans (List.length_filter_le _ _) ?_
  rw [List.length_take]
  omega
theorem stanzas_c (l : List Itm) (hl : l.length ≤ 1000000) (hf : ∀ x ∈ l, x.2.2.length ≤ 1000000) : ACall Tryd.prog 16 [.one (.sl rItm l)] (.one (.sl rRow (recsL l))) := by
  refine acall_of (rs := [2]) Tryd.func16 rfl rfl rfl teOk rfl ?_
  refine acode_seq ?_
  refine acode_region ?_
  refine acode_seq ?_
  refine acode_region ?_
  refine acode_seq ?_
  refine acode_seq ?_
  refine acode_nilvec 3 29 rRow rfl ?_
  refine acode_region ?_
  intro l2_1
  try simp only [Int.toNat_natCast, dflt_sl, dflt_st, dflt_str, dflt_int, dflt_bool] at l2_1
  refine acode_block ?_
  refine acode_loopP (fun (i : Nat) => i ≤ l.length) (fun (i : Nat) => [(3, .one (.vec 0)), (6, .one (.sl rItm l)), (7, ii .i64 l.length), (8, ii .i64 i)]) (fun (i : Nat) => [(0, .vec 29 rRow (recsL (l.take i)))]) 1 (fun (i : Nat) => l.length - i) 0 (Nat.zero_le _) (le_of ⟨rfl, rfl, rfl, rfl⟩ rfl rfl) ?_
  intro i hI0
  refine acode_seq ?_
  refine acode_region ?_
  refine acode_seq ?_
  refine acode_cond rfl (fun h9 => ?_) (fun h9 => ?_)
  · try simp only [decide_eq_true_eq, decide_eq_false_iff_not, Bool.and_eq_true, Bool.not_eq_true', Bool.not_eq_false', Bool.or_eq_false_iff, Bool.or_eq_true, Bool.and_eq_false_iff, Int.not_lt, Int.not_le] at h9
    try simp only [Int.toNat_natCast, dflt_sl, dflt_st, dflt_str, dflt_int, dflt_bool] at h9
    have hil : i < l.length := (by omega)
    have hrs := recs_snoc l i hil
    have hrl := recs_le l i
    have hfl := hf _ (getD_mem hil ((0 : Int), ByteArray.empty, ([] : List Fld)))
    refine acode_skip ?_
    refine acode_seq ?_
    refine acode_block ?_
    refine acode_seq ?_
    refine acode_region ?_
    refine And.intro (by first | omega | assumption | decide | (simp only [Int.toNat_natCast, dflt_sl, dflt_st, dflt_str, dflt_int, dflt_bool]; omega) | (simp <;> omega)) ?_
    refine acode_seq ?_
    refine acode_region ?_
    refine acode_cond rfl (fun h14 => ?_) (fun h14 => ?_)
    · try simp only [decide_eq_true_eq, decide_eq_false_iff_not, Bool.and_eq_true, Bool.not_eq_true', Bool.not_eq_false', Bool.or_eq_false_iff, Bool.or_eq_true, Bool.and_eq_false_iff, Int.not_lt, Int.not_le] at h14
      try simp only [Int.toNat_natCast, dflt_sl, dflt_st, dflt_str, dflt_int, dflt_bool] at h14
      rw [if_pos h14] at hrs
      refine acode_region ?_
      refine And.intro (by first | exact app_le (show (l.getD i ((0 : Int), ByteArray.empty, ([] : List Fld))).2.2.length ≤ 1000000000 by omega) (by decide) | exact app_le (show 0 + (l.getD i ((0 : Int), ByteArray.empty, ([] : List Fld))).2.2.length ≤ 1000000000 by omega) (by decide)) ?_
      refine And.intro (by first | exact app_le (by first | omega | (simp only [List.length_append, List.length_cons, List.length_nil, List.length_map, List.length_take, List.length_drop, List.length_set]; omega) | (simp; omega)) (by decide) | omega | assumption | decide | (simp only [Int.toNat_natCast, dflt_sl, dflt_st, dflt_str, dflt_int, dflt_bool]; omega) | (simp <;> omega)) ?_
      refine acode_region ?_
      refine And.intro (by first | omega | assumption | decide | (simp only [Int.toNat_natCast, dflt_sl, dflt_st, dflt_str, dflt_int, dflt_bool]; omega) | (simp <;> omega)) ?_
      exact ⟨i + 1, by omega, by first | omega | (simp <;> omega), le_of ⟨rfl, rfl, rfl, (ii_eq (by omega))⟩ (vec_eq (by rw [hrs]; try rfl)) rfl⟩
    · try simp only [decide_eq_true_eq, decide_eq_false_iff_not, Bool.and_eq_true, Bool.not_eq_true', Bool.not_eq_false', Bool.or_eq_false_iff, Bool.or_eq_true, Bool.and_eq_false_iff, Int.not_lt, Int.not_le] at h14
      try simp only [Int.toNat_natCast, dflt_sl, dflt_st, dflt_str, dflt_int, dflt_bool] at h14
      rw [if_neg h14] at hrs
      refine acode_skip ?_
      refine acode_region ?_
      refine And.intro (by first | omega | assumption | decide | (simp only [Int.toNat_natCast, dflt_sl, dflt_st, dflt_str, dflt_int, dflt_bool]; omega) | (simp <;> omega)) ?_
      exact ⟨i + 1, by omega, by first | omega | (simp <;> omega), le_of ⟨rfl, rfl, rfl, (ii_eq (by omega))⟩ (vec_eq (by rw [hrs]; try rfl)) rfl⟩
  · try simp only [decide_eq_true_eq, decide_eq_false_iff_not, Bool.and_eq_true, Bool.not_eq_true', Bool.not_eq_false', Bool.or_eq_false_iff, Bool.or_eq_true, Bool.and_eq_false_iff, Int.not_lt, Int.not_le] at h9
    try simp only [Int.toNat_natCast, dflt_sl, dflt_st, dflt_str, dflt_int, dflt_bool] at h9
    refine acode_exit ?_
    refine acode_seq ?_
    refine acode_region ?_
    refine acode_ret ?_
    rw [List.take_of_length_le (by omega)]
    rfl
def contP (p : PSt) : List UInt8 := rawsL p.its ++ endL (p.blk.map ls)
theorem raws_app (a b : List Itm) : rawsL (a ++ b) = rawsL a ++ rawsL b := by simp [rawsL]
theorem endL_app (a b : List (List UInt8)) : endL (a ++ b) = endL a ++ endL b := by simp [endL]
theorem close_cont (p : PSt) : contP (closeS p) = contP p := by
  unfold closeS
  split
  · rename_i h
    unfold contP
    simp [h]
  · rename_i h
    unfold contP
    simp only [raws_app]
    rw [rawB_C h]
    have : rawsL [((if p.flds = [] then 2 else 3 : Int), rawC p.blk, p.flds)] = endL (p.blk.map ls) := by
      unfold rawsL rawC
      simp only [List.flatMap_cons, List.flatMap_nil, List.append_nil]
      exact bytes_list _
    rw [this]
    simp [endL]
theorem flush_cont {p q : PSt} (h : flushS p = .inr q) : contP q = contP p := by
  obtain ⟨h1, h2⟩ := flush_same h
  unfold contP
  rw [h1, h2]
theorem end_cont {p q : PSt} (h : endS p = .inr q) : contP q = contP p := by
  unfold endS at h
  cases e : flushS p with
  | inl x => rw [e] at h; cases h
  | inr r =>
    rw [e] at h
    cases h
    rw [close_cont, flush_cont e]
theorem ahead_cont {p q : PSt} {l : Lne} {k : Int} (h : aheadS p l k = .inr q) : contP q = contP p := by
  unfold aheadS at h
  split at h
  · split at h
    · cases h
    · split at h
      · cases h; rfl
      · rw [flush_cont h]; rfl
  · split at h
    · exact end_cont h
    · exact flush_cont h
theorem take_cont {p q : PSt} {l : Lne} (h : takeS p l = .inr q) : contP q = contP p ++ (ls l.2.2.1 ++ [10]) := by
  have hi := fun hk => (ahead_took (p := p) (l := l) (k := kindL (ls l.2.2.1)) (q := q) hk)
  unfold takeS at h
  cases e : aheadS p l (kindL (ls l.2.2.1)) with
  | inl x => rw [e] at h; cases h
  | inr r =>
    rw [e] at h
    have hc := ahead_cont e
    obtain ⟨_, _, h4⟩ := ahead_took e
    simp only at h
    unfold lineS at h
    split at h
    · cases h
    · split at h
      · rename_i g1
        cases h
        rw [← hc]
        unfold contP
        simp only [raws_app, (h4 g1).2.1]
        simp [rawsL, endL, ls]
      · split at h
        · cases h
          rw [← hc]
          unfold contP beginS
          simp only [List.map_append, endL_app]
          simp [endL, ls]
        · cases h
          rw [← hc]
          unfold contP
          simp only [List.map_append, endL_app]
          simp [endL, ls]
theorem run_cont : ∀ (L : List Lne) (p q : PSt), runS p L = .inr q → contP q = contP p ++ glue (L.map (·.2.2))
  | [], p, q, h => by cases h; simp [glue]
  | l :: r, p, q, h => by
    simp only [runS] at h
    cases e : takeS p l with
    | inl x => rw [e] at h; cases h
    | inr p1 =>
      rw [e] at h
      obtain ⟨he, _⟩ := take_took e
      rw [run_cont r p1 q h, take_cont e, List.map_cons]
      simp only [glue, he, if_true, List.append_assoc]
theorem raws_text {s : ByteArray} {l : List Itm} (hp : parseS s = .inr l) : bytes (rawsL l) = s := by
  unfold parseS at hp
  cases e : runS pst0 (linesT s) with
  | inl x => rw [e] at hp; cases hp
  | inr p =>
    rw [e] at hp
    simp only at hp
    cases e2 : endS p with
    | inl x => rw [e2] at hp; cases hp
    | inr q =>
      rw [e2] at hp
      cases hp
      obtain ⟨_, _, hidle⟩ := end_took e2
      have h1 : contP q = rawsL q.its := by unfold contP; rw [hidle.2.1]; simp [endL]
      rw [← h1, end_cont e2, run_cont _ _ _ e, lines_text, glue_lines _ _ (by rw [show (ls s).length = s.size from (size_list s).symm]; exact Nat.le_refl _)]
      exact bytes_ls s
theorem runR_ne : ∀ (L : List Lne) (t : RSt) (bh : Bool) (e : Int × Int), runR bh t L = .inl e → e.2 ≠ 0
  | [], t, bh, e, h => by unfold runR at h; cases h
  | l :: r, t, bh, e, h => by
    unfold runR at h
    split at h
    · rename_i hw; cases h; exact hw
    · exact runR_ne r _ _ e h
theorem items_flds {s : ByteArray} {l : List Itm} (hs : s.size ≤ 60000) (hp : parseS s = .inr l) : l.length ≤ 1000000 ∧ ∀ x ∈ l, x.2.2.length ≤ 1000000 := by
  have h0 := parse_ref s
  rw [hp] at h0
  obtain ⟨h1, _⟩ := linesT_len s
  have key : ∀ (L : List Lne) (t : RSt) (bh : Bool) (l : List Itm), runR bh t L = .inr l → l.length ≤ t.out.length + 1 + 2 * L.length ∧ ∀ (B : Nat), t.flds.length + L.length ≤ B → (∀ x ∈ t.out, x.2.2.length ≤ B) → ∀ x ∈ l, x.2.2.length ≤ B := by
    intro L
    induction L with
    | nil =>
      intro t bh l h
      unfold runR at h
      cases h
      refine ⟨by split <;> simp, fun B hB ho x hx => ?_⟩
      split at hx
      · exact ho x hx
      · rcases List.mem_append.1 hx with hx | hx
        · exact ho x hx
        · rw [List.mem_singleton.1 hx]; simpa using hB
    | cons a r ih =>
      intro t bh l h
      unfold runR at h
      split at h
      · cases h
      · obtain ⟨i1, i2⟩ := ih _ _ _ h
        have so : (stepR t a r).out.length ≤ t.out.length + 2 := by
          unfold stepR
          split
          · simp only; split <;> simp
          · split <;> simp
        have sf : (stepR t a r).flds.length ≤ t.flds.length + 1 := by
          unfold stepR
          split
          · simp
          · split <;> simp
        refine ⟨by rw [List.length_cons]; omega, fun B hB ho => i2 B (by rw [List.length_cons] at hB; omega) (fun x hx => ?_)⟩
        have hB2 : t.flds.length ≤ B := by omega
        unfold stepR at hx
        split at hx
        · simp only at hx
          rcases List.mem_append.1 hx with hx | hx
          · split at hx
            · exact ho x hx
            · rcases List.mem_append.1 hx with hx | hx
              · exact ho x hx
              · rw [List.mem_singleton.1 hx]; exact hB2
          · rw [List.mem_singleton.1 hx]; exact Nat.zero_le _
        · split at hx
          · exact ho x hx
          · exact ho x hx
  obtain ⟨k1, k2⟩ := key _ _ _ _ h0.symm
  refine ⟨by simp only [rst0, List.length_nil] at k1; omega, k2 1000000 (by simp only [rst0, List.length_nil]; omega) (fun x hx => by cases hx)⟩
theorem at_errno (n : Int) : ACall Tryd.prog 13 [.one (errN n)] (ii .i64 (-9)) := by
  refine acall_of (rs := [2]) Tryd.func13 rfl rfl rfl teOk rfl ?_
  refine acode_seq ?_
  refine acode_region ?_
  refine acode_seq ?_
  refine acode_seq ?_
  refine acode_region ?_
  refine acode_seq ?_
  refine acode_region ?_
  refine And.intro (fun h => trivial) ?_
  refine And.intro (fun h => ⟨⟨h, trivial⟩, trivial⟩) ?_
  refine And.intro (by exact fun h => h) ?_
  refine acode_cond rfl (fun h14 => ?_) (fun h14 => ?_)
  · try simp only [decide_eq_true_eq, decide_eq_false_iff_not, Bool.and_eq_true, Bool.not_eq_true', Bool.not_eq_false', Bool.or_eq_false_iff, Bool.or_eq_true, Bool.and_eq_false_iff, Int.not_lt, Int.not_le] at h14
    try simp only [Int.toNat_natCast, dflt_sl, dflt_st, dflt_str, dflt_int, dflt_bool] at h14
    simp at h14
  · try simp only [decide_eq_true_eq, decide_eq_false_iff_not, Bool.and_eq_true, Bool.not_eq_true', Bool.not_eq_false', Bool.or_eq_false_iff, Bool.or_eq_true, Bool.and_eq_false_iff, Int.not_lt, Int.not_le] at h14
    try simp only [Int.toNat_natCast, dflt_sl, dflt_st, dflt_str, dflt_int, dflt_bool] at h14
    refine acode_skip ?_
    refine acode_seq ?_
    refine acode_region ?_
    refine acode_ret ?_
    rfl
end Q
end Ab
end Go.Proofs.YtlhjcdihbbdfnaaDoor
namespace Go.Proofs.YtlhjcdihbbdfnaaDoor
open Go.RowKit
namespace Ab
set_option maxRecDepth 100000
namespace Q
def badAt : Int → List Fld → Int × Int
  | _, [] => (-9, 0)
  | i, f :: r => if checkF f ≠ 0 then (i, checkF f) else badAt (i + 1) r
/-- Where fields aren't a stanza's, an error's number. -/
def chkR (l : List Fld) : Int × Int := if l = [] then (-9, 2) else if 40 < l.length then (-9, 11) else badAt 0 l
def chkA (l : List Fld) : C := if (chkR l).2 = 0 then .lit .nilIface else if (chkR l).1 = -9 then errN (chkR l).2 else errF (chkR l).1 (chkR l).2
theorem badAt_hit : ∀ (l : List Fld) (i : Nat) (k : Int), i < l.length → (∀ f ∈ l.take i, checkF f = 0) → checkF (l.getD i (ByteArray.empty, ByteArray.empty)) ≠ 0 → badAt k l = (k + i, checkF (l.getD i (ByteArray.empty, ByteArray.empty)))
  | [], i, k, h, _, _ => by simp at h
  | f :: r, 0, k, _, _, hb => by
    unfold badAt
    rw [if_pos (by simpa using hb)]
    simp
  | f :: r, i + 1, k, h, ht, hb => by
    unfold badAt
    rw [if_neg (by simpa using ht f (by simp))]
    rw [badAt_hit r i (k + 1) (by simpa using h) (fun g hg => ht g (by simp [hg])) (by simpa using hb)]
    simp only [List.getD_cons_succ]
    congr 1
    omega
theorem badAt_no : ∀ (l : List Fld) (k : Int), (∀ f ∈ l, checkF f = 0) → badAt k l = (-9, 0)
  | [], _, _ => rfl
  | f :: r, k, h => by
    unfold badAt
    rw [if_neg (by simpa using h f (by simp))]
    exact badAt_no r (k + 1) (fun g hg => h g (by simp [hg]))
theorem chkA_nil {l : List Fld} (h : chkR l = (-9, 0)) : chkA l = .lit .nilIface := by unfold chkA; rw [h]; rfl
theorem chkA_no {l : List Fld} {n : Int} (h : chkR l = (-9, n)) (hn : n ≠ 0) : chkA l = errN n := by unfold chkA; rw [h, if_neg hn, if_pos rfl]
theorem chkA_at {l : List Fld} {i n : Int} (h : chkR l = (i, n)) (hn : n ≠ 0) (hi : 0 ≤ i) : chkA l = errF i n := by unfold chkA; rw [h, if_neg hn, if_neg (by show ¬ i = -9; omega)]
theorem pcheck_c (l : List Fld) (hl : FldsOk l) : ACall Tryd.prog 22 [.one (.sl rFld l)] (.one (chkA l)) := by
  have hln := hl.1
  refine acall_of (rs := [2]) Tryd.func22 rfl rfl rfl teOk rfl ?_
  refine acode_seq ?_
  refine acode_region ?_
  refine acode_seq ?_
  refine acode_block ?_
  refine acode_seq ?_
  refine acode_region ?_
  intro l1_1
  try simp only [Int.toNat_natCast, dflt_sl, dflt_st, dflt_str, dflt_int, dflt_bool] at l1_1
  refine acode_cond rfl (fun h6 => ?_) (fun h6 => ?_)
  · try simp only [decide_eq_true_eq, decide_eq_false_iff_not, Bool.and_eq_true, Bool.not_eq_true', Bool.not_eq_false', Bool.or_eq_false_iff, Bool.or_eq_true, Bool.and_eq_false_iff, Int.not_lt, Int.not_le] at h6
    try simp only [Int.toNat_natCast, dflt_sl, dflt_st, dflt_str, dflt_int, dflt_bool] at h6
    refine acode_seq ?_
    refine acode_region ?_
    refine acode_ret ?_
    rw [chkA_no (l := l) (n := 2) (by unfold chkR; rw [if_pos (List.eq_nil_of_length_eq_zero (by omega))]) (by decide)]
    rfl
  · try simp only [decide_eq_true_eq, decide_eq_false_iff_not, Bool.and_eq_true, Bool.not_eq_true', Bool.not_eq_false', Bool.or_eq_false_iff, Bool.or_eq_true, Bool.and_eq_false_iff, Int.not_lt, Int.not_le] at h6
    try simp only [Int.toNat_natCast, dflt_sl, dflt_st, dflt_str, dflt_int, dflt_bool] at h6
    refine acode_seq ?_
    refine acode_region ?_
    intro l3_1
    try simp only [Int.toNat_natCast, dflt_sl, dflt_st, dflt_str, dflt_int, dflt_bool] at l3_1
    refine acode_cond rfl (fun h11 => ?_) (fun h11 => ?_)
    · try simp only [decide_eq_true_eq, decide_eq_false_iff_not, Bool.and_eq_true, Bool.not_eq_true', Bool.not_eq_false', Bool.or_eq_false_iff, Bool.or_eq_true, Bool.and_eq_false_iff, Int.not_lt, Int.not_le] at h11
      try simp only [Int.toNat_natCast, dflt_sl, dflt_st, dflt_str, dflt_int, dflt_bool] at h11
      refine acode_seq ?_
      refine acode_region ?_
      refine acode_ret ?_
      rw [chkA_no (l := l) (n := 11) (by unfold chkR; rw [if_neg (fun e => h6 (by rw [e]; rfl)), if_pos (by omega)]) (by decide)]
      rfl
    · try simp only [decide_eq_true_eq, decide_eq_false_iff_not, Bool.and_eq_true, Bool.not_eq_true', Bool.not_eq_false', Bool.or_eq_false_iff, Bool.or_eq_true, Bool.and_eq_false_iff, Int.not_lt, Int.not_le] at h11
      try simp only [Int.toNat_natCast, dflt_sl, dflt_st, dflt_str, dflt_int, dflt_bool] at h11
      refine acode_skip ?_
      refine acode_seq ?_
      refine acode_seq ?_
      refine acode_region ?_
      intro l5_1
      try simp only [Int.toNat_natCast, dflt_sl, dflt_st, dflt_str, dflt_int, dflt_bool] at l5_1
      refine acode_block ?_
      refine acode_loopP (fun (i : Nat) => i ≤ l.length ∧ ∀ f ∈ l.take i, checkF f = 0) (fun (i : Nat) => [(16, .one (.sl rFld l)), (17, ii .i64 l.length), (18, ii .i64 i)]) (fun (i : Nat) => []) 0 (fun (i : Nat) => l.length - i) 0 (⟨Nat.zero_le _, by simp⟩) (le_of ⟨rfl, rfl, rfl⟩ trivial rfl) ?_
      intro i hI1
      obtain ⟨hi, hall⟩ := hI1
      refine acode_seq ?_
      refine acode_region ?_
      refine acode_seq ?_
      refine acode_cond rfl (fun h19 => ?_) (fun h19 => ?_)
      · try simp only [decide_eq_true_eq, decide_eq_false_iff_not, Bool.and_eq_true, Bool.not_eq_true', Bool.not_eq_false', Bool.or_eq_false_iff, Bool.or_eq_true, Bool.and_eq_false_iff, Int.not_lt, Int.not_le] at h19
        try simp only [Int.toNat_natCast, dflt_sl, dflt_st, dflt_str, dflt_int, dflt_bool] at h19
        have hlt : i < l.length := (by omega)
        have hm := hl.2 _ (getD_mem hlt (ByteArray.empty, ByteArray.empty))
        have hne : l ≠ [] := (fun e => by rw [e] at hlt; simp at hlt)
        refine acode_skip ?_
        refine acode_seq ?_
        refine acode_block ?_
        refine acode_seq ?_
        refine acode_region ?_
        refine And.intro (by first | omega | assumption | decide | (simp only [Int.toNat_natCast, dflt_sl, dflt_st, dflt_str, dflt_int, dflt_bool]; omega) | (simp <;> omega)) ?_
        refine acode_seq ?_
        rcases check_cases (l.getD i (ByteArray.empty, ByteArray.empty)) with hc|hc|hc
        · refine acode_region ?_
          refine Or.inl ?_
          refine And.intro (rfl) ?_
          refine Exists.intro _ (And.intro (check_v (l.getD i (ByteArray.empty, ByteArray.empty)) _ (by omega) hc) ?_)
          refine acode_seq ?_
          refine acode_region ?_
          refine acode_cond rfl (fun h26 => ?_) (fun h26 => ?_)
          · try simp only [decide_eq_true_eq, decide_eq_false_iff_not, Bool.and_eq_true, Bool.not_eq_true', Bool.not_eq_false', Bool.or_eq_false_iff, Bool.or_eq_true, Bool.and_eq_false_iff, Int.not_lt, Int.not_le] at h26
            try simp only [Int.toNat_natCast, dflt_sl, dflt_st, dflt_str, dflt_int, dflt_bool] at h26
            refine acode_seq ?_
            refine acode_region ?_
            refine acode_ret ?_
            rw [chkA_at (l := l) (i := i) (n := 5) (by unfold chkR; rw [if_neg hne, if_neg (by omega), badAt_hit l i 0 hlt hall (by rw [hc]; decide), hc]; simp) (by decide) (by omega)]
            rfl
          · try simp only [decide_eq_true_eq, decide_eq_false_iff_not, Bool.and_eq_true, Bool.not_eq_true', Bool.not_eq_false', Bool.or_eq_false_iff, Bool.or_eq_true, Bool.and_eq_false_iff, Int.not_lt, Int.not_le] at h26
            try simp only [Int.toNat_natCast, dflt_sl, dflt_st, dflt_str, dflt_int, dflt_bool] at h26
            cases h26
        · refine acode_region ?_
          refine Or.inl ?_
          refine And.intro (rfl) ?_
          refine Exists.intro _ (And.intro (check_v (l.getD i (ByteArray.empty, ByteArray.empty)) _ (by omega) hc) ?_)
          refine acode_seq ?_
          refine acode_region ?_
          refine acode_cond rfl (fun h26 => ?_) (fun h26 => ?_)
          · try simp only [decide_eq_true_eq, decide_eq_false_iff_not, Bool.and_eq_true, Bool.not_eq_true', Bool.not_eq_false', Bool.or_eq_false_iff, Bool.or_eq_true, Bool.and_eq_false_iff, Int.not_lt, Int.not_le] at h26
            try simp only [Int.toNat_natCast, dflt_sl, dflt_st, dflt_str, dflt_int, dflt_bool] at h26
            refine acode_seq ?_
            refine acode_region ?_
            refine acode_ret ?_
            rw [chkA_at (l := l) (i := i) (n := 6) (by unfold chkR; rw [if_neg hne, if_neg (by omega), badAt_hit l i 0 hlt hall (by rw [hc]; decide), hc]; simp) (by decide) (by omega)]
            rfl
          · try simp only [decide_eq_true_eq, decide_eq_false_iff_not, Bool.and_eq_true, Bool.not_eq_true', Bool.not_eq_false', Bool.or_eq_false_iff, Bool.or_eq_true, Bool.and_eq_false_iff, Int.not_lt, Int.not_le] at h26
            try simp only [Int.toNat_natCast, dflt_sl, dflt_st, dflt_str, dflt_int, dflt_bool] at h26
            cases h26
        · refine acode_region ?_
          refine Or.inl ?_
          refine And.intro (rfl) ?_
          refine Exists.intro _ (And.intro (check_v (l.getD i (ByteArray.empty, ByteArray.empty)) _ (by omega) hc) ?_)
          refine acode_seq ?_
          refine acode_region ?_
          refine acode_cond rfl (fun h26 => ?_) (fun h26 => ?_)
          · try simp only [decide_eq_true_eq, decide_eq_false_iff_not, Bool.and_eq_true, Bool.not_eq_true', Bool.not_eq_false', Bool.or_eq_false_iff, Bool.or_eq_true, Bool.and_eq_false_iff, Int.not_lt, Int.not_le] at h26
            try simp only [Int.toNat_natCast, dflt_sl, dflt_st, dflt_str, dflt_int, dflt_bool] at h26
            cases h26
          · try simp only [decide_eq_true_eq, decide_eq_false_iff_not, Bool.and_eq_true, Bool.not_eq_true', Bool.not_eq_false', Bool.or_eq_false_iff, Bool.or_eq_true, Bool.and_eq_false_iff, Int.not_lt, Int.not_le] at h26
            try simp only [Int.toNat_natCast, dflt_sl, dflt_st, dflt_str, dflt_int, dflt_bool] at h26
            refine acode_skip ?_
            refine acode_region ?_
            refine And.intro (by first | omega | assumption | decide | (simp only [Int.toNat_natCast, dflt_sl, dflt_st, dflt_str, dflt_int, dflt_bool]; omega) | (simp <;> omega)) ?_
            exact ⟨i + 1, ⟨by omega, by rw [← take_snoc (ByteArray.empty, ByteArray.empty) hlt]; intro f hf; rcases List.mem_append.1 hf with h|h; exact hall f h; rw [List.mem_singleton.1 h]; exact hc⟩, by first | omega | (simp <;> omega), le_of ⟨rfl, rfl, (ii_eq (by omega))⟩ trivial rfl⟩
      · try simp only [decide_eq_true_eq, decide_eq_false_iff_not, Bool.and_eq_true, Bool.not_eq_true', Bool.not_eq_false', Bool.or_eq_false_iff, Bool.or_eq_true, Bool.and_eq_false_iff, Int.not_lt, Int.not_le] at h19
        try simp only [Int.toNat_natCast, dflt_sl, dflt_st, dflt_str, dflt_int, dflt_bool] at h19
        refine acode_exit ?_
        refine acode_seq ?_
        refine acode_region ?_
        refine acode_ret ?_
        rw [List.take_of_length_le (by omega)] at hall
        rw [chkA_nil (by unfold chkR; rw [if_neg (fun e => h6 (by rw [e]; rfl)), if_neg (by omega)]; exact badAt_no l 0 hall)]
        rfl
theorem badAt_zero : ∀ (l : List Fld) (k : Int), (badAt k l).2 = 0 → (∀ f ∈ l, checkF f = 0)
  | [], _, _, f, hf => by cases hf
  | g :: r, k, h, f, hf => by
    unfold badAt at h
    split at h
    · rename_i hg; exact absurd h hg
    · rename_i hg
      rcases List.mem_cons.1 hf with rfl | hf
      · exact Classical.not_not.1 hg
      · exact badAt_zero r (k + 1) h f hf
theorem chk_good {l : List Fld} (h : (chkR l).2 = 0) : GoodS l ∧ badF l = 0 ∧ chkA l = .lit .nilIface := by
  have hA : chkA l = .lit .nilIface := by unfold chkA; rw [if_pos h]
  unfold chkR at h
  split at h
  · cases h
  · rename_i h0
    split at h
    · cases h
    · rename_i h4
      have := badAt_zero l 0 h
      exact ⟨⟨h0, by omega, this⟩, badF_ok this, hA⟩
theorem chk_bad {l : List Fld} (h : (chkR l).2 ≠ 0) : ∃ e, chkA l = e ∧ ((∃ n, n ≠ 0 ∧ e = errN n ∧ chkR l = (-9, n)) ∨ ∃ i n, n ≠ 0 ∧ e = errF i n ∧ chkR l = (i, n)) := by
  refine ⟨_, rfl, ?_⟩
  unfold chkA
  rw [if_neg h]
  by_cases h9 : (chkR l).1 = -9
  · rw [if_pos h9]
    exact .inl ⟨_, h, rfl, Prod.ext h9 rfl⟩
  · rw [if_neg h9]
    exact .inr ⟨_, _, h, rfl, rfl⟩
theorem pstanza_ok {l : List Fld} (hl : FldsOk l) (h : (chkR l).2 = 0) : ACall Tryd.prog 20 [.one (.sl rFld l)] (.tup [(false, [.lit (.string (bytes (foldL l)))]), (false, [.lit .nilIface])]) := by
  obtain ⟨h1, h2, h3⟩ := chk_good h
  have hc := pcheck_c l hl
  rw [h3] at hc
  refine acall_of (rs := [2, 3]) Tryd.func20 rfl rfl rfl teOk rfl ?_
  refine acode_seq ?_
  refine acode_region ?_
  refine acode_seq ?_
  refine acode_seq ?_
  refine acode_region ?_
  refine Or.inl ?_
  refine And.intro (rfl) ?_
  refine Exists.intro _ (And.intro (hc) ?_)
  refine acode_seq ?_
  refine acode_region ?_
  refine acode_cond rfl (fun h8 => ?_) (fun h8 => ?_)
  · try simp only [decide_eq_true_eq, decide_eq_false_iff_not, Bool.and_eq_true, Bool.not_eq_true', Bool.not_eq_false', Bool.or_eq_false_iff, Bool.or_eq_true, Bool.and_eq_false_iff, Int.not_lt, Int.not_le] at h8
    try simp only [Int.toNat_natCast, dflt_sl, dflt_st, dflt_str, dflt_int, dflt_bool] at h8
    cases h8
  · try simp only [decide_eq_true_eq, decide_eq_false_iff_not, Bool.and_eq_true, Bool.not_eq_true', Bool.not_eq_false', Bool.or_eq_false_iff, Bool.or_eq_true, Bool.and_eq_false_iff, Int.not_lt, Int.not_le] at h8
    try simp only [Int.toNat_natCast, dflt_sl, dflt_st, dflt_str, dflt_int, dflt_bool] at h8
    refine acode_skip ?_
    refine acode_seq ?_
    refine acode_region ?_
    refine Or.inl ?_
    refine And.intro (rfl) ?_
    refine Exists.intro _ (And.intro (fold_yes hl h2) ?_)
    refine acode_ret ?_
    rfl
theorem pstanza_err {l : List Fld} (hl : FldsOk l) (h : (chkR l).2 ≠ 0) : ACall Tryd.prog 20 [.one (.sl rFld l)] (.tup [(false, [.lit (.string ⟨#[]⟩)]), (false, [chkA l])]) := by
  have hc := pcheck_c l hl
  obtain ⟨e, he, hs⟩ := chk_bad h
  rw [he] at hc ⊢
  rcases hs with ⟨n, hn, rfl, _⟩ | ⟨i, n, hn, rfl, _⟩
  ·
    refine acall_of (rs := [2, 3]) Tryd.func20 rfl rfl rfl teOk rfl ?_
    refine acode_seq ?_
    refine acode_region ?_
    refine acode_seq ?_
    refine acode_seq ?_
    refine acode_region ?_
    refine Or.inl ?_
    refine And.intro (rfl) ?_
    refine Exists.intro _ (And.intro (hc) ?_)
    refine acode_seq ?_
    refine acode_region ?_
    refine acode_cond rfl (fun h8 => ?_) (fun h8 => ?_)
    · try simp only [decide_eq_true_eq, decide_eq_false_iff_not, Bool.and_eq_true, Bool.not_eq_true', Bool.not_eq_false', Bool.or_eq_false_iff, Bool.or_eq_true, Bool.and_eq_false_iff, Int.not_lt, Int.not_le] at h8
      try simp only [Int.toNat_natCast, dflt_sl, dflt_st, dflt_str, dflt_int, dflt_bool] at h8
      refine acode_seq ?_
      refine acode_region ?_
      refine acode_ret ?_
      rfl
    · try simp only [decide_eq_true_eq, decide_eq_false_iff_not, Bool.and_eq_true, Bool.not_eq_true', Bool.not_eq_false', Bool.or_eq_false_iff, Bool.or_eq_true, Bool.and_eq_false_iff, Int.not_lt, Int.not_le] at h8
      try simp only [Int.toNat_natCast, dflt_sl, dflt_st, dflt_str, dflt_int, dflt_bool] at h8
      cases h8
  ·
    refine acall_of (rs := [2, 3]) Tryd.func20 rfl rfl rfl teOk rfl ?_
    refine acode_seq ?_
    refine acode_region ?_
    refine acode_seq ?_
    refine acode_seq ?_
    refine acode_region ?_
    refine Or.inl ?_
    refine And.intro (rfl) ?_
    refine Exists.intro _ (And.intro (hc) ?_)
    refine acode_seq ?_
    refine acode_region ?_
    refine acode_cond rfl (fun h8 => ?_) (fun h8 => ?_)
    · try simp only [decide_eq_true_eq, decide_eq_false_iff_not, Bool.and_eq_true, Bool.not_eq_true', Bool.not_eq_false', Bool.or_eq_false_iff, Bool.or_eq_true, Bool.and_eq_false_iff, Int.not_lt, Int.not_le] at h8
      try simp only [Int.toNat_natCast, dflt_sl, dflt_st, dflt_str, dflt_int, dflt_bool] at h8
      refine acode_seq ?_
      refine acode_region ?_
      refine acode_ret ?_
      rfl
    · try simp only [decide_eq_true_eq, decide_eq_false_iff_not, Bool.and_eq_true, Bool.not_eq_true', Bool.not_eq_false', Bool.or_eq_false_iff, Bool.or_eq_true, Bool.and_eq_false_iff, Int.not_lt, Int.not_le] at h8
      try simp only [Int.toNat_natCast, dflt_sl, dflt_st, dflt_str, dflt_int, dflt_bool] at h8
      cases h8
theorem foldG_len {a : List Fld} (h : GoodS a) : (foldL a).length ≤ 40 * 5000000 :=
  Nat.le_trans (flat_le textL 5000000 a fun f hf => (text_len (h.2.2 f hf)).1) (Nat.mul_le_mul_right _ h.2.1)
theorem map_foldB (l : List (List Fld)) : (l.map fun a => bytes (foldL a)).map (·.data.toList) = l.map foldL := by
  rw [List.map_map]
  exact List.map_congr_left fun a _ => bytes_list _
theorem joinG_len {l : List (List Fld)} (h : ∀ a ∈ l, GoodS a) (hl : l.length ≤ 1000) : (Lib.join ((l.map fun a => bytes (foldL a)).map (·.data.toList)) [10]).length ≤ 140737488355328 := by
  rw [map_foldB]
  refine Nat.le_trans (joinL_len 10 _) ?_
  rw [List.map_map, List.length_map]
  have h1 : ∀ m : List (List Fld), (∀ a ∈ m, GoodS a) → (m.map ((·.length) ∘ foldL)).sum ≤ m.length * 200000000 := by
    intro m
    induction m with
    | nil => intro _; simp
    | cons a r ih =>
      intro hm
      have h2 := ih fun b hb => hm b (List.mem_cons_of_mem _ hb)
      have h3 := foldG_len (hm a List.mem_cons_self)
      simp only [List.map_cons, List.sum_cons, List.length_cons, Function.comp_apply]
      omega
  have := h1 l h
  omega
theorem ptext_ok {l : List (List Fld)} (hl : l.length ≤ 1000) (hf : ∀ a ∈ l, FldsOk a) (h : ∀ a ∈ l, (chkR a).2 = 0) : ACall Tryd.prog 10 [.one (.sl rRow l)] (.tup [(false, [.lit (.string (bytes (Lib.join (l.map foldL) [10])))]), (false, [.lit .nilIface])]) := by
  have hg : ∀ a ∈ l, GoodS a := fun a ha => (chk_good (h a ha)).1
  have hjl := joinG_len hg hl
  have hj := join_c (l.map fun a => bytes (foldL a)) ⟨#[10]⟩ (by rw [List.length_map]; omega) hjl
  rw [map_foldB] at hj
  refine acall_of (rs := [2, 3]) Tryd.func10 rfl rfl rfl teOk rfl ?_
  refine acode_seq ?_
  refine acode_region ?_
  refine acode_seq ?_
  refine acode_region ?_
  refine acode_seq ?_
  refine acode_seq ?_
  refine acode_nilvec 4 9 .str rfl ?_
  refine acode_region ?_
  intro l2_1
  try simp only [Int.toNat_natCast, dflt_sl, dflt_st, dflt_str, dflt_int, dflt_bool] at l2_1
  refine acode_block ?_
  refine acode_loopP (fun (i : Nat) => i ≤ l.length) (fun (i : Nat) => [(4, .one (.vec 0)), (9, .one (.sl rRow l)), (10, ii .i64 l.length), (11, ii .i64 i)]) (fun (i : Nat) => [(0, .vec 9 .str ((l.take i).map fun a => bytes (foldL a)))]) 1 (fun (i : Nat) => l.length - i) 0 (Nat.zero_le _) (le_of ⟨rfl, rfl, rfl, rfl⟩ rfl rfl) ?_
  intro i hI0
  refine acode_seq ?_
  refine acode_region ?_
  refine acode_seq ?_
  refine acode_cond rfl (fun h12 => ?_) (fun h12 => ?_)
  · try simp only [decide_eq_true_eq, decide_eq_false_iff_not, Bool.and_eq_true, Bool.not_eq_true', Bool.not_eq_false', Bool.or_eq_false_iff, Bool.or_eq_true, Bool.and_eq_false_iff, Int.not_lt, Int.not_le] at h12
    try simp only [Int.toNat_natCast, dflt_sl, dflt_st, dflt_str, dflt_int, dflt_bool] at h12
    have hil : i < l.length := (by omega)
    have hm := getD_mem hil ([] : List Fld)
    refine acode_skip ?_
    refine acode_seq ?_
    refine acode_block ?_
    refine acode_seq ?_
    refine acode_region ?_
    refine And.intro (by first | omega | assumption | decide | (simp only [Int.toNat_natCast, dflt_sl, dflt_st, dflt_str, dflt_int, dflt_bool]; omega) | (simp <;> omega)) ?_
    refine acode_seq ?_
    refine acode_region ?_
    refine Or.inl ?_
    refine And.intro (rfl) ?_
    refine Exists.intro _ (And.intro (pstanza_ok (hf _ hm) (h _ hm)) ?_)
    refine acode_seq ?_
    refine acode_seq ?_
    refine acode_region ?_
    refine acode_cond rfl (fun h21 => ?_) (fun h21 => ?_)
    · try simp only [decide_eq_true_eq, decide_eq_false_iff_not, Bool.and_eq_true, Bool.not_eq_true', Bool.not_eq_false', Bool.or_eq_false_iff, Bool.or_eq_true, Bool.and_eq_false_iff, Int.not_lt, Int.not_le] at h21
      try simp only [Int.toNat_natCast, dflt_sl, dflt_st, dflt_str, dflt_int, dflt_bool] at h21
      cases h21
    · try simp only [decide_eq_true_eq, decide_eq_false_iff_not, Bool.and_eq_true, Bool.not_eq_true', Bool.not_eq_false', Bool.or_eq_false_iff, Bool.or_eq_true, Bool.and_eq_false_iff, Int.not_lt, Int.not_le] at h21
      try simp only [Int.toNat_natCast, dflt_sl, dflt_st, dflt_str, dflt_int, dflt_bool] at h21
      refine acode_skip ?_
      refine acode_region ?_
      refine And.intro (by first | exact app_le (by first | omega | (simp only [List.length_append, List.length_cons, List.length_nil, List.length_map, List.length_take, List.length_drop, List.length_set]; omega) | (simp; omega)) (by decide) | omega | assumption | decide | (simp only [Int.toNat_natCast, dflt_sl, dflt_st, dflt_str, dflt_int, dflt_bool]; omega) | (simp <;> omega)) ?_
      refine acode_region ?_
      refine And.intro (by first | omega | assumption | decide | (simp only [Int.toNat_natCast, dflt_sl, dflt_st, dflt_str, dflt_int, dflt_bool]; omega) | (simp <;> omega)) ?_
      exact ⟨i + 1, by omega, by first | omega | (simp <;> omega), le_of ⟨rfl, rfl, rfl, (ii_eq (by omega))⟩ (vec_eq (by rw [← take_snoc ([] : List Fld) hil, List.map_append]; rfl)) rfl⟩
  · try simp only [decide_eq_true_eq, decide_eq_false_iff_not, Bool.and_eq_true, Bool.not_eq_true', Bool.not_eq_false', Bool.or_eq_false_iff, Bool.or_eq_true, Bool.and_eq_false_iff, Int.not_lt, Int.not_le] at h12
    try simp only [Int.toNat_natCast, dflt_sl, dflt_st, dflt_str, dflt_int, dflt_bool] at h12
    refine acode_exit ?_
    refine acode_seq ?_
    rw [List.take_of_length_le (by omega)]
    refine acode_region ?_
    refine Or.inl ?_
    refine And.intro (rfl) ?_
    refine Exists.intro _ (And.intro (hj) ?_)
    refine acode_ret ?_
    rfl
theorem ptext_err {l : List (List Fld)} (hl : l.length ≤ 1000) (hf : ∀ a ∈ l, FldsOk a) {k : Nat} (hk : k < l.length) (h : ∀ a ∈ l.take k, (chkR a).2 = 0) (hb : (chkR (l.getD k ([] : List Fld))).2 ≠ 0) : ACall Tryd.prog 10 [.one (.sl rRow l)] (.tup [(false, [.lit (.string ⟨#[]⟩)]), (false, [chkA (l.getD k ([] : List Fld))])]) := by
  have hne : ∃ e, chkA (l.getD k ([] : List Fld)) = e ∧ ((∃ n, e = errN n) ∨ ∃ i n, e = errF i n) := by
    obtain ⟨e, he, hs⟩ := chk_bad hb
    refine ⟨e, he, ?_⟩
    rcases hs with ⟨n, _, h1, _⟩ | ⟨i, n, _, h1, _⟩
    · exact .inl ⟨n, h1⟩
    · exact .inr ⟨i, n, h1⟩
  obtain ⟨e, he, hs⟩ := hne
  have hbad := pstanza_err (hf _ (getD_mem hk ([] : List Fld))) hb
  rw [he] at hbad ⊢
  refine acall_of (rs := [2, 3]) Tryd.func10 rfl rfl rfl teOk rfl ?_
  refine acode_seq ?_
  refine acode_region ?_
  refine acode_seq ?_
  refine acode_region ?_
  refine acode_seq ?_
  refine acode_seq ?_
  refine acode_nilvec 4 9 .str rfl ?_
  refine acode_region ?_
  intro l2_1
  try simp only [Int.toNat_natCast, dflt_sl, dflt_st, dflt_str, dflt_int, dflt_bool] at l2_1
  refine acode_block ?_
  refine acode_loopP (fun (i : Nat) => i ≤ k) (fun (i : Nat) => [(4, .one (.vec 0)), (9, .one (.sl rRow l)), (10, ii .i64 l.length), (11, ii .i64 i)]) (fun (i : Nat) => [(0, .vec 9 .str ((l.take i).map fun a => bytes (foldL a)))]) 1 (fun (i : Nat) => l.length - i) 0 (Nat.zero_le _) (le_of ⟨rfl, rfl, rfl, rfl⟩ rfl rfl) ?_
  intro i hI0
  refine acode_seq ?_
  refine acode_region ?_
  refine acode_seq ?_
  refine acode_cond rfl (fun h12 => ?_) (fun h12 => ?_)
  · try simp only [decide_eq_true_eq, decide_eq_false_iff_not, Bool.and_eq_true, Bool.not_eq_true', Bool.not_eq_false', Bool.or_eq_false_iff, Bool.or_eq_true, Bool.and_eq_false_iff, Int.not_lt, Int.not_le] at h12
    try simp only [Int.toNat_natCast, dflt_sl, dflt_st, dflt_str, dflt_int, dflt_bool] at h12
    have hil : i < l.length := (by omega)
    have hm := getD_mem hil ([] : List Fld)
    refine acode_skip ?_
    refine acode_seq ?_
    refine acode_block ?_
    refine acode_seq ?_
    refine acode_region ?_
    refine And.intro (by first | omega | assumption | decide | (simp only [Int.toNat_natCast, dflt_sl, dflt_st, dflt_str, dflt_int, dflt_bool]; omega) | (simp <;> omega)) ?_
    refine acode_seq ?_
    rcases (show (i = k ∧ ∃ n, e = errN n) ∨ (i = k ∧ ∃ a n, e = errF a n) ∨ i ≠ k from by by_cases hik : i = k; exact hs.elim (fun h => .inl ⟨hik, h⟩) (fun h => .inr (.inl ⟨hik, h⟩)); exact .inr (.inr hik)) with ⟨hik, n, rfl⟩|⟨hik, a, n, rfl⟩|hik
    · refine acode_region ?_
      refine Or.inl ?_
      refine And.intro (rfl) ?_
      refine Exists.intro _ (And.intro ((by rw [← hik] at hbad; exact hbad)) ?_)
      refine acode_seq ?_
      refine acode_seq ?_
      refine acode_region ?_
      refine acode_cond rfl (fun h21 => ?_) (fun h21 => ?_)
      · try simp only [decide_eq_true_eq, decide_eq_false_iff_not, Bool.and_eq_true, Bool.not_eq_true', Bool.not_eq_false', Bool.or_eq_false_iff, Bool.or_eq_true, Bool.and_eq_false_iff, Int.not_lt, Int.not_le] at h21
        try simp only [Int.toNat_natCast, dflt_sl, dflt_st, dflt_str, dflt_int, dflt_bool] at h21
        refine acode_seq ?_
        refine acode_region ?_
        refine acode_ret ?_
        rfl
      · try simp only [decide_eq_true_eq, decide_eq_false_iff_not, Bool.and_eq_true, Bool.not_eq_true', Bool.not_eq_false', Bool.or_eq_false_iff, Bool.or_eq_true, Bool.and_eq_false_iff, Int.not_lt, Int.not_le] at h21
        try simp only [Int.toNat_natCast, dflt_sl, dflt_st, dflt_str, dflt_int, dflt_bool] at h21
        cases h21
    · refine acode_region ?_
      refine Or.inl ?_
      refine And.intro (rfl) ?_
      refine Exists.intro _ (And.intro ((by rw [← hik] at hbad; exact hbad)) ?_)
      refine acode_seq ?_
      refine acode_seq ?_
      refine acode_region ?_
      refine acode_cond rfl (fun h21 => ?_) (fun h21 => ?_)
      · try simp only [decide_eq_true_eq, decide_eq_false_iff_not, Bool.and_eq_true, Bool.not_eq_true', Bool.not_eq_false', Bool.or_eq_false_iff, Bool.or_eq_true, Bool.and_eq_false_iff, Int.not_lt, Int.not_le] at h21
        try simp only [Int.toNat_natCast, dflt_sl, dflt_st, dflt_str, dflt_int, dflt_bool] at h21
        refine acode_seq ?_
        refine acode_region ?_
        refine acode_ret ?_
        rfl
      · try simp only [decide_eq_true_eq, decide_eq_false_iff_not, Bool.and_eq_true, Bool.not_eq_true', Bool.not_eq_false', Bool.or_eq_false_iff, Bool.or_eq_true, Bool.and_eq_false_iff, Int.not_lt, Int.not_le] at h21
        try simp only [Int.toNat_natCast, dflt_sl, dflt_st, dflt_str, dflt_int, dflt_bool] at h21
        cases h21
    · refine acode_region ?_
      refine Or.inl ?_
      refine And.intro (rfl) ?_
      refine Exists.intro _ (And.intro (pstanza_ok (hf _ hm) (h _ (by rw [List.mem_take_iff_getElem]; exact ⟨i, by omega, getD_get hil ([] : List Fld)⟩))) ?_)
      refine acode_seq ?_
      refine acode_seq ?_
      refine acode_region ?_
      refine acode_cond rfl (fun h21 => ?_) (fun h21 => ?_)
      · try simp only [decide_eq_true_eq, decide_eq_false_iff_not, Bool.and_eq_true, Bool.not_eq_true', Bool.not_eq_false', Bool.or_eq_false_iff, Bool.or_eq_true, Bool.and_eq_false_iff, Int.not_lt, Int.not_le] at h21
        try simp only [Int.toNat_natCast, dflt_sl, dflt_st, dflt_str, dflt_int, dflt_bool] at h21
        cases h21
      · try simp only [decide_eq_true_eq, decide_eq_false_iff_not, Bool.and_eq_true, Bool.not_eq_true', Bool.not_eq_false', Bool.or_eq_false_iff, Bool.or_eq_true, Bool.and_eq_false_iff, Int.not_lt, Int.not_le] at h21
        try simp only [Int.toNat_natCast, dflt_sl, dflt_st, dflt_str, dflt_int, dflt_bool] at h21
        refine acode_skip ?_
        refine acode_region ?_
        refine And.intro (by first | exact app_le (by first | omega | (simp only [List.length_append, List.length_cons, List.length_nil, List.length_map, List.length_take, List.length_drop, List.length_set]; omega) | (simp; omega)) (by decide) | omega | assumption | decide | (simp only [Int.toNat_natCast, dflt_sl, dflt_st, dflt_str, dflt_int, dflt_bool]; omega) | (simp <;> omega)) ?_
        refine acode_region ?_
        refine And.intro (by first | omega | assumption | decide | (simp only [Int.toNat_natCast, dflt_sl, dflt_st, dflt_str, dflt_int, dflt_bool]; omega) | (simp <;> omega)) ?_
        exact ⟨i + 1, by omega, by first | omega | (simp <;> omega), le_of ⟨rfl, rfl, rfl, (ii_eq (by omega))⟩ (vec_eq (by rw [← take_snoc ([] : List Fld) hil, List.map_append]; rfl)) rfl⟩
  · try simp only [decide_eq_true_eq, decide_eq_false_iff_not, Bool.and_eq_true, Bool.not_eq_true', Bool.not_eq_false', Bool.or_eq_false_iff, Bool.or_eq_true, Bool.and_eq_false_iff, Int.not_lt, Int.not_le] at h12
    try simp only [Int.toNat_natCast, dflt_sl, dflt_st, dflt_str, dflt_int, dflt_bool] at h12
    omega
end Q
end Ab
end Go.Proofs.YtlhjcdihbbdfnaaDoor
namespace Go.Proofs.YtlhjcdihbbdfnaaDoor
open Go.RowKit
namespace Ab
set_option maxRecDepth 100000
namespace Q
/-- Items put apart: behind an item of this kind (1: a blank one, or none). -/
def apartK (k : Int) : List Itm → List Itm
  | [] => []
  | x :: r => if k ≠ 1 ∧ x.1 ≠ 1 then (1, ⟨#[10]⟩, []) :: x :: apartK x.1 r else x :: apartK x.1 r
def apartL (l : List Itm) : List Itm := apartK 1 l
/-- No two neighbours that aren't blank, behind an item of this kind; the last one's kind. -/
def altK (k : Int) : List Itm → Prop
  | [] => True
  | x :: r => (k = 1 ∨ x.1 = 1) ∧ altK x.1 r
def lastK (k : Int) : List Itm → Int
  | [] => k
  | x :: r => lastK x.1 r
theorem apart_alt : ∀ (l : List Itm) (k : Int), altK k l → apartK k l = l
  | [], _, _ => rfl
  | x :: r, k, h => by
    unfold apartK
    rw [if_neg (fun e => h.1.elim e.1 e.2), apart_alt r x.1 h.2]
theorem altK_app : ∀ (l m : List Itm) (k : Int), altK k (l ++ m) ↔ altK k l ∧ altK (lastK k l) m
  | [], m, k => by simp [altK, lastK]
  | x :: r, m, k => by
    simp only [List.cons_append, altK, lastK, altK_app r m x.1, and_assoc]
theorem lastK_app : ∀ (l m : List Itm) (k : Int), lastK k (l ++ m) = lastK (lastK k l) m
  | [], _, _ => rfl
  | x :: r, m, k => by simp only [List.cons_append, lastK, lastK_app r m x.1]
def AltP (p : PSt) : Prop := altK 1 p.its ∧ lastK 1 p.its = 1
theorem flush_alt {p q : PSt} (h : flushS p = .inr q) (hp : AltP p) : AltP q := by
  unfold AltP
  rw [(flush_same h).1]
  exact hp
theorem end_alt {p q : PSt} (h : endS p = .inr q) (hp : AltP p) : altK 1 q.its := by
  unfold endS at h
  cases e : flushS p with
  | inl x => rw [e] at h; cases h
  | inr r =>
    rw [e] at h
    cases h
    have hr := flush_alt e hp
    unfold closeS
    split
    · exact hr.1
    · refine (altK_app _ _ _).2 ⟨hr.1, .inl hr.2, trivial⟩
theorem take_alt {p q : PSt} {l : Lne} (h : takeS p l = .inr q) (hp : AltP p) : AltP q := by
  unfold takeS at h
  cases e : aheadS p l (kindL (ls l.2.2.1)) with
  | inl x => rw [e] at h; cases h
  | inr r =>
    rw [e] at h
    simp only at h
    by_cases h1 : kindL (ls l.2.2.1) = 1
    · have hr : altK 1 r.its := by
        unfold aheadS at e
        rw [h1, if_neg (by decide), if_pos rfl] at e
        exact end_alt e hp
      unfold lineS at h
      split at h
      · cases h
      · cases h
        exact ⟨(altK_app _ _ _).2 ⟨hr, .inr rfl, trivial⟩, by rw [lastK_app]; rfl⟩
    · have hr : AltP r := by
        unfold aheadS at e
        split at e
        · split at e
          · cases e
          · split at e
            · cases e; exact hp
            · exact flush_alt e hp
        · exact flush_alt e hp
      unfold lineS at h
      split at h
      · cases h
      · split at h <;> (cases h; exact hr)
theorem run_alt : ∀ (L : List Lne) (p q : PSt), runS p L = .inr q → AltP p → AltP q
  | [], p, q, h, hp => by cases h; exact hp
  | l :: r, p, q, h, hp => by
    simp only [runS] at h
    cases e : takeS p l with
    | inl x => rw [e] at h; cases h
    | inr p1 =>
      rw [e] at h
      exact run_alt r p1 q h (take_alt e hp)
theorem parse_alt {s : ByteArray} {l : List Itm} (hp : parseS s = .inr l) : apartL l = l := by
  unfold parseS at hp
  cases e : runS pst0 (linesT s) with
  | inl x => rw [e] at hp; cases hp
  | inr p =>
    rw [e] at hp
    simp only at hp
    cases e2 : endS p with
    | inl x => rw [e2] at hp; cases hp
    | inr q =>
      rw [e2] at hp
      cases hp
      exact apart_alt _ _ (end_alt e2 (run_alt _ _ _ e ⟨trivial, rfl⟩))
end Q
end Ab
end Go.Proofs.YtlhjcdihbbdfnaaDoor
namespace Go.Proofs.YtlhjcdihbbdfnaaDoor
open Go.RowKit
namespace Ab
set_option maxRecDepth 100000
namespace Q
theorem clone_c (l : List Fld) (hl : l.length ≤ 1000000) : ACall Tryd.prog 43 [.one (.sl rFld l)] (.one (.sl rFld l)) := by
  refine acall_of (rs := [2]) Tryd.func43 rfl rfl rfl teOk rfl ?_
  refine acode_seq ?_
  refine acode_region ?_
  refine acode_seq ?_
  refine acode_seq ?_
  refine acode_isnil [_] _ (R := rFld) (xs := l) rfl rfl rfl rfl (e := 68) rfl rfl ?_
  refine ⟨rfl, fun b hb => ?_⟩
  refine acode_cond rfl (fun h4 => ?_) (fun h4 => ?_)
  · have hl0 := hb h4
    subst hl0
    refine acode_seq ?_
    refine acode_region ?_
    refine acode_nilvec 2 68 rFld rfl ?_
    refine acode_ret ?_
    rfl
  · refine acode_skip ?_
    refine acode_seq ?_
    refine acode_region ?_
    refine And.intro (by first | exact app_le (show l.length ≤ 1000000000 by omega) (by decide) | exact app_le (show 0 + l.length ≤ 1000000000 by omega) (by decide)) ?_
    refine acode_ret ?_
    rfl
theorem copied_c (x : Itm) (hx : x.2.2.length ≤ 1000000) : ACall Tryd.prog 46 [.agg (toL rItm x)] (.agg (toL rItm x)) := by
  refine acall_ofc (rs := [.cell 2 43]) Tryd.func46 rfl rfl rfl teOk rfl ?_
  refine acode_seq ?_
  refine acode_region ?_
  refine acode_seq ?_
  refine acode_region ?_
  refine Or.inl ?_
  refine And.intro (rfl) ?_
  refine Exists.intro _ (And.intro (clone_c x.2.2 hx) ?_)
  refine acode_seq ?_
  refine acode_region ?_
  refine acode_ret ?_
  rfl
theorem render_c (l m : List Itm) (hm : m.length ≤ 1000000) (hs : szI m ≤ 1000000) (ha : ACall Tryd.prog 28 [.one (.sl rItm l)] (.one (.sl rItm m))) : ACall Tryd.prog 27 [.one (.sl rItm l)] (is (bytes (rawsL m))) := by
  refine acall_of (rs := [2]) Tryd.func27 rfl rfl rfl teOk rfl ?_
  refine acode_seq ?_
  refine acode_region ?_
  refine acode_seq ?_
  refine acode_region ?_
  refine Or.inl ?_
  refine And.intro (rfl) ?_
  refine Exists.intro _ (And.intro (ha) ?_)
  refine Or.inl ?_
  refine And.intro (rfl) ?_
  refine Exists.intro _ (And.intro (joinI_c m hm hs) ?_)
  refine acode_ret ?_
  rfl
theorem apartK_snoc : ∀ (l : List Itm) (k : Int) (x : Itm), apartK k (l ++ [x]) = apartK k l ++ (if lastK k l ≠ 1 ∧ x.1 ≠ 1 then [(1, ⟨#[10]⟩, []), x] else [x])
  | [], k, x => by
    unfold lastK
    rw [List.nil_append]
    unfold apartK
    by_cases h : k ≠ 1 ∧ x.1 ≠ 1
    · rw [if_pos h, if_pos h]; rfl
    · rw [if_neg h, if_neg h]; rfl
  | y :: r, k, x => by
    have ih := apartK_snoc r y.1 x
    rw [List.cons_append]
    unfold apartK lastK
    rw [ih]
    by_cases h : k ≠ 1 ∧ y.1 ≠ 1
    · rw [if_pos h, if_pos h]; rfl
    · rw [if_neg h, if_neg h]; rfl
theorem lastK_take {l : List Itm} {i : Nat} (h : i < l.length) (k : Int) : lastK k (l.take (i + 1)) = (l.getD i ((0 : Int), ByteArray.empty, ([] : List Fld))).1 := by
  rw [List.take_succ_eq_append_getElem h, lastK_app, getD_get h ((0 : Int), ByteArray.empty, ([] : List Fld))]
  rfl
theorem apart_snoc (l : List Itm) (i : Nat) (h : i < l.length) : apartL (l.take (i + 1)) = apartL (l.take i) ++ (if (0 < i ∧ (l.getD (i - 1) ((0 : Int), ByteArray.empty, ([] : List Fld))).1 ≠ 1) ∧ (l.getD i ((0 : Int), ByteArray.empty, ([] : List Fld))).1 ≠ 1 then [(1, ⟨#[10]⟩, []), l.getD i ((0 : Int), ByteArray.empty, ([] : List Fld))] else [l.getD i ((0 : Int), ByteArray.empty, ([] : List Fld))]) := by
  unfold apartL
  rw [List.take_succ_eq_append_getElem h, apartK_snoc, getD_get h ((0 : Int), ByteArray.empty, ([] : List Fld))]
  have e : lastK 1 (l.take i) ≠ 1 ↔ (0 < i ∧ (l.getD (i - 1) ((0 : Int), ByteArray.empty, ([] : List Fld))).1 ≠ 1) := by
    cases i with
    | zero => simp [lastK]
    | succ i => rw [lastK_take (by omega), Nat.add_sub_cancel]; simp
  congr 1
  by_cases hh : lastK 1 (l.take i) ≠ 1 ∧ (l.getD i ((0 : Int), ByteArray.empty, ([] : List Fld))).1 ≠ 1
  · rw [if_pos hh, if_pos ⟨e.1 hh.1, hh.2⟩]
  · rw [if_neg hh, if_neg (fun g => hh ⟨e.2 g.1, g.2⟩)]
theorem apartK_len : ∀ (l : List Itm) (k : Int), (apartK k l).length ≤ 2 * l.length
  | [], _ => by simp [apartK]
  | x :: r, k => by
    have := apartK_len r x.1
    unfold apartK
    split <;> (simp only [List.length_cons]; omega)
theorem apart_c (l : List Itm) (hl : l.length ≤ 1000000) (hf : ∀ x ∈ l, x.2.2.length ≤ 1000000) : ACall Tryd.prog 28 [.one (.sl rItm l)] (.one (.sl rItm (apartL l))) := by
  refine acall_of (rs := [2]) Tryd.func28 rfl rfl rfl teOk rfl ?_
  refine acode_seq ?_
  refine acode_region ?_
  refine acode_seq ?_
  refine acode_region ?_
  refine acode_seq ?_
  refine acode_seq ?_
  refine acode_nilvec 3 43 rItm rfl ?_
  refine acode_region ?_
  intro l2_1
  try simp only [Int.toNat_natCast, dflt_sl, dflt_st, dflt_str, dflt_int, dflt_bool] at l2_1
  refine acode_block ?_
  refine acode_loopP (fun (i : Nat) => i ≤ l.length) (fun (i : Nat) => [(0, .one (.sl rItm l)), (3, .one (.vec 0)), (6, .one (.sl rItm l)), (7, ii .i64 l.length), (8, ii .i64 i)]) (fun (i : Nat) => [(0, .vec 43 rItm (apartL (l.take i)))]) 1 (fun (i : Nat) => l.length - i) 0 (Nat.zero_le _) (le_of ⟨rfl, rfl, rfl, rfl, rfl⟩ rfl rfl) ?_
  intro i hI0
  refine acode_seq ?_
  refine acode_region ?_
  refine acode_seq ?_
  refine acode_cond rfl (fun h9 => ?_) (fun h9 => ?_)
  · try simp only [decide_eq_true_eq, decide_eq_false_iff_not, Bool.and_eq_true, Bool.not_eq_true', Bool.not_eq_false', Bool.or_eq_false_iff, Bool.or_eq_true, Bool.and_eq_false_iff, Int.not_lt, Int.not_le] at h9
    try simp only [Int.toNat_natCast, dflt_sl, dflt_st, dflt_str, dflt_int, dflt_bool] at h9
    have hil : i < l.length := (by omega)
    have hsn := apart_snoc l i hil
    have hal := apartK_len (l.take i) 1
    rw [List.length_take] at hal
    have hal : (apartL (l.take i)).length ≤ 2 * min i l.length := hal
    have e1 : ((i : Int) - 1).toNat = i - 1 := (by omega)
    refine acode_skip ?_
    refine acode_seq ?_
    refine acode_block ?_
    refine acode_seq ?_
    refine acode_region ?_
    refine And.intro (by first | omega | assumption | decide | (simp only [Int.toNat_natCast, dflt_sl, dflt_st, dflt_str, dflt_int, dflt_bool]; omega) | (simp <;> omega)) ?_
    refine acode_seq ?_
    refine acode_seq ?_
    refine acode_region ?_
    refine And.intro (fun h => trivial) ?_
    refine And.intro (fun h => ⟨⟨h, trivial⟩, trivial⟩) ?_
    refine And.intro (fun h => ⟨⟨h, trivial⟩, trivial⟩) ?_
    refine And.intro (by exact fun h => h) ?_
    refine And.intro (fun h => trivial) ?_
    refine And.intro (fun h => trivial) ?_
    refine And.intro (fun h => ⟨⟨⟨h, trivial⟩, trivial⟩, by first | omega | decide | (simp only [Int.toNat_natCast, dflt_sl, dflt_st, dflt_str, dflt_int, dflt_bool]; omega) | (have h9 := of_decide_eq_true h; omega) | (simp [gq] at h; omega)⟩) ?_
    refine And.intro (fun h => ⟨⟨⟨h, trivial⟩, ⟨h, trivial⟩, trivial⟩, by first | omega | decide | (simp only [Int.toNat_natCast, dflt_sl, dflt_st, dflt_str, dflt_int, dflt_bool]; omega) | (have h9 := of_decide_eq_true h; omega) | (simp [gq] at h; omega)⟩) ?_
    refine And.intro (fun h => ⟨⟨h, trivial⟩, trivial⟩) ?_
    refine And.intro (fun h => ⟨⟨h, trivial⟩, trivial⟩) ?_
    refine And.intro (fun h => ⟨⟨h, trivial⟩, trivial⟩) ?_
    refine And.intro (by exact fun h => h) ?_
    refine acode_cond rfl (fun h28 => ?_) (fun h28 => ?_)
    · try simp only [decide_eq_true_eq, decide_eq_false_iff_not, Bool.and_eq_true, Bool.not_eq_true', Bool.not_eq_false', Bool.or_eq_false_iff, Bool.or_eq_true, Bool.and_eq_false_iff, Int.not_lt, Int.not_le] at h28
      try simp only [Int.toNat_natCast, dflt_sl, dflt_st, dflt_str, dflt_int, dflt_bool] at h28
      rw [e1] at h28
      rw [if_pos ⟨⟨by omega, h28.2⟩, h28.1.2⟩] at hsn
      refine acode_region ?_
      refine And.intro (by exact app_le (show (apartL (l.take i)).length + 1 ≤ 1000000000 by omega) (by decide)) ?_
      refine acode_region ?_
      refine Or.inl ?_
      refine And.intro (rfl) ?_
      refine Exists.intro _ (And.intro (copied_c (l.getD i ((0 : Int), ByteArray.empty, ([] : List Fld))) (hf _ (getD_mem hil ((0 : Int), ByteArray.empty, ([] : List Fld))))) ?_)
      refine And.intro (by exact app_le (by rw [List.length_append]; show (apartL (l.take i)).length + 1 + 1 ≤ 1000000000; omega) (by decide)) ?_
      refine acode_region ?_
      refine And.intro (by first | omega | assumption | decide | (simp only [Int.toNat_natCast, dflt_sl, dflt_st, dflt_str, dflt_int, dflt_bool]; omega) | (simp <;> omega)) ?_
      exact ⟨i + 1, by omega, by first | omega | (simp <;> omega), le_of ⟨rfl, rfl, rfl, rfl, (ii_eq (by omega))⟩ (vec_eq (by rw [hsn]; (try rw [List.append_assoc]); (try exact rfl))) rfl⟩
    · try simp only [decide_eq_true_eq, decide_eq_false_iff_not, Bool.and_eq_true, Bool.not_eq_true', Bool.not_eq_false', Bool.or_eq_false_iff, Bool.or_eq_true, Bool.and_eq_false_iff, Int.not_lt, Int.not_le] at h28
      try simp only [Int.toNat_natCast, dflt_sl, dflt_st, dflt_str, dflt_int, dflt_bool] at h28
      rw [e1] at h28
      rw [if_neg (fun h => h28.elim (fun g => g.elim (fun g => by omega) (fun g => h.2 g)) (fun g => h.1.2 g))] at hsn
      refine acode_skip ?_
      refine acode_region ?_
      refine Or.inl ?_
      refine And.intro (rfl) ?_
      refine Exists.intro _ (And.intro (copied_c (l.getD i ((0 : Int), ByteArray.empty, ([] : List Fld))) (hf _ (getD_mem hil ((0 : Int), ByteArray.empty, ([] : List Fld))))) ?_)
      refine And.intro (by exact app_le (show (apartL (l.take i)).length + 1 ≤ 1000000000 by omega) (by decide)) ?_
      refine acode_region ?_
      refine And.intro (by first | omega | assumption | decide | (simp only [Int.toNat_natCast, dflt_sl, dflt_st, dflt_str, dflt_int, dflt_bool]; omega) | (simp <;> omega)) ?_
      exact ⟨i + 1, by omega, by first | omega | (simp <;> omega), le_of ⟨rfl, rfl, rfl, rfl, (ii_eq (by omega))⟩ (vec_eq (by rw [hsn]; (try rw [List.append_assoc]); (try exact rfl))) rfl⟩
  · try simp only [decide_eq_true_eq, decide_eq_false_iff_not, Bool.and_eq_true, Bool.not_eq_true', Bool.not_eq_false', Bool.or_eq_false_iff, Bool.or_eq_true, Bool.and_eq_false_iff, Int.not_lt, Int.not_le] at h9
    try simp only [Int.toNat_natCast, dflt_sl, dflt_st, dflt_str, dflt_int, dflt_bool] at h9
    refine acode_exit ?_
    refine acode_seq ?_
    refine acode_region ?_
    refine acode_ret ?_
    rw [List.take_of_length_le (by omega)]
    rfl
def al6 : List (List Fld) := [[(⟨#[65]⟩, ⟨#[49]⟩)], [(⟨#[66]⟩, ⟨#[50]⟩)]]
theorem al6_chk : ∀ a ∈ al6, (chkR a).2 = 0 := by
  intro a ha
  unfold al6 at ha
  simp only [List.mem_cons, List.not_mem_nil, or_false] at ha
  rcases ha with rfl | rfl <;> decide +kernel
theorem al6_text : bytes (Lib.join (al6.map foldL) [10]) = ⟨#[65, 58, 32, 49, 10, 10, 66, 58, 32, 50, 10]⟩ := by decide +kernel
theorem alive6_c : ACall Tryd.prog 8 [] (ib true) := by
  have hp := ptext_ok (l := al6) (by decide) (fun a ha => (by
    unfold al6 at ha
    simp only [List.mem_cons, List.not_mem_nil, or_false] at ha
    rcases ha with rfl | rfl <;> exact ⟨by simp, fun f hf => by rw [List.mem_singleton.1 hf]; exact ⟨by decide, by decide⟩⟩)) al6_chk
  rw [al6_text] at hp
  refine acall_of (rs := [0]) Tryd.func8 rfl rfl rfl teOk rfl ?_
  refine acode_seq ?_
  refine acode_region ?_
  refine acode_seq ?_
  refine acode_region ?_
  refine Or.inl ?_
  refine And.intro (rfl) ?_
  refine Exists.intro _ (And.intro (hp) ?_)
  refine acode_seq ?_
  refine acode_region ?_
  refine And.intro (fun h => trivial) ?_
  refine And.intro (fun h => ⟨⟨h, trivial⟩, trivial⟩) ?_
  refine And.intro (by exact fun h => h) ?_
  refine acode_ret ?_
  rfl
end Q
end Ab
end Go.Proofs.YtlhjcdihbbdfnaaDoor
namespace Go.Proofs.YtlhjcdihbbdfnaaDoor
open Go.RowKit
namespace Ab
set_option maxRecDepth 100000
namespace Q
theorem PrintVerbatim_c (s : ByteArray) : ACall Tryd.prog 5 [is s] (ib true) := by
  by_cases hbig : 5000 < s.size
  ·
    refine acall_of (rs := [2]) Tryd.func5 rfl rfl rfl teOk rfl ?_
    refine acode_seq ?_
    refine acode_region ?_
    refine acode_seq ?_
    refine acode_seq ?_
    refine acode_region ?_
    refine Or.inl ?_
    refine And.intro (rfl) ?_
    refine Exists.intro _ (And.intro (alive6_c) ?_)
    refine acode_cond rfl (fun h6 => ?_) (fun h6 => ?_)
    · try simp only [decide_eq_true_eq, decide_eq_false_iff_not, Bool.and_eq_true, Bool.not_eq_true', Bool.not_eq_false', Bool.or_eq_false_iff, Bool.or_eq_true, Bool.and_eq_false_iff, Int.not_lt, Int.not_le] at h6
      try simp only [Int.toNat_natCast, dflt_sl, dflt_st, dflt_str, dflt_int, dflt_bool] at h6
      cases h6
    · try simp only [decide_eq_true_eq, decide_eq_false_iff_not, Bool.and_eq_true, Bool.not_eq_true', Bool.not_eq_false', Bool.or_eq_false_iff, Bool.or_eq_true, Bool.and_eq_false_iff, Int.not_lt, Int.not_le] at h6
      try simp only [Int.toNat_natCast, dflt_sl, dflt_st, dflt_str, dflt_int, dflt_bool] at h6
      refine acode_skip ?_
      refine acode_seq ?_
      refine acode_seq ?_
      refine acode_region ?_
      refine acode_cond rfl (fun h9 => ?_) (fun h9 => ?_)
      · try simp only [decide_eq_true_eq, decide_eq_false_iff_not, Bool.and_eq_true, Bool.not_eq_true', Bool.not_eq_false', Bool.or_eq_false_iff, Bool.or_eq_true, Bool.and_eq_false_iff, Int.not_lt, Int.not_le] at h9
        try simp only [Int.toNat_natCast, dflt_sl, dflt_st, dflt_str, dflt_int, dflt_bool] at h9
        refine acode_seq ?_
        refine acode_region ?_
        refine acode_ret ?_
        rfl
      · try simp only [decide_eq_true_eq, decide_eq_false_iff_not, Bool.and_eq_true, Bool.not_eq_true', Bool.not_eq_false', Bool.or_eq_false_iff, Bool.or_eq_true, Bool.and_eq_false_iff, Int.not_lt, Int.not_le] at h9
        try simp only [Int.toNat_natCast, dflt_sl, dflt_st, dflt_str, dflt_int, dflt_bool] at h9
        omega
  · have hp := parse_a s (by omega)
    cases hr : parseS s with
    | inl e =>
      rw [hr] at hp
      refine acall_of (rs := [2]) Tryd.func5 rfl rfl rfl teOk rfl ?_
      refine acode_seq ?_
      refine acode_region ?_
      refine acode_seq ?_
      refine acode_seq ?_
      refine acode_region ?_
      refine Or.inl ?_
      refine And.intro (rfl) ?_
      refine Exists.intro _ (And.intro (alive6_c) ?_)
      refine acode_cond rfl (fun h6 => ?_) (fun h6 => ?_)
      · try simp only [decide_eq_true_eq, decide_eq_false_iff_not, Bool.and_eq_true, Bool.not_eq_true', Bool.not_eq_false', Bool.or_eq_false_iff, Bool.or_eq_true, Bool.and_eq_false_iff, Int.not_lt, Int.not_le] at h6
        try simp only [Int.toNat_natCast, dflt_sl, dflt_st, dflt_str, dflt_int, dflt_bool] at h6
        cases h6
      · try simp only [decide_eq_true_eq, decide_eq_false_iff_not, Bool.and_eq_true, Bool.not_eq_true', Bool.not_eq_false', Bool.or_eq_false_iff, Bool.or_eq_true, Bool.and_eq_false_iff, Int.not_lt, Int.not_le] at h6
        try simp only [Int.toNat_natCast, dflt_sl, dflt_st, dflt_str, dflt_int, dflt_bool] at h6
        refine acode_skip ?_
        refine acode_seq ?_
        refine acode_seq ?_
        refine acode_region ?_
        refine acode_cond rfl (fun h9 => ?_) (fun h9 => ?_)
        · try simp only [decide_eq_true_eq, decide_eq_false_iff_not, Bool.and_eq_true, Bool.not_eq_true', Bool.not_eq_false', Bool.or_eq_false_iff, Bool.or_eq_true, Bool.and_eq_false_iff, Int.not_lt, Int.not_le] at h9
          try simp only [Int.toNat_natCast, dflt_sl, dflt_st, dflt_str, dflt_int, dflt_bool] at h9
          omega
        · try simp only [decide_eq_true_eq, decide_eq_false_iff_not, Bool.and_eq_true, Bool.not_eq_true', Bool.not_eq_false', Bool.or_eq_false_iff, Bool.or_eq_true, Bool.and_eq_false_iff, Int.not_lt, Int.not_le] at h9
          try simp only [Int.toNat_natCast, dflt_sl, dflt_st, dflt_str, dflt_int, dflt_bool] at h9
          refine acode_skip ?_
          refine acode_seq ?_
          refine acode_region ?_
          refine Or.inl ?_
          refine And.intro (rfl) ?_
          refine Exists.intro _ (And.intro (hp) ?_)
          refine acode_seq ?_
          refine acode_seq ?_
          refine acode_region ?_
          refine acode_cond rfl (fun h16 => ?_) (fun h16 => ?_)
          · try simp only [decide_eq_true_eq, decide_eq_false_iff_not, Bool.and_eq_true, Bool.not_eq_true', Bool.not_eq_false', Bool.or_eq_false_iff, Bool.or_eq_true, Bool.and_eq_false_iff, Int.not_lt, Int.not_le] at h16
            try simp only [Int.toNat_natCast, dflt_sl, dflt_st, dflt_str, dflt_int, dflt_bool] at h16
            refine acode_seq ?_
            refine acode_region ?_
            refine acode_ret ?_
            rfl
          · try simp only [decide_eq_true_eq, decide_eq_false_iff_not, Bool.and_eq_true, Bool.not_eq_true', Bool.not_eq_false', Bool.or_eq_false_iff, Bool.or_eq_true, Bool.and_eq_false_iff, Int.not_lt, Int.not_le] at h16
            try simp only [Int.toNat_natCast, dflt_sl, dflt_st, dflt_str, dflt_int, dflt_bool] at h16
            cases h16
    | inr l =>
      rw [hr] at hp
      obtain ⟨hl, hf⟩ := items_flds (by omega) hr
      have htot := parse_total hr
      have htext := raws_text hr
      have halt := parse_alt hr
      have ha := apart_c l hl hf
      rw [halt] at ha
      have hj := render_c l l hl (by omega) ha
      rw [htext] at hj
      refine acall_of (rs := [2]) Tryd.func5 rfl rfl rfl teOk rfl ?_
      refine acode_seq ?_
      refine acode_region ?_
      refine acode_seq ?_
      refine acode_seq ?_
      refine acode_region ?_
      refine Or.inl ?_
      refine And.intro (rfl) ?_
      refine Exists.intro _ (And.intro (alive6_c) ?_)
      refine acode_cond rfl (fun h6 => ?_) (fun h6 => ?_)
      · try simp only [decide_eq_true_eq, decide_eq_false_iff_not, Bool.and_eq_true, Bool.not_eq_true', Bool.not_eq_false', Bool.or_eq_false_iff, Bool.or_eq_true, Bool.and_eq_false_iff, Int.not_lt, Int.not_le] at h6
        try simp only [Int.toNat_natCast, dflt_sl, dflt_st, dflt_str, dflt_int, dflt_bool] at h6
        cases h6
      · try simp only [decide_eq_true_eq, decide_eq_false_iff_not, Bool.and_eq_true, Bool.not_eq_true', Bool.not_eq_false', Bool.or_eq_false_iff, Bool.or_eq_true, Bool.and_eq_false_iff, Int.not_lt, Int.not_le] at h6
        try simp only [Int.toNat_natCast, dflt_sl, dflt_st, dflt_str, dflt_int, dflt_bool] at h6
        refine acode_skip ?_
        refine acode_seq ?_
        refine acode_seq ?_
        refine acode_region ?_
        refine acode_cond rfl (fun h9 => ?_) (fun h9 => ?_)
        · try simp only [decide_eq_true_eq, decide_eq_false_iff_not, Bool.and_eq_true, Bool.not_eq_true', Bool.not_eq_false', Bool.or_eq_false_iff, Bool.or_eq_true, Bool.and_eq_false_iff, Int.not_lt, Int.not_le] at h9
          try simp only [Int.toNat_natCast, dflt_sl, dflt_st, dflt_str, dflt_int, dflt_bool] at h9
          omega
        · try simp only [decide_eq_true_eq, decide_eq_false_iff_not, Bool.and_eq_true, Bool.not_eq_true', Bool.not_eq_false', Bool.or_eq_false_iff, Bool.or_eq_true, Bool.and_eq_false_iff, Int.not_lt, Int.not_le] at h9
          try simp only [Int.toNat_natCast, dflt_sl, dflt_st, dflt_str, dflt_int, dflt_bool] at h9
          refine acode_skip ?_
          refine acode_seq ?_
          refine acode_region ?_
          refine Or.inl ?_
          refine And.intro (rfl) ?_
          refine Exists.intro _ (And.intro (hp) ?_)
          refine acode_seq ?_
          refine acode_seq ?_
          refine acode_region ?_
          refine acode_cond rfl (fun h16 => ?_) (fun h16 => ?_)
          · try simp only [decide_eq_true_eq, decide_eq_false_iff_not, Bool.and_eq_true, Bool.not_eq_true', Bool.not_eq_false', Bool.or_eq_false_iff, Bool.or_eq_true, Bool.and_eq_false_iff, Int.not_lt, Int.not_le] at h16
            try simp only [Int.toNat_natCast, dflt_sl, dflt_st, dflt_str, dflt_int, dflt_bool] at h16
            cases h16
          · try simp only [decide_eq_true_eq, decide_eq_false_iff_not, Bool.and_eq_true, Bool.not_eq_true', Bool.not_eq_false', Bool.or_eq_false_iff, Bool.or_eq_true, Bool.and_eq_false_iff, Int.not_lt, Int.not_le] at h16
            try simp only [Int.toNat_natCast, dflt_sl, dflt_st, dflt_str, dflt_int, dflt_bool] at h16
            refine acode_skip ?_
            refine acode_seq ?_
            refine acode_region ?_
            refine Or.inl ?_
            refine And.intro (rfl) ?_
            refine Exists.intro _ (And.intro (hj) ?_)
            refine And.intro (fun h => trivial) ?_
            refine And.intro (rfl) ?_
            refine Exists.intro _ (And.intro (fun h => ⟨⟨⟨h, trivial⟩, trivial⟩, ha⟩) ?_)
            refine And.intro (fun h => trivial) ?_
            refine And.intro (rfl) ?_
            refine Exists.intro _ (And.intro (fun h => ⟨⟨⟨h, trivial⟩, ⟨h, trivial⟩, trivial⟩, items_c l l⟩) ?_)
            refine And.intro (by exact fun h => h) ?_
            refine acode_ret ?_
            exact ib_eq (by simp)
end Q
end Ab
end Go.Proofs.YtlhjcdihbbdfnaaDoor
namespace Go.Proofs.YtlhjcdihbbdfnaaDoor
open Go.RowKit
namespace Ab
set_option maxRecDepth 100000
theorem o_str : Opens Tryd.prog 9 .str := opens_str Tryd.underlying9 (by kernel_rfl)
theorem o_int : Opens Tryd.prog 3 (.int .i64) := opens_int Tryd.underlying3 (by kernel_rfl)
theorem o_bool : Opens Tryd.prog 4 .bool := opens_bool Tryd.underlying4 (by kernel_rfl)
theorem o_field : Opens Tryd.prog 68 (.st .str .str) := opens_st Tryd.underlying68 (by kernel_rfl) (.cons rfl o_str (.one rfl o_str))
theorem o_fields : Opens Tryd.prog 29 (.sl (.st .str .str)) := opens_sl (by decide) Tryd.underlying29 (by kernel_rfl) o_field
theorem open_fields {H : Type} {enc : TypeId × Value → H} {W : World} {base : Nat} {v : Value} {d : DataW H} {p : List MemPlace} (hv : Value.okWide Tryd.prog W .any base 29 v) (h : DataW.Trod enc Tryd.prog W 0 (fun _ => true) true 29 v d p) :
    ∃ xs, (C.sl (.st .str .str) xs).rep AllOk noNames W v := open_sl Tryd.underlying29 o_fields hv h
/-- The library's variable holds some number. -/
theorem globAt {W : World} (h : W.ShapedOpen Tryd.prog) : GlobAt AllOk W := by
  have hc : GlobCell W := cell_of_shapedOpen_int (g := 0) (t := 3) (zero := #[.int .i64 0]) h (of_decide_eq_true (by kernel_rfl)) (by kernel_rfl) rfl (by kernel_rfl) (by kernel_rfl) Tryd.underlying3
  refine ⟨trivial, ?_, hc⟩
  obtain ⟨m, hm⟩ := hc
  rcases Nat.lt_or_ge 0 W.heap.size with h1 | h1
  · exact h1
  · exfalso
    simp only [World.cell?, Array.getElem?_eq_none h1] at hm
    cases hm
end Ab
end Go.Proofs.YtlhjcdihbbdfnaaDoor
namespace Go.Proofs.YtlhjcdihbbdfnaaDoor
open Go.RowKit
namespace Ab
set_option maxRecDepth 100000
theorem open_agg {P : Program} {α : Type} {R : Rd α} {t : TypeId} {fs : Array Field} (hu : P.underlying t = some (.struct fs)) (ho : Opens P t R) {H : Type} {enc : TypeId × Value → H} {W : World} {base : Nat} {v : Value} {d : DataW H} {p : List MemPlace} (hv : Value.okWide P W .any base t v)
    (h : DataW.Trod enc P W 0 (fun _ => true) true t v d p) : ∃ x : α, (A.agg (toL R x)).rep AllOk noNames W v := by
  obtain ⟨cs, rfl, _⟩ := Go.WideShapes.okWide_struct hu hv
  obtain ⟨fuel, hf⟩ := h
  obtain ⟨x, hx⟩ := ho.2 enc W _ _ _ _ _ _ hf
  exact ⟨x, cs.toList, by simp, toL_rep R hx⟩
theorem open_field {H : Type} {enc : TypeId × Value → H} {W : World} {base : Nat} {v : Value} {d : DataW H} {p : List MemPlace} (hv : Value.okWide Tryd.prog W .any base 68 v) (h : DataW.Trod enc Tryd.prog W 0 (fun _ => true) true 68 v d p) :
    ∃ x, (A.agg (toL (.st .str .str) x)).rep AllOk noNames W v := open_agg Tryd.underlying68 o_field hv h
theorem o_strs : Opens Tryd.prog 69 (.sl .str) := opens_sl (by decide) Tryd.underlying69 (by kernel_rfl) o_str
theorem open_strs {H : Type} {enc : TypeId × Value → H} {W : World} {base : Nat} {v : Value} {d : DataW H} {p : List MemPlace} (hv : Value.okWide Tryd.prog W .any base 69 v) (h : DataW.Trod enc Tryd.prog W 0 (fun _ => true) true 69 v d p) :
    ∃ xs, (C.sl .str xs).rep AllOk noNames W v := open_sl Tryd.underlying69 o_strs hv h
theorem o_rows : Opens Tryd.prog 22 (.sl (.sl (.st .str .str))) := opens_sl (by decide) Tryd.underlying22 (by kernel_rfl) o_fields
theorem open_rows {H : Type} {enc : TypeId × Value → H} {W : World} {base : Nat} {v : Value} {d : DataW H} {p : List MemPlace} (hv : Value.okWide Tryd.prog W .any base 22 v) (h : DataW.Trod enc Tryd.prog W 0 (fun _ => true) true 22 v d p) :
    ∃ xs, (C.sl (.sl (.st .str .str)) xs).rep AllOk noNames W v := open_sl Tryd.underlying22 o_rows hv h
theorem o_item : Opens Tryd.prog 43 (.st (.int .i64) (.st .str (.sl (.st .str .str)))) := opens_st Tryd.underlying43 (by kernel_rfl) (.cons rfl o_int (.cons rfl o_str (.one rfl o_fields)))
theorem o_items : Opens Tryd.prog 34 (.sl (.st (.int .i64) (.st .str (.sl (.st .str .str))))) := opens_sl (by decide) Tryd.underlying34 (by kernel_rfl) o_item
theorem open_items {H : Type} {enc : TypeId × Value → H} {W : World} {base : Nat} {v : Value} {d : DataW H} {p : List MemPlace} (hv : Value.okWide Tryd.prog W .any base 34 v) (h : DataW.Trod enc Tryd.prog W 0 (fun _ => true) true 34 v d p) :
    ∃ xs, (C.sl (.st (.int .i64) (.st .str (.sl (.st .str .str)))) xs).rep AllOk noNames W v := open_sl Tryd.underlying34 o_items hv h
end Ab
end Go.Proofs.YtlhjcdihbbdfnaaDoor
